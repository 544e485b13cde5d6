import Derived.WalkKit
import Derived.ProofKit
import Derived.WalkLawsBesides
import Derived.Lib.OthersKept
import Derived.Deep.QuietTactic
import Derived.BigQuiet
import Derived.Deep.AppendSrc
/-
  Small words of this claim's own, over any program: 'Ext F w w'' (of what was there in w only the blocks of F may have turned), 'Bytes w v s' (a slice of bytes that reads s), and their laws.
-/
namespace Go.Proofs.YtbhpmmofgdppdaaGreatDoor
open Go.RowKit Go.Lib

/-- Of what was there in w only the blocks of F may have turned; the streams are as they were. -/
structure Ext (F : Nat → Prop) (w w' : World) : Prop where
  os : w'.os = w.os
  tape : w'.tape = w.tape
  output : w'.output = w.output
  size : w.heap.size ≤ w'.heap.size
  block : ∀ k, k < w.heap.size → ¬ F k → w'.heap[k]? = w.heap[k]?

theorem Ext.refl (F : Nat → Prop) (w : World) : Ext F w w := ⟨rfl, rfl, rfl, Nat.le_refl _, fun _ _ _ => rfl⟩
theorem Ext.trans' {F G : Nat → Prop} {a b c : World} (h : Ext F a b) (k : Ext G b c) (hG : ∀ i, i < a.heap.size → G i → F i) : Ext F a c :=
  ⟨k.os.trans h.os, k.tape.trans h.tape, k.output.trans h.output, Nat.le_trans h.size k.size,
    fun i hi hn => (k.block i (Nat.lt_of_lt_of_le hi h.size) (fun hg => hn (hG i hi hg))).trans (h.block i hi hn)⟩
theorem Ext.trans {F : Nat → Prop} {a b c : World} (h : Ext F a b) (k : Ext F b c) : Ext F a c := h.trans' k fun _ _ x => x
theorem Ext.mono {F G : Nat → Prop} {a b : World} (h : Ext F a b) (hF : ∀ i, i < a.heap.size → F i → G i) : Ext G a b :=
  ⟨h.os, h.tape, h.output, h.size, fun k hk hn => h.block k hk fun hf => hn (hF k hk hf)⟩
theorem Ext.drew {F : Nat → Prop} {a w : World} (h : Ext F a w) : Ext F a w.drew := ⟨h.os, h.tape, h.output, h.size, h.block⟩
theorem Ext.alloc {F : Nat → Prop} {a w : World} (h : Ext F a w) (o : Obj) : Ext F a (w.alloc o) :=
  h.trans ⟨rfl, rfl, rfl, by simp, fun k hk _ => Below.heap_alloc _ _ _ hk⟩
theorem Ext.setCell {F : Nat → Prop} {a w : World} (h : Ext F a w) {p : Addr} (hp : F p.block ∨ a.heap.size ≤ p.block) (u : Value) : Ext F a (w.setCell p u) :=
  h.trans' (G := fun i => i = p.block) ⟨rfl, rfl, rfl, by simp [World.setCell], fun k _ hn => Below.heap_setCell _ _ _ _ hn⟩
    fun i hi hg => by subst hg; exact hp.resolve_right (by omega)
theorem Ext.iterAt {F : Nat → Prop} {a w : World} (h : Ext F a w) {k : Nat} (hk : F k ∨ a.heap.size ≤ k) (s : ByteArray) (pos : Nat) : Ext F a (w.iterAt k s pos) :=
  h.trans' (G := fun i => i = k) ⟨rfl, rfl, rfl, by rw [iterAt_size]; exact Nat.le_refl _, fun i _ hn => iterAt_other w k i s pos hn⟩
    fun i hi hg => by subst hg; exact hk.resolve_right (by omega)
theorem Ext.grown {F : Nat → Prop} {a w w' : World} {row : Option Nat} (h : Ext F a w) (hg : w.grownBy w' row) (hr : ∀ k, row = some k → F k ∨ a.heap.size ≤ k) : Ext F a w' :=
  h.trans' (G := fun i => row = some i) ⟨hg.os, hg.tape, hg.output, hg.size, fun k hk hn => hg.block k hk fun e => hn e.symm⟩
    fun i hi hG => (hr i hG).resolve_right (by omega)
theorem Ext.below {F : Nat → Prop} {a b : World} (h : Ext F a b) {B : Nat} (hB : B ≤ a.heap.size) (hF : ∀ i, i < B → ¬ F i) : Below B a b :=
  ⟨h.os, h.tape, h.output, h.size, fun k hk => h.block k (by omega) (hF k hk)⟩
theorem Ext.of_below {F : Nat → Prop} {a b : World} (h : Below a.heap.size a b) : Ext F a b := ⟨h.os, h.tape, h.output, h.size, fun k hk _ => h.block k hk⟩
theorem Ext.cell {F : Nat → Prop} {a b : World} (h : Ext F a b) {p : Addr} (hp : p.block < a.heap.size) (hF : ¬ F p.block) : b.cell? p = a.cell? p := World.cell?_of_block (h.block _ hp hF)
theorem Ext.frozen {F : Nat → Prop} {a b : World} (h : Ext F a b) {p : Addr} (hp : p.block < a.heap.size) (hF : ¬ F p.block) : b.frozen? p = a.frozen? p := World.frozen?_of_block (h.block _ hp hF)
theorem Ext.heap {F : Nat → Prop} {a b : World} (h : Ext F a b) {k : Nat} {o : Obj} (hk : a.heap[k]? = some o) (hF : ¬ F k) : b.heap[k]? = some o :=
  (h.block k (Array.getElem?_eq_some_iff.1 hk).1 hF).trans hk

/-- A fact kept from the walk's eyes. -/
theorem hid {p : Prop} (h : p) : Hid p := h
/-- No block of the old world turns. -/
def none' : Nat → Prop := fun _ => False
/-- The one block o may turn. -/
def one (o : Nat) : Nat → Prop := fun k => k = o

theorem Ext.set {o : Nat} {a w : World} (h : Ext (one o) a w) (j : Nat) (u : Value) : Ext (one o) a (w.setCell ⟨o, j, none⟩ u) := h.setCell (p := ⟨o, j, none⟩) (Or.inl (show o = o from rfl)) u
theorem Ext.setNew {F : Nat → Prop} {a w : World} (h : Ext F a w) {b : Nat} (hb : a.heap.size ≤ b) (j : Nat) (u : Value) : Ext F a (w.setCell ⟨b, j, none⟩ u) := h.setCell (p := ⟨b, j, none⟩) (Or.inr hb) u
theorem bsize (s : List UInt8) : (⟨s.toArray⟩ : ByteArray).size = s.length := by show s.toArray.size = _; simp
theorem heap_alloc_at {w : World} {k : Nat} (h : k = w.heap.size) (o : Obj) : (w.alloc o).heap[k]? = some o := by subst h; exact heap_alloc_new w o
theorem heap_lt {w : World} {k : Nat} {o : Obj} (h : w.heap[k]? = some o) : k < w.heap.size := (Array.getElem?_eq_some_iff.1 h).1
theorem heap_alloc_keep {w : World} {k : Nat} {o : Obj} (h : w.heap[k]? = some o) (x : Obj) : (w.alloc x).heap[k]? = some o := by
  rw [Below.heap_alloc _ _ _ (heap_lt h)]; exact h
theorem heap_setCell_other {w : World} {k : Nat} {o : Obj} (h : w.heap[k]? = some o) {p : Addr} (hp : p.block ≠ k) (u : Value) : (w.setCell p u).heap[k]? = some o := by
  rw [Below.heap_setCell _ _ _ _ (fun e => hp e.symm)]; exact h
theorem heap_setCell_same {w : World} {k : Nat} {cs : Array Value} {t : TypeId} {fz : Nat × Nat} (h : w.heap[k]? = some (.cells cs t fz)) (j : Nat) (u : Value) :
    (w.setCell ⟨k, j, none⟩ u).heap[k]? = some (.cells (cs.setIfInBounds j u) t fz) := by
  simp [World.setCell, Array.getElem?_modify, h]
theorem cell_at {w : World} {k : Nat} {cs : Array Value} {t : TypeId} {fz : Nat × Nat} (h : w.heap[k]? = some (.cells cs t fz)) (j : Nat) : w.cell? ⟨k, j, none⟩ = cs[j]? := by
  simp [World.cell?, h]
theorem free_at {w : World} {k : Nat} {cs : Array Value} {t : TypeId} (h : w.heap[k]? = some (.cells cs t (0, 0))) (j : Nat) : w.frozen? ⟨k, j, none⟩ = false := by
  simp [World.frozen?, h]
theorem size_setCell (w : World) (p : Addr) (u : Value) : (w.setCell p u).heap.size = w.heap.size := by simp [World.setCell]

/-- v is a slice of the bytes s, that lie below block B. -/
def Bytes (B : Nat) (w : World) (v : Value) (s : List UInt8) : Prop :=
  ∃ a cap, v = .slice a s.length cap ∧ s.length ≤ cap ∧ cap ≤ 9223372036854775807 ∧ (a = none → cap = 0) ∧
    (s ≠ [] → ∃ b off, a = some ⟨b, off, none⟩ ∧ b < B ∧ b < w.heap.size ∧ ∀ j (h : j < s.length), w.cell? ⟨b, off + j, none⟩ = some (.int .u8 ((s[j].toNat : Nat) : Int)))
theorem Bytes.ext {B : Nat} {F : Nat → Prop} {w w' : World} {v : Value} {s : List UInt8} (h : Bytes B w v s) (hx : Ext F w w') (hF : ∀ i, F i → B ≤ i) : Bytes B w' v s := by
  obtain ⟨a, cap, rfl, h1, h2, h3, h4⟩ := h
  refine ⟨a, cap, rfl, h1, h2, h3, fun hs => ?_⟩
  obtain ⟨b, off, rfl, hB, hb, hc⟩ := h4 hs
  refine ⟨b, off, rfl, hB, Nat.lt_of_lt_of_le hb hx.size, fun j hj => ?_⟩
  rw [hx.cell (p := ⟨b, off + j, none⟩) hb (fun hf => by have := hF _ hf; simp only at this; omega)]
  exact hc j hj
theorem Bytes.keep {B : Nat} {w w' : World} {v : Value} {s : List UInt8} (h : Bytes B w v s) (hx : Ext none' w w') : Bytes B w' v s := h.ext hx fun _ x => x.elim
theorem Bytes.keep1 {B o : Nat} {w w' : World} {v : Value} {s : List UInt8} (h : Bytes B w v s) (hx : Ext (one o) w w') (ho : B ≤ o) : Bytes B w' v s := h.ext hx fun i x => by unfold one at x; omega
theorem Bytes.mono {B C : Nat} {w : World} {v : Value} {s : List UInt8} (h : Bytes B w v s) (hB : B ≤ C) : Bytes C w v s := by
  obtain ⟨a, cap, rfl, h1, h2, h3, h4⟩ := h
  refine ⟨a, cap, rfl, h1, h2, h3, fun hs => ?_⟩
  obtain ⟨b, off, rfl, hb', hb, hc⟩ := h4 hs
  exact ⟨b, off, rfl, by omega, hb, hc⟩

theorem strOfNums_bytes (s : List UInt8) : strOfNums (s.map fun c => ((c.toNat : Nat) : Int)) = ⟨s.toArray⟩ := by
  unfold strOfNums
  congr 2
  rw [List.map_map]
  conv => rhs; rw [← List.map_id s]
  apply List.map_congr_left
  intro c _
  simp
theorem conv_bytes {P : Program} {w : World} {v : Value} {s : List UInt8} {B : Nat} (h : Bytes B w v s) (src e : TypeId) (hs : P.underlying src = some (.slice e)) (he : P.underlying e = some (.int .u8)) (dst : TypeId) (hd : P.underlying dst = some .string) :
    (convert src dst v).run P w = .ok (.string ⟨s.toArray⟩) w := by
  obtain ⟨a, cap, rfl, _, _, h3, h4⟩ := h
  by_cases hn : s = []
  · subst hn
    cases a with
    | none => rw [run_convert_bytes_nil w src e hs he _ _ dst hd]; rfl
    | some a =>
      have hz := run_bytesToString (P := P) w a 0 cap [] (by simp [loadCells, loadCellsFrom])
      rw [run_convert_bytes_string w src dst e _ _ cap hs he hd, List.length_nil, hz]
      simp
      rfl
  · obtain ⟨b, off, rfl, _, _, hc⟩ := h4 hn
    rw [run_convert_bytes_arg w src e hs he b off s.length cap (s.map fun c => ((c.toNat : Nat) : Int)) (by simp) ?_ dst hd, strOfNums_bytes]
    intro i hi
    rw [hc i hi]
    simp [List.getD, hi]
def TruePost (w : World) (e : Ending) (w' : World) : Prop := e = .returned (.bool true) ∧ Ext none' w w'
theorem TruePost.out {w w' : World} {e : Ending} (h : TruePost w e w') : e = .returned (.bool true) ∧ Below w.heap.size w w' := ⟨h.1, h.2.below (Nat.le_refl _) fun _ _ x => x⟩
/-- A world in which nothing of w0's has turned. -/
structure Later (w0 : World) where
  w : World
  x : Ext none' w0 w
instance (w0 : World) : Nonempty (Later w0) := ⟨⟨w0, Ext.refl _ _⟩⟩
/-- A region that draws its order, each of whose operations yields one value in all later worlds: one walk in the order of the text. -/
theorem region_later {P : Program} {id : Nat} {Q : Exit → Act → World → Prop} {a : Act} {w : World} {l : List Oper} (w0 : World) (hm : P.follows .mixedOrders = true) (hB : Region.lexB .any l.toArray = true) (hC : Ext none' w0 w)
    (h : wpQuiet P l.toArray (fun w' => ∃ t : Later w0, w' = t.w) (fun a' => ∀ w', (∃ t : Later w0, w' = t.w) → Q .normal a' w') l a) : (Code.region id l.toArray true).wp P Q a w :=
  wp_region_quiet (C := fun w' => ∃ t : Later w0, w' = t.w) hm hB ⟨⟨w.drew, hC.drew⟩, rfl⟩ (by simpa using h)
theorem Calls.later {P : Program} {f : FuncId} {args : Array Value} {w0 : World} {t : Later w0} {v : Value} (h : Calls P f args t.w fun e w' => e = .returned v ∧ Ext none' t.w w') :
    Calls P f args t.w fun e w' => e = .returned v ∧ ∃ t' : Later w0, w' = t'.w :=
  h.mono fun _ w' ⟨he, hx⟩ => ⟨he, ⟨w', t.x.trans hx⟩, rfl⟩
end Go.Proofs.YtbhpmmofgdppdaaGreatDoor
/-
  'append' onto a slice that the call itself owns, whatever is appended: a slice (nil, empty, cut or not) or a string's bytes.
-/
namespace Go.Proofs.YtbhpmmofgdppdaaGreatDoor
open Go.RowKit Go.Lib
section
variable {P : Program} (w : World)
theorem run_append_any (base : Nat) (t tx ty e : TypeId) (i : TypeInfo) (z : Value) (size bytes : Nat) (ht : P.underlying t = some (.slice e)) (hi : P.info? e = some i) (hz : i.zero = some z)
    (hsize : i.size = size) (hby : i.bytes = bytes) (hzs : z.cells.size = size)
    (v : Value) (n : Nat) (xs : List Value) (hown : w.ownsRow base e size v n xs) (x : Value) (m : Nat) (news : List Value) (hs : Src P size tx x m news w)
    (h63 : n + m ≤ maxLen) (hbytes : (n + m) * bytes ≤ 140737488355328) (hbase : base ≤ w.heap.size) :
    ∃ v' w', (Builtin.append_ #[t, tx] ty #[v, x]).run P w = .ok v' w' ∧ w'.ownsRow base e size v' (n + m) (xs ++ news) ∧ w.grownBy w' v.ownBlock ∧ (v'.ownBlock = v.ownBlock ∨ v'.ownBlock = some w.heap.size) ∧
      (v' = .slice none 0 0 ↔ v = .slice none 0 0 ∧ m = 0) := by
  subst hsize
  subst hby
  have hsmall : n + m ≤ 9223372036854775807 := by simp only [maxLen] at h63; omega
  have hlen : (xs ++ news).length = (n + m) * i.size := by rw [List.length_append, hown.1, hs.newsLen, Nat.add_mul]
  have grown : ∀ (old : Nat), old < n + m → ∀ (row : Option Nat),
      (w.drew.alloc (.cells ((xs ++ news).toArray ++ Builtin.zeroCells z.cells (grownCap w (n + m) old e - (n + m))) e)).ownsRow base e i.size
        (.slice (some ⟨w.heap.size, 0, none⟩) (n + m) (grownCap w (n + m) old e)) (n + m) (xs ++ news) ∧
      w.grownBy (w.drew.alloc (.cells ((xs ++ news).toArray ++ Builtin.zeroCells z.cells (grownCap w (n + m) old e - (n + m))) e)) row := by
    intro old ho row
    have hge := grownCap_ge w (n + m) old e
    have hcm : grownCap w (n + m) old e ≤ maxLen := grownCap_le_maxLen w (n + m) old e h63
    refine ⟨⟨hlen, .inr ⟨w.heap.size, _, _, rfl, hbase, heap_alloc_new w.drew _, hge, hcm, ?_, ?_⟩⟩, ⟨rfl, rfl, rfl, by simp, fun k hk _ => Below.heap_alloc w.drew _ k hk⟩⟩
    · simp only [Array.size_append, List.size_toArray, size_zeroCells, hzs, hlen, ← Nat.add_mul]
      congr 1
      omega
    · rw [Array.toList_append, ← hlen]
      exact List.take_left
  rcases hown.2 with ⟨rfl, rfl⟩ | ⟨g, cap, cur, rfl, hbg, hg, hnc, hcm, hcs, htake⟩
  · have hx : xs = [] := List.eq_nil_of_length_eq_zero (by simpa using hown.1)
    subst hx
    by_cases hm : m = 0
    · subst hm
      have hn : news = [] := List.eq_nil_of_length_eq_zero (by simpa using hs.newsLen)
      subst hn
      refine ⟨.slice none 0 0, w, ?_, World.ownsRow_nil w base e i.size, ⟨rfl, rfl, rfl, Nat.le_refl _, fun _ _ _ => rfl⟩, .inl rfl, by simp⟩
      have hc := hs.cells
      rcases hs.kind with ⟨e', hk⟩ | hk <;> simp [Builtin.append_, run_underlying ht, run_underlying hk, sizeOf, typeInfo, hi, hs.len, hc]
    · have hr := run_append_grow_src (P := P) w t tx ty e i z ht hi hz none 0 0 [] (by simp [Builtin.firstCells]) x m news hs (by omega) (by omega) (growslice_fits (by omega) hbytes)
      have hgr := grown 0 (by omega) (Value.ownBlock (.slice none 0 0))
      simp only [Nat.zero_add, List.nil_append] at hgr ⊢
      simp only [Nat.zero_add, List.nil_append] at hr
      exact ⟨_, _, hr, hgr.1, hgr.2, .inr rfl, by simp [hm]⟩
  · by_cases hroom : n + m ≤ cap
    · have hfit : n * i.size + news.length ≤ cur.size := by rw [hs.newsLen, hcs, ← Nat.add_mul]; exact Nat.mul_le_mul_right _ hroom
      have hst := run_storeCells_at P g (n * i.size) e news 0 cur w hg (by simpa using hfit) hs.one
      simp only [Nat.add_zero] at hst
      have hr : (Builtin.append_ #[t, tx] ty #[.slice (some ⟨g, 0, none⟩) n cap, x]).run P w =
          .ok (.slice (some ⟨g, 0, none⟩) (n + m) cap) (w.setRow g (cur.toList.take (n * i.size) ++ news ++ cur.toList.drop (n * i.size + news.length)).toArray) := by
        rcases hs.kind with ⟨e', hk⟩ | hk <;> simp [Builtin.append_, run_underlying ht, run_underlying hk, sizeOf, typeInfo, hi, hs.len, hroom, hs.cells, Addr.add_lit, hst]
      refine ⟨_, _, hr, ⟨hlen, .inr ⟨g, cap, _, rfl, hbg, setRow_heap w g cur _ e _ hg, hroom, hcm, ?_, ?_⟩⟩, ⟨rfl, rfl, rfl, by simp, fun k _ hk => setRow_other w g k _ (fun e => hk (by simp [Value.ownBlock, e]))⟩, .inl rfl, by simp⟩
      · simp only [List.size_toArray, List.length_append, List.length_take, List.length_drop, Array.length_toList]
        omega
      · rw [htake, ← hlen]
        exact List.take_left
    · have holds : ∀ j u, xs[j]? = some u → w.cell? ((⟨g, 0, none⟩ : Addr).add j) = some u := hown.cells (g := g) rfl
      have hr := run_append_grow_src (P := P) w t tx ty e i z ht hi hz (some ⟨g, 0, none⟩) n cap xs (run_firstCells_some w.drew i.size n ⟨g, 0, none⟩ n cap xs hown.1 (by simpa using holds)) x m news hs (by omega) (by omega) (growslice_fits (by omega) hbytes)
      have hgr := grown cap (by omega) (Value.ownBlock (.slice (some ⟨g, 0, none⟩) n cap))
      exact ⟨_, _, hr, hgr.1, hgr.2, .inr rfl, by simp⟩
/-- The law at the operation. -/
theorem wpList_app {ops : Array Oper} {rest : List Oper} {o : Oper} {a : Act} {Q : Exit → Act → World → Prop} (hgd : o.guard = none) (s x : Operand) (t tx : TypeId)
    (ho : o.op = .call { callee := .builtin .append, args := #[s, x], argTypes := #[t, tx] })
    (base : Nat) (e : TypeId) (i : TypeInfo) (z : Value) (size bytes : Nat) (ht : P.underlying t = some (.slice e)) (hi : P.info? e = some i) (hz : i.zero = some z)
    (hsize : i.size = size) (hby : i.bytes = bytes) (hzs : z.cells.size = size)
    (v : Value) (n : Nat) (xs : List Value) (hs : a.eval s = v) (hown : w.ownsRow base e size v n xs) (xv : Value) (m : Nat) (news : List Value) (hx : a.eval x = xv) (hsrc : Src P size tx xv m news w)
    (h63 : n + m ≤ maxLen) (hbytes : (n + m) * bytes ≤ 140737488355328) (hbase : base ≤ w.heap.size)
    (h : ∀ v' w', w'.ownsRow base e size v' (n + m) (xs ++ news) → w.grownBy w' v.ownBlock → (v'.ownBlock = v.ownBlock ∨ v'.ownBlock = some w.heap.size) → (v' = .slice none 0 0 ↔ v = .slice none 0 0 ∧ m = 0) → wpList P ops Q rest (a.put o.dst v') w') :
    wpList P ops Q (o :: rest) a w := by
  refine wpList_plain hgd fun K hK => ?_
  obtain ⟨v', w', hr, h2, h3, h4, h5⟩ := run_append_any (P := P) w base t tx o.type e i z size bytes ht hi hz hsize hby hzs v n xs hown xv m news hsrc h63 hbytes hbase
  unfold Oper.wp execOp
  simp only [ho, resolve, invoke, builtin, Sem.run_bind, Sem.run_pure, Result.andThen_ok, List.map_toArray, List.map_cons, List.map_nil, hs, hx, hr]
  exact hK _ _ (h v' w' h2 h3 h4 h5)
end
/-- One element, laid in a block of its own: the source of 'append(xs, v)'. -/
theorem one_new (w : World) (v : Value) (t : TypeId) : ∀ (j : Nat) u, [v][j]? = some u → (w.alloc (.cells #[v] t)).cell? ((⟨w.heap.size, 0, none⟩ : Addr).add j) = some u := by
  intro j u hj
  match j, hj with
  | 0, hj =>
    simp at hj
    subst hj
    exact cell_at (heap_alloc_at rfl _) 0
theorem Src.one {P : Program} {tx e' : TypeId} (hk : P.underlying tx = some (.slice e')) (w : World) (v : Value) (t : TypeId) (h1 : v.oneCell' = true) : Src P 1 tx (.slice (some ⟨w.heap.size, 0, none⟩) 1 1) 1 [v] (w.alloc (.cells #[v] t)) :=
  Src.ofSlice _ hk _ 1 1 [v] rfl (one_new w v t) (fun u hu => by simp at hu; subst hu; exact h1)
/-- The cells of bytes. -/
def byteVals (s : List UInt8) : List Value := s.map fun c => .int .u8 ((c.toNat : Nat) : Int)
theorem byteVals_length (s : List UInt8) : (byteVals s).length = s.length := by simp [byteVals]
theorem byteVals_append (s t : List UInt8) : byteVals (s ++ t) = byteVals s ++ byteVals t := by simp [byteVals]
theorem Src.bytes {P : Program} {B : Nat} {w : World} {v : Value} {s : List UInt8} {tx e' : TypeId} (hk : P.underlying tx = some (.slice e')) (h : Bytes B w v s) : Src P 1 tx v s.length (byteVals s) w := by
  obtain ⟨a, cap, rfl, h1, h2, h3, h4⟩ := h
  by_cases hs : s = []
  · subst hs
    cases a with
    | none => exact Src.ofNil w hk cap
    | some a => exact Src.ofSlice w hk a 0 cap [] (by simp) (fun j u hj => by simp at hj) (fun u hu => by cases hu)
  · obtain ⟨b, off, rfl, _, _, hc⟩ := h4 hs
    refine Src.ofSlice w hk _ _ cap _ (by simp [byteVals]) (fun j u hj => ?_) (fun u hu => ?_)
    · have hjl : j < s.length := by
        have := (List.getElem?_eq_some_iff.1 hj).1
        simpa [byteVals] using this
      have hadd : (⟨b, off, none⟩ : Addr).add j = ⟨b, off + j, none⟩ := by unfold Addr.add; split <;> simp_all
      rw [hadd, hc j hjl]
      simpa [byteVals, hjl] using hj
    · obtain ⟨c, _, rfl⟩ := List.mem_map.1 hu
      rfl
/-- A slice that the call owns, read as bytes. -/
theorem Bytes.of_owns {base e : Nat} {w : World} {v : Value} {s : List UInt8} (h : w.ownsRow base e 1 v s.length (byteVals s)) : Bytes w.heap.size w v s := by
  rcases h.2 with ⟨rfl, h0⟩ | ⟨g, cap, cur, rfl, hbg, hg, hnc, hcm, hcs, htake⟩
  · have hs : s = [] := List.eq_nil_of_length_eq_zero h0
    subst hs
    exact ⟨none, 0, rfl, Nat.le_refl _, by omega, fun _ => rfl, fun h => absurd rfl h⟩
  · refine ⟨some ⟨g, 0, none⟩, cap, rfl, hnc, by unfold maxLen at hcm; omega, (fun h => by cases h), fun _ => ⟨g, 0, rfl, heap_lt hg, heap_lt hg, fun j hj => ?_⟩⟩
    rw [h.cellAt _ (by omega)]
    simp [byteVals, hj]
end Go.Proofs.YtbhpmmofgdppdaaGreatDoor
