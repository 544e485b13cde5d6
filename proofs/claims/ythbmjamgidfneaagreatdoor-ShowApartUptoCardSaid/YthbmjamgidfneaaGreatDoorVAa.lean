import Derived.WalkKit
import Derived.ProofKit
import Derived.WalkLawsBesides
import Derived.Lib.OthersKept
import Derived.Deep.QuietTactic
import Derived.BigQuiet
import Derived.Deep.AppendSrc
import Derived.OrdersHeld
set_option maxRecDepth 100000
set_option maxHeartbeats 6400000
namespace Go.Proofs.YthbmjamgidfneaaGreatDoor
open Go.RowKit Go.Lib
structure Ext (F : Nat → Prop) (w w' : World) : Prop where
 os : w'.os = w.os
 tape : w'.tape = w.tape
 output : w'.output = w.output
 size : w.heap.size ≤ w'.heap.size
 block : ∀ k, k < w.heap.size → ¬ F k → w'.heap[k]? = w.heap[k]?
theorem Ext.refl (F : Nat → Prop) (w : World) : Ext F w w := ⟨rfl, rfl, rfl, Nat.le_refl _, fun _ _ _ => rfl⟩
theorem Ext.trans' {F G : Nat → Prop} {a b c : World} (h : Ext F a b) (k : Ext G b c) (hG : ∀ i, i < a.heap.size → G i → F i) : Ext F a c :=
 ⟨k.os.trans h.os, k.tape.trans h.tape, k.output.trans h.output, Nat.le_trans h.size k.size,
  fun i hi hn => (k.block i (Nat.lt_of_lt_of_le hi h.size) (fun hg => hn (hG i hi hg))).trans (h.block i hi hn)⟩
theorem Ext.trans {F : Nat → Prop} {a b c : World} (h : Ext F a b) (k : Ext F b c) : Ext F a c := h.trans' k fun _ _ x => x
theorem Ext.mono {F G : Nat → Prop} {a b : World} (h : Ext F a b) (hF : ∀ i, i < a.heap.size → F i → G i) : Ext G a b :=
 ⟨h.os, h.tape, h.output, h.size, fun k hk hn => h.block k hk fun hf => hn (hF k hk hf)⟩
theorem Ext.drew {F : Nat → Prop} {a w : World} (h : Ext F a w) : Ext F a w.drew := ⟨h.os, h.tape, h.output, h.size, h.block⟩
theorem Ext.alloc {F : Nat → Prop} {a w : World} (h : Ext F a w) (o : Obj) : Ext F a (w.alloc o) :=
 h.trans ⟨rfl, rfl, rfl, by simp, fun k hk _ => Below.heap_alloc _ _ _ hk⟩
theorem Ext.setCell {F : Nat → Prop} {a w : World} (h : Ext F a w) {p : Addr} (hp : F p.block ∨ a.heap.size ≤ p.block) (u : Value) : Ext F a (w.setCell p u) :=
 h.trans' (G := fun i => i = p.block) ⟨rfl, rfl, rfl, by simp [World.setCell], fun k _ hn => Below.heap_setCell _ _ _ _ hn⟩
  fun i hi hg => by subst hg; exact hp.resolve_right (by omega)
theorem Ext.iterAt {F : Nat → Prop} {a w : World} (h : Ext F a w) {k : Nat} (hk : F k ∨ a.heap.size ≤ k) (s : ByteArray) (pos : Nat) : Ext F a (w.iterAt k s pos) :=
 h.trans' (G := fun i => i = k) ⟨rfl, rfl, rfl, by rw [iterAt_size]; exact Nat.le_refl _, fun i _ hn => iterAt_other w k i s pos hn⟩
  fun i hi hg => by subst hg; exact hk.resolve_right (by omega)
theorem Ext.grown {F : Nat → Prop} {a w w' : World} {row : Option Nat} (h : Ext F a w) (hg : w.grownBy w' row) (hr : ∀ k, row = some k → F k ∨ a.heap.size ≤ k) : Ext F a w' :=
 h.trans' (G := fun i => row = some i) ⟨hg.os, hg.tape, hg.output, hg.size, fun k hk hn => hg.block k hk fun e => hn e.symm⟩
  fun i hi hG => (hr i hG).resolve_right (by omega)
theorem Ext.below {F : Nat → Prop} {a b : World} (h : Ext F a b) {B : Nat} (hB : B ≤ a.heap.size) (hF : ∀ i, i < B → ¬ F i) : Below B a b :=
 ⟨h.os, h.tape, h.output, h.size, fun k hk => h.block k (by omega) (hF k hk)⟩
theorem Ext.of_below {F : Nat → Prop} {a b : World} (h : Below a.heap.size a b) : Ext F a b := ⟨h.os, h.tape, h.output, h.size, fun k hk _ => h.block k hk⟩
theorem Ext.cell {F : Nat → Prop} {a b : World} (h : Ext F a b) {p : Addr} (hp : p.block < a.heap.size) (hF : ¬ F p.block) : b.cell? p = a.cell? p := World.cell?_of_block (h.block _ hp hF)
theorem Ext.frozen {F : Nat → Prop} {a b : World} (h : Ext F a b) {p : Addr} (hp : p.block < a.heap.size) (hF : ¬ F p.block) : b.frozen? p = a.frozen? p := World.frozen?_of_block (h.block _ hp hF)
theorem Ext.heap {F : Nat → Prop} {a b : World} (h : Ext F a b) {k : Nat} {o : Obj} (hk : a.heap[k]? = some o) (hF : ¬ F k) : b.heap[k]? = some o :=
 (h.block k (Array.getElem?_eq_some_iff.1 hk).1 hF).trans hk
theorem hid {p : Prop} (h : p) : Hid p := h
def none' : Nat → Prop := fun _ => False
def one (o : Nat) : Nat → Prop := fun k => k = o
theorem Ext.set {o : Nat} {a w : World} (h : Ext (one o) a w) (j : Nat) (u : Value) : Ext (one o) a (w.setCell ⟨o, j, none⟩ u) := h.setCell (p := ⟨o, j, none⟩) (Or.inl (show o = o from rfl)) u
theorem bsize (s : List UInt8) : (⟨s.toArray⟩ : ByteArray).size = s.length := by show s.toArray.size = _; simp
theorem heap_alloc_at {w : World} {k : Nat} (h : k = w.heap.size) (o : Obj) : (w.alloc o).heap[k]? = some o := by subst h; exact heap_alloc_new w o
theorem heap_lt {w : World} {k : Nat} {o : Obj} (h : w.heap[k]? = some o) : k < w.heap.size := (Array.getElem?_eq_some_iff.1 h).1
theorem heap_alloc_keep {w : World} {k : Nat} {o : Obj} (h : w.heap[k]? = some o) (x : Obj) : (w.alloc x).heap[k]? = some o := by
 rw [Below.heap_alloc _ _ _ (heap_lt h)]; exact h
theorem heap_setCell_other {w : World} {k : Nat} {o : Obj} (h : w.heap[k]? = some o) {p : Addr} (hp : p.block ≠ k) (u : Value) : (w.setCell p u).heap[k]? = some o := by
 rw [Below.heap_setCell _ _ _ _ (fun e => hp e.symm)]; exact h
theorem heap_setCell_same {w : World} {k : Nat} {cs : Array Value} {t : TypeId} {fz : Nat × Nat} (h : w.heap[k]? = some (.cells cs t fz)) (j : Nat) (u : Value) :
  (w.setCell ⟨k, j, none⟩ u).heap[k]? = some (.cells (cs.setIfInBounds j u) t fz) := by
 simp [World.setCell, Array.getElem?_modify, h]
theorem cell_at {w : World} {k : Nat} {cs : Array Value} {t : TypeId} {fz : Nat × Nat} (h : w.heap[k]? = some (.cells cs t fz)) (j : Nat) : w.cell? ⟨k, j, none⟩ = cs[j]? := by
 simp [World.cell?, h]
theorem free_at {w : World} {k : Nat} {cs : Array Value} {t : TypeId} (h : w.heap[k]? = some (.cells cs t (0, 0))) (j : Nat) : w.frozen? ⟨k, j, none⟩ = false := by
 simp [World.frozen?, h]
def Bytes (B : Nat) (w : World) (v : Value) (s : List UInt8) : Prop :=
 ∃ a cap, v = .slice a s.length cap ∧ s.length ≤ cap ∧ cap ≤ 9223372036854775807 ∧ (a = none → cap = 0) ∧
  (s ≠ [] → ∃ b off, a = some ⟨b, off, none⟩ ∧ b < B ∧ b < w.heap.size ∧ ∀ j (h : j < s.length), w.cell? ⟨b, off + j, none⟩ = some (.int .u8 ((s[j].toNat : Nat) : Int)))
theorem Bytes.ext {B : Nat} {F : Nat → Prop} {w w' : World} {v : Value} {s : List UInt8} (h : Bytes B w v s) (hx : Ext F w w') (hF : ∀ i, F i → B ≤ i) : Bytes B w' v s := by
 obtain ⟨a, cap, rfl, h1, h2, h3, h4⟩ := h
 refine ⟨a, cap, rfl, h1, h2, h3, fun hs => ?_⟩
 obtain ⟨b, off, rfl, hB, hb, hc⟩ := h4 hs
 refine ⟨b, off, rfl, hB, Nat.lt_of_lt_of_le hb hx.size, fun j hj => ?_⟩
 rw [hx.cell (p := ⟨b, off + j, none⟩) hb (fun hf => by have := hF _ hf; simp only at this; omega)]
 exact hc j hj
theorem Bytes.mono {B C : Nat} {w : World} {v : Value} {s : List UInt8} (h : Bytes B w v s) (hB : B ≤ C) : Bytes C w v s := by
 obtain ⟨a, cap, rfl, h1, h2, h3, h4⟩ := h
 refine ⟨a, cap, rfl, h1, h2, h3, fun hs => ?_⟩
 obtain ⟨b, off, rfl, hb', hb, hc⟩ := h4 hs
 exact ⟨b, off, rfl, by omega, hb, hc⟩
theorem strOfNums_bytes (s : List UInt8) : strOfNums (s.map fun c => ((c.toNat : Nat) : Int)) = ⟨s.toArray⟩ := by
 unfold strOfNums
 congr 2
 rw [List.map_map]
 conv => rhs; rw [← List.map_id s]
 apply List.map_congr_left
 intro c _
 simp
theorem conv_bytes {P : Program} {w : World} {v : Value} {s : List UInt8} {B : Nat} (h : Bytes B w v s) (src e : TypeId) (hs : P.underlying src = some (.slice e)) (he : P.underlying e = some (.int .u8)) (dst : TypeId) (hd : P.underlying dst = some .string) :
  (convert src dst v).run P w = .ok (.string ⟨s.toArray⟩) w := by
 obtain ⟨a, cap, rfl, _, _, h3, h4⟩ := h
 by_cases hn : s = []
 · subst hn
   cases a with
   | none => rw [run_convert_bytes_nil w src e hs he _ _ dst hd]; rfl
   | some a =>
    have hz := run_bytesToString (P := P) w a 0 cap [] (by simp [loadCells, loadCellsFrom])
    rw [run_convert_bytes_string w src dst e _ _ cap hs he hd, List.length_nil, hz]
    simp
    rfl
 · obtain ⟨b, off, rfl, _, _, hc⟩ := h4 hn
   rw [run_convert_bytes_arg w src e hs he b off s.length cap (s.map fun c => ((c.toNat : Nat) : Int)) (by simp) ?_ dst hd, strOfNums_bytes]
   intro i hi
   rw [hc i hi]
   simp [List.getD, hi]
def TruePost (w : World) (e : Ending) (w' : World) : Prop := e = .returned (.bool true) ∧ Ext none' w w'
theorem TruePost.out {w w' : World} {e : Ending} (h : TruePost w e w') : e = .returned (.bool true) ∧ Below w.heap.size w w' := ⟨h.1, h.2.below (Nat.le_refl _) fun _ _ x => x⟩
structure Later (w0 : World) where
 w : World
 x : Ext none' w0 w
instance (w0 : World) : Nonempty (Later w0) := ⟨⟨w0, Ext.refl _ _⟩⟩
theorem Calls.later {P : Program} {f : FuncId} {args : Array Value} {w0 : World} {t : Later w0} {v : Value} (h : Calls P f args t.w fun e w' => e = .returned v ∧ Ext none' t.w w') :
  Calls P f args t.w fun e w' => e = .returned v ∧ ∃ t' : Later w0, w' = t'.w :=
 h.mono fun _ w' ⟨he, hx⟩ => ⟨he, ⟨w', t.x.trans hx⟩, rfl⟩
section
variable {P : Program} (w : World)
theorem run_append_any (base : Nat) (t tx ty e : TypeId) (i : TypeInfo) (z : Value) (size bytes : Nat) (ht : P.underlying t = some (.slice e)) (hi : P.info? e = some i) (hz : i.zero = some z)
  (hsize : i.size = size) (hby : i.bytes = bytes) (hzs : z.cells.size = size)
  (v : Value) (n : Nat) (xs : List Value) (hown : w.ownsRow base e size v n xs) (x : Value) (m : Nat) (news : List Value) (hs : Src P size tx x m news w)
  (h63 : n + m ≤ maxLen) (hbytes : (n + m) * bytes ≤ 140737488355328) (hbase : base ≤ w.heap.size) :
  ∃ v' w', (Builtin.append_ #[t, tx] ty #[v, x]).run P w = .ok v' w' ∧ w'.ownsRow base e size v' (n + m) (xs ++ news) ∧ w.grownBy w' v.ownBlock ∧ (v'.ownBlock = v.ownBlock ∨ v'.ownBlock = some w.heap.size) ∧
   (v' = .slice none 0 0 ↔ v = .slice none 0 0 ∧ m = 0) := by
 subst hsize
 subst hby
 have hsmall : n + m ≤ 9223372036854775807 := by simp only [maxLen] at h63; omega
 have hlen : (xs ++ news).length = (n + m) * i.size := by rw [List.length_append, hown.1, hs.newsLen, Nat.add_mul]
 have grown : ∀ (old : Nat), old < n + m → ∀ (row : Option Nat),
   (w.drew.alloc (.cells ((xs ++ news).toArray ++ Builtin.zeroCells z.cells (grownCap w (n + m) old e - (n + m))) e)).ownsRow base e i.size
    (.slice (some ⟨w.heap.size, 0, none⟩) (n + m) (grownCap w (n + m) old e)) (n + m) (xs ++ news) ∧
   w.grownBy (w.drew.alloc (.cells ((xs ++ news).toArray ++ Builtin.zeroCells z.cells (grownCap w (n + m) old e - (n + m))) e)) row := by
  intro old ho row
  have hge := grownCap_ge w (n + m) old e
  have hcm : grownCap w (n + m) old e ≤ maxLen := grownCap_le_maxLen w (n + m) old e h63
  refine ⟨⟨hlen, .inr ⟨w.heap.size, _, _, rfl, hbase, heap_alloc_new w.drew _, hge, hcm, ?_, ?_⟩⟩, ⟨rfl, rfl, rfl, by simp, fun k hk _ => Below.heap_alloc w.drew _ k hk⟩⟩
  · simp only [Array.size_append, List.size_toArray, size_zeroCells, hzs, hlen, ← Nat.add_mul]
    congr 1
    omega
  · rw [Array.toList_append, ← hlen]
    exact List.take_left
 rcases hown.2 with ⟨rfl, rfl⟩ | ⟨g, cap, cur, rfl, hbg, hg, hnc, hcm, hcs, htake⟩
 · have hx : xs = [] := List.eq_nil_of_length_eq_zero (by simpa using hown.1)
   subst hx
   by_cases hm : m = 0
   · subst hm
     have hn : news = [] := List.eq_nil_of_length_eq_zero (by simpa using hs.newsLen)
     subst hn
     refine ⟨.slice none 0 0, w, ?_, World.ownsRow_nil w base e i.size, ⟨rfl, rfl, rfl, Nat.le_refl _, fun _ _ _ => rfl⟩, .inl rfl, by simp⟩
     have hc := hs.cells
     rcases hs.kind with ⟨e', hk⟩ | hk <;> simp [Builtin.append_, run_underlying ht, run_underlying hk, sizeOf, typeInfo, hi, hs.len, hc]
   · have hr := run_append_grow_src (P := P) w t tx ty e i z ht hi hz none 0 0 [] (by simp [Builtin.firstCells]) x m news hs (by omega) (by omega) (growslice_fits (by omega) hbytes)
     have hgr := grown 0 (by omega) (Value.ownBlock (.slice none 0 0))
     simp only [Nat.zero_add, List.nil_append] at hgr ⊢
     simp only [Nat.zero_add, List.nil_append] at hr
     exact ⟨_, _, hr, hgr.1, hgr.2, .inr rfl, by simp [hm]⟩
 · by_cases hroom : n + m ≤ cap
   · have hfit : n * i.size + news.length ≤ cur.size := by rw [hs.newsLen, hcs, ← Nat.add_mul]; exact Nat.mul_le_mul_right _ hroom
     have hst := run_storeCells_at P g (n * i.size) e news 0 cur w hg (by simpa using hfit) hs.one
     simp only [Nat.add_zero] at hst
     have hr : (Builtin.append_ #[t, tx] ty #[.slice (some ⟨g, 0, none⟩) n cap, x]).run P w =
       .ok (.slice (some ⟨g, 0, none⟩) (n + m) cap) (w.setRow g (cur.toList.take (n * i.size) ++ news ++ cur.toList.drop (n * i.size + news.length)).toArray) := by
      rcases hs.kind with ⟨e', hk⟩ | hk <;> simp [Builtin.append_, run_underlying ht, run_underlying hk, sizeOf, typeInfo, hi, hs.len, hroom, hs.cells, Addr.add_lit, hst]
     refine ⟨_, _, hr, ⟨hlen, .inr ⟨g, cap, _, rfl, hbg, setRow_heap w g cur _ e _ hg, hroom, hcm, ?_, ?_⟩⟩, ⟨rfl, rfl, rfl, by simp, fun k _ hk => setRow_other w g k _ (fun e => hk (by simp [Value.ownBlock, e]))⟩, .inl rfl, by simp⟩
     · simp only [List.size_toArray, List.length_append, List.length_take, List.length_drop, Array.length_toList]
       omega
     · rw [htake, ← hlen]
       exact List.take_left
   · have holds : ∀ j u, xs[j]? = some u → w.cell? ((⟨g, 0, none⟩ : Addr).add j) = some u := hown.cells (g := g) rfl
     have hr := run_append_grow_src (P := P) w t tx ty e i z ht hi hz (some ⟨g, 0, none⟩) n cap xs (run_firstCells_some w.drew i.size n ⟨g, 0, none⟩ n cap xs hown.1 (by simpa using holds)) x m news hs (by omega) (by omega) (growslice_fits (by omega) hbytes)
     have hgr := grown cap (by omega) (Value.ownBlock (.slice (some ⟨g, 0, none⟩) n cap))
     exact ⟨_, _, hr, hgr.1, hgr.2, .inr rfl, by simp⟩
theorem wpList_app {ops : Array Oper} {rest : List Oper} {o : Oper} {a : Act} {Q : Exit → Act → World → Prop} (hgd : o.guard = none) (s x : Operand) (t tx : TypeId)
  (ho : o.op = .call { callee := .builtin .append, args := #[s, x], argTypes := #[t, tx] })
  (base : Nat) (e : TypeId) (i : TypeInfo) (z : Value) (size bytes : Nat) (ht : P.underlying t = some (.slice e)) (hi : P.info? e = some i) (hz : i.zero = some z)
  (hsize : i.size = size) (hby : i.bytes = bytes) (hzs : z.cells.size = size)
  (v : Value) (n : Nat) (xs : List Value) (hs : a.eval s = v) (hown : w.ownsRow base e size v n xs) (xv : Value) (m : Nat) (news : List Value) (hx : a.eval x = xv) (hsrc : Src P size tx xv m news w)
  (h63 : n + m ≤ maxLen) (hbytes : (n + m) * bytes ≤ 140737488355328) (hbase : base ≤ w.heap.size)
  (h : ∀ v' w', w'.ownsRow base e size v' (n + m) (xs ++ news) → w.grownBy w' v.ownBlock → (v'.ownBlock = v.ownBlock ∨ v'.ownBlock = some w.heap.size) → (v' = .slice none 0 0 ↔ v = .slice none 0 0 ∧ m = 0) → wpList P ops Q rest (a.put o.dst v') w') :
  wpList P ops Q (o :: rest) a w := by
 refine wpList_plain hgd fun K hK => ?_
 obtain ⟨v', w', hr, h2, h3, h4, h5⟩ := run_append_any (P := P) w base t tx o.type e i z size bytes ht hi hz hsize hby hzs v n xs hown xv m news hsrc h63 hbytes hbase
 unfold Oper.wp execOp
 simp only [ho, resolve, invoke, builtin, Sem.run_bind, Sem.run_pure, Result.andThen_ok, List.map_toArray, List.map_cons, List.map_nil, hs, hx, hr]
 exact hK _ _ (h v' w' h2 h3 h4 h5)
end
theorem one_new (w : World) (v : Value) (t : TypeId) : ∀ (j : Nat) u, [v][j]? = some u → (w.alloc (.cells #[v] t)).cell? ((⟨w.heap.size, 0, none⟩ : Addr).add j) = some u := by
 intro j u hj
 match j, hj with
 | 0, hj =>
  simp at hj
  subst hj
  exact cell_at (heap_alloc_at rfl _) 0
theorem Src.one {P : Program} {tx e' : TypeId} (hk : P.underlying tx = some (.slice e')) (w : World) (v : Value) (t : TypeId) (h1 : v.oneCell' = true) : Src P 1 tx (.slice (some ⟨w.heap.size, 0, none⟩) 1 1) 1 [v] (w.alloc (.cells #[v] t)) :=
 Src.ofSlice _ hk _ 1 1 [v] rfl (one_new w v t) (fun u hu => by simp at hu; subst hu; exact h1)
def byteVals (s : List UInt8) : List Value := s.map fun c => .int .u8 ((c.toNat : Nat) : Int)
theorem byteVals_length (s : List UInt8) : (byteVals s).length = s.length := by simp [byteVals]
theorem byteVals_append (s t : List UInt8) : byteVals (s ++ t) = byteVals s ++ byteVals t := by simp [byteVals]
theorem Src.bytes {P : Program} {B : Nat} {w : World} {v : Value} {s : List UInt8} {tx e' : TypeId} (hk : P.underlying tx = some (.slice e')) (h : Bytes B w v s) : Src P 1 tx v s.length (byteVals s) w := by
 obtain ⟨a, cap, rfl, h1, h2, h3, h4⟩ := h
 by_cases hs : s = []
 · subst hs
   cases a with
   | none => exact Src.ofNil w hk cap
   | some a => exact Src.ofSlice w hk a 0 cap [] (by simp) (fun j u hj => by simp at hj) (fun u hu => by cases hu)
 · obtain ⟨b, off, rfl, _, _, hc⟩ := h4 hs
   refine Src.ofSlice w hk _ _ cap _ (by simp [byteVals]) (fun j u hj => ?_) (fun u hu => ?_)
   · have hjl : j < s.length := by
      have := (List.getElem?_eq_some_iff.1 hj).1
      simpa [byteVals] using this
     have hadd : (⟨b, off, none⟩ : Addr).add j = ⟨b, off + j, none⟩ := by unfold Addr.add; split <;> simp_all
     rw [hadd, hc j hjl]
     simpa [byteVals, hjl] using hj
   · obtain ⟨c, _, rfl⟩ := List.mem_map.1 hu
     rfl
theorem Bytes.of_owns {base e : Nat} {w : World} {v : Value} {s : List UInt8} (h : w.ownsRow base e 1 v s.length (byteVals s)) : Bytes w.heap.size w v s := by
 rcases h.2 with ⟨rfl, h0⟩ | ⟨g, cap, cur, rfl, hbg, hg, hnc, hcm, hcs, htake⟩
 · have hs : s = [] := List.eq_nil_of_length_eq_zero h0
   subst hs
   exact ⟨none, 0, rfl, Nat.le_refl _, by omega, fun _ => rfl, fun h => absurd rfl h⟩
 · refine ⟨some ⟨g, 0, none⟩, cap, rfl, hnc, by unfold maxLen at hcm; omega, (fun h => by cases h), fun _ => ⟨g, 0, rfl, heap_lt hg, heap_lt hg, fun j hj => ?_⟩⟩
   rw [h.cellAt _ (by omega)]
   simp [byteVals, hj]
section
variable {P : Program} {ops : Array Oper} {Q : Exit → Act → World → Prop} {md : Region.Mode} {S : World → Prop} {E : Nat → Bool}
def wpAnyE (P : Program) (md : Region.Mode) (ops : Array Oper) (Q : Exit → Act → World → Prop) (S : World → Prop) (E : Nat → Bool) : Nat → Array Bool → Act → World → Prop
 | 0, listed, a, w => Region.ready md ops listed = [] ∧ Q .normal a w
 | fuel + 1, listed, a, w =>
  (Region.ready md ops listed = [] → Q .normal a w) ∧
  ∀ i ∈ Region.ready md ops listed, wpOp P ops Q i (fun a' w' => (E i = true → S w') ∧ wpAnyE P md ops Q S E fuel (listed.setIfInBounds i true) a' w') a w
theorem wpAny_of_E : ∀ (fuel : Nat) (listed : Array Bool) (a : Act) (w : World), wpAnyE P md ops Q S E fuel listed a w → wpAny P md ops Q fuel listed a w
 | 0, _, _, _, h => h
 | fuel + 1, _, _, _, h => ⟨h.1, fun i hi => wpOp_mono (fun a' w' h' => wpAny_of_E fuel _ a' w' h'.2) (h.2 i hi)⟩
def Down (md : Region.Mode) (ops : Array Oper) (listed : Array Bool) : Prop :=
 ∀ k ok, ops[k]? = some ok → listed.getD k false = true → ∀ e ∈ ok.after, Region.binds md e = true → listed.getD e.on false = true
def waitsB (md : Region.Mode) (ops : Array Oper) : Nat → Nat → Nat → Bool
 | 0, _, _ => false
 | f + 1, j, i => match ops[j]? with
  | some o => o.after.any fun e => Region.binds md e && (e.on == i || waitsB md ops f e.on i)
  | none => false
theorem waits_listed {listed : Array Bool} (hd : Down md ops listed) (i : Nat) : ∀ (f j : Nat) (oj : Oper), ops[j]? = some oj → (∀ e ∈ oj.after, Region.binds md e = true → listed.getD e.on false = true) → waitsB md ops f j i = true → listed.getD i false = true
 | 0, _, _, _, _, h => by simp [waitsB] at h
 | f + 1, j, oj, hj, hall, h => by
  simp only [waitsB, hj, Array.any_eq_true', Bool.and_eq_true, Bool.or_eq_true, beq_iff_eq] at h
  obtain ⟨e, he, hb, h⟩ := h
  have hl := hall e he hb
  rcases h with h | h
  · rw [← h]; exact hl
  · cases ho : ops[e.on]? with
    | none => cases f <;> simp [waitsB, ho] at h
    | some oe => exact waits_listed hd i f e.on oe ho (fun e' he' hb' => hd e.on oe ho hl e' he' hb') h
theorem Down.step {listed : Array Bool} (hd : Down md ops listed) {i : Nat} (hi : i ∈ Region.ready md ops listed) : Down md ops (listed.setIfInBounds i true) := by
 obtain ⟨_, oi, hoi, hall⟩ := mem_ready.1 hi
 intro k ok hk hl e he hb
 by_cases hki : k = i
 · subst hki
   rw [hk] at hoi
   cases hoi
   exact getD_set_true (hall e he hb)
 · rw [getD_set_ne false (Ne.symm hki)] at hl
   exact getD_set_true (hd k ok hk hl e he hb)
theorem wpAnyE_first {i : Nat} {oi : Oper} {v : Value} (hi : ops[i]? = some oi) (hsel : ∀ (j : Nat) (o : Oper) cs b, ops[j]? = some o → o.op ≠ .select cs b)
  (hQ : ∀ c a w, Q (.panic c) (a.put oi.dst v) w → Q (.panic c) a w) (hE : ∀ j oj, ops[j]? = some oj → E j = false → waitsB md ops ops.size j i = true) :
  ∀ (fuel : Nat) (listed : Array Bool) (a : Act) (w : World), Down md ops listed →
   (∀ j oj, ops[j]? = some oj → j ≠ i → listed.getD j true = false → (∀ e ∈ oj.after, Region.binds md e = true → e.on ≠ i) → oi.apart ops oj = true) →
   i ∈ Region.ready md ops listed → YieldsIf P ops S oi v a → S w →
   wpAnyE P md ops Q S E fuel (listed.setIfInBounds i true) (a.put oi.dst v) w → wpAnyE P md ops Q S E (fuel + 1) listed a w := by
 intro fuel
 induction fuel with
 | zero =>
  intro listed a w _ _ hr hy hS H
  refine ⟨fun h => (by rw [h] at hr; cases hr), fun j hj => ?_⟩
  by_cases hji : j = i
  · subst hji; exact hy.wpOp hi hS ⟨fun _ => hS, H⟩
  · have := ready_mono hj hji
    rw [H.1] at this
    cases this
 | succ fuel ih =>
  intro listed a w hdown hfree hr hy hS H
  refine ⟨fun h => (by rw [h] at hr; cases hr), fun j hj => ?_⟩
  by_cases hji : j = i
  · subst hji; exact hy.wpOp hi hS ⟨fun _ => hS, H⟩
  · have h1 := H.2 j (ready_mono hj hji)
    obtain ⟨hjun, oj, hoj, hall⟩ := mem_ready.1 hj
    have h0 := (mem_ready.1 hr).1
    have hunl : listed.getD i false = true → False := fun h => by
     rcases Nat.lt_or_ge i listed.size with h' | h'
     · simp [h'] at h0 h; rw [h0] at h; cases h
     · simp [Array.getElem?_eq_none h'] at h
    have hnot : ∀ e ∈ oj.after, Region.binds md e = true → e.on ≠ i := fun e he hb heq => by
     have h1 := hall e he hb
     rw [heq] at h1
     exact hunl h1
    have hEj : E j = true := by
     cases hE' : E j with
     | true => rfl
     | false => exact (hunl (waits_listed hdown i ops.size j oj hoj hall (hE j oj hoj hE'))).elim
    have h2 := wpOp_putIf hoj (hfree j oj hoj hji hjun hnot) (fun cs b => hsel i oi cs b hi) (fun cs b => hsel j oj cs b hoj) hQ hy h1
    have hfree' : ∀ k ok, ops[k]? = some ok → k ≠ i → (listed.setIfInBounds j true).getD k true = false →
      (∀ e ∈ ok.after, Region.binds md e = true → e.on ≠ i) → oi.apart ops ok = true := fun k ok hk hki hun hno => by
     refine hfree k ok hk hki ?_ hno
     by_cases hjk : j = k
     · subst hjk; exact hjun
     · rw [getD_set_ne true hjk] at hun; exact hun
    refine wpOp_mono (fun a' w' h3 => ⟨h3.2.1, ih (listed.setIfInBounds j true) a' w' (hdown.step hj) hfree' (ready_mono hr (Ne.symm hji)) h3.1 (h3.2.1 hEj) ?_⟩) h2
    rw [Array.setIfInBounds_comm _ _ hji]
    exact h3.2.2
def plainOp : Op → Bool
 | .move _ | .assign _ | .pick .. | .build .. | .load .. | .nilCheck _ | .binOp .. | .unOp .. | .convert .. | .makeFunc .. | .slice .. | .fieldAddr .. | .field .. | .indexAddr .. | .index .. | .extract .. => true
 | .call { callee := .builtin .len, .. } | .call { callee := .builtin .cap, .. } | .call { callee := .builtin .min, .. } | .call { callee := .builtin .max, .. } => true
 | _ => false
def ValOnly (s : Sem Next) : Prop := ∀ (P : Program) (w w' : World) (n : Next), s.run P w = .ok n w' → ∃ u, n = .value u
theorem ValOnly.pure (v : Value) : ValOnly (pure (.value v)) := fun P w w' n h => by simp [Sem.run_pure] at h; exact ⟨_, h.1.symm⟩
theorem ValOnly.bind {α : Type} {s : Sem α} {f : α → Sem Next} (h : ∀ x, ValOnly (f x)) : ValOnly (s >>= f) := fun P w w' n hr => by
 rw [Sem.run_bind] at hr
 cases hs : s.run P w with
 | ok u w1 => rw [hs] at hr; exact h u P w1 w' n hr
 | halt x w1 => rw [hs] at hr; simp [Result.andThen] at hr
theorem ValOnly.v (s : Sem Value) : ValOnly (do Pure.pure (Next.value (← s))) := ValOnly.bind fun x => ValOnly.pure x
theorem ValOnly.panic : ValOnly (runtimePanic .nilDeref) := fun P w w' n h => by simp [runtimePanic, goPanic] at h
theorem plain_value {ρ : Operand → Value} {o : Oper} (hp : plainOp o.op = true) : ValOnly (execOp ρ o) := by
 obtain ⟨dst, op, type, pos, after, guard⟩ := o
 cases op <;> simp only [plainOp] at hp <;> try (cases hp; done)
 case move x => exact ValOnly.pure _
 case assign x => exact ValOnly.pure _
 case pick c a b => exact ValOnly.bind fun x => by cases x <;> exact ValOnly.pure _
 case nilCheck x =>
  simp only [execOp]
  split
  · exact ValOnly.panic
  · exact ValOnly.panic
  · exact ValOnly.panic
  · split
    · exact ValOnly.panic
    · refine ValOnly.bind fun p => ValOnly.bind fun q => ?_
      split
      · exact ValOnly.bind fun _ => ValOnly.pure _
      · exact ValOnly.pure _
    · exact ValOnly.pure _
  · exact ValOnly.pure _
 case call c =>
  obtain ⟨callee, args, argTypes⟩ := c
  cases callee with
  | value f => cases hp
  | invoke r m => cases hp
  | builtin b =>
   simp only [execOp]
   cases b <;> simp only at hp <;> try (cases hp; done)
   all_goals
    intro P w w' n h
    simp only [resolve, invoke, builtin, Sem.run_bind, Sem.run_pure, Result.andThen_ok] at h
    exact ValOnly.v _ P w w' n (by simpa only [Sem.run_bind, Sem.run_pure] using h)
 all_goals exact ValOnly.v _
def readyA (md : Region.Mode) (ops : Array Oper) : List Nat → Array Bool → Bool
 | [], _ => true
 | i :: r, listed => (Region.ready md ops listed).contains i && Region.free md ops listed i && ((ops[i]?).map fun o => plainOp o.op).getD false && readyA md ops r (listed.setIfInBounds i true)
def listedA : List Nat → Array Bool → Array Bool
 | [], listed => listed
 | i :: r, listed => listedA r (listed.setIfInBounds i true)
def sel (l : List Oper) : List Nat → List Oper
 | [] => []
 | i :: r => match l[i]? with
  | some o => o :: sel l r
  | none => sel l r
theorem yieldsIf_of {o : Oper} {a : Act} {K : Act → Prop} (hp : plainOp o.op = true) (h : if Region.wanted o (yielded ops a.tmps) then o.quiet P a S K else K (a.put o.dst undef)) :
  (∃ w, S w) → ∃ v, YieldsIf P ops S o v a ∧ K (a.put o.dst v) := by
 rintro ⟨w0, hw0⟩
 by_cases hw : Region.wanted o (yielded ops a.tmps) = true
 · rw [if_pos hw] at h
   obtain ⟨v, h1, h2⟩ := h
   refine ⟨v, .inl ⟨hw, fun w hS => ?_⟩, h2⟩
   have h3 := h1 w hS
   unfold Oper.quietAt at h3
   cases hr : (execOp a.eval o).run P w with
   | halt x w' => rw [hr] at h3; exact h3.elim
   | ok n w' =>
    obtain ⟨u, rfl⟩ := plain_value hp P w w' n hr
    rw [hr] at h3
    obtain ⟨rfl, rfl⟩ := h3
    rfl
 · rw [if_neg hw] at h
   exact ⟨undef, .inr ⟨by simpa using hw, rfl⟩, h⟩
theorem phaseA (l : List Oper) (hl : l.toArray = ops) (hs : Region.noSelect ops = true) (hQ : ∀ (dst : Option Tmp) v c a w, Q (.panic c) (a.put dst v) w → Q (.panic c) a w) {w : World} (hS : S w) (K : Act → Prop) (fuel : Nat) : ∀ (lA : List Nat) (listed : Array Bool) (a : Act),
  readyA md ops lA listed = true → (lA.all fun i => (List.range ops.size).all fun j => E j || waitsB md ops ops.size j i) = true → Down md ops listed →
  wpQuiet P ops S K (sel l lA) a → (∀ a', K a' → wpAnyE P md ops Q S E fuel (listedA lA listed) a' w) → wpAnyE P md ops Q S E (lA.length + fuel) listed a w
 | [], listed, a, _, _, _, h, hK => by simpa [listedA] using hK a h
 | i :: r, listed, a, hr, he, hd, h, hK => by
  simp only [readyA, Bool.and_eq_true, List.contains_eq_mem, decide_eq_true_eq] at hr
  obtain ⟨⟨⟨hr1, hf⟩, hp⟩, hr2⟩ := hr
  simp only [List.all_cons, Bool.and_eq_true] at he
  have hi : ∃ oi, ops[i]? = some oi ∧ plainOp oi.op = true := by
   cases h' : ops[i]? with
   | none => rw [h'] at hp; simp at hp
   | some o => rw [h'] at hp; exact ⟨o, rfl, by simpa using hp⟩
  obtain ⟨oi, hi, hpl⟩ := hi
  have hli : l[i]? = some oi := by rw [← hl] at hi; simpa using hi
  have hsel : sel l (i :: r) = oi :: sel l r := by simp only [sel, hli]
  rw [hsel] at h
  obtain ⟨v, hy, hk⟩ := yieldsIf_of hpl h ⟨w, hS⟩
  rw [List.length_cons, Nat.add_right_comm]
  refine wpAnyE_first hi (fun j o cs b hj => Region.noSelect_spec hs j o cs b hj) (fun c a w => hQ oi.dst v c a w) ?_ (r.length + fuel) listed a w hd (Region.free_spec hi hf) hr1 hy hS ?_
  · intro j oj hj hE
    have h1 := he.1
    simp only [List.all_eq_true, List.mem_range, Bool.or_eq_true] at h1
    exact (h1 j (Array.getElem?_eq_some_iff.1 hj).1).resolve_left (by rw [hE]; simp)
  · exact phaseA l hl hs hQ hS K fuel r _ _ hr2 he.2 (hd.step hr1) hk hK
def chainB (md : Region.Mode) (ops : Array Oper) : List Nat → Array Bool → Bool
 | [], listed => (Region.ready md ops listed).isEmpty
 | j :: r, listed => (Region.ready md ops listed) == [j] && chainB md ops r (listed.setIfInBounds j true)
theorem wp_exits {o : Oper} {a : Act} {w : World} {K K' : Act → World → Prop} {Q Q' : Exit → Act → World → Prop} (hK : ∀ a w, K a w → K' a w) (hQ : ∀ c a w, Q (.panic c) a w → Q' (.panic c) a w) (hL : LetsOut Q → LetsOut Q')
  (hh : o.wp P a w K Q) : o.wp P a w K' Q' := by
 unfold Oper.wp at *
 generalize (execOp a.eval o).run P w = r at *
 cases r with
 | ok n w' =>
  cases n <;> simp only [Oper.upon] at hh ⊢ <;>
   first
    | exact hK _ _ hh
    | exact Calls.mono hh (fun e w'' he => by cases e <;> first | exact hK _ _ he | exact hQ _ _ _ he | exact hL he)
    | exact Rows.mono hh (fun _ _ he => hK _ _ he)
 | halt x w' => cases x <;> simp only [Oper.upon] at hh ⊢ <;> first | exact hh | exact hQ _ _ _ hh
def wpChain (P : Program) (l : List Oper) (Q : Exit → Act → World → Prop) (S : World → Prop) : List (Nat × Bool) → Act → World → Prop
 | [], a, w => Q .normal a w
 | (j, b) :: r, a, w => wpList P l.toArray (Exit.then (fun a' w' => match b with | true => S w' ∧ wpChain P l Q S r a' w' | false => wpChain P l Q S r a' w') Q) (sel l [j]) a w
theorem phaseB (l : List Oper) (hl : l.toArray = ops) : ∀ (lB : List (Nat × Bool)) (listed : Array Bool) (a : Act) (w : World),
  chainB md ops (lB.map (·.1)) listed = true → (∀ j, E j = true → (j, false) ∉ lB) → wpChain P l Q S lB a w → wpAnyE P md ops Q S E lB.length listed a w
 | [], listed, a, w, hc, _, h => ⟨by simpa [chainB] using hc, h⟩
 | (j, b) :: r, listed, a, w, hc, he, h => by
  simp only [List.map_cons, chainB, Bool.and_eq_true, beq_iff_eq] at hc
  refine ⟨fun h0 => (by rw [hc.1] at h0; cases h0), fun i hi => ?_⟩
  rw [hc.1, List.mem_singleton] at hi
  subst hi
  have hm : i ∈ Region.ready md ops listed := by rw [hc.1]; simp
  obtain ⟨_, oi, hoi, _⟩ := mem_ready.1 hm
  have hli : l[i]? = some oi := by rw [← hl] at hoi; simpa using hoi
  simp only [wpChain, sel, hli, hl, wpList] at h
  have hnext : ∀ a' w', (match b with | true => S w' ∧ wpChain P l Q S r a' w' | false => wpChain P l Q S r a' w') → (E i = true → S w') ∧ wpAnyE P md ops Q S E r.length (listed.setIfInBounds i true) a' w' := by
   intro a' w' hx
   have ih := fun h => phaseB l hl r (listed.setIfInBounds i true) a' w' hc.2 (fun j hj hm => he j hj (List.mem_cons_of_mem _ hm)) h
   cases b with
   | true => exact ⟨fun _ => hx.1, ih hx.2⟩
   | false => exact ⟨fun hE => absurd List.mem_cons_self (he i hE), ih hx⟩
  unfold wpOp
  simp only [hoi]
  split at h
  · rename_i hw
    rw [if_pos hw]
    refine h.imp (fun h => wp_exits (fun a' w' hx => hnext a' w' hx) (fun c a w hx => hx) (fun ⟨a, w, hx⟩ => ⟨a, w, hx⟩) h) (fun ⟨h1, a, w, hx⟩ => ⟨h1, a, w, hx⟩)
  · rename_i hw
    rw [if_neg hw]
    exact hnext _ _ h
def mixedB (ops : Array Oper) (lA : List Nat) (lB : List (Nat × Bool)) : Bool :=
 Region.noSelect ops && readyA .any ops lA (Array.replicate ops.size false) && chainB .any ops (lB.map (·.1)) (listedA lA (Array.replicate ops.size false)) &&
 (lA.all fun i => (List.range ops.size).all fun j => !lB.contains (j, false) || waitsB .any ops ops.size j i) && lA.length + lB.length == ops.size
theorem getD_replicate (n k : Nat) : (Array.replicate n false).getD k false = false := by
 rw [Array.getD_eq_getD_getElem?, Array.getElem?_replicate]; split <;> rfl
theorem region_mixed {id : Nat} {a : Act} {w : World} {l : List Oper} (S : World → Prop) (lA : List Nat) (lB : List (Nat × Bool)) (hm : P.follows .mixedOrders = true) (hB : mixedB l.toArray lA lB = true)
  (hQ : ∀ (dst : Option Tmp) v c a w, Q (.panic c) (a.put dst v) w → Q (.panic c) a w) (hS : S w.drew)
  (h : wpQuiet P l.toArray S (fun a' => wpChain P l Q S lB a' w.drew) (sel l lA) a) : (Code.region id l.toArray true).wp P Q a w := by
 simp only [mixedB, Bool.and_eq_true, beq_iff_eq] at hB
 obtain ⟨⟨⟨⟨h1, h2⟩, h3⟩, h4⟩, h5⟩ := hB
 refine wp_region_any hm (wpAny_of_E (S := S) (E := fun j => !lB.contains (j, false)) _ _ _ _ ?_)
 rw [← h5] at h2 h3
 rw [← h5]
 refine phaseA l rfl h1 hQ hS _ lB.length lA _ a h2 ?_ ?_ h ?_
 · exact h4
 · intro k ok hk hl
   rw [getD_replicate] at hl
   cases hl
 · intro a' h'
   refine phaseB l rfl lB _ a' _ h3 ?_ h'
   intro j hj hmem
   have : lB.contains (j, false) = true := by simpa using hmem
   rw [this] at hj
   cases hj
end
end Go.Proofs.YthbmjamgidfneaaGreatDoor
