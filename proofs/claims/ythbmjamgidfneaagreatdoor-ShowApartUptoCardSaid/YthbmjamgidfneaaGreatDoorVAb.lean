import Derived.Test.YthbmjamgidfneaaGreatDoorVAa
import Derived.OpenShut
import Derived.Test.YthbmjamgidfneaaGreatDoorProg
set_option maxRecDepth 100000
set_option maxHeartbeats 6400000
namespace Go.Proofs.YthbmjamgidfneaaGreatDoor
open Go.RowKit Go.Lib Go.BigFrame
structure LaterF (F : Nat → Prop) (w0 : World) where
 w : World
 x : Ext F w0 w
instance (F : Nat → Prop) (w0 : World) : Nonempty (LaterF F w0) := ⟨⟨w0, Ext.refl _ _⟩⟩
def In (F : Nat → Prop) (w0 : World) (w : World) : Prop := ∃ t : LaterF F w0, w = t.w
theorem In.of {F : Nat → Prop} {w0 w : World} (h : Ext F w0 w) : In F w0 w := ⟨⟨w, h⟩, rfl⟩
theorem region_in {P : Program} {id : Nat} {Q : Exit → Act → World → Prop} {a : Act} {w : World} {l : List Oper} (F : Nat → Prop) (w0 : World) (lA : List Nat) (lB : List (Nat × Bool)) (hm : P.follows .mixedOrders = true) (hB : mixedB l.toArray lA lB = true)
  (hQ : ∀ (dst : Option Tmp) v c a w, Q (.panic c) (a.put dst v) w → Q (.panic c) a w) (hC : Ext F w0 w)
  (h : wpQuiet P l.toArray (fun w' => ∃ t : LaterF F w0, w' = t.w) (fun a' => wpChain P l Q (In F w0) lB a' w.drew) (sel l lA) a) : (Code.region id l.toArray true).wp P Q a w :=
 region_mixed (In F w0) lA lB hm hB hQ (In.of hC.drew) h
theorem ownsRow_ext {w w' : World} {F : Nat → Prop} {base : Nat} {e : TypeId} {size : Nat} {v : Value} {n : Nat} {xs : List Value} (h : w.ownsRow base e size v n xs) (x : Ext F w w') (hF : ∀ g, v.ownBlock = some g → ¬ F g) : w'.ownsRow base e size v n xs := by
 refine ⟨h.1, ?_⟩
 rcases h.2 with hn | ⟨g, cap, cur, rfl, hb, hgg, rest⟩
 · exact .inl hn
 · exact .inr ⟨g, cap, cur, rfl, hb, x.heap hgg (hF g rfl), rest⟩
theorem own_slice {w : World} {base : Nat} {e : TypeId} {size : Nat} {v : Value} {n : Nat} {xs : List Value} (h : w.ownsRow base e size v n xs) : ∃ a c, v = .slice a n c := by
 rcases h.2 with ⟨rfl, rfl⟩ | ⟨g', cap, cur, rfl, _⟩
 · exact ⟨none, 0, rfl⟩
 · exact ⟨_, _, rfl⟩
theorem Src.str {P : Program} {tx : TypeId} (hk : P.underlying tx = some .string) (s : List UInt8) (w : World) : Src P 1 tx (.string ⟨s.toArray⟩) s.length (byteVals s) w := by
 have h := Src.ofString (P := P) w hk ⟨s.toArray⟩
 rw [bsize] at h
 exact h
theorem byte_at (s : List UInt8) (i : Nat) (h : i < s.length) : ((⟨s.toArray⟩ : ByteArray)[i]'(by rw [bsize]; exact h)).toNat = (s[i]'h).toNat := by
 show ((s.toArray)[i]'_).toNat = _
 simp
theorem u8n {c k : UInt8} (h : c ≠ k) : c.toNat ≠ k.toNat := fun e => h (UInt8.toNat_inj.1 e)
def StrPost (s : List UInt8) (w : World) (e : Ending) (w' : World) : Prop := e = .returned (.string ⟨s.toArray⟩) ∧ Ext none' w w'
end Go.Proofs.YthbmjamgidfneaaGreatDoor
namespace Go.Proofs.YthbmjamgidfneaaGreatDoor
open Go.RowKit Go.Lib
def Cells (w : World) (b off : Nat) (cs : List Value) : Prop := ∀ j v, cs[j]? = some v → w.cell? ⟨b, off + j, none⟩ = some v
abbrev Lay (α : Type) := (Nat → Prop) → World → α → List Value → Prop
structure Good {α : Type} (sz : Nat) (R : Lay α) : Prop where
 len : ∀ {A w x cs}, R A w x cs → cs.length = sz
 one : ∀ {A w x cs}, R A w x cs → ∀ u ∈ cs, u.oneCell' = true
 ext : ∀ {A F w w' x cs}, R A w x cs → Ext F w w' → (∀ b, b < w.heap.size → F b → A b) → R A w' x cs
 mono : ∀ {A B w x cs}, R A w x cs → (∀ b, b < w.heap.size → B b → A b) → R B w x cs
theorem Cells.ext {F : Nat → Prop} {w w' : World} {b off : Nat} {cs : List Value} (h : Cells w b off cs) (x : Ext F w w') (hb : b < w.heap.size) (hF : ¬ F b) : Cells w' b off cs := fun j v hj => by
 rw [x.cell (p := ⟨b, off + j, none⟩) hb hF]; exact h j v hj
def IsSl {α : Type} (sz : Nat) (R : Lay α) (A : Nat → Prop) (w : World) (v : Value) (xs : List α) : Prop :=
 ∃ a cap, v = .slice a xs.length cap ∧ xs.length ≤ cap ∧ (a = none → cap = 0) ∧ (xs ≠ [] → ∃ b off, a = some ⟨b, off, none⟩ ∧ ¬ A b ∧ b < w.heap.size ∧ ∀ i (h : i < xs.length), ∃ cs, Cells w b (off + i * sz) cs ∧ R A w xs[i] cs)
theorem IsSl.ext {α : Type} {sz : Nat} {R : Lay α} (G : Good sz R) {A F : Nat → Prop} {w w' : World} {v : Value} {xs : List α} (h : IsSl sz R A w v xs) (x : Ext F w w') (hF : ∀ b, b < w.heap.size → F b → A b) : IsSl sz R A w' v xs := by
 obtain ⟨a, cap, rfl, hc, hn, h⟩ := h
 refine ⟨a, cap, rfl, hc, hn, fun hx => ?_⟩
 obtain ⟨b, off, rfl, hA, hb, h⟩ := h hx
 refine ⟨b, off, rfl, hA, Nat.lt_of_lt_of_le hb x.size, fun i hi => ?_⟩
 obtain ⟨cs, h1, h2⟩ := h i hi
 exact ⟨cs, h1.ext x hb (fun q => hA (hF _ hb q)), G.ext h2 x hF⟩
theorem IsSl.mono {α : Type} {sz : Nat} {R : Lay α} (G : Good sz R) {A B : Nat → Prop} {w : World} {v : Value} {xs : List α} (h : IsSl sz R A w v xs) (hF : ∀ b, b < w.heap.size → B b → A b) : IsSl sz R B w v xs := by
 obtain ⟨a, cap, rfl, hc, hn, h⟩ := h
 refine ⟨a, cap, rfl, hc, hn, fun hx => ?_⟩
 obtain ⟨b, off, rfl, hA, hb, h⟩ := h hx
 refine ⟨b, off, rfl, fun q => hA (hF _ hb q), hb, fun i hi => ?_⟩
 obtain ⟨cs, h1, h2⟩ := h i hi
 exact ⟨cs, h1, G.mono h2 hF⟩
theorem IsSl.nil {α : Type} (sz : Nat) (R : Lay α) (A : Nat → Prop) (w : World) : IsSl sz R A w (.slice none 0 0) ([] : List α) := ⟨none, 0, rfl, Nat.le_refl _, fun _ => rfl, fun h => absurd rfl h⟩
theorem IsSl.at {α : Type} {sz : Nat} {R : Lay α} {A : Nat → Prop} {w : World} {a : Option Addr} {n cap : Nat} {xs : List α} (h : IsSl sz R A w (.slice a n cap) xs) (i : Nat) (hi : i < xs.length) :
  ∃ b off cs, a = some ⟨b, off, none⟩ ∧ ¬ A b ∧ b < w.heap.size ∧ Cells w b (off + i * sz) cs ∧ R A w xs[i] cs := by
 obtain ⟨a', cap', e, hc, hn, h⟩ := h
 injection e with e1 e2 e3
 subst e1
 obtain ⟨b, off, rfl, hA, hb, h⟩ := h (by intro e; subst e; simp at hi)
 obtain ⟨cs, h1, h2⟩ := h i hi
 exact ⟨b, off, cs, rfl, hA, hb, h1, h2⟩
def plus (A : Nat → Prop) (v : Value) : Nat → Prop := fun b => A b ∨ v.ownBlock = some b
def RowOf {α : Type} (sz : Nat) (T : TypeId) (R : Lay α) (A : Nat → Prop) (w : World) (base : Nat) (v : Value) (xs : List α) : Prop :=
 ∃ cells : List Value, w.ownsRow base T sz v xs.length cells ∧ ∀ i (h : i < xs.length), R (plus A v) w xs[i] ((cells.drop (i * sz)).take sz)
theorem RowOf.nil {α : Type} (sz : Nat) (T : TypeId) (R : Lay α) (A : Nat → Prop) (w : World) (base : Nat) : RowOf sz T R A w base (.slice none 0 0) ([] : List α) :=
 ⟨[], World.ownsRow_nil _ _ _ _, fun i h => by simp at h⟩
theorem RowOf.ext {α : Type} {sz : Nat} {T : TypeId} {R : Lay α} (G : Good sz R) {A F : Nat → Prop} {w w' : World} {base : Nat} {v : Value} {xs : List α} (h : RowOf sz T R A w base v xs) (x : Ext F w w')
  (hF : ∀ b, b < w.heap.size → F b → A b) (hv : ∀ g, v.ownBlock = some g → ¬ F g) : RowOf sz T R A w' base v xs := by
 obtain ⟨cells, ho, hr⟩ := h
 exact ⟨cells, ownsRow_ext ho x hv, fun i hi => G.ext (hr i hi) x fun b hb hf => .inl (hF b hb hf)⟩
theorem RowOf.mono {α : Type} {sz : Nat} {T : TypeId} {R : Lay α} (G : Good sz R) {A B : Nat → Prop} {w : World} {base : Nat} {v : Value} {xs : List α} (h : RowOf sz T R A w base v xs) (hB : ∀ b, b < w.heap.size → B b → A b) : RowOf sz T R B w base v xs := by
 obtain ⟨cells, ho, hr⟩ := h
 exact ⟨cells, ho, fun i hi => G.mono (hr i hi) fun b hb q => q.imp (hB b hb) id⟩
theorem RowOf.sl {α : Type} {sz : Nat} {T : TypeId} {R : Lay α} (G : Good sz R) {A : Nat → Prop} {w : World} {base : Nat} {v : Value} {xs : List α} (h : RowOf sz T R A w base v xs) (hA : ∀ b, base ≤ b → ¬ A b) : IsSl sz R A w v xs := by
 obtain ⟨cells, ho, hr⟩ := h
 have hl := ho.1
 rcases ho.2 with ⟨rfl, h0⟩ | ⟨g, cap, cur, rfl, hbg, hg, hnc, hcm, hcs, htake⟩
 · have : xs = [] := List.eq_nil_of_length_eq_zero h0
   subst this
   exact IsSl.nil _ _ _ _
 · refine ⟨_, cap, rfl, hnc, (fun h => by cases h), fun _ => ⟨g, 0, rfl, hA _ hbg, heap_lt hg, fun i hi => ⟨_, ?_, G.mono (hr i hi) fun b _ q => .inl q⟩⟩⟩
   intro j u hj
   have hc := ho.cells (g := g) rfl
   have hjs : j < sz := by
    have := (List.getElem?_eq_some_iff.1 hj).1
    rw [List.length_take] at this
    omega
   rw [List.getElem?_take_of_lt hjs, List.getElem?_drop] at hj
   have := hc _ _ hj
   have e : (⟨g, 0, none⟩ : Addr).add (i * sz + j) = ⟨g, 0 + i * sz + j, none⟩ := by unfold Addr.add; split <;> simp_all
   rw [e] at this
   exact this
theorem RowOf.lt {α : Type} {sz : Nat} {T : TypeId} {R : Lay α} {A : Nat → Prop} {w : World} {base : Nat} {v : Value} {xs : List α} (h : RowOf sz T R A w base v xs) (g : Nat) (hg : v.ownBlock = some g) : base ≤ g ∧ g < w.heap.size := by
 obtain ⟨cells, ho, _⟩ := h
 exact ho.lt g hg
def and1 (A : Nat → Prop) (b : Nat) : Nat → Prop := fun i => A i ∨ i = b
theorem and1.lt {A : Nat → Prop} {b n m : Nat} (hA : ∀ i, A i → i < n) (hn : n ≤ m) (hb : b < m) : ∀ i, and1 A b i → i < m := fun i h => h.elim (fun h => Nat.lt_of_lt_of_le (hA i h) hn) fun e => e ▸ hb
inductive Nd where
 | mk (kind : Int) (text : List UInt8) (kids : List Nd) (pos : Int)
def Nd.kind : Nd → Int | .mk k _ _ _ => k
def Nd.text : Nd → List UInt8 | .mk _ n _ _ => n
def Nd.kids : Nd → List Nd | .mk _ _ l _ => l
def Nd.pos : Nd → Int | .mk _ _ _ p => p
mutual
def Nd.size : Nd → Nat
 | .mk _ n l _ => Nd.sizeL l + n.length + 1
def Nd.sizeL : List Nd → Nat
 | [] => 0
 | t :: r => Nd.size t + Nd.sizeL r
end
theorem Nd.size_pos (t : Nd) : 1 ≤ t.size := by cases t; simp [Nd.size]
theorem Nd.sizeL_mem : ∀ {l : List Nd} {t : Nd}, t ∈ l → t.size ≤ Nd.sizeL l
 | a :: r, t, h => by
  rw [Nd.sizeL]
  rcases List.mem_cons.1 h with rfl | h
  · omega
  · have := Nd.sizeL_mem h; omega
theorem Nd.size_kid {t x : Nd} (h : x ∈ t.kids) : x.size < t.size := by
 cases t with
 | mk k n l p => have := Nd.sizeL_mem h; rw [Nd.size]; simp only [Nd.kids] at this; omega
theorem Nd.sizeL_len : ∀ l : List Nd, l.length ≤ Nd.sizeL l
 | [] => by simp [Nd.sizeL]
 | t :: r => by
  have := Nd.sizeL_len r
  have := t.size_pos
  rw [Nd.sizeL, List.length_cons]; omega
theorem Nd.kids_len (t : Nd) : t.kids.length < t.size := by
 cases t with
 | mk k n l p => have := Nd.sizeL_len l; rw [Nd.size]; simp only [Nd.kids]; omega
theorem Nd.size_text (t : Nd) : t.text.length < t.size := by
 cases t with
 | mk k n l p => rw [Nd.size]; simp only [Nd.text]; omega
theorem Nd.sizeL_append : ∀ (l m : List Nd), Nd.sizeL (l ++ m) = Nd.sizeL l + Nd.sizeL m
 | [], m => by simp [Nd.sizeL]
 | t :: r, m => by rw [List.cons_append, Nd.sizeL, Nd.sizeL, Nd.sizeL_append r m]; omega
def sizeD : Nat → Nd → Nat
 | 0, _ => 0
 | f + 1, t => 1 + (t.kids.map (sizeD f)).sum
def sizeDL (f : Nat) (l : List Nd) : Nat := (l.map (sizeD f)).sum
theorem sizeDL_snoc (f : Nat) (l : List Nd) (t : Nd) : sizeDL f (l ++ [t]) = sizeDL f l + sizeD f t := by simp [sizeDL]
theorem sizeDL_le (f : Nat) : ∀ l : List Nd, (∀ t ∈ l, sizeD f t ≤ t.size) → sizeDL f l ≤ Nd.sizeL l
 | [], _ => Nat.zero_le _
 | t :: r, h => by
  have h1 := h t (by simp)
  have h2 := sizeDL_le f r fun x hx => h x (by simp [hx])
  simp only [sizeDL] at h2 ⊢
  rw [List.map_cons, List.sum_cons, Nd.sizeL]
  omega
theorem sizeD_le : ∀ (f : Nat) (t : Nd), sizeD f t ≤ t.size
 | 0, t => Nat.zero_le _
 | f + 1, .mk k n l p => by
  have := sizeDL_le f l fun x _ => sizeD_le f x
  rw [sizeD, Nd.size]
  simp only [Nd.kids]
  simp only [sizeDL] at this
  omega
theorem sizeDL_take (f : Nat) (l : List Nd) (i : Nat) : sizeDL f (l.take i) ≤ Nd.sizeL l := by
 have h1 := sizeDL_le f (l.take i) fun x _ => sizeD_le f x
 have e := Nd.sizeL_append (l.take i) (l.drop i)
 rw [List.take_append_drop] at e
 omega
inductive IsNd (A : Nat → Prop) (w : World) : Nd → List Value → Prop
 | mk (k : Int) (n : List UInt8) (l : List Nd) (p : Int) (a : Option Addr) (cap b off : Nat) (c : Nat → List Value) (hcap : l.length ≤ cap) (hn : a = none → cap = 0) (hb : l ≠ [] → a = some ⟨b, off, none⟩ ∧ ¬ A b ∧ b < w.heap.size)
   (hc : ∀ i, i < l.length → Cells w b (off + i * 4) (c i)) (hr : ∀ i (h : i < l.length), IsNd A w l[i] (c i)) : IsNd A w (.mk k n l p) [.int .i64 k, .string ⟨n.toArray⟩, .slice a l.length cap, .int .i64 p]
theorem IsNd.parts {A : Nat → Prop} {w : World} {t : Nd} {cs : List Value} (h : IsNd A w t cs) : ∃ v, cs = [.int .i64 t.kind, .string ⟨t.text.toArray⟩, v, .int .i64 t.pos] ∧ IsSl 4 IsNd A w v t.kids := by
 cases h with
 | mk k n l p a cap b off c hcap hn hb hc hr =>
  refine ⟨_, rfl, a, cap, rfl, hcap, hn, fun hl => ?_⟩
  obtain ⟨h1, h2, h3⟩ := hb hl
  exact ⟨b, off, h1, h2, h3, fun i hi => ⟨c i, hc i hi, hr i hi⟩⟩
theorem IsNd.of {A : Nat → Prop} {w : World} {k : Int} {n : List UInt8} {l : List Nd} {p : Int} {v : Value} (h : IsSl 4 IsNd A w v l) : IsNd A w (.mk k n l p) [.int .i64 k, .string ⟨n.toArray⟩, v, .int .i64 p] := by
 obtain ⟨a, cap, rfl, hc, hn, h⟩ := h
 by_cases hl : l = []
 · subst hl
   exact IsNd.mk k n [] p a cap 0 0 (fun _ => []) hc hn (fun h => absurd rfl h) (fun i hi => by simp at hi) (fun i hi => by simp at hi)
 · obtain ⟨b, off, rfl, hA, hb, h⟩ := h hl
   have hx : ∀ i, ∃ cs, ∀ (hi : i < l.length), Cells w b (off + i * 4) cs ∧ IsNd A w l[i] cs := fun i => by
    by_cases hi : i < l.length
    · obtain ⟨cs, h1, h2⟩ := h i hi
      exact ⟨cs, fun _ => ⟨h1, h2⟩⟩
    · exact ⟨[], fun h => absurd h hi⟩
   obtain ⟨c, hc'⟩ := Classical.axiomOfChoice hx
   exact IsNd.mk k n l p _ cap b off c hc (fun h => by cases h) (fun _ => ⟨rfl, hA, hb⟩) (fun i hi => (hc' i hi).1) (fun i hi => (hc' i hi).2)
theorem isNd_good : Good 4 IsNd where
 len h := by cases h; rfl
 one h := by cases h; intro u hu; simp at hu; rcases hu with rfl | rfl | rfl | rfl <;> rfl
 ext {A F w w' x cs} h x' hF := by
  induction h with
  | mk k n l p a cap b off c hcap hn hb hc hr ih =>
   refine IsNd.mk k n l p a cap b off c hcap hn (fun hl => ?_) (fun i hi => ?_) ih
   · obtain ⟨h1, h2, h3⟩ := hb hl
     exact ⟨h1, h2, Nat.lt_of_lt_of_le h3 x'.size⟩
   · obtain ⟨h1, h2, h3⟩ := hb (by intro e; subst e; simp at hi)
     exact (hc i hi).ext x' h3 fun q => h2 (hF _ h3 q)
 mono {A B w x cs} h hB := by
  induction h with
  | mk k n l p a cap b off c hcap hn hb hc hr ih =>
   refine IsNd.mk k n l p a cap b off c hcap hn (fun hl => ?_) hc ih
   obtain ⟨h1, h2, h3⟩ := hb hl
   exact ⟨h1, fun q => h2 (hB _ h3 q), h3⟩
def NdV (A : Nat → Prop) (w : World) (t : Nd) (v : Value) : Prop := ∃ x, v = .agg #[.int .i64 t.kind, .string ⟨t.text.toArray⟩, x, .int .i64 t.pos] ∧ IsSl 4 IsNd A w x t.kids
theorem NdV.ext {A F : Nat → Prop} {w w' : World} {t : Nd} {v : Value} (h : NdV A w t v) (x : Ext F w w') (hF : ∀ b, b < w.heap.size → F b → A b) : NdV A w' t v := by
 obtain ⟨u, rfl, h⟩ := h
 exact ⟨u, rfl, h.ext isNd_good x hF⟩
theorem NdV.mono {A B : Nat → Prop} {w : World} {t : Nd} {v : Value} (h : NdV A w t v) (hB : ∀ b, b < w.heap.size → B b → A b) : NdV B w t v := by
 obtain ⟨u, rfl, h⟩ := h
 exact ⟨u, rfl, h.mono isNd_good hB⟩
theorem cell2 {w : World} {k : Nat} {x0 x1 : Value} {t : TypeId} {fz : Nat × Nat} (h : w.heap[k]? = some (.cells #[x0, x1] t fz)) : w.cell? ⟨k, 0, none⟩ = some x0 ∧ w.cell? ⟨k, 1, none⟩ = some x1 := ⟨cell_at h 0, cell_at h 1⟩
theorem cell4 {w : World} {k : Nat} {x0 x1 x2 x3 : Value} {t : TypeId} {fz : Nat × Nat} (h : w.heap[k]? = some (.cells #[x0, x1, x2, x3] t fz)) : w.cell? ⟨k, 0, none⟩ = some x0 ∧ w.cell? ⟨k, 1, none⟩ = some x1 ∧ w.cell? ⟨k, 2, none⟩ = some x2 ∧ w.cell? ⟨k, 3, none⟩ = some x3 := ⟨cell_at h 0, cell_at h 1, cell_at h 2, cell_at h 3⟩
theorem cell2L {F : Nat → Prop} {w0 : World} {k : Nat} {x0 x1 : Value} {t : TypeId} {fz : Nat × Nat} (h : ∀ t' : LaterF F w0, t'.w.heap[k]? = some (.cells #[x0, x1] t fz)) : (∀ t' : LaterF F w0, t'.w.cell? ⟨k, 0, none⟩ = some x0) ∧ (∀ t' : LaterF F w0, t'.w.cell? ⟨k, 1, none⟩ = some x1) := ⟨fun t' => cell_at (h t') 0, fun t' => cell_at (h t') 1⟩
theorem cell4L {F : Nat → Prop} {w0 : World} {k : Nat} {x0 x1 x2 x3 : Value} {t : TypeId} {fz : Nat × Nat} (h : ∀ t' : LaterF F w0, t'.w.heap[k]? = some (.cells #[x0, x1, x2, x3] t fz)) : (∀ t' : LaterF F w0, t'.w.cell? ⟨k, 0, none⟩ = some x0) ∧ (∀ t' : LaterF F w0, t'.w.cell? ⟨k, 1, none⟩ = some x1) ∧ (∀ t' : LaterF F w0, t'.w.cell? ⟨k, 2, none⟩ = some x2) ∧ (∀ t' : LaterF F w0, t'.w.cell? ⟨k, 3, none⟩ = some x3) :=
 ⟨fun t' => cell_at (h t') 0, fun t' => cell_at (h t') 1, fun t' => cell_at (h t') 2, fun t' => cell_at (h t') 3⟩
theorem kid4 {w w' : World} {b a : Nat} {x0 x1 x2 x3 : Value} (X : Ext none' w w') (hb : b < w.heap.size) (k0 : w.cell? ⟨b, a, none⟩ = some x0) (k1 : w.cell? ⟨b, a + 1, none⟩ = some x1) (k2 : w.cell? ⟨b, a + 2, none⟩ = some x2) (k3 : w.cell? ⟨b, a + 3, none⟩ = some x3) :
  w'.cell? ⟨b, a, none⟩ = some x0 ∧ w'.cell? ⟨b, a + 1, none⟩ = some x1 ∧ w'.cell? ⟨b, a + 2, none⟩ = some x2 ∧ w'.cell? ⟨b, a + 3, none⟩ = some x3 :=
 ⟨(X.cell (p := ⟨b, a, none⟩) hb (fun h => h)).trans k0, (X.cell (p := ⟨b, a + 1, none⟩) hb (fun h => h)).trans k1, (X.cell (p := ⟨b, a + 2, none⟩) hb (fun h => h)).trans k2, (X.cell (p := ⟨b, a + 3, none⟩) hb (fun h => h)).trans k3⟩
theorem kid4L {w w1 : World} {b a : Nat} {x0 x1 x2 x3 : Value} (X : Ext none' w w1) (hb : b < w.heap.size) (k0 : w.cell? ⟨b, a, none⟩ = some x0) (k1 : w.cell? ⟨b, a + 1, none⟩ = some x1) (k2 : w.cell? ⟨b, a + 2, none⟩ = some x2) (k3 : w.cell? ⟨b, a + 3, none⟩ = some x3) :
  (∀ t' : LaterF none' w1, t'.w.cell? ⟨b, a, none⟩ = some x0) ∧ (∀ t' : LaterF none' w1, t'.w.cell? ⟨b, a + 1, none⟩ = some x1) ∧ (∀ t' : LaterF none' w1, t'.w.cell? ⟨b, a + 2, none⟩ = some x2) ∧ (∀ t' : LaterF none' w1, t'.w.cell? ⟨b, a + 3, none⟩ = some x3) :=
 ⟨fun t' => (kid4 (X.trans t'.x) hb k0 k1 k2 k3).1, fun t' => (kid4 (X.trans t'.x) hb k0 k1 k2 k3).2.1, fun t' => (kid4 (X.trans t'.x) hb k0 k1 k2 k3).2.2.1, fun t' => (kid4 (X.trans t'.x) hb k0 k1 k2 k3).2.2.2⟩
theorem node_box (w : World) (cs : Array Value) (t : TypeId) : ∃ B W0, B = w.heap.size ∧ W0 = w.alloc (.cells cs t) ∧ Hid (Ext none' w W0) ∧ Hid (W0.heap[B]? = some (.cells cs t (0, 0))) :=
 ⟨_, _, rfl, rfl, hid ((Ext.refl _ _).alloc _), hid (heap_alloc_at rfl _)⟩
theorem boxed (w : World) (o : Obj) : ∃ B W0, B = w.heap.size ∧ W0 = w.alloc o ∧ Hid (Ext none' w W0) ∧ Hid (W0.heap[B]? = some o) :=
 ⟨_, _, rfl, rfl, hid ((Ext.refl _ _).alloc _), hid (heap_alloc_at rfl _)⟩
theorem cellx {w w' : World} {k : Nat} {x0 x1 x2 x3 : Value} {t : TypeId} {fz : Nat × Nat} (X : Ext none' w w') (h : w.heap[k]? = some (.cells #[x0, x1, x2, x3] t fz)) : w'.cell? ⟨k, 0, none⟩ = some x0 ∧ w'.cell? ⟨k, 1, none⟩ = some x1 ∧ w'.cell? ⟨k, 2, none⟩ = some x2 ∧ w'.cell? ⟨k, 3, none⟩ = some x3 := cell4 (X.heap h fun h => h)
def K4 (w : World) (b a : Nat) (x0 x1 x2 x3 : Value) : Prop := w.cell? ⟨b, a, none⟩ = some x0 ∧ w.cell? ⟨b, a + 1, none⟩ = some x1 ∧ w.cell? ⟨b, a + 2, none⟩ = some x2 ∧ w.cell? ⟨b, a + 3, none⟩ = some x3
theorem kid' {w w' : World} {b a : Nat} {x0 x1 x2 x3 : Value} (X : Ext none' w w') (hb : b < w.heap.size) (k : K4 w b a x0 x1 x2 x3) :
  w'.cell? ⟨b, a, none⟩ = some x0 ∧ w'.cell? ⟨b, a + 1, none⟩ = some x1 ∧ w'.cell? ⟨b, a + 2, none⟩ = some x2 ∧ w'.cell? ⟨b, a + 3, none⟩ = some x3 := kid4 X hb k.1 k.2.1 k.2.2.1 k.2.2.2
theorem kidL {w w1 : World} {b a : Nat} {x0 x1 x2 x3 : Value} (X : Ext none' w w1) (hb : b < w.heap.size) (k : K4 w b a x0 x1 x2 x3) :
  (∀ t' : LaterF none' w1, t'.w.cell? ⟨b, a, none⟩ = some x0) ∧ (∀ t' : LaterF none' w1, t'.w.cell? ⟨b, a + 1, none⟩ = some x1) ∧ (∀ t' : LaterF none' w1, t'.w.cell? ⟨b, a + 2, none⟩ = some x2) ∧ (∀ t' : LaterF none' w1, t'.w.cell? ⟨b, a + 3, none⟩ = some x3) := kid4L X hb k.1 k.2.1 k.2.2.1 k.2.2.2
theorem ndvx {t : Nd} {w W : World} {a : Option Addr} {c : Nat} (h : IsSl 4 IsNd none' w (.slice a t.kids.length c) t.kids) (X : Ext none' w W) : NdV none' W t (.agg #[.int .i64 t.kind, .string ⟨t.text.toArray⟩, .slice a t.kids.length c, .int .i64 t.pos]) := ⟨_, rfl, h.ext isNd_good X fun _ _ h => h⟩
theorem nd_open {t : Nd} {w : World} {v : Value} (h : NdV none' w t v) : ∃ a1 cap1, v = .agg #[.int .i64 t.kind, .string ⟨t.text.toArray⟩, .slice a1 t.kids.length cap1, .int .i64 t.pos] ∧ t.kids.length ≤ cap1 ∧ Hid (NdV none' w t v) ∧ Hid (IsSl 4 IsNd none' w (.slice a1 t.kids.length cap1) t.kids) := by
 have H := h
 obtain ⟨y, rfl, hy⟩ := h
 have HY := hy
 obtain ⟨a1, cap1, rfl, hcap, _⟩ := hy
 exact ⟨a1, cap1, rfl, hcap, hid H, hid HY⟩
def emptyB (t : Nd) : Bool := t.kind == 0 && t.text == [] && t.kids.isEmpty
def kidsB : List (Nd → Bool) → List Nd → Bool
 | [], [] => true
 | p :: ps, t :: ts => p t && kidsB ps ts
 | _, _ => false
def ofB (k : Int) (ps : List (Nd → Bool)) (t : Nd) : Bool := t.kind == k && t.text == [] && kidsB ps t.kids
def namB (so : List UInt8 → Bool) (k : Int) (ps : List (Nd → Bool)) (t : Nd) : Bool := t.kind == k && so t.text && kidsB ps t.kids
def listB (p : Nd → Bool) (t : Nd) : Bool := t.kind == 6 && t.text == [] && t.kids.all p
def sigB (ty : Nd → Bool) (so : List UInt8 → Bool) (t : Nd) : Bool := ofB 12 [listB (namB so 8 [ty]), fun r => emptyB r || ty r] t
def noT (s : List UInt8) : Bool := s == []
def tyF (nm : List UInt8 → Bool) : Nat → Nd → Bool
 | 0, _ => false
 | f + 1, t => if t.kind = 10 then nm t.text && t.kids.all (tyF nm f) else if t.kind = 11 then ofB 11 [tyF nm f] t else if t.kind = 12 then sigB (tyF nm f) noT t else false
theorem kidsB_len : ∀ {ps : List (Nd → Bool)} {ts : List Nd}, kidsB ps ts = true → ts.length = ps.length
 | [], [], _ => rfl
 | p :: ps, t :: ts, h => by
  simp only [kidsB, Bool.and_eq_true] at h
  simp [kidsB_len h.2]
 | [], _ :: _, h => by simp [kidsB] at h
 | _ :: _, [], h => by simp [kidsB] at h
theorem kidsB_no {ps : List (Nd → Bool)} {ts : List Nd} (h : ts.length ≠ ps.length) : kidsB ps ts = false := by
 cases e : kidsB ps ts with
 | false => rfl
 | true => exact absurd (kidsB_len e) h
theorem kidsB_at : ∀ {ps : List (Nd → Bool)} {ts : List Nd} {i : Nat} (h1 : i < ps.length) (h2 : i < ts.length), ps[i] ts[i] = false → kidsB ps ts = false
 | [], _, i, h1, _, _ => by simp at h1
 | _ :: _, [], i, _, h2, _ => by simp at h2
 | p :: ps, t :: ts, 0, _, _, h => by simp at h; simp [kidsB, h]
 | p :: ps, t :: ts, i + 1, h1, h2, h => by
  simp only [List.getElem_cons_succ] at h
  simp only [kidsB, kidsB_at _ _ h, Bool.and_false]
theorem kidsB_all : ∀ {ps : List (Nd → Bool)} {ts : List Nd}, ts.length = ps.length → (∀ (i : Nat) (h1 : i < ps.length) (h2 : i < ts.length), ps[i] ts[i] = true) → kidsB ps ts = true
 | [], [], _, _ => rfl
 | p :: ps, t :: ts, hl, h => by
  simp only [kidsB, Bool.and_eq_true]
  exact ⟨h 0 (by simp) (by simp), kidsB_all (by simpa using hl) fun i h1 h2 => h (i + 1) (by simpa using h1) (by simpa using h2)⟩
 | [], _ :: _, h, _ => by simp at h
 | _ :: _, [], h, _ => by simp at h
inductive Ty where
 | mk (kind : Int) (name : List UInt8) (args : List Ty)
def Ty.kind : Ty → Int | .mk k _ _ => k
def Ty.name : Ty → List UInt8 | .mk _ n _ => n
def Ty.args : Ty → List Ty | .mk _ _ l => l
def Ty.zero : Ty := .mk 0 [] []
mutual
def Ty.size : Ty → Nat
 | .mk _ _ l => Ty.sizeL l + 1
def Ty.sizeL : List Ty → Nat
 | [] => 0
 | t :: r => Ty.size t + Ty.sizeL r
end
theorem Ty.size_pos (t : Ty) : 1 ≤ t.size := by cases t; simp [Ty.size]
theorem Ty.sizeL_mem : ∀ {l : List Ty} {t : Ty}, t ∈ l → t.size ≤ Ty.sizeL l
 | a :: r, t, h => by
  rw [Ty.sizeL]
  rcases List.mem_cons.1 h with rfl | h
  · omega
  · have := Ty.sizeL_mem h; omega
theorem Ty.sizeL_len : ∀ l : List Ty, l.length ≤ Ty.sizeL l
 | [] => by simp [Ty.sizeL]
 | t :: r => by
  have := Ty.sizeL_len r
  have := t.size_pos
  rw [Ty.sizeL, List.length_cons]; omega
theorem Ty.sizeL_append : ∀ (l m : List Ty), Ty.sizeL (l ++ m) = Ty.sizeL l + Ty.sizeL m
 | [], m => by simp [Ty.sizeL]
 | t :: r, m => by rw [List.cons_append, Ty.sizeL, Ty.sizeL, Ty.sizeL_append r m]; omega
inductive IsTy (A : Nat → Prop) (w : World) : Ty → List Value → Prop
 | mk (k : Int) (n : List UInt8) (l : List Ty) (a : Option Addr) (cap b off : Nat) (c : Nat → List Value) (hcap : l.length ≤ cap) (hn : a = none → cap = 0) (hb : l ≠ [] → a = some ⟨b, off, none⟩ ∧ ¬ A b ∧ b < w.heap.size)
   (hc : ∀ i, i < l.length → Cells w b (off + i * 3) (c i)) (hr : ∀ i (h : i < l.length), IsTy A w l[i] (c i)) : IsTy A w (.mk k n l) [.int .i64 k, .string ⟨n.toArray⟩, .slice a l.length cap]
theorem IsTy.parts {A : Nat → Prop} {w : World} {t : Ty} {cs : List Value} (h : IsTy A w t cs) : ∃ v, cs = [.int .i64 t.kind, .string ⟨t.name.toArray⟩, v] ∧ IsSl 3 IsTy A w v t.args := by
 cases h with
 | mk k n l a cap b off c hcap hn hb hc hr =>
  refine ⟨_, rfl, a, cap, rfl, hcap, hn, fun hl => ?_⟩
  obtain ⟨h1, h2, h3⟩ := hb hl
  exact ⟨b, off, h1, h2, h3, fun i hi => ⟨c i, hc i hi, hr i hi⟩⟩
theorem IsTy.of {A : Nat → Prop} {w : World} {k : Int} {n : List UInt8} {l : List Ty} {v : Value} (h : IsSl 3 IsTy A w v l) : IsTy A w (.mk k n l) [.int .i64 k, .string ⟨n.toArray⟩, v] := by
 obtain ⟨a, cap, rfl, hc, hn, h⟩ := h
 by_cases hl : l = []
 · subst hl
   exact IsTy.mk k n [] a cap 0 0 (fun _ => []) hc hn (fun h => absurd rfl h) (fun i hi => by simp at hi) (fun i hi => by simp at hi)
 · obtain ⟨b, off, rfl, hA, hb, h⟩ := h hl
   have hx : ∀ i, ∃ cs, ∀ (hi : i < l.length), Cells w b (off + i * 3) cs ∧ IsTy A w l[i] cs := fun i => by
    by_cases hi : i < l.length
    · obtain ⟨cs, h1, h2⟩ := h i hi
      exact ⟨cs, fun _ => ⟨h1, h2⟩⟩
    · exact ⟨[], fun h => absurd h hi⟩
   obtain ⟨c, hc'⟩ := Classical.axiomOfChoice hx
   exact IsTy.mk k n l _ cap b off c hc (fun h => by cases h) (fun _ => ⟨rfl, hA, hb⟩) (fun i hi => (hc' i hi).1) (fun i hi => (hc' i hi).2)
theorem isTy_good : Good 3 IsTy where
 len h := by cases h; rfl
 one h := by cases h; intro u hu; simp at hu; rcases hu with rfl | rfl | rfl <;> rfl
 ext {A F w w' x cs} h x' hF := by
  induction h with
  | mk k n l a cap b off c hcap hn hb hc hr ih =>
   refine IsTy.mk k n l a cap b off c hcap hn (fun hl => ?_) (fun i hi => ?_) ih
   · obtain ⟨h1, h2, h3⟩ := hb hl
     exact ⟨h1, h2, Nat.lt_of_lt_of_le h3 x'.size⟩
   · obtain ⟨h1, h2, h3⟩ := hb (by intro e; subst e; simp at hi)
     exact (hc i hi).ext x' h3 fun q => h2 (hF _ h3 q)
 mono {A B w x cs} h hB := by
  induction h with
  | mk k n l a cap b off c hcap hn hb hc hr ih =>
   refine IsTy.mk k n l a cap b off c hcap hn (fun hl => ?_) hc ih
   obtain ⟨h1, h2, h3⟩ := hb hl
   exact ⟨h1, fun q => h2 (hB _ h3 q), h3⟩
def TyV (A : Nat → Prop) (w : World) (t : Ty) (v : Value) : Prop := ∃ x, v = .agg #[.int .i64 t.kind, .string ⟨t.name.toArray⟩, x] ∧ IsSl 3 IsTy A w x t.args
theorem TyV.ty {A : Nat → Prop} {w : World} {t : Ty} {x : Value} (h : IsSl 3 IsTy A w x t.args) : IsTy A w t [.int .i64 t.kind, .string ⟨t.name.toArray⟩, x] := by
 cases t with
 | mk k n l => exact IsTy.of h
theorem TyV.ext {A F : Nat → Prop} {w w' : World} {t : Ty} {v : Value} (h : TyV A w t v) (x : Ext F w w') (hF : ∀ b, b < w.heap.size → F b → A b) : TyV A w' t v := by
 obtain ⟨u, rfl, h⟩ := h
 exact ⟨u, rfl, h.ext isTy_good x hF⟩
theorem TyV.mono {A B : Nat → Prop} {w : World} {t : Ty} {v : Value} (h : TyV A w t v) (hB : ∀ b, b < w.heap.size → B b → A b) : TyV B w t v := by
 obtain ⟨u, rfl, h⟩ := h
 exact ⟨u, rfl, h.mono isTy_good hB⟩
def IsStr : Lay (List UInt8) := fun _ _ s cs => cs = [.string ⟨s.toArray⟩]
theorem isStr_good : Good 1 IsStr where
 len h := by subst h; rfl
 one h := by subst h; intro u hu; simp at hu; subst hu; rfl
 ext h _ _ := h
 mono h _ := h
abbrev IsStrs (A : Nat → Prop) (w : World) (v : Value) (l : List (List UInt8)) : Prop := IsSl 1 IsStr A w v l
theorem IsStrs.cell {A : Nat → Prop} {w : World} {a : Option Addr} {n cap : Nat} {l : List (List UInt8)} (h : IsStrs A w (.slice a n cap) l) (i : Nat) (hi : i < l.length) : ∃ b off, a = some ⟨b, off, none⟩ ∧ w.cell? ⟨b, off + i, none⟩ = some (.string ⟨l[i].toArray⟩) := by
 obtain ⟨b, off, cs, rfl, _, _, hc, rfl⟩ := h.at i hi
 exact ⟨b, off, rfl, by simpa using hc 0 _ rfl⟩
end Go.Proofs.YthbmjamgidfneaaGreatDoor
namespace Go.Proofs.YthbmjamgidfneaaGreatDoor
open Go.RowKit Go.Lib Go.BigFrame
def fstI {α : Type} (p : α → Bool) (l : List α) : Int := match l.findIdx? p with
 | some i => (i : Nat)
 | none => -1
theorem fstI_at {α : Type} {p : α → Bool} {l : List α} {i : Nat} (hi : i < l.length) (hp : p l[i] = true) (hn : ∀ j (h : j < l.length), j < i → p l[j] = false) : fstI p l = (i : Nat) := by
 have e : l.findIdx? p = some i := by
  rw [List.findIdx?_eq_some_iff_getElem]
  exact ⟨hi, hp, fun j hj => by rw [hn j (by omega) hj]; simp⟩
 unfold fstI; rw [e]
theorem fstI_none {α : Type} {p : α → Bool} {l : List α} (hn : ∀ j (h : j < l.length), p l[j] = false) : fstI p l = -1 := by
 have e : l.findIdx? p = none := by
  rw [List.findIdx?_eq_none_iff]
  intro x hx
  obtain ⟨j, hj, rfl⟩ := List.mem_iff_getElem.1 hx
  rw [hn j hj]
 unfold fstI; rw [e]
theorem fstI_cases {α : Type} (p : α → Bool) (l : List α) : (fstI p l = -1 ∧ ∀ x ∈ l, p x = false) ∨ ∃ i, ∃ h : i < l.length, fstI p l = (i : Nat) ∧ p l[i] = true := by
 unfold fstI
 cases h : l.findIdx? p with
 | none => left; rw [List.findIdx?_eq_none_iff] at h; exact ⟨rfl, fun x hx => by simpa using h x hx⟩
 | some i =>
  right
  rw [List.findIdx?_eq_some_iff_getElem] at h
  obtain ⟨h1, h2, _⟩ := h
  exact ⟨i, h1, rfl, h2⟩
def IntP (z : Int) (w : World) (e : Ending) (w' : World) : Prop := e = .returned (.int .i64 z) ∧ Ext none' w w'
def BoolP (b : Bool) (w : World) (e : Ending) (w' : World) : Prop := e = .returned (.bool b) ∧ Ext none' w w'
def bigD : Nat := 4000000000
end Go.Proofs.YthbmjamgidfneaaGreatDoor
