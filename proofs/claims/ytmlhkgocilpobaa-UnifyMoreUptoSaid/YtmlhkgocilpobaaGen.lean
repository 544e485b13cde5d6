/-
  Slices of things of any make in memory: 'IsSl' (a slice whose elements read as xs), 'RowOf' (one that the call itself makes by append). No Go of this program in sight.
-/
import Derived.Test.YtmlhkgocilpobaaLater
namespace Go.Proofs.Ytmlhkgocilpobaa
open Go.RowKit Go.Lib
/-- The cells from an offset on. -/
def Cells (w : World) (b off : Nat) (cs : List Value) : Prop := ∀ j v, cs[j]? = some v → w.cell? ⟨b, off + j, none⟩ = some v
/-- How a thing lies in cells: 'A': the blocks that it must not lie in. -/
abbrev Lay (α : Type) := (Nat → Prop) → World → α → List Value → Prop
/-- A way to lie in so many cells that bears new worlds. -/
structure Good {α : Type} (sz : Nat) (R : Lay α) : Prop where
  len : ∀ {A w x cs}, R A w x cs → cs.length = sz
  one : ∀ {A w x cs}, R A w x cs → ∀ u ∈ cs, u.oneCell' = true
  ext : ∀ {A F w w' x cs}, R A w x cs → Ext F w w' → (∀ b, b < w.heap.size → F b → A b) → R A w' x cs
  mono : ∀ {A B w x cs}, R A w x cs → (∀ b, b < w.heap.size → B b → A b) → R B w x cs
theorem Cells.ext {F : Nat → Prop} {w w' : World} {b off : Nat} {cs : List Value} (h : Cells w b off cs) (x : Ext F w w') (hb : b < w.heap.size) (hF : ¬ F b) : Cells w' b off cs := fun j v hj => by
  rw [x.cell (p := ⟨b, off + j, none⟩) hb hF]; exact h j v hj
/-- A slice whose elements read as xs. -/
def IsSl {α : Type} (sz : Nat) (R : Lay α) (A : Nat → Prop) (w : World) (v : Value) (xs : List α) : Prop :=
  ∃ a cap, v = .slice a xs.length cap ∧ xs.length ≤ cap ∧ (a = none → cap = 0) ∧ (xs ≠ [] → ∃ b off, a = some ⟨b, off, none⟩ ∧ ¬ A b ∧ b < w.heap.size ∧ ∀ i (h : i < xs.length), ∃ cs, Cells w b (off + i * sz) cs ∧ R A w xs[i] cs)
theorem IsSl.ext {α : Type} {sz : Nat} {R : Lay α} (G : Good sz R) {A F : Nat → Prop} {w w' : World} {v : Value} {xs : List α} (h : IsSl sz R A w v xs) (x : Ext F w w') (hF : ∀ b, b < w.heap.size → F b → A b) : IsSl sz R A w' v xs := by
  obtain ⟨a, cap, rfl, hc, hn, h⟩ := h
  refine ⟨a, cap, rfl, hc, hn, fun hx => ?_⟩
  obtain ⟨b, off, rfl, hA, hb, h⟩ := h hx
  refine ⟨b, off, rfl, hA, Nat.lt_of_lt_of_le hb x.size, fun i hi => ?_⟩
  obtain ⟨cs, h1, h2⟩ := h i hi
  exact ⟨cs, h1.ext x hb (fun q => hA (hF _ hb q)), G.ext h2 x hF⟩
theorem IsSl.mono {α : Type} {sz : Nat} {R : Lay α} (G : Good sz R) {A B : Nat → Prop} {w : World} {v : Value} {xs : List α} (h : IsSl sz R A w v xs) (hF : ∀ b, b < w.heap.size → B b → A b) : IsSl sz R B w v xs := by
  obtain ⟨a, cap, rfl, hc, hn, h⟩ := h
  refine ⟨a, cap, rfl, hc, hn, fun hx => ?_⟩
  obtain ⟨b, off, rfl, hA, hb, h⟩ := h hx
  refine ⟨b, off, rfl, fun q => hA (hF _ hb q), hb, fun i hi => ?_⟩
  obtain ⟨cs, h1, h2⟩ := h i hi
  exact ⟨cs, h1, G.mono h2 hF⟩
theorem IsSl.nil {α : Type} (sz : Nat) (R : Lay α) (A : Nat → Prop) (w : World) : IsSl sz R A w (.slice none 0 0) ([] : List α) := ⟨none, 0, rfl, Nat.le_refl _, fun _ => rfl, fun h => absurd rfl h⟩
/-- An element's cells. -/
theorem IsSl.at {α : Type} {sz : Nat} {R : Lay α} {A : Nat → Prop} {w : World} {a : Option Addr} {n cap : Nat} {xs : List α} (h : IsSl sz R A w (.slice a n cap) xs) (i : Nat) (hi : i < xs.length) :
    ∃ b off cs, a = some ⟨b, off, none⟩ ∧ ¬ A b ∧ b < w.heap.size ∧ Cells w b (off + i * sz) cs ∧ R A w xs[i] cs := by
  obtain ⟨a', cap', e, hc, hn, h⟩ := h
  injection e with e1 e2 e3
  subst e1
  obtain ⟨b, off, rfl, hA, hb, h⟩ := h (by intro e; subst e; simp at hi)
  obtain ⟨cs, h1, h2⟩ := h i hi
  exact ⟨b, off, cs, rfl, hA, hb, h1, h2⟩
/-! ### rows of the call's own -/
/-- The blocks of A, and the value's own. -/
def plus (A : Nat → Prop) (v : Value) : Nat → Prop := fun b => A b ∨ v.ownBlock = some b
def RowOf {α : Type} (sz : Nat) (T : TypeId) (R : Lay α) (A : Nat → Prop) (w : World) (base : Nat) (v : Value) (xs : List α) : Prop :=
  ∃ cells : List Value, w.ownsRow base T sz v xs.length cells ∧ ∀ i (h : i < xs.length), R (plus A v) w xs[i] ((cells.drop (i * sz)).take sz)
theorem RowOf.nil {α : Type} (sz : Nat) (T : TypeId) (R : Lay α) (A : Nat → Prop) (w : World) (base : Nat) : RowOf sz T R A w base (.slice none 0 0) ([] : List α) :=
  ⟨[], World.ownsRow_nil _ _ _ _, fun i h => by simp at h⟩
theorem RowOf.ext {α : Type} {sz : Nat} {T : TypeId} {R : Lay α} (G : Good sz R) {A F : Nat → Prop} {w w' : World} {base : Nat} {v : Value} {xs : List α} (h : RowOf sz T R A w base v xs) (x : Ext F w w')
    (hF : ∀ b, b < w.heap.size → F b → A b) (hv : ∀ g, v.ownBlock = some g → ¬ F g) : RowOf sz T R A w' base v xs := by
  obtain ⟨cells, ho, hr⟩ := h
  exact ⟨cells, ownsRow_ext ho x hv, fun i hi => G.ext (hr i hi) x fun b hb hf => .inl (hF b hb hf)⟩
theorem RowOf.mono {α : Type} {sz : Nat} {T : TypeId} {R : Lay α} (G : Good sz R) {A B : Nat → Prop} {w : World} {base : Nat} {v : Value} {xs : List α} (h : RowOf sz T R A w base v xs) (hB : ∀ b, b < w.heap.size → B b → A b) : RowOf sz T R B w base v xs := by
  obtain ⟨cells, ho, hr⟩ := h
  exact ⟨cells, ho, fun i hi => G.mono (hr i hi) fun b hb q => q.imp (hB b hb) id⟩
theorem RowOf.sl {α : Type} {sz : Nat} {T : TypeId} {R : Lay α} (G : Good sz R) {A : Nat → Prop} {w : World} {base : Nat} {v : Value} {xs : List α} (h : RowOf sz T R A w base v xs) (hA : ∀ b, base ≤ b → ¬ A b) : IsSl sz R A w v xs := by
  obtain ⟨cells, ho, hr⟩ := h
  have hl := ho.1
  rcases ho.2 with ⟨rfl, h0⟩ | ⟨g, cap, cur, rfl, hbg, hg, hnc, hcm, hcs, htake⟩
  · have : xs = [] := List.eq_nil_of_length_eq_zero h0
    subst this
    exact IsSl.nil _ _ _ _
  · refine ⟨_, cap, rfl, hnc, (fun h => by cases h), fun _ => ⟨g, 0, rfl, hA _ hbg, heap_lt hg, fun i hi => ⟨_, ?_, G.mono (hr i hi) fun b _ q => .inl q⟩⟩⟩
    intro j u hj
    have hc := ho.cells (g := g) rfl
    have hjs : j < sz := by
      have := (List.getElem?_eq_some_iff.1 hj).1
      rw [List.length_take] at this
      omega
    rw [List.getElem?_take_of_lt hjs, List.getElem?_drop] at hj
    have := hc _ _ hj
    have e : (⟨g, 0, none⟩ : Addr).add (i * sz + j) = ⟨g, 0 + i * sz + j, none⟩ := by unfold Addr.add; split <;> simp_all
    rw [e] at this
    exact this
theorem RowOf.shape {α : Type} {sz : Nat} {T : TypeId} {R : Lay α} {A : Nat → Prop} {w : World} {base : Nat} {v : Value} {xs : List α} (h : RowOf sz T R A w base v xs) : ∃ a c, v = .slice a xs.length c := by
  obtain ⟨cells, ho, _⟩ := h
  exact own_slice ho
theorem RowOf.lt {α : Type} {sz : Nat} {T : TypeId} {R : Lay α} {A : Nat → Prop} {w : World} {base : Nat} {v : Value} {xs : List α} (h : RowOf sz T R A w base v xs) (g : Nat) (hg : v.ownBlock = some g) : base ≤ g ∧ g < w.heap.size := by
  obtain ⟨cells, ho, _⟩ := h
  exact ho.lt g hg
/-- What an append of one element leaves. -/
theorem RowOf.snoc {α : Type} {sz : Nat} {T : TypeId} {R : Lay α} (G : Good sz R) {A : Nat → Prop} {w w' : World} {base : Nat} {v v' : Value} {xs : List α} {x : α} {cs cells : List Value}
    (ho : w.ownsRow base T sz v xs.length cells) (hr : ∀ i (h : i < xs.length), R (plus A v) w xs[i] ((cells.drop (i * sz)).take sz)) (hx : R (plus A v) w x cs)
    (own : w'.ownsRow base T sz v' (xs.length + 1) (cells ++ cs)) (g : w.grownBy w' v.ownBlock) (blk : v'.ownBlock = v.ownBlock ∨ v'.ownBlock = some w.heap.size) : RowOf sz T R A w' base v' (xs ++ [x]) := by
  have X : Ext (fun b => v.ownBlock = some b) w w' := (Ext.refl _ w).grown g fun k hk => .inl hk
  have key : ∀ {y : α} {ds : List Value}, R (plus A v) w y ds → R (plus A v') w' y ds := fun {y ds} h => by
    have h1 : R (fun b => plus A v b ∨ v'.ownBlock = some b) w y ds := G.mono h fun b hb q => by
      rcases q with q | q
      · exact q
      · rcases blk with e | e
        · exact .inr (e ▸ q)
        · rw [e] at q; injection q with q; omega
    exact G.mono (G.ext h1 X fun b _ hb => .inl (.inr hb)) fun b _ q => q.elim (fun h => .inl (.inl h)) .inr
  refine ⟨cells ++ cs, by rw [List.length_append]; exact own, fun i hi => ?_⟩
  have hl := ho.1
  rw [List.length_append, List.length_singleton] at hi
  by_cases h : i < xs.length
  · have hm : i * sz + sz ≤ cells.length := by rw [hl]; have := Nat.mul_le_mul_right sz (show i + 1 ≤ xs.length by omega); rw [Nat.add_mul, Nat.one_mul] at this; exact this
    rw [List.getElem_append_left h, List.drop_append_of_le_length (by omega), List.take_append_of_le_length (by rw [List.length_drop]; omega)]
    exact key (hr i h)
  · obtain rfl : i = xs.length := by omega
    have hcl := G.len hx
    rw [List.getElem_append_right (Nat.le_refl _)]
    rw [← hl, List.drop_left, List.take_of_length_le (by omega)]
    simpa using key hx
/-- One element of three cells, laid in a block of its own. -/
theorem three_src {P : Program} {tx e' : TypeId} (hk : P.underlying tx = some (.slice e')) (w : World) (u0 u1 u2 : Value) (t : TypeId) (h0 : u0.oneCell' = true) (h1 : u1.oneCell' = true) (h2 : u2.oneCell' = true) :
    Src P 3 tx (.slice (some ⟨w.heap.size, 0, none⟩) 1 1) 1 [u0, u1, u2] (w.alloc (.cells #[u0, u1, u2] t)) :=
  Src.ofSlice _ hk _ 1 1 [u0, u1, u2] rfl (fun j u hj => by
    have e : (⟨w.heap.size, 0, none⟩ : Addr).add j = ⟨w.heap.size, j, none⟩ := by unfold Addr.add; split <;> simp_all
    rw [e, cell_at (heap_alloc_at rfl _)]
    exact (List.getElem?_toArray ..).trans hj) (fun u hu => by
      simp at hu
      rcases hu with rfl | rfl | rfl
      · exact h0
      · exact h1
      · exact h2)
theorem set3 {w : World} {b : Nat} {x0 x1 x2 : Value} {t : TypeId} {fz : Nat × Nat} (h : w.heap[b]? = some (.cells #[x0, x1, x2] t fz)) (y0 y1 y2 : Value) :
    (((w.setCell ⟨b, 0, none⟩ y0).setCell ⟨b, 1, none⟩ y1).setCell ⟨b, 2, none⟩ y2).heap[b]? = some (.cells #[y0, y1, y2] t fz) :=
  heap_setCell_same (heap_setCell_same (heap_setCell_same h 0 y0) 1 y1) 2 y2
theorem Ext.set3 {F : Nat → Prop} {a w : World} (h : Ext F a w) {b : Nat} (hb : F b ∨ a.heap.size ≤ b) (y0 y1 y2 : Value) : Ext F a (((w.setCell ⟨b, 0, none⟩ y0).setCell ⟨b, 1, none⟩ y1).setCell ⟨b, 2, none⟩ y2) :=
  ((h.setCell (p := ⟨b, 0, none⟩) hb y0).setCell (p := ⟨b, 1, none⟩) hb y1).setCell (p := ⟨b, 2, none⟩) hb y2
theorem Ext.self3 (w : World) (b : Nat) (y0 y1 y2 : Value) : Ext (one b) w (((w.setCell ⟨b, 0, none⟩ y0).setCell ⟨b, 1, none⟩ y1).setCell ⟨b, 2, none⟩ y2) := Ext.set3 (Ext.refl (one b) w) (.inl (show one b b from rfl)) y0 y1 y2
/-- The blocks of A, and one more. -/
def and1 (A : Nat → Prop) (b : Nat) : Nat → Prop := fun i => A i ∨ i = b
theorem and1.up {A : Nat → Prop} {b : Nat} : ∀ i, A i → and1 A b i := fun _ h => .inl h
theorem and1.lt {A : Nat → Prop} {b n m : Nat} (hA : ∀ i, A i → i < n) (hn : n ≤ m) (hb : b < m) : ∀ i, and1 A b i → i < m := fun i h => h.elim (fun h => Nat.lt_of_lt_of_le (hA i h) hn) fun e => e ▸ hb
theorem and1.down {A : Nat → Prop} {b n : Nat} (hb : n ≤ b) : ∀ i, i < n → and1 A b i → A i := fun i hi h => h.elim id fun e => absurd hi (by omega)
end Go.Proofs.Ytmlhkgocilpobaa
