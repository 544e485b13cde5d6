import Derived.Test.YthbmjamgidfneaaGreatDoorZAa
import Derived.Test.YthbmjamgidfneaaGreatDoorProg
/-
  Slices of things of any make in memory: 'IsSl' (a slice whose elements read as xs), 'RowOf' (one that the call itself makes by append). No Go of this program in sight.
-/
namespace Go.Proofs.YthbmjamgidfneaaGreatDoor
open Go.RowKit Go.Lib
/-- The cells from an offset on. -/
def Cells (w : World) (b off : Nat) (cs : List Value) : Prop := ∀ j v, cs[j]? = some v → w.cell? ⟨b, off + j, none⟩ = some v
/-- How a thing lies in cells: 'A': the blocks that it must not lie in. -/
abbrev Lay (α : Type) := (Nat → Prop) → World → α → List Value → Prop
/-- A way to lie in so many cells that bears new worlds. -/
structure Good {α : Type} (sz : Nat) (R : Lay α) : Prop where
  len : ∀ {A w x cs}, R A w x cs → cs.length = sz
  one : ∀ {A w x cs}, R A w x cs → ∀ u ∈ cs, u.oneCell' = true
  ext : ∀ {A F w w' x cs}, R A w x cs → Ext F w w' → (∀ b, b < w.heap.size → F b → A b) → R A w' x cs
  mono : ∀ {A B w x cs}, R A w x cs → (∀ b, b < w.heap.size → B b → A b) → R B w x cs
theorem Cells.ext {F : Nat → Prop} {w w' : World} {b off : Nat} {cs : List Value} (h : Cells w b off cs) (x : Ext F w w') (hb : b < w.heap.size) (hF : ¬ F b) : Cells w' b off cs := fun j v hj => by
  rw [x.cell (p := ⟨b, off + j, none⟩) hb hF]; exact h j v hj
/-- A slice whose elements read as xs. -/
def IsSl {α : Type} (sz : Nat) (R : Lay α) (A : Nat → Prop) (w : World) (v : Value) (xs : List α) : Prop :=
  ∃ a cap, v = .slice a xs.length cap ∧ xs.length ≤ cap ∧ (a = none → cap = 0) ∧ (xs ≠ [] → ∃ b off, a = some ⟨b, off, none⟩ ∧ ¬ A b ∧ b < w.heap.size ∧ ∀ i (h : i < xs.length), ∃ cs, Cells w b (off + i * sz) cs ∧ R A w xs[i] cs)
theorem IsSl.ext {α : Type} {sz : Nat} {R : Lay α} (G : Good sz R) {A F : Nat → Prop} {w w' : World} {v : Value} {xs : List α} (h : IsSl sz R A w v xs) (x : Ext F w w') (hF : ∀ b, b < w.heap.size → F b → A b) : IsSl sz R A w' v xs := by
  obtain ⟨a, cap, rfl, hc, hn, h⟩ := h
  refine ⟨a, cap, rfl, hc, hn, fun hx => ?_⟩
  obtain ⟨b, off, rfl, hA, hb, h⟩ := h hx
  refine ⟨b, off, rfl, hA, Nat.lt_of_lt_of_le hb x.size, fun i hi => ?_⟩
  obtain ⟨cs, h1, h2⟩ := h i hi
  exact ⟨cs, h1.ext x hb (fun q => hA (hF _ hb q)), G.ext h2 x hF⟩
theorem IsSl.mono {α : Type} {sz : Nat} {R : Lay α} (G : Good sz R) {A B : Nat → Prop} {w : World} {v : Value} {xs : List α} (h : IsSl sz R A w v xs) (hF : ∀ b, b < w.heap.size → B b → A b) : IsSl sz R B w v xs := by
  obtain ⟨a, cap, rfl, hc, hn, h⟩ := h
  refine ⟨a, cap, rfl, hc, hn, fun hx => ?_⟩
  obtain ⟨b, off, rfl, hA, hb, h⟩ := h hx
  refine ⟨b, off, rfl, fun q => hA (hF _ hb q), hb, fun i hi => ?_⟩
  obtain ⟨cs, h1, h2⟩ := h i hi
  exact ⟨cs, h1, G.mono h2 hF⟩
theorem IsSl.nil {α : Type} (sz : Nat) (R : Lay α) (A : Nat → Prop) (w : World) : IsSl sz R A w (.slice none 0 0) ([] : List α) := ⟨none, 0, rfl, Nat.le_refl _, fun _ => rfl, fun h => absurd rfl h⟩
/-- An element's cells. -/
theorem IsSl.at {α : Type} {sz : Nat} {R : Lay α} {A : Nat → Prop} {w : World} {a : Option Addr} {n cap : Nat} {xs : List α} (h : IsSl sz R A w (.slice a n cap) xs) (i : Nat) (hi : i < xs.length) :
    ∃ b off cs, a = some ⟨b, off, none⟩ ∧ ¬ A b ∧ b < w.heap.size ∧ Cells w b (off + i * sz) cs ∧ R A w xs[i] cs := by
  obtain ⟨a', cap', e, hc, hn, h⟩ := h
  injection e with e1 e2 e3
  subst e1
  obtain ⟨b, off, rfl, hA, hb, h⟩ := h (by intro e; subst e; simp at hi)
  obtain ⟨cs, h1, h2⟩ := h i hi
  exact ⟨b, off, cs, rfl, hA, hb, h1, h2⟩
/-! ### rows of the call's own -/
/-- The blocks of A, and the value's own. -/
def plus (A : Nat → Prop) (v : Value) : Nat → Prop := fun b => A b ∨ v.ownBlock = some b
def RowOf {α : Type} (sz : Nat) (T : TypeId) (R : Lay α) (A : Nat → Prop) (w : World) (base : Nat) (v : Value) (xs : List α) : Prop :=
  ∃ cells : List Value, w.ownsRow base T sz v xs.length cells ∧ ∀ i (h : i < xs.length), R (plus A v) w xs[i] ((cells.drop (i * sz)).take sz)
theorem RowOf.nil {α : Type} (sz : Nat) (T : TypeId) (R : Lay α) (A : Nat → Prop) (w : World) (base : Nat) : RowOf sz T R A w base (.slice none 0 0) ([] : List α) :=
  ⟨[], World.ownsRow_nil _ _ _ _, fun i h => by simp at h⟩
theorem RowOf.ext {α : Type} {sz : Nat} {T : TypeId} {R : Lay α} (G : Good sz R) {A F : Nat → Prop} {w w' : World} {base : Nat} {v : Value} {xs : List α} (h : RowOf sz T R A w base v xs) (x : Ext F w w')
    (hF : ∀ b, b < w.heap.size → F b → A b) (hv : ∀ g, v.ownBlock = some g → ¬ F g) : RowOf sz T R A w' base v xs := by
  obtain ⟨cells, ho, hr⟩ := h
  exact ⟨cells, ownsRow_ext ho x hv, fun i hi => G.ext (hr i hi) x fun b hb hf => .inl (hF b hb hf)⟩
theorem RowOf.mono {α : Type} {sz : Nat} {T : TypeId} {R : Lay α} (G : Good sz R) {A B : Nat → Prop} {w : World} {base : Nat} {v : Value} {xs : List α} (h : RowOf sz T R A w base v xs) (hB : ∀ b, b < w.heap.size → B b → A b) : RowOf sz T R B w base v xs := by
  obtain ⟨cells, ho, hr⟩ := h
  exact ⟨cells, ho, fun i hi => G.mono (hr i hi) fun b hb q => q.imp (hB b hb) id⟩
theorem RowOf.sl {α : Type} {sz : Nat} {T : TypeId} {R : Lay α} (G : Good sz R) {A : Nat → Prop} {w : World} {base : Nat} {v : Value} {xs : List α} (h : RowOf sz T R A w base v xs) (hA : ∀ b, base ≤ b → ¬ A b) : IsSl sz R A w v xs := by
  obtain ⟨cells, ho, hr⟩ := h
  have hl := ho.1
  rcases ho.2 with ⟨rfl, h0⟩ | ⟨g, cap, cur, rfl, hbg, hg, hnc, hcm, hcs, htake⟩
  · have : xs = [] := List.eq_nil_of_length_eq_zero h0
    subst this
    exact IsSl.nil _ _ _ _
  · refine ⟨_, cap, rfl, hnc, (fun h => by cases h), fun _ => ⟨g, 0, rfl, hA _ hbg, heap_lt hg, fun i hi => ⟨_, ?_, G.mono (hr i hi) fun b _ q => .inl q⟩⟩⟩
    intro j u hj
    have hc := ho.cells (g := g) rfl
    have hjs : j < sz := by
      have := (List.getElem?_eq_some_iff.1 hj).1
      rw [List.length_take] at this
      omega
    rw [List.getElem?_take_of_lt hjs, List.getElem?_drop] at hj
    have := hc _ _ hj
    have e : (⟨g, 0, none⟩ : Addr).add (i * sz + j) = ⟨g, 0 + i * sz + j, none⟩ := by unfold Addr.add; split <;> simp_all
    rw [e] at this
    exact this
theorem RowOf.shape {α : Type} {sz : Nat} {T : TypeId} {R : Lay α} {A : Nat → Prop} {w : World} {base : Nat} {v : Value} {xs : List α} (h : RowOf sz T R A w base v xs) : ∃ a c, v = .slice a xs.length c := by
  obtain ⟨cells, ho, _⟩ := h
  exact own_slice ho
theorem RowOf.lt {α : Type} {sz : Nat} {T : TypeId} {R : Lay α} {A : Nat → Prop} {w : World} {base : Nat} {v : Value} {xs : List α} (h : RowOf sz T R A w base v xs) (g : Nat) (hg : v.ownBlock = some g) : base ≤ g ∧ g < w.heap.size := by
  obtain ⟨cells, ho, _⟩ := h
  exact ho.lt g hg
/-- What an append of one element leaves. -/
theorem RowOf.snoc {α : Type} {sz : Nat} {T : TypeId} {R : Lay α} (G : Good sz R) {A : Nat → Prop} {w w' : World} {base : Nat} {v v' : Value} {xs : List α} {x : α} {cs cells : List Value}
    (ho : w.ownsRow base T sz v xs.length cells) (hr : ∀ i (h : i < xs.length), R (plus A v) w xs[i] ((cells.drop (i * sz)).take sz)) (hx : R (plus A v) w x cs)
    (own : w'.ownsRow base T sz v' (xs.length + 1) (cells ++ cs)) (g : w.grownBy w' v.ownBlock) (blk : v'.ownBlock = v.ownBlock ∨ v'.ownBlock = some w.heap.size) : RowOf sz T R A w' base v' (xs ++ [x]) := by
  have X : Ext (fun b => v.ownBlock = some b) w w' := (Ext.refl _ w).grown g fun k hk => .inl hk
  have key : ∀ {y : α} {ds : List Value}, R (plus A v) w y ds → R (plus A v') w' y ds := fun {y ds} h => by
    have h1 : R (fun b => plus A v b ∨ v'.ownBlock = some b) w y ds := G.mono h fun b hb q => by
      rcases q with q | q
      · exact q
      · rcases blk with e | e
        · exact .inr (e ▸ q)
        · rw [e] at q; injection q with q; omega
    exact G.mono (G.ext h1 X fun b _ hb => .inl (.inr hb)) fun b _ q => q.elim (fun h => .inl (.inl h)) .inr
  refine ⟨cells ++ cs, by rw [List.length_append]; exact own, fun i hi => ?_⟩
  have hl := ho.1
  rw [List.length_append, List.length_singleton] at hi
  by_cases h : i < xs.length
  · have hm : i * sz + sz ≤ cells.length := by rw [hl]; have := Nat.mul_le_mul_right sz (show i + 1 ≤ xs.length by omega); rw [Nat.add_mul, Nat.one_mul] at this; exact this
    rw [List.getElem_append_left h, List.drop_append_of_le_length (by omega), List.take_append_of_le_length (by rw [List.length_drop]; omega)]
    exact key (hr i h)
  · obtain rfl : i = xs.length := by omega
    have hcl := G.len hx
    rw [List.getElem_append_right (Nat.le_refl _)]
    rw [← hl, List.drop_left, List.take_of_length_le (by omega)]
    simpa using key hx
/-- One element of three cells, laid in a block of its own. -/
theorem three_src {P : Program} {tx e' : TypeId} (hk : P.underlying tx = some (.slice e')) (w : World) (u0 u1 u2 : Value) (t : TypeId) (h0 : u0.oneCell' = true) (h1 : u1.oneCell' = true) (h2 : u2.oneCell' = true) :
    Src P 3 tx (.slice (some ⟨w.heap.size, 0, none⟩) 1 1) 1 [u0, u1, u2] (w.alloc (.cells #[u0, u1, u2] t)) :=
  Src.ofSlice _ hk _ 1 1 [u0, u1, u2] rfl (fun j u hj => by
    have e : (⟨w.heap.size, 0, none⟩ : Addr).add j = ⟨w.heap.size, j, none⟩ := by unfold Addr.add; split <;> simp_all
    rw [e, cell_at (heap_alloc_at rfl _)]
    exact (List.getElem?_toArray ..).trans hj) (fun u hu => by
      simp at hu
      rcases hu with rfl | rfl | rfl
      · exact h0
      · exact h1
      · exact h2)
theorem set3 {w : World} {b : Nat} {x0 x1 x2 : Value} {t : TypeId} {fz : Nat × Nat} (h : w.heap[b]? = some (.cells #[x0, x1, x2] t fz)) (y0 y1 y2 : Value) :
    (((w.setCell ⟨b, 0, none⟩ y0).setCell ⟨b, 1, none⟩ y1).setCell ⟨b, 2, none⟩ y2).heap[b]? = some (.cells #[y0, y1, y2] t fz) :=
  heap_setCell_same (heap_setCell_same (heap_setCell_same h 0 y0) 1 y1) 2 y2
theorem Ext.set3 {F : Nat → Prop} {a w : World} (h : Ext F a w) {b : Nat} (hb : F b ∨ a.heap.size ≤ b) (y0 y1 y2 : Value) : Ext F a (((w.setCell ⟨b, 0, none⟩ y0).setCell ⟨b, 1, none⟩ y1).setCell ⟨b, 2, none⟩ y2) :=
  ((h.setCell (p := ⟨b, 0, none⟩) hb y0).setCell (p := ⟨b, 1, none⟩) hb y1).setCell (p := ⟨b, 2, none⟩) hb y2
theorem Ext.self3 (w : World) (b : Nat) (y0 y1 y2 : Value) : Ext (one b) w (((w.setCell ⟨b, 0, none⟩ y0).setCell ⟨b, 1, none⟩ y1).setCell ⟨b, 2, none⟩ y2) := Ext.set3 (Ext.refl (one b) w) (.inl (show one b b from rfl)) y0 y1 y2
/-- The blocks of A, and one more. -/
def and1 (A : Nat → Prop) (b : Nat) : Nat → Prop := fun i => A i ∨ i = b
theorem and1.up {A : Nat → Prop} {b : Nat} : ∀ i, A i → and1 A b i := fun _ h => .inl h
theorem and1.lt {A : Nat → Prop} {b n m : Nat} (hA : ∀ i, A i → i < n) (hn : n ≤ m) (hb : b < m) : ∀ i, and1 A b i → i < m := fun i h => h.elim (fun h => Nat.lt_of_lt_of_le (hA i h) hn) fun e => e ▸ hb
theorem and1.down {A : Nat → Prop} {b n : Nat} (hb : n ≤ b) : ∀ i, i < n → and1 A b i → A i := fun i hi h => h.elim id fun e => absurd hi (by omega)
end Go.Proofs.YthbmjamgidfneaaGreatDoor
/-
  Nodes (api.Node) as trees, and how a tree lies in memory. No function of the program in sight.
-/
namespace Go.Proofs.YthbmjamgidfneaaGreatDoor
open Go.RowKit Go.Lib
inductive Nd where
  | mk (kind : Int) (text : List UInt8) (kids : List Nd) (pos : Int)
def Nd.kind : Nd → Int | .mk k _ _ _ => k
def Nd.text : Nd → List UInt8 | .mk _ n _ _ => n
def Nd.kids : Nd → List Nd | .mk _ _ l _ => l
def Nd.pos : Nd → Int | .mk _ _ _ p => p
theorem Nd.eta (t : Nd) : t = .mk t.kind t.text t.kids t.pos := by cases t; rfl
mutual
def Nd.size : Nd → Nat
  | .mk _ n l _ => Nd.sizeL l + n.length + 1
def Nd.sizeL : List Nd → Nat
  | [] => 0
  | t :: r => Nd.size t + Nd.sizeL r
end
theorem Nd.size_pos (t : Nd) : 1 ≤ t.size := by cases t; simp [Nd.size]
theorem Nd.sizeL_mem : ∀ {l : List Nd} {t : Nd}, t ∈ l → t.size ≤ Nd.sizeL l
  | a :: r, t, h => by
    rw [Nd.sizeL]
    rcases List.mem_cons.1 h with rfl | h
    · omega
    · have := Nd.sizeL_mem h; omega
theorem Nd.size_kid {t x : Nd} (h : x ∈ t.kids) : x.size < t.size := by
  cases t with
  | mk k n l p => have := Nd.sizeL_mem h; rw [Nd.size]; simp only [Nd.kids] at this; omega
theorem Nd.sizeL_len : ∀ l : List Nd, l.length ≤ Nd.sizeL l
  | [] => by simp [Nd.sizeL]
  | t :: r => by
    have := Nd.sizeL_len r
    have := t.size_pos
    rw [Nd.sizeL, List.length_cons]; omega
theorem Nd.kids_len (t : Nd) : t.kids.length < t.size := by
  cases t with
  | mk k n l p => have := Nd.sizeL_len l; rw [Nd.size]; simp only [Nd.kids]; omega
theorem Nd.size_text (t : Nd) : t.text.length < t.size := by
  cases t with
  | mk k n l p => rw [Nd.size]; simp only [Nd.text]; omega
theorem Nd.sizeL_append : ∀ (l m : List Nd), Nd.sizeL (l ++ m) = Nd.sizeL l + Nd.sizeL m
  | [], m => by simp [Nd.sizeL]
  | t :: r, m => by rw [List.cons_append, Nd.sizeL, Nd.sizeL, Nd.sizeL_append r m]; omega
theorem Nd.induct {P : Nd → Prop} (h : ∀ k n l p, (∀ t ∈ l, P t) → P (.mk k n l p)) (t : Nd) : P t := by
  have key : ∀ (m : Nat) (t : Nd), t.size ≤ m → P t := by
    intro m
    induction m with
    | zero => intro t ht; have := t.size_pos; omega
    | succ m ih =>
      intro t ht
      cases t with
      | mk k n l p =>
        refine h k n l p fun x hx => ih x ?_
        have := Nd.size_kid (t := .mk k n l p) hx
        omega
  exact key t.size t (Nat.le_refl _)
/-- How many nodes there are, to a depth. -/
def sizeD : Nat → Nd → Nat
  | 0, _ => 0
  | f + 1, t => 1 + (t.kids.map (sizeD f)).sum
def sizeDL (f : Nat) (l : List Nd) : Nat := (l.map (sizeD f)).sum
theorem sizeDL_snoc (f : Nat) (l : List Nd) (t : Nd) : sizeDL f (l ++ [t]) = sizeDL f l + sizeD f t := by simp [sizeDL]
theorem sizeDL_le (f : Nat) : ∀ l : List Nd, (∀ t ∈ l, sizeD f t ≤ t.size) → sizeDL f l ≤ Nd.sizeL l
  | [], _ => Nat.zero_le _
  | t :: r, h => by
    have h1 := h t (by simp)
    have h2 := sizeDL_le f r fun x hx => h x (by simp [hx])
    simp only [sizeDL] at h2 ⊢
    rw [List.map_cons, List.sum_cons, Nd.sizeL]
    omega
theorem sizeD_le : ∀ (f : Nat) (t : Nd), sizeD f t ≤ t.size
  | 0, t => Nat.zero_le _
  | f + 1, .mk k n l p => by
    have := sizeDL_le f l fun x _ => sizeD_le f x
    rw [sizeD, Nd.size]
    simp only [Nd.kids]
    simp only [sizeDL] at this
    omega
theorem sizeDL_take (f : Nat) (l : List Nd) (i : Nat) : sizeDL f (l.take i) ≤ Nd.sizeL l := by
  have h1 := sizeDL_le f (l.take i) fun x _ => sizeD_le f x
  have e := Nd.sizeL_append (l.take i) (l.drop i)
  rw [List.take_append_drop] at e
  omega
/-- A tree in four cells. -/
inductive IsNd (A : Nat → Prop) (w : World) : Nd → List Value → Prop
  | mk (k : Int) (n : List UInt8) (l : List Nd) (p : Int) (a : Option Addr) (cap b off : Nat) (c : Nat → List Value) (hcap : l.length ≤ cap) (hn : a = none → cap = 0) (hb : l ≠ [] → a = some ⟨b, off, none⟩ ∧ ¬ A b ∧ b < w.heap.size)
      (hc : ∀ i, i < l.length → Cells w b (off + i * 4) (c i)) (hr : ∀ i (h : i < l.length), IsNd A w l[i] (c i)) : IsNd A w (.mk k n l p) [.int .i64 k, .string ⟨n.toArray⟩, .slice a l.length cap, .int .i64 p]
theorem IsNd.parts {A : Nat → Prop} {w : World} {t : Nd} {cs : List Value} (h : IsNd A w t cs) : ∃ v, cs = [.int .i64 t.kind, .string ⟨t.text.toArray⟩, v, .int .i64 t.pos] ∧ IsSl 4 IsNd A w v t.kids := by
  cases h with
  | mk k n l p a cap b off c hcap hn hb hc hr =>
    refine ⟨_, rfl, a, cap, rfl, hcap, hn, fun hl => ?_⟩
    obtain ⟨h1, h2, h3⟩ := hb hl
    exact ⟨b, off, h1, h2, h3, fun i hi => ⟨c i, hc i hi, hr i hi⟩⟩
theorem IsNd.of {A : Nat → Prop} {w : World} {k : Int} {n : List UInt8} {l : List Nd} {p : Int} {v : Value} (h : IsSl 4 IsNd A w v l) : IsNd A w (.mk k n l p) [.int .i64 k, .string ⟨n.toArray⟩, v, .int .i64 p] := by
  obtain ⟨a, cap, rfl, hc, hn, h⟩ := h
  by_cases hl : l = []
  · subst hl
    exact IsNd.mk k n [] p a cap 0 0 (fun _ => []) hc hn (fun h => absurd rfl h) (fun i hi => by simp at hi) (fun i hi => by simp at hi)
  · obtain ⟨b, off, rfl, hA, hb, h⟩ := h hl
    have hx : ∀ i, ∃ cs, ∀ (hi : i < l.length), Cells w b (off + i * 4) cs ∧ IsNd A w l[i] cs := fun i => by
      by_cases hi : i < l.length
      · obtain ⟨cs, h1, h2⟩ := h i hi
        exact ⟨cs, fun _ => ⟨h1, h2⟩⟩
      · exact ⟨[], fun h => absurd h hi⟩
    obtain ⟨c, hc'⟩ := Classical.axiomOfChoice hx
    exact IsNd.mk k n l p _ cap b off c hc (fun h => by cases h) (fun _ => ⟨rfl, hA, hb⟩) (fun i hi => (hc' i hi).1) (fun i hi => (hc' i hi).2)
theorem isNd_good : Good 4 IsNd where
  len h := by cases h; rfl
  one h := by cases h; intro u hu; simp at hu; rcases hu with rfl | rfl | rfl | rfl <;> rfl
  ext {A F w w' x cs} h x' hF := by
    induction h with
    | mk k n l p a cap b off c hcap hn hb hc hr ih =>
      refine IsNd.mk k n l p a cap b off c hcap hn (fun hl => ?_) (fun i hi => ?_) ih
      · obtain ⟨h1, h2, h3⟩ := hb hl
        exact ⟨h1, h2, Nat.lt_of_lt_of_le h3 x'.size⟩
      · obtain ⟨h1, h2, h3⟩ := hb (by intro e; subst e; simp at hi)
        exact (hc i hi).ext x' h3 fun q => h2 (hF _ h3 q)
  mono {A B w x cs} h hB := by
    induction h with
    | mk k n l p a cap b off c hcap hn hb hc hr ih =>
      refine IsNd.mk k n l p a cap b off c hcap hn (fun hl => ?_) hc ih
      obtain ⟨h1, h2, h3⟩ := hb hl
      exact ⟨h1, fun q => h2 (hB _ h3 q), h3⟩
/-- A node as a value. -/
def NdV (A : Nat → Prop) (w : World) (t : Nd) (v : Value) : Prop := ∃ x, v = .agg #[.int .i64 t.kind, .string ⟨t.text.toArray⟩, x, .int .i64 t.pos] ∧ IsSl 4 IsNd A w x t.kids
theorem NdV.nd {A : Nat → Prop} {w : World} {t : Nd} {x : Value} (h : IsSl 4 IsNd A w x t.kids) : IsNd A w t [.int .i64 t.kind, .string ⟨t.text.toArray⟩, x, .int .i64 t.pos] := by
  cases t with
  | mk k n l p => exact IsNd.of h
theorem NdV.ext {A F : Nat → Prop} {w w' : World} {t : Nd} {v : Value} (h : NdV A w t v) (x : Ext F w w') (hF : ∀ b, b < w.heap.size → F b → A b) : NdV A w' t v := by
  obtain ⟨u, rfl, h⟩ := h
  exact ⟨u, rfl, h.ext isNd_good x hF⟩
theorem NdV.mono {A B : Nat → Prop} {w : World} {t : Nd} {v : Value} (h : NdV A w t v) (hB : ∀ b, b < w.heap.size → B b → A b) : NdV B w t v := by
  obtain ⟨u, rfl, h⟩ := h
  exact ⟨u, rfl, h.mono isNd_good hB⟩
end Go.Proofs.YthbmjamgidfneaaGreatDoor
/-
  Right trees (the part of types): plain. No Go in sight.
-/
namespace Go.Proofs.YthbmjamgidfneaaGreatDoor
open Go.RowKit Go.Lib
def emptyB (t : Nd) : Bool := t.kind == 0 && t.text == [] && t.kids.isEmpty
theorem Nd.kids_lt {t x : Nd} {f : Nat} (h : x ∈ t.kids) (hs : t.size ≤ f + 1) : x.size ≤ f := by have := Nd.size_kid h; omega
/-- Is there one kid, and is it so? -/
def oneB (p : Nd → Bool) : List Nd → Bool
  | [x] => p x
  | _ => false
def twoB (p q : Nd → Bool) : List Nd → Bool
  | [x, y] => p x && q y
  | _ => false
/-- Are the kids so, one by one? -/
def kidsB : List (Nd → Bool) → List Nd → Bool
  | [], [] => true
  | p :: ps, t :: ts => p t && kidsB ps ts
  | _, _ => false
def ofB (k : Int) (ps : List (Nd → Bool)) (t : Nd) : Bool := t.kind == k && t.text == [] && kidsB ps t.kids
/-- A node whose text is so, of a kind, whose kids are so. -/
def namB (so : List UInt8 → Bool) (k : Int) (ps : List (Nd → Bool)) (t : Nd) : Bool := t.kind == k && so t.text && kidsB ps t.kids
def listB (p : Nd → Bool) (t : Nd) : Bool := t.kind == 6 && t.text == [] && t.kids.all p
def sigB (ty : Nd → Bool) (so : List UInt8 → Bool) (t : Nd) : Bool := ofB 12 [listB (namB so 8 [ty]), fun r => emptyB r || ty r] t
def noT (s : List UInt8) : Bool := s == []
def tyF (nm : List UInt8 → Bool) : Nat → Nd → Bool
  | 0, _ => false
  | f + 1, t => if t.kind = 10 then nm t.text && t.kids.all (tyF nm f) else if t.kind = 11 then ofB 11 [tyF nm f] t else if t.kind = 12 then sigB (tyF nm f) noT t else false
theorem kidsB_len : ∀ {ps : List (Nd → Bool)} {ts : List Nd}, kidsB ps ts = true → ts.length = ps.length
  | [], [], _ => rfl
  | p :: ps, t :: ts, h => by
    simp only [kidsB, Bool.and_eq_true] at h
    simp [kidsB_len h.2]
  | [], _ :: _, h => by simp [kidsB] at h
  | _ :: _, [], h => by simp [kidsB] at h
theorem kidsB_no {ps : List (Nd → Bool)} {ts : List Nd} (h : ts.length ≠ ps.length) : kidsB ps ts = false := by
  cases e : kidsB ps ts with
  | false => rfl
  | true => exact absurd (kidsB_len e) h
theorem kidsB_at : ∀ {ps : List (Nd → Bool)} {ts : List Nd} {i : Nat} (h1 : i < ps.length) (h2 : i < ts.length), ps[i] ts[i] = false → kidsB ps ts = false
  | [], _, i, h1, _, _ => by simp at h1
  | _ :: _, [], i, _, h2, _ => by simp at h2
  | p :: ps, t :: ts, 0, _, _, h => by simp at h; simp [kidsB, h]
  | p :: ps, t :: ts, i + 1, h1, h2, h => by
    simp only [List.getElem_cons_succ] at h
    simp only [kidsB, kidsB_at _ _ h, Bool.and_false]
theorem kidsB_all : ∀ {ps : List (Nd → Bool)} {ts : List Nd}, ts.length = ps.length → (∀ (i : Nat) (h1 : i < ps.length) (h2 : i < ts.length), ps[i] ts[i] = true) → kidsB ps ts = true
  | [], [], _, _ => rfl
  | p :: ps, t :: ts, hl, h => by
    simp only [kidsB, Bool.and_eq_true]
    exact ⟨h 0 (by simp) (by simp), kidsB_all (by simpa using hl) fun i h1 h2 => h (i + 1) (by simpa using h1) (by simpa using h2)⟩
  | [], _ :: _, h, _ => by simp at h
  | _ :: _, [], h, _ => by simp at h
end Go.Proofs.YthbmjamgidfneaaGreatDoor
/-
  Types (kinds.Type, demoticref10.Type) as trees, and how a tree lies in memory. No function of the program in sight.
-/
namespace Go.Proofs.YthbmjamgidfneaaGreatDoor
open Go.RowKit Go.Lib
inductive Ty where
  | mk (kind : Int) (name : List UInt8) (args : List Ty)
def Ty.kind : Ty → Int | .mk k _ _ => k
def Ty.name : Ty → List UInt8 | .mk _ n _ => n
def Ty.args : Ty → List Ty | .mk _ _ l => l
theorem Ty.eta (t : Ty) : t = .mk t.kind t.name t.args := by cases t; rfl
def Ty.zero : Ty := .mk 0 [] []
mutual
def Ty.size : Ty → Nat
  | .mk _ _ l => Ty.sizeL l + 1
def Ty.sizeL : List Ty → Nat
  | [] => 0
  | t :: r => Ty.size t + Ty.sizeL r
end
theorem Ty.size_pos (t : Ty) : 1 ≤ t.size := by cases t; simp [Ty.size]
theorem Ty.sizeL_mem : ∀ {l : List Ty} {t : Ty}, t ∈ l → t.size ≤ Ty.sizeL l
  | a :: r, t, h => by
    rw [Ty.sizeL]
    rcases List.mem_cons.1 h with rfl | h
    · omega
    · have := Ty.sizeL_mem h; omega
theorem Ty.size_arg {t x : Ty} (h : x ∈ t.args) : x.size < t.size := by
  cases t with
  | mk k n l => have := Ty.sizeL_mem h; rw [Ty.size]; exact Nat.lt_succ_of_le this
theorem Ty.sizeL_len : ∀ l : List Ty, l.length ≤ Ty.sizeL l
  | [] => by simp [Ty.sizeL]
  | t :: r => by
    have := Ty.sizeL_len r
    have := t.size_pos
    rw [Ty.sizeL, List.length_cons]; omega
theorem Ty.args_len (t : Ty) : t.args.length < t.size := by
  cases t with
  | mk k n l => have := Ty.sizeL_len l; rw [Ty.size]; exact Nat.lt_succ_of_le this
theorem Ty.sizeL_append : ∀ (l m : List Ty), Ty.sizeL (l ++ m) = Ty.sizeL l + Ty.sizeL m
  | [], m => by simp [Ty.sizeL]
  | t :: r, m => by rw [List.cons_append, Ty.sizeL, Ty.sizeL, Ty.sizeL_append r m]; omega
/-- Induction over a tree: what holds of a type if it holds of all types in it. -/
theorem Ty.induct {P : Ty → Prop} (h : ∀ k n l, (∀ t ∈ l, P t) → P (.mk k n l)) (t : Ty) : P t := by
  have key : ∀ (m : Nat) (t : Ty), t.size ≤ m → P t := by
    intro m
    induction m with
    | zero => intro t ht; have := t.size_pos; omega
    | succ m ih =>
      intro t ht
      cases t with
      | mk k n l =>
        refine h k n l fun x hx => ih x ?_
        have := Ty.size_arg (t := .mk k n l) hx
        omega
  exact key t.size t (Nat.le_refl _)
/-- A tree in three cells. -/
inductive IsTy (A : Nat → Prop) (w : World) : Ty → List Value → Prop
  | mk (k : Int) (n : List UInt8) (l : List Ty) (a : Option Addr) (cap b off : Nat) (c : Nat → List Value) (hcap : l.length ≤ cap) (hn : a = none → cap = 0) (hb : l ≠ [] → a = some ⟨b, off, none⟩ ∧ ¬ A b ∧ b < w.heap.size)
      (hc : ∀ i, i < l.length → Cells w b (off + i * 3) (c i)) (hr : ∀ i (h : i < l.length), IsTy A w l[i] (c i)) : IsTy A w (.mk k n l) [.int .i64 k, .string ⟨n.toArray⟩, .slice a l.length cap]
theorem IsTy.parts {A : Nat → Prop} {w : World} {t : Ty} {cs : List Value} (h : IsTy A w t cs) : ∃ v, cs = [.int .i64 t.kind, .string ⟨t.name.toArray⟩, v] ∧ IsSl 3 IsTy A w v t.args := by
  cases h with
  | mk k n l a cap b off c hcap hn hb hc hr =>
    refine ⟨_, rfl, a, cap, rfl, hcap, hn, fun hl => ?_⟩
    obtain ⟨h1, h2, h3⟩ := hb hl
    exact ⟨b, off, h1, h2, h3, fun i hi => ⟨c i, hc i hi, hr i hi⟩⟩
theorem IsTy.of {A : Nat → Prop} {w : World} {k : Int} {n : List UInt8} {l : List Ty} {v : Value} (h : IsSl 3 IsTy A w v l) : IsTy A w (.mk k n l) [.int .i64 k, .string ⟨n.toArray⟩, v] := by
  obtain ⟨a, cap, rfl, hc, hn, h⟩ := h
  by_cases hl : l = []
  · subst hl
    exact IsTy.mk k n [] a cap 0 0 (fun _ => []) hc hn (fun h => absurd rfl h) (fun i hi => by simp at hi) (fun i hi => by simp at hi)
  · obtain ⟨b, off, rfl, hA, hb, h⟩ := h hl
    have hx : ∀ i, ∃ cs, ∀ (hi : i < l.length), Cells w b (off + i * 3) cs ∧ IsTy A w l[i] cs := fun i => by
      by_cases hi : i < l.length
      · obtain ⟨cs, h1, h2⟩ := h i hi
        exact ⟨cs, fun _ => ⟨h1, h2⟩⟩
      · exact ⟨[], fun h => absurd h hi⟩
    obtain ⟨c, hc'⟩ := Classical.axiomOfChoice hx
    exact IsTy.mk k n l _ cap b off c hc (fun h => by cases h) (fun _ => ⟨rfl, hA, hb⟩) (fun i hi => (hc' i hi).1) (fun i hi => (hc' i hi).2)
theorem isTy_good : Good 3 IsTy where
  len h := by cases h; rfl
  one h := by cases h; intro u hu; simp at hu; rcases hu with rfl | rfl | rfl <;> rfl
  ext {A F w w' x cs} h x' hF := by
    induction h with
    | mk k n l a cap b off c hcap hn hb hc hr ih =>
      refine IsTy.mk k n l a cap b off c hcap hn (fun hl => ?_) (fun i hi => ?_) ih
      · obtain ⟨h1, h2, h3⟩ := hb hl
        exact ⟨h1, h2, Nat.lt_of_lt_of_le h3 x'.size⟩
      · obtain ⟨h1, h2, h3⟩ := hb (by intro e; subst e; simp at hi)
        exact (hc i hi).ext x' h3 fun q => h2 (hF _ h3 q)
  mono {A B w x cs} h hB := by
    induction h with
    | mk k n l a cap b off c hcap hn hb hc hr ih =>
      refine IsTy.mk k n l a cap b off c hcap hn (fun hl => ?_) hc ih
      obtain ⟨h1, h2, h3⟩ := hb hl
      exact ⟨h1, fun q => h2 (hB _ h3 q), h3⟩
/-- A type as a value. -/
def TyV (A : Nat → Prop) (w : World) (t : Ty) (v : Value) : Prop := ∃ x, v = .agg #[.int .i64 t.kind, .string ⟨t.name.toArray⟩, x] ∧ IsSl 3 IsTy A w x t.args
theorem TyV.ty {A : Nat → Prop} {w : World} {t : Ty} {x : Value} (h : IsSl 3 IsTy A w x t.args) : IsTy A w t [.int .i64 t.kind, .string ⟨t.name.toArray⟩, x] := by
  cases t with
  | mk k n l => exact IsTy.of h
theorem TyV.ext {A F : Nat → Prop} {w w' : World} {t : Ty} {v : Value} (h : TyV A w t v) (x : Ext F w w') (hF : ∀ b, b < w.heap.size → F b → A b) : TyV A w' t v := by
  obtain ⟨u, rfl, h⟩ := h
  exact ⟨u, rfl, h.ext isTy_good x hF⟩
theorem TyV.mono {A B : Nat → Prop} {w : World} {t : Ty} {v : Value} (h : TyV A w t v) (hB : ∀ b, b < w.heap.size → B b → A b) : TyV B w t v := by
  obtain ⟨u, rfl, h⟩ := h
  exact ⟨u, rfl, h.mono isTy_good hB⟩
/-- A type stored into a block of its own frame. -/
theorem TyV.stored {A : Nat → Prop} {w : World} {t : Ty} {x : Value} {b : Nat} (h : IsSl 3 IsTy (and1 A b) w x t.args) (y0 y1 y2 : Value) :
    TyV A (((w.setCell ⟨b, 0, none⟩ y0).setCell ⟨b, 1, none⟩ y1).setCell ⟨b, 2, none⟩ y2) t (.agg #[.int .i64 t.kind, .string ⟨t.name.toArray⟩, x]) :=
  ⟨_, rfl, (h.ext isTy_good (Ext.self3 _ _ _ _ _) fun _ _ q => .inr q).mono isTy_good fun _ _ q => .inl q⟩
/-! ### strings -/
def IsStr : Lay (List UInt8) := fun _ _ s cs => cs = [.string ⟨s.toArray⟩]
theorem isStr_good : Good 1 IsStr where
  len h := by subst h; rfl
  one h := by subst h; intro u hu; simp at hu; subst hu; rfl
  ext h _ _ := h
  mono h _ := h
abbrev IsStrs (A : Nat → Prop) (w : World) (v : Value) (l : List (List UInt8)) : Prop := IsSl 1 IsStr A w v l
theorem IsStrs.cell {A : Nat → Prop} {w : World} {a : Option Addr} {n cap : Nat} {l : List (List UInt8)} (h : IsStrs A w (.slice a n cap) l) (i : Nat) (hi : i < l.length) : ∃ b off, a = some ⟨b, off, none⟩ ∧ w.cell? ⟨b, off + i, none⟩ = some (.string ⟨l[i].toArray⟩) := by
  obtain ⟨b, off, cs, rfl, _, _, hc, rfl⟩ := h.at i hi
  exact ⟨b, off, rfl, by simpa using hc 0 _ rfl⟩
end Go.Proofs.YthbmjamgidfneaaGreatDoor
namespace Go.Proofs.YthbmjamgidfneaaGreatDoor
open Go.RowKit Go.Lib Go.BigFrame
/-- Where the first one is of which p holds; -1: of none. -/
def fstI {α : Type} (p : α → Bool) (l : List α) : Int := match l.findIdx? p with
  | some i => (i : Nat)
  | none => -1
theorem fstI_at {α : Type} {p : α → Bool} {l : List α} {i : Nat} (hi : i < l.length) (hp : p l[i] = true) (hn : ∀ j (h : j < l.length), j < i → p l[j] = false) : fstI p l = (i : Nat) := by
  have e : l.findIdx? p = some i := by
    rw [List.findIdx?_eq_some_iff_getElem]
    exact ⟨hi, hp, fun j hj => by rw [hn j (by omega) hj]; simp⟩
  unfold fstI; rw [e]
theorem fstI_none {α : Type} {p : α → Bool} {l : List α} (hn : ∀ j (h : j < l.length), p l[j] = false) : fstI p l = -1 := by
  have e : l.findIdx? p = none := by
    rw [List.findIdx?_eq_none_iff]
    intro x hx
    obtain ⟨j, hj, rfl⟩ := List.mem_iff_getElem.1 hx
    rw [hn j hj]
  unfold fstI; rw [e]
theorem fstI_cases {α : Type} (p : α → Bool) (l : List α) : (fstI p l = -1 ∧ ∀ x ∈ l, p x = false) ∨ ∃ i, ∃ h : i < l.length, fstI p l = (i : Nat) ∧ p l[i] = true := by
  unfold fstI
  cases h : l.findIdx? p with
  | none => left; rw [List.findIdx?_eq_none_iff] at h; exact ⟨rfl, fun x hx => by simpa using h x hx⟩
  | some i =>
    right
    rw [List.findIdx?_eq_some_iff_getElem] at h
    obtain ⟨h1, h2, _⟩ := h
    exact ⟨i, h1, rfl, h2⟩
def IntP (z : Int) (w : World) (e : Ending) (w' : World) : Prop := e = .returned (.int .i64 z) ∧ Ext none' w w'
def BoolP (b : Bool) (w : World) (e : Ending) (w' : World) : Prop := e = .returned (.bool b) ∧ Ext none' w w'
/-- How large a tree may be. -/
def bigD : Nat := 4000000000
end Go.Proofs.YthbmjamgidfneaaGreatDoor
/-
  A region that draws its order: plain operations first in the text's order, then a forced chain, then plain operations again.
-/
namespace Go.Proofs.YthbmjamgidfneaaGreatDoor
open Go.RowKit Go.Lib
section
variable {P : Program} {ops : Array Oper} {Q : Exit → Act → World → Prop} {md : Region.Mode} {S : World → Prop}
def allE : Nat → Bool := fun _ => true
def forcedB (md : Region.Mode) (ops : Array Oper) : List Nat → Array Bool → Bool
  | [], _ => true
  | j :: r, listed => (Region.ready md ops listed) == [j] && forcedB md ops r (listed.setIfInBounds j true)
def wpChainK (P : Program) (l : List Oper) (Q : Exit → Act → World → Prop) (S : World → Prop) (K : Act → World → Prop) : List Nat → Act → World → Prop
  | [], a, w => K a w
  | j :: r, a, w => wpList P l.toArray (Exit.then (fun a' w' => S w' ∧ wpChainK P l Q S K r a' w') Q) (sel l [j]) a w
theorem phaseBK (l : List Oper) (hl : l.toArray = ops) (K : Act → World → Prop) (fuel : Nat) : ∀ (lB : List Nat) (listed : Array Bool) (a : Act) (w : World),
    forcedB md ops lB listed = true → Down md ops listed → S w → wpChainK P l Q S K lB a w → (∀ a' w', S w' → K a' w' → Down md ops (listedA lB listed) → wpAnyE P md ops Q S allE fuel (listedA lB listed) a' w') → wpAnyE P md ops Q S allE (lB.length + fuel) listed a w
  | [], listed, a, w, _, hd, hS, h, hK => by simpa [listedA] using hK a w hS h hd
  | j :: r, listed, a, w, hc, hd, hS, h, hK => by
    simp only [forcedB, Bool.and_eq_true, beq_iff_eq] at hc
    rw [List.length_cons, Nat.add_right_comm]
    refine ⟨fun h0 => (by rw [hc.1] at h0; cases h0), fun i hi => ?_⟩
    rw [hc.1, List.mem_singleton] at hi
    subst hi
    have hm : i ∈ Region.ready md ops listed := by rw [hc.1]; simp
    obtain ⟨_, oi, hoi, _⟩ := mem_ready.1 hm
    have hli : l[i]? = some oi := by rw [← hl] at hoi; simpa using hoi
    simp only [wpChainK, sel, hli, hl, wpList] at h
    have hnext : ∀ a' w', (S w' ∧ wpChainK P l Q S K r a' w') → (allE i = true → S w') ∧ wpAnyE P md ops Q S allE (r.length + fuel) (listed.setIfInBounds i true) a' w' :=
      fun a' w' hx => ⟨fun _ => hx.1, phaseBK l hl K fuel r (listed.setIfInBounds i true) a' w' hc.2 (hd.step hm) hx.1 hx.2 hK⟩
    unfold wpOp
    simp only [hoi]
    split at h
    · rename_i hw
      rw [if_pos hw]
      refine h.imp (fun h => wp_exits (fun a' w' hx => hnext a' w' hx) (fun c a w hx => hx) (fun ⟨a, w, hx⟩ => ⟨a, w, hx⟩) h) (fun ⟨h1, a, w, hx⟩ => ⟨h1, a, w, hx⟩)
    · rename_i hw
      rw [if_neg hw]
      exact hnext _ _ h
/-- All that is checked of a region by running it. -/
def mixed3B (ops : Array Oper) (lA lB lC : List Nat) : Bool :=
  Region.noSelect ops && readyA .any ops lA (Array.replicate ops.size false) && forcedB .any ops lB (listedA lA (Array.replicate ops.size false)) &&
  readyA .any ops lC (listedA lB (listedA lA (Array.replicate ops.size false))) && (Region.ready .any ops (listedA lC (listedA lB (listedA lA (Array.replicate ops.size false))))).isEmpty && lA.length + (lB.length + (lC.length + 0)) == ops.size
theorem down_all : ∀ (lA : List Nat) (listed : Array Bool), readyA md ops lA listed = true → Down md ops listed → Down md ops (listedA lA listed)
  | [], _, _, h => h
  | i :: r, listed, hr, h => by
    simp only [readyA, Bool.and_eq_true, List.contains_eq_mem, decide_eq_true_eq] at hr
    exact down_all r _ hr.2 (h.step hr.1.1.1)
theorem region_mixed3 {id : Nat} {a : Act} {w : World} {l : List Oper} (S : World → Prop) (lA lB lC : List Nat) (hm : P.follows .mixedOrders = true) (hB : mixed3B l.toArray lA lB lC = true)
    (hQ : ∀ (dst : Option Tmp) v c a w, Q (.panic c) (a.put dst v) w → Q (.panic c) a w) (hS : S w.drew)
    (h : wpQuiet P l.toArray S (fun a' => wpChainK P l Q S (fun a2 w2 => wpQuiet P l.toArray S (fun a3 => Q .normal a3 w2) (sel l lC) a2) lB a' w.drew) (sel l lA) a) : (Code.region id l.toArray true).wp P Q a w := by
  simp only [mixed3B, Bool.and_eq_true, beq_iff_eq] at hB
  obtain ⟨⟨⟨⟨⟨h1, h2⟩, h3⟩, h4⟩, h5⟩, h6⟩ := hB
  refine wp_region_any hm (wpAny_of_E (S := S) (E := allE) _ _ _ _ ?_)
  have hd0 : Down .any l.toArray (Array.replicate l.toArray.size false) := by
    intro k ok hk hl
    rw [getD_replicate] at hl
    cases hl
  have hall : ∀ x : List Nat, (x.all fun i => (List.range l.toArray.size).all fun j => allE j || waitsB .any l.toArray l.toArray.size j i) = true := fun x => by simp [allE]
  rw [show l.toArray.size = lA.length + (lB.length + (lC.length + 0)) from h6.symm] at h2 h3 h4 h5 hd0 ⊢
  refine phaseA l rfl h1 hQ hS _ _ lA _ a h2 (hall lA) hd0 h ?_
  intro a' h'
  refine phaseBK l rfl _ _ lB _ a' _ h3 (down_all lA _ h2 hd0) hS h' ?_
  intro a2 w2 hS2 h2' hd2
  refine phaseA l rfl h1 hQ hS2 _ 0 lC _ a2 h4 (hall lC) hd2 h2' ?_
  intro a3 h3'
  exact ⟨by simpa using h5, h3'⟩
/-! ### where a panic's post reads the frame's first slots -/
def dstsB (ops : Array Oper) (l : List Nat) : Bool := l.all fun i => match ops[i]? with
  | some o => (match o.dst with
    | some d => decide (4 ≤ d)
    | none => true)
  | none => true
theorem dsts_put {o : Oper} {i : Nat} {l : List Nat} (h : dstsB ops l = true) (hi : i ∈ l) (ho : ops[i]? = some o) (hQ : ∀ d v c a w, 4 ≤ d → Q (.panic c) (a.put (some d) v) w → Q (.panic c) a w) (v : Value) (c) (a : Act) (w : World) (hp : Q (.panic c) (a.put o.dst v) w) : Q (.panic c) a w := by
  have h1 := List.all_eq_true.1 h i hi
  rw [ho] at h1
  simp only at h1
  cases hd : o.dst with
  | none => rw [hd] at hp; exact hp
  | some d =>
    rw [hd] at hp h1
    exact hQ d v c a w (by simpa using h1) hp
theorem phaseAd (l : List Oper) (hl : l.toArray = ops) (hs : Region.noSelect ops = true) (hQ : ∀ d v c a w, 4 ≤ d → Q (.panic c) (a.put (some d) v) w → Q (.panic c) a w) {w : World} (hS : S w) (K : Act → Prop) (fuel : Nat) : ∀ (lA : List Nat) (listed : Array Bool) (a : Act),
    readyA md ops lA listed = true → dstsB ops lA = true → Down md ops listed →
    wpQuiet P ops S K (sel l lA) a → (∀ a', K a' → wpAnyE P md ops Q S allE fuel (listedA lA listed) a' w) → wpAnyE P md ops Q S allE (lA.length + fuel) listed a w
  | [], listed, a, _, _, _, h, hK => by simpa [listedA] using hK a h
  | i :: r, listed, a, hr, he, hd, h, hK => by
    simp only [readyA, Bool.and_eq_true, List.contains_eq_mem, decide_eq_true_eq] at hr
    obtain ⟨⟨⟨hr1, hf⟩, hp⟩, hr2⟩ := hr
    have he' : dstsB ops r = true := by
      simp only [dstsB, List.all_cons, Bool.and_eq_true] at he
      exact he.2
    have hi : ∃ oi, ops[i]? = some oi ∧ plainOp oi.op = true := by
      cases h' : ops[i]? with
      | none => rw [h'] at hp; simp at hp
      | some o => rw [h'] at hp; exact ⟨o, rfl, by simpa using hp⟩
    obtain ⟨oi, hi, hpl⟩ := hi
    have hli : l[i]? = some oi := by rw [← hl] at hi; simpa using hi
    have hsel : sel l (i :: r) = oi :: sel l r := by simp only [sel, hli]
    rw [hsel] at h
    obtain ⟨v, hy, hk⟩ := yieldsIf_of hpl h ⟨w, hS⟩
    rw [List.length_cons, Nat.add_right_comm]
    refine wpAnyE_first hi (fun j o cs b hj => Region.noSelect_spec hs j o cs b hj) (fun c a w => dsts_put he (by simp) hi hQ v c a w) ?_ (r.length + fuel) listed a w hd (Region.free_spec hi hf) hr1 hy hS ?_
    · intro j oj hj hE
      cases hE
    · exact phaseAd l hl hs hQ hS K fuel r _ _ hr2 he' (hd.step hr1) hk hK
theorem region_mixed3d {id : Nat} {a : Act} {w : World} {l : List Oper} (S : World → Prop) (lA lB lC : List Nat) (hm : P.follows .mixedOrders = true) (hB : mixed3B l.toArray lA lB lC = true) (hdA : dstsB l.toArray lA = true) (hdC : dstsB l.toArray lC = true)
    (hQ : ∀ d v c a w, 4 ≤ d → Q (.panic c) (a.put (some d) v) w → Q (.panic c) a w) (hS : S w.drew)
    (h : wpQuiet P l.toArray S (fun a' => wpChainK P l Q S (fun a2 w2 => wpQuiet P l.toArray S (fun a3 => Q .normal a3 w2) (sel l lC) a2) lB a' w.drew) (sel l lA) a) : (Code.region id l.toArray true).wp P Q a w := by
  simp only [mixed3B, Bool.and_eq_true, beq_iff_eq] at hB
  obtain ⟨⟨⟨⟨⟨h1, h2⟩, h3⟩, h4⟩, h5⟩, h6⟩ := hB
  refine wp_region_any hm (wpAny_of_E (S := S) (E := allE) _ _ _ _ ?_)
  have hd0 : Down .any l.toArray (Array.replicate l.toArray.size false) := by
    intro k ok hk hl
    rw [getD_replicate] at hl
    cases hl
  rw [show l.toArray.size = lA.length + (lB.length + (lC.length + 0)) from h6.symm] at h2 h3 h4 h5 hd0 ⊢
  refine phaseAd l rfl h1 hQ hS _ _ lA _ a h2 hdA hd0 h ?_
  intro a' h'
  refine phaseBK l rfl _ _ lB _ a' _ h3 (down_all lA _ h2 hd0) hS h' ?_
  intro a2 w2 hS2 h2' hd2
  refine phaseAd l rfl h1 hQ hS2 _ 0 lC _ a2 h4 hdC hd2 h2' ?_
  intro a3 h3'
  exact ⟨by simpa using h5, h3'⟩
end
end Go.Proofs.YthbmjamgidfneaaGreatDoor
/-
  A region that draws its order: plain operations first in the text's order, then the others in each order that their edges leave (a tree of at most two ways at a time).
-/
namespace Go.Proofs.YthbmjamgidfneaaGreatDoor
open Go.RowKit Go.Lib
inductive Br where
  | fin
  | one (i : Nat) (b : Bool) (r : Br)
  | two (i : Nat) (b : Bool) (r : Br) (j : Nat) (c : Bool) (q : Br)
def Br.depth : Br → Nat
  | .fin => 0
  | .one _ _ r => r.depth + 1
  | .two _ _ r _ _ _ => r.depth + 1
def Br.early : Br → List Nat
  | .fin => []
  | .one i b r => (if b then [] else [i]) ++ r.early
  | .two i b r j c q => (if b then [] else [i]) ++ (r.early ++ ((if c then [] else [j]) ++ q.early))
section
variable {P : Program} {ops : Array Oper} {Q : Exit → Act → World → Prop} {md : Region.Mode} {S : World → Prop} {E : Nat → Bool}
def stepT (P : Program) (l : List Oper) (Q : Exit → Act → World → Prop) (S : World → Prop) (i : Nat) (b : Bool) (K : Act → World → Prop) (a : Act) (w : World) : Prop :=
  wpList P l.toArray (Exit.then (fun a' w' => match b with | true => S w' ∧ K a' w' | false => K a' w') Q) (sel l [i]) a w
def wpTree (P : Program) (l : List Oper) (Q : Exit → Act → World → Prop) (S : World → Prop) : Br → Act → World → Prop
  | .fin, a, w => Q .normal a w
  | .one i b r, a, w => stepT P l Q S i b (wpTree P l Q S r) a w
  | .two i b r j c q, a, w => stepT P l Q S i b (wpTree P l Q S r) a w ∧ stepT P l Q S j c (wpTree P l Q S q) a w
def treeB (md : Region.Mode) (ops : Array Oper) : Br → Array Bool → Bool
  | .fin, listed => (Region.ready md ops listed).isEmpty
  | .one i _ r, listed => (Region.ready md ops listed) == [i] && treeB md ops r (listed.setIfInBounds i true)
  | .two i _ r j _ q, listed => (Region.ready md ops listed) == [i, j] && treeB md ops r (listed.setIfInBounds i true) && treeB md ops q (listed.setIfInBounds j true) && r.depth == q.depth
theorem stepT_op (l : List Oper) (hl : l.toArray = ops) {listed : Array Bool} {a : Act} {w : World} {i : Nat} {b : Bool} {K : Act → World → Prop} {fuel : Nat} (hm : i ∈ Region.ready md ops listed) (he : b = false → E i = false)
    (hK : ∀ a' w', K a' w' → wpAnyE P md ops Q S E fuel (listed.setIfInBounds i true) a' w') (h : stepT P l Q S i b K a w) : wpOp P ops Q i (fun a' w' => (E i = true → S w') ∧ wpAnyE P md ops Q S E fuel (listed.setIfInBounds i true) a' w') a w := by
  obtain ⟨_, oi, hoi, _⟩ := mem_ready.1 hm
  have hli : l[i]? = some oi := by rw [← hl] at hoi; simpa using hoi
  simp only [stepT, sel, hli, hl, wpList] at h
  have hnext : ∀ a' w', (match b with | true => S w' ∧ K a' w' | false => K a' w') → (E i = true → S w') ∧ wpAnyE P md ops Q S E fuel (listed.setIfInBounds i true) a' w' := by
    intro a' w' hx
    cases b with
    | true => exact ⟨fun _ => hx.1, hK _ _ hx.2⟩
    | false => exact ⟨fun hE => (by rw [he rfl] at hE; cases hE), hK _ _ hx⟩
  unfold wpOp
  simp only [hoi]
  split at h
  · rename_i hw
    rw [if_pos hw]
    refine h.imp (fun h => wp_exits (fun a' w' hx => hnext a' w' hx) (fun c a w hx => hx) (fun ⟨a, w, hx⟩ => ⟨a, w, hx⟩) h) (fun ⟨h1, a, w, hx⟩ => ⟨h1, a, w, hx⟩)
  · rename_i hw
    rw [if_neg hw]
    exact hnext _ _ h
theorem phaseT (l : List Oper) (hl : l.toArray = ops) : ∀ (t : Br) (listed : Array Bool) (a : Act) (w : World), treeB md ops t listed = true → (∀ j ∈ t.early, E j = false) → wpTree P l Q S t a w → wpAnyE P md ops Q S E t.depth listed a w
  | .fin, listed, a, w, hc, _, h => ⟨by simpa [treeB] using hc, h⟩
  | .one i b r, listed, a, w, hc, he, h => by
    simp only [treeB, Bool.and_eq_true, beq_iff_eq] at hc
    refine ⟨fun h0 => (by rw [hc.1] at h0; cases h0), fun k hk => ?_⟩
    have hk' := hk
    rw [hc.1, List.mem_singleton] at hk'
    subst hk'
    exact stepT_op l hl hk (fun hb => he _ (by simp [Br.early, hb])) (fun a' w' h' => phaseT l hl r _ a' w' hc.2 (fun j hj => he j (by simp [Br.early, hj])) h') h
  | .two i b r j c q, listed, a, w, hc, he, h => by
    simp only [treeB, Bool.and_eq_true, beq_iff_eq] at hc
    obtain ⟨⟨⟨h1, h2⟩, h3⟩, h4⟩ := hc
    refine ⟨fun h0 => (by rw [h1] at h0; cases h0), fun k hk => ?_⟩
    have hk' := hk
    rw [h1] at hk'
    simp only [List.mem_cons, List.mem_nil_iff, or_false] at hk'
    rcases hk' with rfl | rfl
    · exact stepT_op l hl hk (fun hb => he _ (by simp [Br.early, hb])) (fun a' w' h' => phaseT l hl r _ a' w' h2 (fun j hj => he j (by simp [Br.early, hj])) h') h.1
    · refine stepT_op l hl hk (fun hb => he _ (by simp [Br.early, hb])) (fun a' w' h' => ?_) h.2
      have := phaseT l hl q _ a' w' h3 (fun j hj => he j (by simp [Br.early, hj])) h'
      rw [← h4] at this
      exact this
/-- All that is checked of a region by running it. -/
def mixedTB (ops : Array Oper) (lA : List Nat) (t : Br) : Bool :=
  Region.noSelect ops && readyA .any ops lA (Array.replicate ops.size false) && treeB .any ops t (listedA lA (Array.replicate ops.size false)) &&
  (lA.all fun i => (List.range ops.size).all fun j => !t.early.contains j || waitsB .any ops ops.size j i) && lA.length + t.depth == ops.size
theorem region_tree {id : Nat} {a : Act} {w : World} {l : List Oper} (F : Nat → Prop) (w0 : World) (lA : List Nat) (t : Br) (hm : P.follows .mixedOrders = true) (hB : mixedTB l.toArray lA t = true)
    (hQ : ∀ (dst : Option Tmp) v c a w, Q (.panic c) (a.put dst v) w → Q (.panic c) a w) (hC : Ext F w0 w)
    (h : wpQuiet P l.toArray (fun w' => ∃ t : LaterF F w0, w' = t.w) (fun a' => wpTree P l Q (In F w0) t a' w.drew) (sel l lA) a) : (Code.region id l.toArray true).wp P Q a w := by
  simp only [mixedTB, Bool.and_eq_true, beq_iff_eq] at hB
  obtain ⟨⟨⟨⟨h1, h2⟩, h3⟩, h4⟩, h5⟩ := hB
  refine wp_region_any hm (wpAny_of_E (S := In F w0) (E := fun j => !t.early.contains j) _ _ _ _ ?_)
  rw [← h5] at h2 h3
  rw [← h5]
  refine phaseA l rfl h1 hQ (In.of hC.drew) _ t.depth lA _ a h2 ?_ ?_ h ?_
  · exact h4
  · intro k ok hk hl
    rw [getD_replicate] at hl
    cases hl
  · intro a' h'
    exact phaseT l rfl t _ a' _ h3 (fun j hj => by simp [hj]) h'
end
end Go.Proofs.YthbmjamgidfneaaGreatDoor
