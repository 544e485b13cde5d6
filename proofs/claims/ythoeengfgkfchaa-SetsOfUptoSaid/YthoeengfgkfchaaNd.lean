/-
  Nodes (api.Node) as trees, and how a tree lies in memory. No function of the program in sight.
-/
import Derived.Test.YthoeengfgkfchaaGen
namespace Go.Proofs.Ythoeengfgkfchaa
open Go.RowKit Go.Lib
inductive Nd where
  | mk (kind : Int) (text : List UInt8) (kids : List Nd) (pos : Int)
def Nd.kind : Nd → Int | .mk k _ _ _ => k
def Nd.text : Nd → List UInt8 | .mk _ n _ _ => n
def Nd.kids : Nd → List Nd | .mk _ _ l _ => l
def Nd.pos : Nd → Int | .mk _ _ _ p => p
theorem Nd.eta (t : Nd) : t = .mk t.kind t.text t.kids t.pos := by cases t; rfl
mutual
def Nd.size : Nd → Nat
  | .mk _ _ l _ => Nd.sizeL l + 1
def Nd.sizeL : List Nd → Nat
  | [] => 0
  | t :: r => Nd.size t + Nd.sizeL r
end
theorem Nd.size_pos (t : Nd) : 1 ≤ t.size := by cases t; simp [Nd.size]
theorem Nd.sizeL_mem : ∀ {l : List Nd} {t : Nd}, t ∈ l → t.size ≤ Nd.sizeL l
  | a :: r, t, h => by
    rw [Nd.sizeL]
    rcases List.mem_cons.1 h with rfl | h
    · omega
    · have := Nd.sizeL_mem h; omega
theorem Nd.size_kid {t x : Nd} (h : x ∈ t.kids) : x.size < t.size := by
  cases t with
  | mk k n l p => have := Nd.sizeL_mem h; rw [Nd.size]; exact Nat.lt_succ_of_le this
theorem Nd.sizeL_len : ∀ l : List Nd, l.length ≤ Nd.sizeL l
  | [] => by simp [Nd.sizeL]
  | t :: r => by
    have := Nd.sizeL_len r
    have := t.size_pos
    rw [Nd.sizeL, List.length_cons]; omega
theorem Nd.kids_len (t : Nd) : t.kids.length < t.size := by
  cases t with
  | mk k n l p => have := Nd.sizeL_len l; rw [Nd.size]; exact Nat.lt_succ_of_le this
theorem Nd.sizeL_append : ∀ (l m : List Nd), Nd.sizeL (l ++ m) = Nd.sizeL l + Nd.sizeL m
  | [], m => by simp [Nd.sizeL]
  | t :: r, m => by rw [List.cons_append, Nd.sizeL, Nd.sizeL, Nd.sizeL_append r m]; omega
theorem Nd.induct {P : Nd → Prop} (h : ∀ k n l p, (∀ t ∈ l, P t) → P (.mk k n l p)) (t : Nd) : P t := by
  have key : ∀ (m : Nat) (t : Nd), t.size ≤ m → P t := by
    intro m
    induction m with
    | zero => intro t ht; have := t.size_pos; omega
    | succ m ih =>
      intro t ht
      cases t with
      | mk k n l p =>
        refine h k n l p fun x hx => ih x ?_
        have := Nd.size_kid (t := .mk k n l p) hx
        omega
  exact key t.size t (Nat.le_refl _)
/-- How many nodes there are, to a depth. -/
def sizeD : Nat → Nd → Nat
  | 0, _ => 0
  | f + 1, t => 1 + (t.kids.map (sizeD f)).sum
def sizeDL (f : Nat) (l : List Nd) : Nat := (l.map (sizeD f)).sum
theorem sizeDL_snoc (f : Nat) (l : List Nd) (t : Nd) : sizeDL f (l ++ [t]) = sizeDL f l + sizeD f t := by simp [sizeDL]
theorem sizeDL_le (f : Nat) : ∀ l : List Nd, (∀ t ∈ l, sizeD f t ≤ t.size) → sizeDL f l ≤ Nd.sizeL l
  | [], _ => Nat.zero_le _
  | t :: r, h => by
    have h1 := h t (by simp)
    have h2 := sizeDL_le f r fun x hx => h x (by simp [hx])
    simp only [sizeDL] at h2 ⊢
    rw [List.map_cons, List.sum_cons, Nd.sizeL]
    omega
theorem sizeD_le : ∀ (f : Nat) (t : Nd), sizeD f t ≤ t.size
  | 0, t => Nat.zero_le _
  | f + 1, .mk k n l p => by
    have := sizeDL_le f l fun x _ => sizeD_le f x
    rw [sizeD, Nd.size]
    simp only [Nd.kids]
    simp only [sizeDL] at this
    omega
theorem sizeDL_take (f : Nat) (l : List Nd) (i : Nat) : sizeDL f (l.take i) ≤ Nd.sizeL l := by
  have h1 := sizeDL_le f (l.take i) fun x _ => sizeD_le f x
  have e := Nd.sizeL_append (l.take i) (l.drop i)
  rw [List.take_append_drop] at e
  omega
/-- A tree in four cells. -/
inductive IsNd (A : Nat → Prop) (w : World) : Nd → List Value → Prop
  | mk (k : Int) (n : List UInt8) (l : List Nd) (p : Int) (a : Option Addr) (cap b off : Nat) (c : Nat → List Value) (hcap : l.length ≤ cap) (hn : a = none → cap = 0) (hb : l ≠ [] → a = some ⟨b, off, none⟩ ∧ ¬ A b ∧ b < w.heap.size)
      (hc : ∀ i, i < l.length → Cells w b (off + i * 4) (c i)) (hr : ∀ i (h : i < l.length), IsNd A w l[i] (c i)) : IsNd A w (.mk k n l p) [.int .i64 k, .string ⟨n.toArray⟩, .slice a l.length cap, .int .i64 p]
theorem IsNd.parts {A : Nat → Prop} {w : World} {t : Nd} {cs : List Value} (h : IsNd A w t cs) : ∃ v, cs = [.int .i64 t.kind, .string ⟨t.text.toArray⟩, v, .int .i64 t.pos] ∧ IsSl 4 IsNd A w v t.kids := by
  cases h with
  | mk k n l p a cap b off c hcap hn hb hc hr =>
    refine ⟨_, rfl, a, cap, rfl, hcap, hn, fun hl => ?_⟩
    obtain ⟨h1, h2, h3⟩ := hb hl
    exact ⟨b, off, h1, h2, h3, fun i hi => ⟨c i, hc i hi, hr i hi⟩⟩
theorem IsNd.of {A : Nat → Prop} {w : World} {k : Int} {n : List UInt8} {l : List Nd} {p : Int} {v : Value} (h : IsSl 4 IsNd A w v l) : IsNd A w (.mk k n l p) [.int .i64 k, .string ⟨n.toArray⟩, v, .int .i64 p] := by
  obtain ⟨a, cap, rfl, hc, hn, h⟩ := h
  by_cases hl : l = []
  · subst hl
    exact IsNd.mk k n [] p a cap 0 0 (fun _ => []) hc hn (fun h => absurd rfl h) (fun i hi => by simp at hi) (fun i hi => by simp at hi)
  · obtain ⟨b, off, rfl, hA, hb, h⟩ := h hl
    have hx : ∀ i, ∃ cs, ∀ (hi : i < l.length), Cells w b (off + i * 4) cs ∧ IsNd A w l[i] cs := fun i => by
      by_cases hi : i < l.length
      · obtain ⟨cs, h1, h2⟩ := h i hi
        exact ⟨cs, fun _ => ⟨h1, h2⟩⟩
      · exact ⟨[], fun h => absurd h hi⟩
    obtain ⟨c, hc'⟩ := Classical.axiomOfChoice hx
    exact IsNd.mk k n l p _ cap b off c hc (fun h => by cases h) (fun _ => ⟨rfl, hA, hb⟩) (fun i hi => (hc' i hi).1) (fun i hi => (hc' i hi).2)
theorem isNd_good : Good 4 IsNd where
  len h := by cases h; rfl
  one h := by cases h; intro u hu; simp at hu; rcases hu with rfl | rfl | rfl | rfl <;> rfl
  ext {A F w w' x cs} h x' hF := by
    induction h with
    | mk k n l p a cap b off c hcap hn hb hc hr ih =>
      refine IsNd.mk k n l p a cap b off c hcap hn (fun hl => ?_) (fun i hi => ?_) ih
      · obtain ⟨h1, h2, h3⟩ := hb hl
        exact ⟨h1, h2, Nat.lt_of_lt_of_le h3 x'.size⟩
      · obtain ⟨h1, h2, h3⟩ := hb (by intro e; subst e; simp at hi)
        exact (hc i hi).ext x' h3 fun q => h2 (hF _ h3 q)
  mono {A B w x cs} h hB := by
    induction h with
    | mk k n l p a cap b off c hcap hn hb hc hr ih =>
      refine IsNd.mk k n l p a cap b off c hcap hn (fun hl => ?_) hc ih
      obtain ⟨h1, h2, h3⟩ := hb hl
      exact ⟨h1, fun q => h2 (hB _ h3 q), h3⟩
/-- A node as a value. -/
def NdV (A : Nat → Prop) (w : World) (t : Nd) (v : Value) : Prop := ∃ x, v = .agg #[.int .i64 t.kind, .string ⟨t.text.toArray⟩, x, .int .i64 t.pos] ∧ IsSl 4 IsNd A w x t.kids
theorem NdV.nd {A : Nat → Prop} {w : World} {t : Nd} {x : Value} (h : IsSl 4 IsNd A w x t.kids) : IsNd A w t [.int .i64 t.kind, .string ⟨t.text.toArray⟩, x, .int .i64 t.pos] := by
  cases t with
  | mk k n l p => exact IsNd.of h
theorem NdV.ext {A F : Nat → Prop} {w w' : World} {t : Nd} {v : Value} (h : NdV A w t v) (x : Ext F w w') (hF : ∀ b, b < w.heap.size → F b → A b) : NdV A w' t v := by
  obtain ⟨u, rfl, h⟩ := h
  exact ⟨u, rfl, h.ext isNd_good x hF⟩
theorem NdV.mono {A B : Nat → Prop} {w : World} {t : Nd} {v : Value} (h : NdV A w t v) (hB : ∀ b, b < w.heap.size → B b → A b) : NdV B w t v := by
  obtain ⟨u, rfl, h⟩ := h
  exact ⟨u, rfl, h.mono isNd_good hB⟩
end Go.Proofs.Ythoeengfgkfchaa
