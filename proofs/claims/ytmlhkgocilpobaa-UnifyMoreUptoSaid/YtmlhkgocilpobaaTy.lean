/-
  Types (kinds.Type, demoticref10.Type) as trees, and how a tree lies in memory. No function of the program in sight.
-/
import Derived.Test.YtmlhkgocilpobaaGen
namespace Go.Proofs.Ytmlhkgocilpobaa
open Go.RowKit Go.Lib
inductive Ty where
  | mk (kind : Int) (name : List UInt8) (args : List Ty)
def Ty.kind : Ty → Int | .mk k _ _ => k
def Ty.name : Ty → List UInt8 | .mk _ n _ => n
def Ty.args : Ty → List Ty | .mk _ _ l => l
theorem Ty.eta (t : Ty) : t = .mk t.kind t.name t.args := by cases t; rfl
def Ty.zero : Ty := .mk 0 [] []
mutual
def Ty.size : Ty → Nat
  | .mk _ _ l => Ty.sizeL l + 1
def Ty.sizeL : List Ty → Nat
  | [] => 0
  | t :: r => Ty.size t + Ty.sizeL r
end
theorem Ty.size_pos (t : Ty) : 1 ≤ t.size := by cases t; simp [Ty.size]
theorem Ty.sizeL_mem : ∀ {l : List Ty} {t : Ty}, t ∈ l → t.size ≤ Ty.sizeL l
  | a :: r, t, h => by
    rw [Ty.sizeL]
    rcases List.mem_cons.1 h with rfl | h
    · omega
    · have := Ty.sizeL_mem h; omega
theorem Ty.size_arg {t x : Ty} (h : x ∈ t.args) : x.size < t.size := by
  cases t with
  | mk k n l => have := Ty.sizeL_mem h; rw [Ty.size]; exact Nat.lt_succ_of_le this
theorem Ty.sizeL_len : ∀ l : List Ty, l.length ≤ Ty.sizeL l
  | [] => by simp [Ty.sizeL]
  | t :: r => by
    have := Ty.sizeL_len r
    have := t.size_pos
    rw [Ty.sizeL, List.length_cons]; omega
theorem Ty.args_len (t : Ty) : t.args.length < t.size := by
  cases t with
  | mk k n l => have := Ty.sizeL_len l; rw [Ty.size]; exact Nat.lt_succ_of_le this
theorem Ty.sizeL_append : ∀ (l m : List Ty), Ty.sizeL (l ++ m) = Ty.sizeL l + Ty.sizeL m
  | [], m => by simp [Ty.sizeL]
  | t :: r, m => by rw [List.cons_append, Ty.sizeL, Ty.sizeL, Ty.sizeL_append r m]; omega
/-- Induction over a tree: what holds of a type if it holds of all types in it. -/
theorem Ty.induct {P : Ty → Prop} (h : ∀ k n l, (∀ t ∈ l, P t) → P (.mk k n l)) (t : Ty) : P t := by
  have key : ∀ (m : Nat) (t : Ty), t.size ≤ m → P t := by
    intro m
    induction m with
    | zero => intro t ht; have := t.size_pos; omega
    | succ m ih =>
      intro t ht
      cases t with
      | mk k n l =>
        refine h k n l fun x hx => ih x ?_
        have := Ty.size_arg (t := .mk k n l) hx
        omega
  exact key t.size t (Nat.le_refl _)
/-- A tree in three cells. -/
inductive IsTy (A : Nat → Prop) (w : World) : Ty → List Value → Prop
  | mk (k : Int) (n : List UInt8) (l : List Ty) (a : Option Addr) (cap b off : Nat) (c : Nat → List Value) (hcap : l.length ≤ cap) (hn : a = none → cap = 0) (hb : l ≠ [] → a = some ⟨b, off, none⟩ ∧ ¬ A b ∧ b < w.heap.size)
      (hc : ∀ i, i < l.length → Cells w b (off + i * 3) (c i)) (hr : ∀ i (h : i < l.length), IsTy A w l[i] (c i)) : IsTy A w (.mk k n l) [.int .i64 k, .string ⟨n.toArray⟩, .slice a l.length cap]
theorem IsTy.parts {A : Nat → Prop} {w : World} {t : Ty} {cs : List Value} (h : IsTy A w t cs) : ∃ v, cs = [.int .i64 t.kind, .string ⟨t.name.toArray⟩, v] ∧ IsSl 3 IsTy A w v t.args := by
  cases h with
  | mk k n l a cap b off c hcap hn hb hc hr =>
    refine ⟨_, rfl, a, cap, rfl, hcap, hn, fun hl => ?_⟩
    obtain ⟨h1, h2, h3⟩ := hb hl
    exact ⟨b, off, h1, h2, h3, fun i hi => ⟨c i, hc i hi, hr i hi⟩⟩
theorem IsTy.of {A : Nat → Prop} {w : World} {k : Int} {n : List UInt8} {l : List Ty} {v : Value} (h : IsSl 3 IsTy A w v l) : IsTy A w (.mk k n l) [.int .i64 k, .string ⟨n.toArray⟩, v] := by
  obtain ⟨a, cap, rfl, hc, hn, h⟩ := h
  by_cases hl : l = []
  · subst hl
    exact IsTy.mk k n [] a cap 0 0 (fun _ => []) hc hn (fun h => absurd rfl h) (fun i hi => by simp at hi) (fun i hi => by simp at hi)
  · obtain ⟨b, off, rfl, hA, hb, h⟩ := h hl
    have hx : ∀ i, ∃ cs, ∀ (hi : i < l.length), Cells w b (off + i * 3) cs ∧ IsTy A w l[i] cs := fun i => by
      by_cases hi : i < l.length
      · obtain ⟨cs, h1, h2⟩ := h i hi
        exact ⟨cs, fun _ => ⟨h1, h2⟩⟩
      · exact ⟨[], fun h => absurd h hi⟩
    obtain ⟨c, hc'⟩ := Classical.axiomOfChoice hx
    exact IsTy.mk k n l _ cap b off c hc (fun h => by cases h) (fun _ => ⟨rfl, hA, hb⟩) (fun i hi => (hc' i hi).1) (fun i hi => (hc' i hi).2)
theorem isTy_good : Good 3 IsTy where
  len h := by cases h; rfl
  one h := by cases h; intro u hu; simp at hu; rcases hu with rfl | rfl | rfl <;> rfl
  ext {A F w w' x cs} h x' hF := by
    induction h with
    | mk k n l a cap b off c hcap hn hb hc hr ih =>
      refine IsTy.mk k n l a cap b off c hcap hn (fun hl => ?_) (fun i hi => ?_) ih
      · obtain ⟨h1, h2, h3⟩ := hb hl
        exact ⟨h1, h2, Nat.lt_of_lt_of_le h3 x'.size⟩
      · obtain ⟨h1, h2, h3⟩ := hb (by intro e; subst e; simp at hi)
        exact (hc i hi).ext x' h3 fun q => h2 (hF _ h3 q)
  mono {A B w x cs} h hB := by
    induction h with
    | mk k n l a cap b off c hcap hn hb hc hr ih =>
      refine IsTy.mk k n l a cap b off c hcap hn (fun hl => ?_) hc ih
      obtain ⟨h1, h2, h3⟩ := hb hl
      exact ⟨h1, fun q => h2 (hB _ h3 q), h3⟩
/-- A type as a value. -/
def TyV (A : Nat → Prop) (w : World) (t : Ty) (v : Value) : Prop := ∃ x, v = .agg #[.int .i64 t.kind, .string ⟨t.name.toArray⟩, x] ∧ IsSl 3 IsTy A w x t.args
theorem TyV.ty {A : Nat → Prop} {w : World} {t : Ty} {x : Value} (h : IsSl 3 IsTy A w x t.args) : IsTy A w t [.int .i64 t.kind, .string ⟨t.name.toArray⟩, x] := by
  cases t with
  | mk k n l => exact IsTy.of h
theorem TyV.ext {A F : Nat → Prop} {w w' : World} {t : Ty} {v : Value} (h : TyV A w t v) (x : Ext F w w') (hF : ∀ b, b < w.heap.size → F b → A b) : TyV A w' t v := by
  obtain ⟨u, rfl, h⟩ := h
  exact ⟨u, rfl, h.ext isTy_good x hF⟩
theorem TyV.mono {A B : Nat → Prop} {w : World} {t : Ty} {v : Value} (h : TyV A w t v) (hB : ∀ b, b < w.heap.size → B b → A b) : TyV B w t v := by
  obtain ⟨u, rfl, h⟩ := h
  exact ⟨u, rfl, h.mono isTy_good hB⟩
/-- A type stored into a block of its own frame. -/
theorem TyV.stored {A : Nat → Prop} {w : World} {t : Ty} {x : Value} {b : Nat} (h : IsSl 3 IsTy (and1 A b) w x t.args) (y0 y1 y2 : Value) :
    TyV A (((w.setCell ⟨b, 0, none⟩ y0).setCell ⟨b, 1, none⟩ y1).setCell ⟨b, 2, none⟩ y2) t (.agg #[.int .i64 t.kind, .string ⟨t.name.toArray⟩, x]) :=
  ⟨_, rfl, (h.ext isTy_good (Ext.self3 _ _ _ _ _) fun _ _ q => .inr q).mono isTy_good fun _ _ q => .inl q⟩
/-! ### strings -/
def IsStr : Lay (List UInt8) := fun _ _ s cs => cs = [.string ⟨s.toArray⟩]
theorem isStr_good : Good 1 IsStr where
  len h := by subst h; rfl
  one h := by subst h; intro u hu; simp at hu; subst hu; rfl
  ext h _ _ := h
  mono h _ := h
abbrev IsStrs (A : Nat → Prop) (w : World) (v : Value) (l : List (List UInt8)) : Prop := IsSl 1 IsStr A w v l
theorem IsStrs.cell {A : Nat → Prop} {w : World} {a : Option Addr} {n cap : Nat} {l : List (List UInt8)} (h : IsStrs A w (.slice a n cap) l) (i : Nat) (hi : i < l.length) : ∃ b off, a = some ⟨b, off, none⟩ ∧ w.cell? ⟨b, off + i, none⟩ = some (.string ⟨l[i].toArray⟩) := by
  obtain ⟨b, off, cs, rfl, _, _, hc, rfl⟩ := h.at i hi
  exact ⟨b, off, rfl, by simpa using hc 0 _ rfl⟩
end Go.Proofs.Ytmlhkgocilpobaa
