/-
  What stands behind a type: plain. No Go in sight.
-/
import Derived.Test.YtmlhkgocilpobaaKiFP
namespace Go.Proofs.Ytmlhkgocilpobaa
open Go.Lib
mutual
/-- How many types are in one, and it, up to a bit more than may be. -/
def sizeW : Ty → Nat
  | .mk _ _ l => sizeWL l 1
def sizeWL : List Ty → Nat → Nat
  | [], n => n
  | t :: r, n => sizeWL r (if n ≤ 1000 then n + sizeW t else n)
end
theorem sizeWL_le : ∀ (l : List Ty) (n : Nat), (∀ t ∈ l, sizeW t ≤ t.size) → n ≤ sizeWL l n ∧ sizeWL l n ≤ n + Ty.sizeL l
  | [], n, _ => by simp [sizeWL, Ty.sizeL]
  | t :: r, n, h => by
    have h1 := h t (by simp)
    have h2 := sizeWL_le r (if n ≤ 1000 then n + sizeW t else n) fun x hx => h x (by simp [hx])
    rw [sizeWL, Ty.sizeL]
    split at h2 <;> split <;> omega
theorem sizeW_le (t : Ty) : sizeW t ≤ t.size := by
  induction t using Ty.induct with
  | h k n l ih => have := sizeWL_le l 1 ih; rw [sizeW, Ty.size]; omega
theorem sizeW_snoc (l : List Ty) (t : Ty) (n : Nat) : sizeWL (l ++ [t]) n = if sizeWL l n ≤ 1000 then sizeWL l n + sizeW t else sizeWL l n := by
  induction l generalizing n with
  | nil => rfl
  | cons a r ih => rw [List.cons_append, sizeWL, ih, sizeWL]
theorem sizeWL_eq : ∀ (l : List Ty) (n : Nat), (∀ t ∈ l, sizeW t ≤ 1000 → t.size ≤ sizeW t) → sizeWL l n ≤ 1000 → n + Ty.sizeL l ≤ sizeWL l n
  | [], n, _, _ => by simp [sizeWL, Ty.sizeL]
  | t :: r, n, h, hb => by
    rw [sizeWL] at hb ⊢
    have mono : ∀ (l : List Ty) (n : Nat), n ≤ sizeWL l n := fun l n => (sizeWL_le l n fun x _ => sizeW_le x).1
    have h1 := mono r (if n ≤ 1000 then n + sizeW t else n)
    have hn : n ≤ 1000 := by
      by_cases q : n ≤ 1000
      · exact q
      · rw [if_neg q] at h1; rw [if_neg q] at hb; omega
    rw [if_pos hn] at hb h1 ⊢
    have h2 := h t (by simp) (by omega)
    have h3 := sizeWL_eq r (n + sizeW t) (fun x hx => h x (by simp [hx])) hb
    rw [Ty.sizeL]; omega
theorem sizeW_eq (t : Ty) : sizeW t ≤ 1000 → t.size ≤ sizeW t := by
  induction t using Ty.induct with
  | h k n l ih => intro h; rw [sizeW] at h ⊢; have := sizeWL_eq l 1 ih h; rw [Ty.size]; omega
def findD (ds : List Df) (t : Ty) : Option Df := match defAt ds t.name with
  | none => none
  | some d => if d.params.length = t.args.length then some d else none
theorem findD_mem {ds : List Df} {t : Ty} {d : Df} (h : findD ds t = some d) : d ∈ ds := by
  unfold findD at h
  split at h
  · cases h
  · rename_i d' hd
    split at h
    · injection h with h; subst h; exact defAt_mem hd
    · cases h
def behP (ds : List Df) : Nat → Ty → Ty
  | 0, _ => Ty.zero
  | f + 1, t => if t.kind ≠ 3 then t else match findD ds t with
    | none => Ty.zero
    | some d => if 1000 < sizeW t then Ty.zero else behP ds f (withT d.params t.args d.ty)
def behindP (ds : List Df) (t : Ty) : Ty := behP ds 100 t
theorem beh_size {ds : List Df} (hd : DefsOk ds) {t : Ty} {d : Df} (h : findD ds t = some d) (hs : sizeW t ≤ 1000) : (withT d.params t.args d.ty).size ≤ bigD := by
  have h0 := sizeW_eq t hs
  have h1 := hd d (findD_mem h)
  have h2 := withT_size (ps := d.params) (by' := t.args) (m := 1000) (by omega) (fun x hx => by have := Ty.size_arg hx; omega) d.ty
  have h3 : d.ty.size * 1000 ≤ 1000000 * 1000 := Nat.mul_le_mul_right _ h1
  unfold bigD; omega
end Go.Proofs.Ytmlhkgocilpobaa
