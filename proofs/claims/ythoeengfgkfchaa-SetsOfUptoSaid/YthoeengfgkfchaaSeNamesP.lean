/-
  Layer 11 (sets), plain: what a union of names lets in. No Go in sight.
-/
import Derived.Test.YthoeengfgkfchaaSeP
namespace Go.Proofs.Ythoeengfgkfchaa
open Go.Lib
theorem full_basic (n : List UInt8) : fullP [] (.mk 1 n []) = .mk 1 n [] := by kernel_rfl
theorem beh_basic (n : List UInt8) : behindP [] (.mk 1 n []) = .mk 1 n [] := by kernel_rfl
theorem has_eq (names : List (List UInt8)) (n : List UInt8) : decide (0 ≤ fstI (· == n) names) = names.any (· == n) := anyI_eq (· == n) names
theorem each_eq (s : Cn) (names : List (List UInt8)) : eachP s names = (decide (s.terms.length ≠ 0) && s.terms.all fun t => names.any (· == t.name)) := by
  unfold eachP
  rw [anyI_eq]
  congr 1
  rw [← Bool.not_inj_iff, Bool.not_not]
  rw [List.not_all_eq_any_not]
  congr 1
  funext t
  rw [has_eq]
theorem each_pos {s : Cn} {names : List (List UInt8)} (h : eachP s names = true) : 0 < s.terms.length := by
  rw [each_eq] at h
  simp only [Bool.and_eq_true, decide_eq_true_eq] at h
  omega
theorem each_more {s : Cn} {names : List (List UInt8)} (more : List UInt8) (h : eachP s names = true) : eachP s (names ++ [more]) = true := by
  rw [each_eq] at h ⊢
  simp only [Bool.and_eq_true, List.all_eq_true] at h ⊢
  refine ⟨h.1, fun t ht => ?_⟩
  rw [List.any_append, h.2 t ht]
  rfl
theorem lets_names {s : Cn} {names : List (List UInt8)} {n : List UInt8} (he : eachP s names = true) (ha : s.all = false) (hc : s.cmp = false) (h : letsP [] [] s (.mk 1 n []) = true) : names.any (· == n) = true := by
  have hw : withinP s ⟨false, n⟩ = true := by
    unfold letsP at h
    rw [full_basic] at h
    cases hr : rightP s with
    | false => rw [hr] at h; simp at h
    | true =>
      rw [hr, ha, hc] at h
      simp [Ty.kind, Ty.name, beh_basic] at h
      exact h
  unfold withinP at hw
  rw [anyI_eq, List.any_eq_true] at hw
  obtain ⟨x, hx, hxn⟩ := hw
  simp only [Bool.and_eq_true, beq_iff_eq] at hxn
  rw [each_eq] at he
  simp only [Bool.and_eq_true, List.all_eq_true] at he
  have := he.2 x hx
  rw [hxn.1] at this
  exact this
end Go.Proofs.Ythoeengfgkfchaa
