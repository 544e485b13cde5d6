import Derived.Test.YthoeengfgkfchaaSeP
/-
  SetsTilde, plain: a term with ~ lets in what it lets in without. No Go in sight.
-/
namespace Go.Proofs.Ythoeengfgkfchaa
open Go.Lib
def alsP (ds : List Df) (n : List UInt8) : Bool := match defAt ds n with
  | none => false
  | some d => d.als
def cn1 (b : Bool) (n : List UInt8) : Cn := ⟨false, false, [⟨b, n⟩]⟩
theorem full_same (ds : List Df) (t : Ty) (h : t.kind = 3 → alsP ds t.name = false) : (fullP ds t).kind = t.kind ∨ fullP ds t = Ty.zero := by
  unfold fullP
  by_cases h0 : 0 < (fullN ds 100 t 20000).2
  · rw [if_pos h0, fullN_eq]
    left
    cases t with
    | mk k n l =>
      rw [fullT, if_neg (by omega)]
      unfold aliasP
      by_cases hk : k = 3
      · have h := h hk
        unfold alsP at h
        simp only [Ty.name] at h
        rw [if_neg (by omega)]
        cases hd : defAt ds n with
        | none => rfl
        | some d =>
          rw [hd] at h
          simp only at h
          simp only [h, if_true]
          rfl
      · rw [if_pos hk]; rfl
  · rw [if_neg h0]; right; rfl
theorem lets_cn1 {ds : List Df} {b : Bool} {n : List UInt8} {t : Ty} (h : letsP ds [] (cn1 b n) t = true) :
    (fullP ds t).kind ≠ 0 ∧ (behindP ds (fullP ds t)).kind = 1 ∧ withinP (cn1 b n) ⟨decide ((fullP ds t).kind ≠ 1), (behindP ds (fullP ds t)).name⟩ = true ∧ (fullP ds t).kind ≠ 4 ∧ rightP (cn1 b n) = true := by
  unfold letsP at h
  simp only [cn1] at h ⊢
  have hf : findC [] (fullP ds t).name = none := rfl
  rw [hf] at h
  by_cases h4 : (fullP ds t).kind = 4
  · simp [h4] at h
  · by_cases h0 : (fullP ds t).kind = 0
    · simp [h0] at h
    · simp [h4, h0] at h
      cases hr : rightP ⟨false, false, [⟨b, n⟩]⟩ with
      | false => rw [hr] at h; simp at h
      | true =>
        rw [hr] at h
        simp at h
        exact ⟨h0, h.1, by simpa using h.2, h4, rfl⟩
theorem lets_mk {ds : List Df} {b : Bool} {n : List UInt8} {t : Ty} (h0 : (fullP ds t).kind ≠ 0) (h1 : (behindP ds (fullP ds t)).kind = 1) (h2 : withinP (cn1 b n) ⟨decide ((fullP ds t).kind ≠ 1), (behindP ds (fullP ds t)).name⟩ = true) (h4 : (fullP ds t).kind ≠ 4) (hr : rightP (cn1 b n) = true) :
    letsP ds [] (cn1 b n) t = true := by
  unfold letsP
  simp only [cn1] at h2 hr ⊢
  have hf : findC [] (fullP ds t).name = none := rfl
  simp only [hf, hr, h4, h0, h1, decide_false, decide_true, Bool.not_true, Bool.false_or, Bool.false_and, Bool.false_eq_true, if_false, Bool.true_and]
  exact h2
theorem right_cn1 (b : Bool) (n : List UInt8) : rightP (cn1 b n) = basicB n := by
  unfold rightP cn1 manyP
  rw [anyI_eq]
  simp
theorem within_cn1 (b c : Bool) (n m : List UInt8) : withinP (cn1 b n) ⟨c, m⟩ = (n == m && (b || !c)) := by
  unfold withinP cn1
  rw [anyI_eq]
  simp
theorem tilde_of {ds : List Df} {n : List UInt8} {t : Ty} (h : letsP ds [] (cn1 false n) t = true) : letsP ds [] (cn1 true n) t = true := by
  obtain ⟨h0, h1, h2, h4, hr⟩ := lets_cn1 h
  refine lets_mk h0 h1 ?_ h4 (by rw [right_cn1] at hr ⊢; exact hr)
  rw [within_cn1] at h2 ⊢
  simp at h2 ⊢
  exact h2.1
theorem tilde_kind3 {ds : List Df} {n : List UInt8} {t : Ty} (h : letsP ds [] (cn1 false n) t = true) (h3 : t.kind = 3) : alsP ds t.name = true := by
  obtain ⟨h0, h1, h2, h4, hr⟩ := lets_cn1 h
  cases ha : alsP ds t.name with
  | true => rfl
  | false =>
    rw [within_cn1] at h2
    simp at h2
    rcases full_same ds t (fun _ => ha) with e | e
    · omega
    · rw [e] at h0; exact absurd rfl h0
theorem tilde_not {ds : List Df} {n : List UInt8} {t : Ty} (h : letsP ds [] (cn1 true n) t = true) : t.kind ≠ 5 ∧ t.kind ≠ 6 ∧ t.kind ≠ 2 := by
  obtain ⟨h0, h1, h2, h4, hr⟩ := lets_cn1 h
  by_cases h3 : t.kind = 3
  · omega
  · rcases full_same ds t (fun h => absurd h h3) with e | e
    · have hb : behindP ds (fullP ds t) = fullP ds t := by
        unfold behindP
        rw [behP, if_pos (by omega)]
      rw [hb] at h1
      omega
    · rw [e] at h0; exact absurd rfl h0
end Go.Proofs.Ythoeengfgkfchaa
