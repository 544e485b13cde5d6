import Derived.Test.YthoeengfgkfchaaSeP
/-
  SetsMore, plain: what a union lets in, one with more terms lets in, too. No Go in sight.
-/
namespace Go.Proofs.Ythoeengfgkfchaa
open Go.Lib
def cnAll : Cn := ⟨true, false, []⟩
def cnCmp : Cn := ⟨false, true, []⟩
def moreC (s : Cn) : Cn := ⟨false, false, s.terms ++ [⟨false, nBool⟩, ⟨true, nInt⟩]⟩
theorem right_all : rightP cnAll = true := by unfold rightP cnAll manyP; rw [anyI_eq]; rfl
theorem right_cmp : rightP cnCmp = true := by unfold rightP cnCmp manyP; rw [anyI_eq]; rfl
theorem right_terms {s : Cn} (h : rightP s = true) (hn : s.terms.length ≠ 0) : s.all = false ∧ s.cmp = false ∧ s.terms.any (fun t => !basicB t.name) = false := by
  unfold rightP manyP at h
  rw [anyI_eq, if_neg hn] at h
  obtain ⟨sa, sc, st⟩ := s
  simp only at h hn ⊢
  cases sa <;> cases sc <;> simp at h ⊢
  intro x hx
  exact h x hx
theorem right_more {s : Cn} (h : rightP s = true) (hn : s.terms.length ≠ 0) : rightP (moreC s) = true := by
  obtain ⟨_, _, h3⟩ := right_terms h hn
  unfold rightP moreC manyP
  rw [anyI_eq]
  simp only [List.any_append, h3]
  simp [basicB]
theorem within_more {s : Cn} {x : Tm} (h : withinP s x = true) : withinP (moreC s) x = true := by
  unfold withinP at h ⊢
  rw [anyI_eq] at h ⊢
  unfold moreC
  simp only [List.any_append, h, Bool.true_or]
/-- What every constraint asks of a type that it lets in. -/
def GateP (ds : List Df) (sc : List Bd) (t : Ty) : Prop := (fullP ds t).kind ≠ 0 ∧ ((fullP ds t).kind = 4 → (findC sc (fullP ds t).name).isSome = true ∧ rightP (ownP sc (fullP ds t).name) = true)
def BodyP (ds : List Df) (sc : List Bd) (s : Cn) (t : Ty) : Prop :=
  (if s.all then true
  else if s.cmp then decide ((behindP ds (fullP ds t)).kind = 1) || (decide ((fullP ds t).kind = 4) && !(ownP sc (fullP ds t).name).all)
  else if decide ((fullP ds t).kind = 4) then decide ((ownP sc (fullP ds t).name).terms.length ≠ 0) && !anyI (fun x => !withinP s x) (ownP sc (fullP ds t).name).terms
  else decide ((behindP ds (fullP ds t)).kind = 1) && withinP s ⟨decide ((fullP ds t).kind ≠ 1), (behindP ds (fullP ds t)).name⟩) = true
theorem lets_iff {ds : List Df} {sc : List Bd} {s : Cn} {t : Ty} : letsP ds sc s t = true ↔ rightP s = true ∧ GateP ds sc t ∧ BodyP ds sc s t := by
  unfold letsP GateP BodyP
  simp only
  generalize fullP ds t = u
  cases hr : rightP s with
  | false => simp
  | true =>
    by_cases h0 : u.kind = 0
    · simp [h0]
    · by_cases h4 : u.kind = 4
      · cases hf : (findC sc u.name).isSome with
        | false => simp [h4]
        | true =>
          cases ho : rightP (ownP sc u.name) with
          | false => simp [h4]
          | true => simp [h4]
      · simp [h0, h4]
theorem lets_all {ds : List Df} {sc : List Bd} {s : Cn} {t : Ty} (h : letsP ds sc s t = true) : letsP ds sc cnAll t = true := by
  rw [lets_iff] at h ⊢
  exact ⟨right_all, h.2.1, by unfold BodyP cnAll; simp⟩
theorem lets_terms {ds : List Df} {sc : List Bd} {s : Cn} {t : Ty} (h : letsP ds sc s t = true) (hn : s.terms.length ≠ 0) :
    ((fullP ds t).kind = 4 → (ownP sc (fullP ds t).name).terms.length ≠ 0 ∧ ∀ x ∈ (ownP sc (fullP ds t).name).terms, withinP s x = true) ∧
    ((fullP ds t).kind ≠ 4 → (behindP ds (fullP ds t)).kind = 1 ∧ withinP s ⟨decide ((fullP ds t).kind ≠ 1), (behindP ds (fullP ds t)).name⟩ = true) := by
  rw [lets_iff] at h
  obtain ⟨hr, _, hb⟩ := h
  obtain ⟨h1, h2, _⟩ := right_terms hr hn
  unfold BodyP at hb
  rw [h1, h2, anyI_eq] at hb
  simp only [Bool.false_eq_true, if_false] at hb
  refine ⟨fun h4 => ?_, fun h4 => ?_⟩
  · rw [if_pos (by simpa using h4)] at hb
    simp only [Bool.and_eq_true, decide_eq_true_eq, Bool.not_eq_true', List.any_eq_false] at hb
    exact ⟨hb.1, fun x hx => by have := hb.2 x hx; simpa using this⟩
  · rw [if_neg (by simpa using h4)] at hb
    simp only [Bool.and_eq_true] at hb
    exact ⟨by simpa using hb.1, hb.2⟩
theorem lets_cmp {ds : List Df} {sc : List Bd} {s : Cn} {t : Ty} (h : letsP ds sc s t = true) (hn : s.terms.length ≠ 0) : letsP ds sc cnCmp t = true := by
  obtain ⟨k1, k2⟩ := lets_terms h hn
  rw [lets_iff] at h ⊢
  refine ⟨right_cmp, h.2.1, ?_⟩
  unfold BodyP cnCmp
  simp only [Bool.false_eq_true, if_false, if_true]
  by_cases h4 : (fullP ds t).kind = 4
  · obtain ⟨j1, _, _⟩ := right_terms (h.2.1.2 h4).2 (k1 h4).1
    simp [h4, j1]
  · simp [(k2 h4).1]
theorem lets_more {ds : List Df} {sc : List Bd} {s : Cn} {t : Ty} (h : letsP ds sc s t = true) (hn : s.terms.length ≠ 0) : letsP ds sc (moreC s) t = true := by
  obtain ⟨k1, k2⟩ := lets_terms h hn
  rw [lets_iff] at h ⊢
  refine ⟨right_more h.1 hn, h.2.1, ?_⟩
  unfold BodyP
  have e1 : (moreC s).all = false := rfl
  have e2 : (moreC s).cmp = false := rfl
  rw [e1, e2, anyI_eq]
  simp only [Bool.false_eq_true, if_false]
  by_cases h4 : (fullP ds t).kind = 4
  · rw [if_pos (by simpa using h4)]
    simp only [Bool.and_eq_true, decide_eq_true_eq, Bool.not_eq_true', List.any_eq_false]
    exact ⟨(k1 h4).1, fun x hx => by rw [within_more ((k1 h4).2 x hx)]; simp⟩
  · rw [if_neg (by simpa using h4)]
    simp only [Bool.and_eq_true]
    exact ⟨by simpa using (k2 h4).1, within_more (k2 h4).2⟩
end Go.Proofs.Ythoeengfgkfchaa
