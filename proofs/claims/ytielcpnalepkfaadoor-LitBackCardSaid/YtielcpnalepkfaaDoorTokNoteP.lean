/-
  Layer 2 (token), plain: what the library's searches say of a note. No Go in sight.
-/
import Derived.Test.YtielcpnalepkfaaDoorTokSigns
namespace Go.Proofs.YtielcpnalepkfaaDoor
open Go.Lib
theorem indexByte_tw (r : List UInt8) : (Lib.indexByte r 10 = -1 ∧ (r.takeWhile fun c => c != 10).length = r.length) ∨ (Lib.indexByte r 10 = ((r.takeWhile fun c => c != 10).length : Nat)) := by
  induction r with
  | nil => left; exact ⟨rfl, rfl⟩
  | cons b l ih =>
    unfold Lib.indexByte
    by_cases hb : b = 10
    · subst hb; right; simp [List.takeWhile]
    · have e1 : (b == (10 : UInt8)) = false := by simpa using hb
      have e2 : (b != (10 : UInt8)) = true := by simpa using hb
      rw [e1]
      rcases ih with ⟨h1, h2⟩ | h1
      · left
        rw [h1]
        refine ⟨by simp, ?_⟩
        rw [List.takeWhile_cons, e2]
        simpa using h2
      · right
        have hne : (Lib.indexByte l 10 == -1) = false := by rw [h1]; simp
        rw [hne, h1, List.takeWhile_cons, e2]
        simp
theorem tw_no10 (r : List UInt8) : 10 ∉ r.take (r.takeWhile fun c => c != 10).length := by
  induction r with
  | nil => simp
  | cons b l ih =>
    rw [List.takeWhile_cons]
    by_cases hb : b = 10
    · subst hb; simp
    · have e2 : (b != (10 : UInt8)) = true := by simpa using hb
      rw [e2]
      simp only [if_true, List.length_cons, List.take_succ_cons, List.mem_cons, not_or]
      exact ⟨fun h => hb h.symm, ih⟩
theorem index_star : ∀ r : List UInt8, Lib.index r [42, 47] = match star r with
    | some k => (k : Int)
    | none => -1
  | [] => rfl
  | b :: l => by
    have ih := index_star l
    unfold Lib.index star
    have hp : [42, 47].isPrefixOf (b :: l) = decide (b = 42 ∧ l.head? = some 47) := by
      cases l with
      | nil => simp [List.isPrefixOf]
      | cons c t =>
        rw [Bool.eq_iff_iff]
        simp [List.isPrefixOf]
        constructor
        · rintro ⟨h1, h2⟩; exact ⟨h1.symm, h2.symm⟩
        · rintro ⟨h1, h2⟩; exact ⟨h1.symm, h2.symm⟩
    rw [hp, ih]
    by_cases h : b = 42 ∧ l.head? = some 47
    · simp [h]
    · simp only [decide_eq_true_eq, if_neg h]
      cases star l with
      | none => rfl
      | some k => simp
theorem indexByte_memT (r : List UInt8) (c : UInt8) : decide (0 ≤ Lib.indexByte r c) = decide (c ∈ r) := by
  rw [Bool.eq_iff_iff]
  simp only [decide_eq_true_eq]
  have hg := Lib.indexByte_ge r c
  by_cases h : Lib.indexByte r c = -1
  · have := Lib.indexByte_none h
    rw [h]
    constructor
    · intro h; omega
    · intro hm
      obtain ⟨k, hk⟩ := List.mem_iff_getElem?.1 hm
      exact absurd hk (this k)
  · obtain ⟨o, ho⟩ : ∃ o : Nat, Lib.indexByte r c = o := ⟨(Lib.indexByte r c).toNat, by omega⟩
    have := Lib.indexByte_some ho
    constructor
    · intro _; exact List.mem_iff_getElem?.2 ⟨o, this.1⟩
    · intro _; omega
end Go.Proofs.YtielcpnalepkfaaDoor
