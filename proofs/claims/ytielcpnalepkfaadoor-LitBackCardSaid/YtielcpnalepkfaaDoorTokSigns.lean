/-
  Layer 2 (token), plain: a sign between blanks is found in a row of signs. No Go in sight.
-/
import Derived.Test.YtielcpnalepkfaaDoorTokPlain
import Derived.Lib.IndexMore
namespace Go.Proofs.YtielcpnalepkfaaDoor
open Go.Lib
theorem occ_take (s sub : List UInt8) (i : Nat) : Lib.occAt s sub i = decide ((s.drop i).take sub.length = sub) := by
  unfold Lib.occAt
  rw [Bool.eq_iff_iff, List.isPrefixOf_iff_prefix, List.prefix_iff_eq_take]
  simp only [decide_eq_true_eq]
  exact ⟨fun h => h.symm, fun h => h.symm⟩
theorem contains_iff (s sub : List UInt8) : Lib.contains s sub = true ↔ ∃ i, i ≤ s.length ∧ (s.drop i).take sub.length = sub := by
  unfold Lib.contains
  rcases Lib.index_spec s sub with ⟨h1, h2⟩ | ⟨i, h1, h2, h3, _⟩
  · rw [h1]
    constructor
    · intro h; simp at h
    · rintro ⟨i, hi, he⟩
      have := h2 i hi
      rw [occ_take] at this
      simp [he] at this
  · rw [h1]
    constructor
    · intro _; exact ⟨i, h2, by simpa [occ_take] using h3⟩
    · intro _; simp
def wins (s : List UInt8) (n : Nat) : List (List UInt8) := (List.range (s.length + 1)).map fun i => (s.drop i).take n
theorem contains_wins (s sub : List UInt8) : Lib.contains s sub = decide (sub ∈ wins s sub.length) := by
  rw [Bool.eq_iff_iff, contains_iff]
  unfold wins
  simp only [decide_eq_true_eq, List.mem_map, List.mem_range]
  exact ⟨fun ⟨i, h1, h2⟩ => ⟨i, by omega, h2⟩, fun ⟨i, h1, h2⟩ => ⟨i, by omega, h2⟩⟩
def edged (n : Nat) (x : List UInt8) : Bool := x.head? == some 32 && x.getLast? == some 32 && x.length == n + 2
theorem sign_in (row : List UInt8) (n : Nat) (L : List (List UInt8)) (h : (wins row (n + 2)).filter (edged n) = L.map fun t => 32 :: (t ++ [32])) (t : List UInt8) (ht : t.length = n) :
    Lib.contains row (32 :: (t ++ [32])) = decide (t ∈ L) := by
  rw [contains_wins, Bool.eq_iff_iff]
  simp only [decide_eq_true_eq]
  have hl : (32 :: (t ++ [32])).length = n + 2 := by simp [ht]
  have he : edged n (32 :: (t ++ [32])) = true := by
    unfold edged
    rw [hl]
    simp [List.getLast?_cons, List.getLast?_append]
  rw [hl]
  constructor
  · intro hm
    have := List.mem_filter.2 ⟨hm, he⟩
    rw [h, List.mem_map] at this
    obtain ⟨u, hu, hx⟩ := this
    simp at hx
    exact hx ▸ hu
  · intro hm
    have : (32 :: (t ++ [32])) ∈ (wins row (n + 2)).filter (edged n) := by rw [h]; exact List.mem_map.2 ⟨t, hm, rfl⟩
    exact (List.mem_filter.1 this).1
def row3 : List UInt8 := [60, 60, 61, 32, 62, 62, 61, 32, 38, 94, 61, 32, 46, 46, 46]
def row2 : List UInt8 := [38, 38, 32, 124, 124, 32, 61, 61, 32, 33, 61, 32, 60, 61, 32, 62, 61, 32, 58, 61, 32, 43, 43, 32, 45, 45, 32, 43, 61, 32, 45, 61, 32, 42, 61, 32, 47, 61, 32, 37, 61, 32, 38, 61, 32, 124, 61, 32, 94, 61, 32, 60, 60, 32, 62, 62, 32, 38, 94, 32, 60, 45]
def row1 : List UInt8 := [43, 32, 45, 32, 42, 32, 47, 32, 37, 32, 38, 32, 124, 32, 94, 32, 60, 32, 62, 32, 61, 32, 33, 32, 40, 32, 41, 32, 91, 32, 93, 32, 123, 32, 125, 32, 44, 32, 59, 32, 46, 32, 58, 32, 126]
theorem sign3_in (t : List UInt8) (ht : t.length = 3) : Lib.contains (32 :: (row3 ++ [32])) (32 :: (t ++ [32])) = decide (t ∈ signs3) := sign_in _ 3 _ (by decide) t ht
theorem sign2_in (t : List UInt8) (ht : t.length = 2) : Lib.contains (32 :: (row2 ++ [32])) (32 :: (t ++ [32])) = decide (t ∈ signs2) := sign_in _ 2 _ (by decide +kernel) t ht
theorem sign1_in (t : List UInt8) (ht : t.length = 1) : Lib.contains (32 :: (row1 ++ [32])) (32 :: (t ++ [32])) = decide (t ∈ signs1) := sign_in _ 1 _ (by decide +kernel) t ht
end Go.Proofs.YtielcpnalepkfaaDoor
