/-
  Layer 3 (lit), plain: numbers. No Go in sight.
-/
import Derived.Test.YtielcpnalepkfaaDoorLitPlain
import Derived.Test.YtielcpnalepkfaaDoorPlWrong
namespace Go.Proofs.YtielcpnalepkfaaDoor
open Go.Lib
/-- A number in decimal digits, the lowest first, times a factor, and a carry. -/
def mulL (f : Nat) : List Nat → Nat → List Nat × Nat
  | [], c => ([], c)
  | x :: l, c => ((x * f + c) % 10 :: (mulL f l ((x * f + c) / 10)).1, (mulL f l ((x * f + c) / 10)).2)
def carL : Nat → Nat → List Nat
  | 0, _ => []
  | k + 1, c => if c = 0 then [] else c % 10 :: carL k (c / 10)
def timesP (l : List Nat) (f c : Nat) : List Nat := (mulL f l c).1 ++ carL (mulL f l c).2 (mulL f l c).2
theorem mulL_snoc (f : Nat) : ∀ (l : List Nat) (x c : Nat), mulL f (l ++ [x]) c = ((mulL f l c).1 ++ [(x * f + (mulL f l c).2) % 10], (x * f + (mulL f l c).2) / 10)
  | [], x, c => rfl
  | y :: l, x, c => by simp [mulL, mulL_snoc f l x]
theorem mulL_len (f : Nat) : ∀ (l : List Nat) (c : Nat), (mulL f l c).1.length = l.length
  | [], _ => rfl
  | y :: l, c => by simp [mulL, mulL_len f l]
theorem mulL_dig (f : Nat) : ∀ (l : List Nat) (c : Nat), ∀ x ∈ (mulL f l c).1, x ≤ 9
  | [], _, x, h => by cases h
  | y :: l, c, x, h => by
    simp only [mulL, List.mem_cons] at h
    rcases h with rfl | h
    · omega
    · exact mulL_dig f l _ x h
theorem mulL_carry (f : Nat) (hf : f ≤ 16) : ∀ (l : List Nat) (c : Nat), c ≤ 15 → (∀ x ∈ l, x ≤ 9) → (mulL f l c).2 ≤ 15
  | [], c, h, _ => h
  | y :: l, c, h, hl => by
    simp only [mulL]
    refine mulL_carry f hf l _ ?_ (fun x hx => hl x (by simp [hx]))
    have hy := hl y (by simp)
    have : y * f ≤ 9 * 16 := Nat.mul_le_mul hy hf
    omega
theorem carL_dig : ∀ (k c : Nat), ∀ x ∈ carL k c, x ≤ 9
  | 0, _, x, h => by cases h
  | k + 1, c, x, h => by
    unfold carL at h
    split at h
    · cases h
    · rcases List.mem_cons.1 h with rfl | h
      · omega
      · exact carL_dig k _ x h
theorem carL_len : ∀ (k c : Nat), c ≤ 15 → (carL k c).length ≤ 2
  | 0, _, _ => by simp [carL]
  | 1, c, _ => by unfold carL; split <;> simp [carL]
  | k + 2, c, h => by
    unfold carL
    split
    · simp
    · unfold carL
      split
      · simp
      · have e : c / 10 / 10 = 0 := by omega
        rw [e]
        cases k <;> simp [carL]
theorem carL_zero (k : Nat) : carL k 0 = [] := by cases k <;> simp [carL]
theorem carL_step {k c : Nat} (h : 0 < c) (hk : c ≤ k) : ∃ j, k = j + 1 ∧ carL k c = c % 10 :: carL j (c / 10) ∧ c / 10 ≤ j := by
  obtain ⟨j, rfl⟩ : ∃ j, k = j + 1 := ⟨k - 1, by omega⟩
  exact ⟨j, rfl, by conv => lhs; unfold carL
                    rw [if_neg (by omega)], by omega⟩
theorem timesP_dig {l : List Nat} {f c : Nat} : ∀ x ∈ timesP l f c, x ≤ 9 := by
  intro x hx
  rcases List.mem_append.1 hx with h | h
  · exact mulL_dig f l c x h
  · exact carL_dig _ _ x h
theorem timesP_len {l : List Nat} {f c : Nat} (hf : f ≤ 16) (hc : c ≤ 15) (hl : ∀ x ∈ l, x ≤ 9) : (timesP l f c).length ≤ l.length + 2 := by
  unfold timesP
  rw [List.length_append, mulL_len]
  have := carL_len (mulL f l c).2 (mulL f l c).2 (mulL_carry f hf l c hc hl)
  omega
/-- In which base a number is, and its digits. -/
def baseP (s : List UInt8) : Nat × List UInt8 :=
  if s.length < 2 ∨ s.head? ≠ some 48 then (10, s)
  else if s.getD 1 0 = 120 ∨ s.getD 1 0 = 88 then (16, s.drop 2) else if s.getD 1 0 = 98 ∨ s.getD 1 0 = 66 then (2, s.drop 2) else if s.getD 1 0 = 111 ∨ s.getD 1 0 = 79 then (8, s.drop 2) else (8, s.drop 1)
/-- The digits; none: they are none. -/
def digsP (r : Nat) : Bool → List UInt8 → Option (List Nat)
  | line, [] => if line then none else some []
  | line, c :: t => if c = 95 ∧ line = false then digsP r true t else match digN c.toNat with
    | none => none
    | some d => if r ≤ d then none else (digsP r false t).map (d :: ·)
def showP (v : List Nat) : List UInt8 := if v = [] then [48] else v.reverse.map fun x => UInt8.ofNat (48 + x)
/-- What follows from here on: so many digits, a value, the digits that stand still. -/
def goP (r : Nat) (many : Nat) (v : List Nat) : Option (List Nat) → List UInt8 × Nat
  | none => ([], 4)
  | some ds => if many + ds.length = 0 then ([], 4) else (showP (ds.foldl (fun v d => timesP v r d) v), 0)
def numP (s : List UInt8) : List UInt8 × Nat :=
  if 200 < s.length then ([], 12)
  else if (baseP s).1 = 10 ∧ ((baseP s).2 = [] ∨ (baseP s).2.head? = some 95) then ([], 4)
  else goP (baseP s).1 0 [] (digsP (baseP s).1 false (baseP s).2)
theorem baseP_cases (s : List UInt8) : ((baseP s).1 = 10 ∧ (baseP s).2 = s ∧ (s.length < 2 ∨ s.head? ≠ some 48)) ∨ (((baseP s).1 = 16 ∨ (baseP s).1 = 2 ∨ (baseP s).1 = 8) ∧ (baseP s).2.length < s.length ∧ 1 ≤ s.length) := by
  unfold baseP
  split
  · rename_i h; exact .inl ⟨rfl, rfl, h⟩
  · rename_i h
    have hl : 2 ≤ s.length := by omega
    right
    repeat' split
    all_goals simp <;> omega
theorem digN_le {c d : Nat} (h : digN c = some d) : d ≤ 15 ∧ c < 128 ∧ 48 ≤ c := by
  unfold digN at h
  split at h
  · injection h; omega
  · split at h
    · injection h; omega
    · split at h
      · injection h; omega
      · cases h
theorem digN_high {c : Nat} (h : 128 ≤ c) : digN c = none := by
  cases hd : digN c with
  | none => rfl
  | some d => have := (digN_le hd).2.1; omega
theorem digN_95 : digN 95 = none := by decide
/-- One sign: what it decodes to, and its first byte. -/
theorem dec_head (c : UInt8) (t : List UInt8) : digN (decodeL (c :: t)).1 = digN c.toNat ∧ ((decodeL (c :: t)).1 = 95 ↔ c = 95) ∧ (c.toNat < 128 → decodeL (c :: t) = (c.toNat, 1)) := by
  by_cases h : c.toNat < 128
  · have e : decodeL (c :: t) = (c.toNat, 1) := by
      rw [decodeL_N]
      show decodeN _ c.toNat _ _ _ = _
      unfold decodeN; rw [if_pos h]
    rw [e]
    refine ⟨rfl, ⟨fun q => UInt8.toNat_inj.1 q, fun q => by rw [q]; rfl⟩, fun _ => rfl⟩
  · have h2 : 128 ≤ (decodeL (c :: t)).1 := by
      rw [decodeL_N]
      show 128 ≤ (decodeN _ c.toNat _ _ _).1
      unfold decodeN
      rw [if_neg h]
      repeat' split
      all_goals simp only <;> omega
    refine ⟨by rw [digN_high h2, digN_high (by omega)], ⟨fun q => by omega, fun q => by rw [q] at h; exact absurd (by decide) h⟩, fun q => absurd q h⟩
end Go.Proofs.YtielcpnalepkfaaDoor
