/-
  Layer 3 (lit), plain: what numbers and texts mean; how a text is written plainly. No Go in sight.
-/
import Derived.Test.YtielcpnalepkfaaDoorPlacePlain
namespace Go.Proofs.YtielcpnalepkfaaDoor
open Go.Lib
/-- What a sign is worth. -/
def digN (c : Nat) : Option Nat := if 48 ≤ c ∧ c ≤ 57 then some (c - 48) else if 97 ≤ c ∧ c ≤ 102 then some (c - 87) else if 65 ≤ c ∧ c ≤ 70 then some (c - 55) else none
def hexT : List UInt8 := [48, 49, 50, 51, 52, 53, 54, 55, 56, 57, 97, 98, 99, 100, 101, 102]
def hexd (n : Nat) : UInt8 := hexT.getD n 0
def quoteB (c : UInt8) : List UInt8 :=
  if c = 34 ∨ c = 92 then [92, c] else if c = 10 then [92, 110] else if c = 9 then [92, 116] else if 32 ≤ c.toNat ∧ c.toNat ≤ 126 then [c] else [92, 120, hexd (c.toNat / 16), hexd (c.toNat % 16)]
def quoteP (s : List UInt8) : List UInt8 := 34 :: (s.flatMap quoteB ++ [34])
theorem quoteB_len (c : UInt8) : 1 ≤ (quoteB c).length ∧ (quoteB c).length ≤ 4 := by
  unfold quoteB; repeat' split
  all_goals simp
theorem quotes_len : ∀ s : List UInt8, (s.flatMap quoteB).length ≤ 4 * s.length
  | [] => by simp
  | c :: t => by
    have := quotes_len t
    have := (quoteB_len c).2
    rw [List.flatMap_cons, List.length_append, List.length_cons]; omega
theorem quoteP_len (s : List UInt8) : 2 ≤ (quoteP s).length ∧ (quoteP s).length ≤ 4 * s.length + 2 := by
  have := quotes_len s
  unfold quoteP
  rw [List.length_cons, List.length_append, List.length_singleton]; omega
theorem quoteP_append (a b : List UInt8) : quoteP (a ++ b) = (quoteP a).take ((quoteP a).length - 1) ++ (quoteP b).drop 1 := by
  have e : (quoteP a).length - 1 = (34 :: a.flatMap quoteB).length := by simp [quoteP]
  have e2 : quoteP a = (34 :: a.flatMap quoteB) ++ [34] := by simp [quoteP]
  rw [e, e2, List.take_left]
  simp [quoteP, List.flatMap_append]
theorem flatMap_take (s : List UInt8) (i : Nat) (h : i < s.length) : (s.take (i + 1)).flatMap quoteB = (s.take i).flatMap quoteB ++ quoteB (s[i]'h) := by
  have e : s.take (i + 1) = s.take i ++ [s[i]'h] := by rw [List.take_add_one, List.getElem?_eq_getElem h]; rfl
  rw [e, List.flatMap_append]; simp
/-- Is it a number that is written plainly? -/
def plainP (s : List UInt8) : Bool := s.all (fun c => decide (48 ≤ c.toNat) && decide (c.toNat ≤ 57)) && (s == [48] || (!s.isEmpty && decide (s.length ≤ 200) && s.head? != some 48))
end Go.Proofs.YtielcpnalepkfaaDoor
