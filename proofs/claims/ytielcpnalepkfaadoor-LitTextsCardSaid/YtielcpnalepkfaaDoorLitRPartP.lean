/-
  Layer 3 (lit), plain: the signs that stand for a byte, by the reference's two rows. No Go in sight.
-/
import Derived.Test.YtielcpnalepkfaaDoorLitTextP
namespace Go.Proofs.YtielcpnalepkfaaDoor
open Go.Lib
def fromL : List UInt8 := [97, 98, 102, 110, 114, 116, 118, 92, 34]
def toL : List UInt8 := [7, 8, 12, 10, 13, 9, 11, 92, 34]
theorem single_at : ∀ i, i < 9 → singleP (fromL.getD i 0).toNat = some (toL.getD i 0).toNat := by decide
theorem single_not {c : Nat} (h : ∀ i, i < 9 → (fromL.getD i 0).toNat ≠ c) : singleP c = none := by
  have h0 : 97 ≠ c := h 0 (by omega)
  have h1 : 98 ≠ c := h 1 (by omega)
  have h2 : 102 ≠ c := h 2 (by omega)
  have h3 : 110 ≠ c := h 3 (by omega)
  have h4 : 114 ≠ c := h 4 (by omega)
  have h5 : 116 ≠ c := h 5 (by omega)
  have h6 : 118 ≠ c := h 6 (by omega)
  have h7 : 92 ≠ c := h 7 (by omega)
  have h8 : 34 ≠ c := h 8 (by omega)
  unfold singleP
  rw [if_neg h0.symm, if_neg h1.symm, if_neg h2.symm, if_neg h3.symm, if_neg h4.symm, if_neg h5.symm, if_neg h6.symm, if_neg h7.symm, if_neg h8.symm]
end Go.Proofs.YtielcpnalepkfaaDoor
