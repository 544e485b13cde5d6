import Derived.Test.YtielcpnalepkfaaDoorTokSmall
import Derived.Test.YtielcpnalepkfaaDoorRow
namespace Go.Proofs.YtielcpnalepkfaaDoor
open Go.RowKit Go.Lib
def strV (s : List UInt8) : Value := .string ⟨s.toArray⟩
/-- A row of texts. -/
def Texts (w : World) (b : Nat) (ts : List (List UInt8)) : Prop := ∀ j (h : j < ts.length), w.cell? ⟨b, j, none⟩ = some (.string ⟨(ts[j]).toArray⟩)
theorem beq_list (a b : List UInt8) : (a == b) = decide (a = b) := by
  by_cases h : a = b
  · subst h; simp
  · simp [h]
theorem texts_of {w : World} {b : Nat} {ts : List (List UInt8)} {cs : Array Value} {t : TypeId} {fz : Nat × Nat} (h : w.heap[b]? = some (.cells cs t fz)) (e : cs = (ts.map strV).toArray) : Texts w b ts := fun j hj => by
  rw [cell_at h, e]
  simp [strV, hj]
end Go.Proofs.YtielcpnalepkfaaDoor
