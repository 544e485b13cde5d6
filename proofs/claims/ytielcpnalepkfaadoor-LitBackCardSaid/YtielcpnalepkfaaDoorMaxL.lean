import Derived.Test.YtielcpnalepkfaaDoorKit
import Derived.Test.YtielcpnalepkfaaDoorShelf
import Derived.Shelf.Vars
namespace Go.Proofs.YtielcpnalepkfaaDoor
open Go.RowKit Go.Lib
/-- The variable of the search's longest needle holds some number. -/
def MaxL (w : World) : Prop := 2 < w.heap.size ∧ ∃ m, w.cell? ⟨2, 0, none⟩ = some (.int .i64 m)
theorem MaxL.ext {F : Nat → Prop} {w w' : World} (h : MaxL w) (x : Ext F w w') (hF : ¬ F 2) : MaxL w' := by
  obtain ⟨h1, m, hm⟩ := h
  exact ⟨Nat.lt_of_lt_of_le h1 x.size, m, by rw [x.cell (p := ⟨2, 0, none⟩) h1 hF]; exact hm⟩
theorem maxL_of_shaped {w : World} (h : w.ShapedOpen Tryd.prog) : MaxL w := by
  obtain ⟨m, hm⟩ := Go.Proofs.cell_of_shapedOpen_int (g := 2) (zero := #[.int .i64 0]) (t := 3) h (of_decide_eq_true (by kernel_rfl)) (by kernel_rfl) rfl (by kernel_rfl) (by kernel_rfl) Tryd.underlying3
  exact ⟨World.block_lt_of_cell? w _ hm, m, hm⟩
end Go.Proofs.YtielcpnalepkfaaDoor
