import Derived.Test.YtielcpnalepkfaaDoorLitText
namespace Go.Proofs.YtielcpnalepkfaaDoor
open Go.RowKit Go.Lib Go.BigFrame
theorem aw1 : numP [48, 120, 95, 49, 70] = ([51, 49], 0) := by kernel_rfl
theorem aw2 : numP [48, 49, 55] = ([49, 53], 0) := by kernel_rfl
theorem aw3 : numP [49, 95, 95, 48] = ([], 4) := by kernel_rfl
theorem aw4 : textP [34, 92, 120, 52, 49, 92, 117, 48, 48, 101, 52, 34] = ([65, 195, 164], 0) := by kernel_rfl
set_option maxRecDepth 100000 in
set_option maxHeartbeats 800000 in
theorem lawake_any (w : World) (hT : Tabs w) (hm : MaxL w) : Calls Tryd.prog 12 #[] w (TruePost w) := by
  have C1 := hid fun w' => number_any [48, 120, 95, 49, 70] w' (by decide)
  have C2 := hid fun w' => number_any [48, 49, 55] w' (by decide)
  have C3 := hid fun w' => number_any [49, 95, 95, 48] w' (by decide)
  have C4 := hid fun w' (x : Ext none' w w') => text_any [34, 92, 120, 52, 49, 92, 117, 48, 48, 101, 52, 34] w' (hT.ext x) (hm.ext x (fun h => h)) (by decide)
  rw [aw1] at C1
  rw [aw2] at C2
  rw [aw3] at C3
  rw [aw4] at C4
  clear hT hm
  go_enter Tryd.func12, Tryd.ntmps12
  go_wp2_with fail
  refine (C1.out _).mono ?_
  rintro e w1 ⟨rfl, X1⟩
  have X1 := hid X1
  go_wp2_with fail
  refine (C2.out _).mono ?_
  rintro e w2 ⟨rfl, X2⟩
  have X2 := hid (X1.out.trans X2)
  go_wp2_with fail
  refine (C3.out _).mono ?_
  rintro e w3 ⟨rfl, X3⟩
  have X3 := hid (X2.out.trans X3)
  go_wp2_with fail
  refine (C4.out _ X3.out).mono ?_
  rintro e w4 ⟨rfl, X4⟩
  have X4 := hid (X3.out.trans X4)
  go_wp2_with fail
  go_ret
  exact ⟨rfl, X4.out⟩
end Go.Proofs.YtielcpnalepkfaaDoor
