import Derived.Test.YteomiafndjcmiaaDoorPlaceSgn
import Derived.Lib.SlBytesConst
namespace Go.Proofs.YteomiafndjcmiaaDoor
open Go.RowKit Go.Lib
def ex : List UInt8 := [97, 195, 164, 10, 98]
theorem ex1 : ofI ex 1 = (1, 2) := by kernel_rfl
theorem ex3 : ofI ex 3 = (1, 3) := by kernel_rfl
theorem ex4 : ofI ex 4 = (2, 1) := by kernel_rfl
theorem exL : ((ex.count 10 : Nat) : Int) + 1 = 2 := by kernel_rfl
set_option maxHeartbeats 800000 in
theorem awake_any (w : World) : Calls Tryd.prog 8 #[] w (TruePost w) := by
  have kc := fun (w : World) (C : Array Value) (n c : Nat) => Lib.run_convert_bytes_const (P := Tryd.prog) w 22 5 C n c Tryd.underlying22 Tryd.underlying5
  obtain ⟨w0, hw0⟩ : ∃ w0, w.alloc (.cells #[.int .u8 97, .int .u8 195, .int .u8 164, .int .u8 10, .int .u8 98] 5 (5, 6)) = w0 := ⟨_, rfl⟩
  have E0 : Ext none' w w0 := by rw [← hw0]; exact (Ext.refl _ _).alloc _
  have hsz : w0.heap.size = w.heap.size + 1 := by rw [← hw0]; simp
  have hh : w0.heap[w.heap.size]? = some (.cells #[.int .u8 97, .int .u8 195, .int .u8 164, .int .u8 10, .int .u8 98] 5 (5, 6)) := by rw [← hw0]; exact heap_alloc_at rfl _
  have hb : Bytes (w.heap.size + 1) w0 (.slice (some ⟨w.heap.size, 0, none⟩) 5 5) ex := by
    refine ⟨_, 5, rfl, Nat.le_refl 5, by omega, (fun h => by cases h), fun _ => ⟨_, _, rfl, by omega, by omega, fun j hj => ?_⟩⟩
    rw [cell_at hh]
    match j, hj with
    | 0, _ => rfl
    | 1, _ => rfl
    | 2, _ => rfl
    | 3, _ => rfl
    | 4, _ => rfl
  have C1 : ∀ w', Ext none' w0 w' → Calls Tryd.prog 12 #[.slice (some ⟨w.heap.size, 0, none⟩) 5 5, .int .i64 1] w' (PlPost (1, 2) w') := fun w' h => by
    rw [← ex1]; exact of_any _ ex _ 1 w' (hb.keep h) (by have := h.size; omega) (by decide)
  have C3 : ∀ w', Ext none' w0 w' → Calls Tryd.prog 12 #[.slice (some ⟨w.heap.size, 0, none⟩) 5 5, .int .i64 3] w' (PlPost (1, 3) w') := fun w' h => by
    rw [← ex3]; exact of_any _ ex _ 3 w' (hb.keep h) (by have := h.size; omega) (by decide)
  have C4 : ∀ w', Ext none' w0 w' → Calls Tryd.prog 12 #[.slice (some ⟨w.heap.size, 0, none⟩) 5 5, .int .i64 4] w' (PlPost (2, 1) w') := fun w' h => by
    rw [← ex4]; exact of_any _ ex _ 4 w' (hb.keep h) (by have := h.size; omega) (by decide)
  have CL : ∀ w', Ext none' w0 w' → Calls Tryd.prog 6 #[.slice (some ⟨w.heap.size, 0, none⟩) 5 5] w' (IntPost 2 w') := fun w' h => by
    rw [← exL]; exact lines_any _ ex _ w' (hb.keep h) (by decide)
  have HC1 := hid C1
  have HC3 := hid C3
  have HC4 := hid C4
  have HCL := hid CL
  have HE := hid E0
  have H0 := hid hw0
  clear C1 C3 C4 CL hb hh hw0 hsz E0
  go_enter Tryd.func8, Tryd.ntmps8
  go_wp2_with fail
  rw [H0.out]
  refine (HC1.out _ (Ext.refl _ _)).mono ?_
  rintro e w1 ⟨rfl, X1⟩
  have X1 := hid X1
  go_wp2_with fail
  refine (HC3.out _ X1.out).mono ?_
  rintro e w2 ⟨rfl, X2⟩
  have X2 := hid (X1.out.trans X2)
  go_wp2_with fail
  refine (HC4.out _ X2.out).mono ?_
  rintro e w3 ⟨rfl, X3⟩
  have X3 := hid (X2.out.trans X3)
  go_wp2_with fail
  refine (HCL.out _ X3.out).mono ?_
  rintro e w4 ⟨rfl, X4⟩
  have X4 := hid (X3.out.trans X4)
  go_wp2_with fail
  go_ret
  exact ⟨rfl, HE.out.trans X4.out⟩
end Go.Proofs.YteomiafndjcmiaaDoor
