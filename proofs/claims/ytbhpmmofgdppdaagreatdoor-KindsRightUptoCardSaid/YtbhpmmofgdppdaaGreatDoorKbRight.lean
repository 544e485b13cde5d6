import Derived.Test.YtbhpmmofgdppdaaGreatDoorKbRefT
import Derived.Test.YtbhpmmofgdppdaaGreatDoorKbDep
import Derived.Test.YtbhpmmofgdppdaaGreatDoorZAo
/-
  demoticref06.Right of the sort "type".
-/
namespace Go.Proofs.YtbhpmmofgdppdaaGreatDoor
open Go.RowKit Go.Lib Go.BigFrame
set_option maxRecDepth 100000 in
set_option maxHeartbeats 3200000 in
theorem rright_type (f : Nat) (hf : f ≤ bigD) (t : Nd) (ht : t.size ≤ f) (v : Value) (w : World) (hv : NdV none' w t v) :
    Calls Tryz.prog 27 #[v, .string ⟨#[116, 121, 112, 101]⟩] w (BoolP (rightB (tyF nmB f t) t) w) := by
  have hts : t.size ≤ bigD := by omega
  have CD := hid fun W (X : Ext none' w W) => ndepth_any 101 (by omega) t hts none' v W (hv.ext X fun _ _ h => h)
  have CZ := hid fun W (X : Ext none' w W) => nsize_any 100 (by omega) t hts none' v W (hv.ext X fun _ _ h => h)
  have CT := hid fun W (X : Ext none' w W) => rtype_any f hf t ht v W (hv.ext X fun _ _ h => h)
  obtain ⟨x, rfl, hx⟩ := hv
  obtain ⟨a1, cap1, rfl, _⟩ := hx
  obtain ⟨r, hr⟩ : ∃ r, r = rightB (tyF nmB f t) t := ⟨_, rfl⟩
  rw [← hr]
  unfold rightB at hr
  rw [depthN_dep] at hr
  have HR := hid hr
  have hd := depD_le 101 t
  have hz := sizeD_le 100 t
  obtain ⟨d, hd'⟩ : ∃ d, depD 101 t = d := ⟨_, rfl⟩
  obtain ⟨z, hz'⟩ : ∃ z, sizeD 100 t = z := ⟨_, rfl⟩
  obtain ⟨q, hq⟩ : ∃ q, tyF nmB f t = q := ⟨_, rfl⟩
  rw [hd'] at CD HR hd
  rw [hz'] at CZ HR hz
  rw [hq] at CT HR
  have hzb : z ≤ 20000000000 := by unfold bigD at hts; omega
  obtain ⟨B, hB⟩ : ∃ B, B = w.heap.size := ⟨_, rfl⟩
  obtain ⟨W1, hW1⟩ : ∃ W1, W1 = w.alloc (.cells #[.int .i64 t.kind, .string ⟨t.text.toArray⟩, .slice a1 t.kids.length cap1, .int .i64 t.pos] 49) := ⟨_, rfl⟩
  have X1 := hid (show Ext none' w W1 by rw [hW1]; exact (Ext.refl _ _).alloc _)
  have G0 := hid (show W1.heap[B]? = some (.cells #[.int .i64 t.kind, .string ⟨t.text.toArray⟩, .slice a1 t.kids.length cap1, .int .i64 t.pos] 49 (0, 0)) by rw [hW1]; exact heap_alloc_at hB _)
  clear hr hd' hz' hq hz ht hts
  go_enter Tryz.func27, Tryz.ntmps27
  go_upto_region 1 with (fail)
  rw [← hW1, ← hB]
  clear hW1 hB
  have c0 := cell_at G0.out 0
  have c1 := cell_at G0.out 1
  have c2 := cell_at G0.out 2
  have c3 := cell_at G0.out 3
  simp only [List.getElem?_toArray, List.getElem?_cons_zero, List.getElem?_cons_succ] at c0 c1 c2 c3
  go_wp2_with fail
  refine (CD.out _ X1.out).mono ?_
  rintro e W2 ⟨rfl, X2⟩
  have G0 := hid (X2.heap G0.out fun h => h)
  have X2 := hid (X1.out.trans X2)
  clear c0 c1 c2 c3
  have c0 := cell_at G0.out 0
  have c1 := cell_at G0.out 1
  have c2 := cell_at G0.out 2
  have c3 := cell_at G0.out 3
  simp only [List.getElem?_toArray, List.getElem?_cons_zero, List.getElem?_cons_succ] at c0 c1 c2 c3
  by_cases hd1 : d ≤ 100
  case neg =>
    have q1 : (100 : Int) < (d : Int) := by omega
    have E := hid (show r = false by rw [HR.out, decide_eq_false hd1]; rfl)
    clear hd1
    go_wp2_with fail
    go_ret
    exact ⟨by rw [E.out]; rfl, X2.out⟩
  have q1 : ¬ (100 : Int) < (d : Int) := by omega
  have D1 := hid (decide_eq_true hd1)
  clear hd1
  go_wp2_with fail
  refine (CZ.out _ X2.out).mono ?_
  rintro e W3 ⟨rfl, X3⟩
  have G0 := hid (X3.heap G0.out fun h => h)
  have X3 := hid (X2.out.trans X3)
  clear c0 c1 c2 c3
  have c0 := cell_at G0.out 0
  have c1 := cell_at G0.out 1
  have c2 := cell_at G0.out 2
  have c3 := cell_at G0.out 3
  simp only [List.getElem?_toArray, List.getElem?_cons_zero, List.getElem?_cons_succ] at c0 c1 c2 c3
  by_cases hz1 : z ≤ 65536
  case neg =>
    have q2 : (65536 : Int) < (z : Int) := by omega
    have E := hid (show r = false by rw [HR.out, decide_eq_false hz1]; simp)
    clear hz1
    go_wp2_with fail
    go_ret
    exact ⟨by rw [E.out]; rfl, X3.out⟩
  have q2 : ¬ (65536 : Int) < (z : Int) := by omega
  have E := hid (show r = q by rw [HR.out, D1.out, decide_eq_true hz1]; simp)
  clear hz1
  go_wp2_with fail
  refine (CT.out _ X3.out).mono ?_
  rintro e W4 ⟨rfl, X4⟩
  have X4 := hid (X3.out.trans X4)
  clear c0 c1 c2 c3
  go_wp2_with fail
  go_ret
  exact ⟨by rw [E.out]; rfl, X4.out⟩
end Go.Proofs.YtbhpmmofgdppdaaGreatDoor
