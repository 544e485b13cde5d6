import Derived.Test.YtbhpmmofgdppdaaGreatDoorKbRight
import Derived.Test.YtbhpmmofgdppdaaGreatDoorKbSame
import Derived.Test.YtbhpmmofgdppdaaGreatDoorKbOf2
import Derived.Test.YtbhpmmofgdppdaaGreatDoorZAu
/-
  KindsBack: the law's function.
-/
namespace Go.Proofs.YtbhpmmofgdppdaaGreatDoor
open Go.RowKit Go.Lib Go.BigFrame
theorem right_parts {p : Bool} {t : Nd} (h : rightB p t = true) : p = true ∧ depD 101 t ≤ 100 := by
  unfold rightB at h
  rw [depthN_dep] at h
  simp only [Bool.and_eq_true, decide_eq_true_eq] at h
  exact ⟨h.2.2, h.1⟩
set_option maxRecDepth 100000 in
set_option maxHeartbeats 6400000 in
theorem law_Back (n : Nd) (hn : n.size ≤ bigD) (v : Value) (w : World) (hv : NdV none' w n v) : Calls Tryz.prog 7 #[v] w (TruePost w) := by
  have CZ := hid fun W (X : Ext none' w W) => nsize_any 1000 (by omega) n hn none' v W (hv.ext X fun _ _ h => h)
  have CR := hid fun W (X : Ext none' w W) => rright_type n.size hn n (Nat.le_refl _) v W (hv.ext X fun _ _ h => h)
  have HV := hid hv
  obtain ⟨x, rfl, hx⟩ := hv
  obtain ⟨a1, cap1, rfl, _⟩ := hx
  have hz := sizeD_le 1000 n
  obtain ⟨z, hz'⟩ : ∃ z, sizeD 1000 n = z := ⟨_, rfl⟩
  rw [hz'] at CZ hz
  have hzb : z ≤ 20000000000 := by unfold bigD at hn; omega
  obtain ⟨rb, hrb⟩ : ∃ b, rightB (tyF nmB n.size n) n = b := ⟨_, rfl⟩
  rw [hrb] at CR
  have HRB := hid hrb
  obtain ⟨B, hB⟩ : ∃ B, B = w.heap.size := ⟨_, rfl⟩
  obtain ⟨W1, hW1⟩ : ∃ W1, W1 = w.alloc (.cells #[.int .i64 n.kind, .string ⟨n.text.toArray⟩, .slice a1 n.kids.length cap1, .int .i64 n.pos] 49) := ⟨_, rfl⟩
  have X1 := hid (show Ext none' w W1 by rw [hW1]; exact (Ext.refl _ _).alloc _)
  have G0 := hid (show W1.heap[B]? = some (.cells #[.int .i64 n.kind, .string ⟨n.text.toArray⟩, .slice a1 n.kids.length cap1, .int .i64 n.pos] 49 (0, 0)) by rw [hW1]; exact heap_alloc_at hB _)
  have HN := hid hn
  clear hz' hrb hz hn
  go_enter Tryz.func7, Tryz.ntmps7
  go_upto_region 1 with (fail)
  rw [← hW1, ← hB]
  clear hW1 hB
  have c0 := cell_at G0.out 0
  have c1 := cell_at G0.out 1
  have c2 := cell_at G0.out 2
  have c3 := cell_at G0.out 3
  simp only [List.getElem?_toArray, List.getElem?_cons_zero, List.getElem?_cons_succ] at c0 c1 c2 c3
  go_wp2_with fail
  refine (CZ.out _ X1.out).mono ?_
  rintro e W2 ⟨rfl, X2⟩
  have G0 := hid (X2.heap G0.out fun h => h)
  have X2 := hid (X1.out.trans X2)
  clear c0 c1 c2 c3
  have c0 := cell_at G0.out 0
  have c1 := cell_at G0.out 1
  have c2 := cell_at G0.out 2
  have c3 := cell_at G0.out 3
  simp only [List.getElem?_toArray, List.getElem?_cons_zero, List.getElem?_cons_succ] at c0 c1 c2 c3
  by_cases hz1 : z ≤ 500
  case neg =>
    have q1 : (500 : Int) < (z : Int) := by omega
    clear hz1
    go_wp2_with fail
    refine (CZ.out _ X2.out).mono ?_
    rintro e W3 ⟨rfl, X3⟩
    have X3 := hid (X2.out.trans X3)
    clear c0 c1 c2 c3
    go_wp2_with fail
    go_ret
    exact ⟨rfl, X3.out⟩
  have q1 : ¬ (500 : Int) < (z : Int) := by omega
  clear hz1
  go_wp2_with fail
  refine (CR.out _ X2.out).mono ?_
  rintro e W3 ⟨rfl, X3⟩
  have G0 := hid (X3.heap G0.out fun h => h)
  have X3 := hid (X2.out.trans X3)
  clear c0 c1 c2 c3
  have c0 := cell_at G0.out 0
  have c1 := cell_at G0.out 1
  have c2 := cell_at G0.out 2
  have c3 := cell_at G0.out 3
  simp only [List.getElem?_toArray, List.getElem?_cons_zero, List.getElem?_cons_succ] at c0 c1 c2 c3
  cases rb
  case false =>
    go_wp2_with fail
    refine (CZ.out _ X3.out).mono ?_
    rintro e W4 ⟨rfl, X4⟩
    have X4 := hid (X3.out.trans X4)
    clear c0 c1 c2 c3
    go_wp2_with fail
    refine (awake_any _).mono ?_
    rintro e W5 ⟨rfl, X5⟩
    have X5 := hid (X4.out.trans X5)
    go_wp2_with fail
    go_ret
    exact ⟨rfl, X5.out⟩
  obtain ⟨hty, hdep⟩ := right_parts HRB.out
  have TD : TyD n.size n := ⟨Nat.le_refl _, hty⟩
  have CO := hid fun ps (hps : ps.length ≤ 1000) W (X : Ext none' w W) u hu => Of_any ps (by omega) n.size HN.out n TD none' _ u W (fun _ h => h.elim) (HV.out.ext X fun _ _ h => h) hu
  have CE := hid fun ps W u hu => tree_any ps n.size HN.out n TD none' u W (fun _ h => h.elim) hu
  have CS := hid fun W (X : Ext none' w W) u hu => (show Calls Tryz.prog 28 #[u, _, .int .i64 (200 : Nat)] W (BoolP true W) from by
    have := nsame_any 200 (by omega) (strip n) n (by rw [strip_size]; exact HN.out) HN.out u _ W hu (HV.out.ext X fun _ _ h => h)
    rw [same_strip 101 200 n (by omega) (by omega)] at this
    exact this)
  clear hty hdep TD
  go_upto_region 3 with (fail)
  clear c0 c1 c2 c3
  have y0 := fun t' : LaterF none' W3 => cell_at (t'.x.heap G0.out fun h => h) 0
  have y1 := fun t' : LaterF none' W3 => cell_at (t'.x.heap G0.out fun h => h) 1
  have y2 := fun t' : LaterF none' W3 => cell_at (t'.x.heap G0.out fun h => h) 2
  have y3 := fun t' : LaterF none' W3 => cell_at (t'.x.heap G0.out fun h => h) 3
  simp only [List.getElem?_toArray, List.getElem?_cons_zero, List.getElem?_cons_succ] at y0 y1 y2 y3
  have HY := hid (And.intro y0 (And.intro y1 (And.intro y2 y3)))
  refine region_q none' W3 (.qs [0, 3] (.one 1 true (.one 2 true (.one 4 true (.qs [5, 6, 10] (.one 7 true (.one 8 true (.one 9 true (.one 11 true (.qs [12, 13] (.one 14 true (.qs [15, 16] .fin)))))))))))) (by kernel_rfl) (by kernel_rfl) (fun dst v c a w h => by cases dst <;> exact h) ?_
  refine ⟨In.of (Ext.refl _ _).drew, ?_⟩
  change wpQuiet _ _ (fun w' => ∃ t : LaterF none' W3, w' = t.w) _ _ _
  simp only [sel, List.getElem?_cons_succ, List.getElem?_cons_zero]
  repeat (go_big_quiet_step (fail))
  refine wpQuiet_nil ?_
  simp only [wpTreeQ, stepT, sel, List.getElem?_cons_succ, List.getElem?_cons_zero]
  have D1 := hid (Ext.refl none' W3).drew
  clear y0 y1 y2 y3
  go_wp2_with fail
  refine (CO.out [] (by simp) _ (X3.out.trans D1.out) _ (IsSl.nil _ _ _ _)).mono ?_
  rintro e W4 ⟨u4, rfl, hu4, X4⟩
  have HU4 := hid hu4
  have X4 := hid (D1.out.trans X4)
  clear hu4
  go_wp2_with fail
  refine ⟨In.of X4.out, ?_⟩
  go_wp2_with fail
  refine (CE.out _ _ _ HU4.out).mono ?_
  rintro e W5 ⟨u5, rfl, hu5, X5⟩
  have HU5 := hid hu5
  have X5 := hid (X4.out.trans X5)
  clear hu5
  go_wp2_with fail
  refine ⟨In.of X5.out, ?_⟩
  go_wp2_with fail
  refine (CS.out _ (X3.out.trans X5.out) _ HU5.out).mono ?_
  rintro e W6 ⟨rfl, X6⟩
  have X6 := hid (X5.out.trans X6)
  go_wp2_with fail
  refine ⟨In.of X6.out, In.of X6.out, ?_⟩
  change wpQuiet _ _ (fun w' => ∃ t : LaterF none' W3, w' = t.w) _ _ _
  have z0 := HY.out.1
  have z1 := HY.out.2.1
  have z2 := HY.out.2.2.1
  have z3 := HY.out.2.2.2
  repeat (go_big_quiet_step (fail))
  refine wpQuiet_nil ?_
  clear z0 z1 z2 z3
  go_wp2_with fail
  obtain ⟨W7, hW7⟩ : ∃ W7, W7 = W6.alloc (.cells #[.string ⟨#[80]⟩, .string ⟨#[97]⟩] 9) := ⟨_, rfl⟩
  rw [← hW7]
  have X7 := hid (show Ext none' W3 W7 by rw [hW7]; exact X6.out.alloc _)
  have HS7 := hid (show IsStrs none' W7 (.slice (some ⟨W6.heap.size, 0, none⟩) 2 2) [[80], [97]] from isStrs_two (by rw [hW7]; exact heap_alloc_at rfl _))
  clear hW7
  refine ⟨In.of X7.out, ?_⟩
  go_wp2_with fail
  refine (CO.out [[80], [97]] (by simp) _ (X3.out.trans X7.out) _ HS7.out).mono ?_
  rintro e W8 ⟨u8, rfl, hu8, X8⟩
  have HU8 := hid hu8
  have X8 := hid (X7.out.trans X8)
  clear hu8
  go_wp2_with fail
  refine ⟨In.of X8.out, ?_⟩
  go_wp2_with fail
  refine (CE.out _ _ _ HU8.out).mono ?_
  rintro e W9 ⟨u9, rfl, hu9, X9⟩
  have HU9 := hid hu9
  have X9 := hid (X8.out.trans X9)
  clear hu9
  go_wp2_with fail
  refine ⟨In.of X9.out, ?_⟩
  go_wp2_with fail
  refine (CS.out _ (X3.out.trans X9.out) _ HU9.out).mono ?_
  rintro e W10 ⟨rfl, X10⟩
  have X10 := hid (X9.out.trans X10)
  go_wp2_with fail
  refine ⟨In.of X10.out, In.of X10.out, ?_⟩
  change wpQuiet _ _ (fun w' => ∃ t : LaterF none' W3, w' = t.w) _ _ _
  repeat (go_big_quiet_step (fail))
  refine wpQuiet_nil ?_
  go_wp2_with fail
  refine (awake_any _).mono ?_
  rintro e W11 ⟨rfl, X11⟩
  have X11 := hid (X10.out.trans X11)
  go_wp2_with fail
  refine ⟨In.of X11.out, In.of X11.out, ?_⟩
  change wpQuiet _ _ (fun w' => ∃ t : LaterF none' W3, w' = t.w) _ _ _
  repeat (go_big_quiet_step (fail))
  refine wpQuiet_nil ?_
  go_wp2_with fail
  go_ret
  exact ⟨rfl, X3.out.trans X11.out⟩
end Go.Proofs.YtbhpmmofgdppdaaGreatDoor
