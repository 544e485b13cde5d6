import Derived.Test.YtbhpmmofgdppdaaGreatDoorKbBack
/-
  KindsRight: the law's function.
-/
namespace Go.Proofs.YtbhpmmofgdppdaaGreatDoor
open Go.RowKit Go.Lib Go.BigFrame
theorem nmB_nil : nmB [] = false := by decide
set_option maxRecDepth 100000 in
set_option maxHeartbeats 6400000 in
theorem law_Right (n : Nd) (hn : n.size ≤ bigD) (ps : List (List UInt8)) (v pv : Value) (w : World) (hv : NdV none' w n v) (hp : IsStrs none' w pv ps) : Calls Tryz.prog 8 #[v, pv] w (TruePost w) := by
  have CZ := hid fun W (X : Ext none' w W) => nsize_any 1000 (by omega) n hn none' v W (hv.ext X fun _ _ h => h)
  have CR := hid fun W (X : Ext none' w W) => rright_type n.size hn n (Nat.le_refl _) v W (hv.ext X fun _ _ h => h)
  have HV := hid hv
  obtain ⟨x, rfl, hx⟩ := hv
  obtain ⟨a1, cap1, rfl, _⟩ := hx
  have HP := hid hp
  obtain ⟨ap, capp, rfl, _⟩ := hp
  have hz := sizeD_le 1000 n
  obtain ⟨z, hz'⟩ : ∃ z, sizeD 1000 n = z := ⟨_, rfl⟩
  rw [hz'] at CZ hz
  have hzb : z ≤ 20000000000 := by unfold bigD at hn; omega
  obtain ⟨rb, hrb⟩ : ∃ b, rightB (tyF nmB n.size n) n = b := ⟨_, rfl⟩
  rw [hrb] at CR
  have HRB := hid hrb
  obtain ⟨B, hB⟩ : ∃ B, B = w.heap.size := ⟨_, rfl⟩
  obtain ⟨W1, hW1⟩ : ∃ W1, W1 = w.alloc (.cells #[.int .i64 n.kind, .string ⟨n.text.toArray⟩, .slice a1 n.kids.length cap1, .int .i64 n.pos] 49) := ⟨_, rfl⟩
  have X1 := hid (show Ext none' w W1 by rw [hW1]; exact (Ext.refl _ _).alloc _)
  have G0 := hid (show W1.heap[B]? = some (.cells #[.int .i64 n.kind, .string ⟨n.text.toArray⟩, .slice a1 n.kids.length cap1, .int .i64 n.pos] 49 (0, 0)) by rw [hW1]; exact heap_alloc_at hB _)
  have HN := hid hn
  clear hz' hrb hz hn
  go_enter Tryz.func8, Tryz.ntmps8
  go_upto_region 1 with (fail)
  rw [← hW1, ← hB]
  clear hW1 hB
  have c0 := cell_at G0.out 0
  have c1 := cell_at G0.out 1
  have c2 := cell_at G0.out 2
  have c3 := cell_at G0.out 3
  simp only [List.getElem?_toArray, List.getElem?_cons_zero, List.getElem?_cons_succ] at c0 c1 c2 c3
  go_wp2_with fail
  refine (CZ.out _ X1.out).mono ?_
  rintro e W2 ⟨rfl, X2⟩
  have G0 := hid (X2.heap G0.out fun h => h)
  have X2 := hid (X1.out.trans X2)
  clear c0 c1 c2 c3
  have c0 := cell_at G0.out 0
  have c1 := cell_at G0.out 1
  have c2 := cell_at G0.out 2
  have c3 := cell_at G0.out 3
  simp only [List.getElem?_toArray, List.getElem?_cons_zero, List.getElem?_cons_succ] at c0 c1 c2 c3
  by_cases hz1 : z ≤ 500
  case neg =>
    have q1 : (500 : Int) < (z : Int) := by omega
    clear hz1
    go_wp2_with fail
    refine (CZ.out _ X2.out).mono ?_
    rintro e W3 ⟨rfl, X3⟩
    have X3 := hid (X2.out.trans X3)
    clear c0 c1 c2 c3
    go_wp2_with fail
    go_ret
    exact ⟨rfl, X3.out⟩
  have q1 : ¬ (500 : Int) < (z : Int) := by omega
  clear hz1
  by_cases hp1 : ps.length ≤ 10
  case neg =>
    have q2 : (10 : Int) < (ps.length : Int) := by omega
    clear hp1
    go_wp2_with fail
    refine (CZ.out _ X2.out).mono ?_
    rintro e W3 ⟨rfl, X3⟩
    have X3 := hid (X2.out.trans X3)
    clear c0 c1 c2 c3
    go_wp2_with fail
    go_ret
    exact ⟨rfl, X3.out⟩
  have q2 : ¬ (10 : Int) < (ps.length : Int) := by omega
  have HP1 := hid hp1
  clear hp1
  go_wp2_with fail
  refine (CR.out _ X2.out).mono ?_
  rintro e W3 ⟨rfl, X3⟩
  have G0 := hid (X3.heap G0.out fun h => h)
  have X3 := hid (X2.out.trans X3)
  clear c0 c1 c2 c3
  have c0 := cell_at G0.out 0
  have c1 := cell_at G0.out 1
  have c2 := cell_at G0.out 2
  have c3 := cell_at G0.out 3
  simp only [List.getElem?_toArray, List.getElem?_cons_zero, List.getElem?_cons_succ] at c0 c1 c2 c3
  cases rb
  case false =>
    go_wp2_with fail
    refine (CZ.out _ X3.out).mono ?_
    rintro e W4 ⟨rfl, X4⟩
    have X4 := hid (X3.out.trans X4)
    clear c0 c1 c2 c3
    go_wp2_with fail
    refine (awake_any _).mono ?_
    rintro e W5 ⟨rfl, X5⟩
    have X5 := hid (X4.out.trans X5)
    go_wp2_with fail
    go_ret
    exact ⟨rfl, X5.out⟩
  obtain ⟨hty, hdep⟩ := right_parts HRB.out
  have TD : TyD n.size n := ⟨Nat.le_refl _, hty⟩
  have CO := hid fun ps (hps : ps.length ≤ 1000) A W (hA : ∀ b, A b → b < W.heap.size) (X : Ext none' w W) u hu => Of_any ps (by omega) n.size HN.out n TD A _ u W hA (HV.out.ext X fun _ _ h => h) hu
  have CX := hid fun ps W u hu => (show Calls Tryz.prog 31 #[u] W (StrPost (typF n.size n) W) from by
    have := ktext_any ps n.size HN.out n (Nat.le_refl _) hty (by rw [strip_size]; exact Nat.le_refl _) u W hu
    rw [rightB_strip, tyF_strip, HRB.out, if_pos rfl, typF_strip] at this
    exact this)
  have NE := hid (typF_ne nmB_nil hty)
  have NK := hid fun ps => (show (ofK ps n.size n).kind ≠ 0 ∧ (ofK ps n.size n).kind ≠ 2 from ⟨(ofK_kind hty).1, (ofK_kind hty).2.2⟩)
  obtain ⟨tx, htx⟩ : ∃ s, typF n.size n = s := ⟨_, rfl⟩
  rw [htx] at CX NE
  clear hty hdep TD htx
  go_upto_region 3 with (fail)
  go_wp2_with fail
  refine (CO.out ps (by have := HP1.out; omega) none' W3 (fun _ h => h.elim) X3.out _ (HP.out.ext isStr_good X3.out fun _ _ h => h)).mono ?_
  rintro e W4 ⟨u, rfl, hu, X4⟩
  have HU := hid hu
  obtain ⟨y, rfl, hy⟩ := hu
  have HY := hid hy
  obtain ⟨a3, cap3, rfl, _⟩ := hy
  have HNK := hid (NK.out ps)
  have CXP := hid (CX.out ps)
  obtain ⟨T, hT⟩ : ∃ T, ofK ps n.size n = T := ⟨_, rfl⟩
  rw [hT] at HU HY HNK CXP ⊢
  clear hT
  obtain ⟨C, hC⟩ : ∃ C, C = W4.heap.size := ⟨_, rfl⟩
  obtain ⟨W5, hW5⟩ : ∃ W5, W5 = W4.alloc (.cells #[.int .i64 T.kind, .string ⟨T.name.toArray⟩, .slice a3 T.args.length cap3] 32) := ⟨_, rfl⟩
  have X45 := hid (show Ext none' W4 W5 by rw [hW5]; exact (Ext.refl _ _).alloc _)
  have G3 := hid (show W5.heap[C]? = some (.cells #[.int .i64 T.kind, .string ⟨T.name.toArray⟩, .slice a3 T.args.length cap3] 32 (0, 0)) by rw [hW5]; exact heap_alloc_at hC _)
  have G0 := hid ((X4.trans X45.out).heap G0.out fun h => h)
  have X5 := hid (X3.out.trans (X4.trans X45.out))
  have VT := hid fun W (X : Ext none' W5 W) => (show TyV none' W T (.agg #[.int .i64 T.kind, .string ⟨T.name.toArray⟩, .slice a3 T.args.length cap3]) from ⟨_, rfl, (HY.out.ext isTy_good X45.out fun _ _ h => h).ext isTy_good X fun _ _ h => h⟩)
  clear X4
  go_upto_region 4 with (fail)
  rw [← hW5, ← hC]
  clear hW5 hC c0 c1 c2 c3
  have hk0 := HNK.out.1
  have hk2 := HNK.out.2
  have k0 : (T.kind != 0) = true := by simpa using hk0
  have k2 : (T.kind != 2) = true := by simpa using hk2
  obtain ⟨Tk, hTk⟩ : ∃ k, T.kind = k := ⟨_, rfl⟩
  rw [hTk] at k0 k2
  have y0 := fun t' : LaterF none' W5 => cell_at (t'.x.heap G0.out fun h => h) 0
  have y1 := fun t' : LaterF none' W5 => cell_at (t'.x.heap G0.out fun h => h) 1
  have y2 := fun t' : LaterF none' W5 => cell_at (t'.x.heap G0.out fun h => h) 2
  have y3 := fun t' : LaterF none' W5 => cell_at (t'.x.heap G0.out fun h => h) 3
  have j0 := fun t' : LaterF none' W5 => cell_at (t'.x.heap G3.out fun h => h) 0
  have j1 := fun t' : LaterF none' W5 => cell_at (t'.x.heap G3.out fun h => h) 1
  have j2 := fun t' : LaterF none' W5 => cell_at (t'.x.heap G3.out fun h => h) 2
  simp only [List.getElem?_toArray, List.getElem?_cons_zero, List.getElem?_cons_succ] at y0 y1 y2 y3 j0 j1 j2
  rw [hTk] at j0 VT
  have HJ := hid (And.intro j0 (And.intro j1 j2))
  clear hk0 hk2 hTk
  refine region_q none' W5 (.qs [0, 1, 2, 3, 4, 5, 6, 7, 8, 9, 11] (.one 10 true (.one 12 true (.one 13 true (.qs [14, 15, 16, 17] (.one 18 true (.qs [19, 20, 21] (.one 22 true (.qs [23, 24] .fin))))))))) (by kernel_rfl) (by kernel_rfl) (fun dst v c a w h => by cases dst <;> exact h) ?_
  refine ⟨In.of (Ext.refl _ _).drew, ?_⟩
  change wpQuiet _ _ (fun w' => ∃ t : LaterF none' W5, w' = t.w) _ _ _
  simp only [sel, List.getElem?_cons_succ, List.getElem?_cons_zero]
  repeat (go_big_quiet_step (fail))
  refine wpQuiet_nil ?_
  simp only [wpTreeQ, stepT, sel, List.getElem?_cons_succ, List.getElem?_cons_zero]
  have D1 := hid (Ext.refl none' W5).drew
  clear y0 y1 y2 y3 j0 j1 j2
  go_wp2_with fail
  refine (CXP.out _ _ (VT.out _ D1.out)).mono ?_
  rintro e W6 ⟨rfl, X6⟩
  have X6 := hid (D1.out.trans X6)
  go_wp2_with fail
  refine ⟨In.of X6.out, ?_⟩
  go_wp2_with fail
  refine (CO.out [] (by simp) none' _ (fun _ h => h.elim) (X5.out.trans X6.out) _ (IsSl.nil _ _ _ _)).mono ?_
  rintro e W7 ⟨u7, rfl, hu7, X7⟩
  have HU7 := hid hu7
  have X7 := hid (X6.out.trans X7)
  clear hu7
  go_wp2_with fail
  refine ⟨In.of X7.out, ?_⟩
  go_wp2_with fail
  refine (CX.out _ _ _ HU7.out).mono ?_
  rintro e W8 ⟨rfl, X8⟩
  have X8 := hid (X7.out.trans X8)
  go_wp2_with fail
  refine ⟨In.of X8.out, In.of X8.out, ?_⟩
  change wpQuiet _ _ (fun w' => ∃ t : LaterF none' W5, w' = t.w) _ _ _
  have j0 := HJ.out.1
  have j1 := HJ.out.2.1
  have j2 := HJ.out.2.2
  repeat (go_big_quiet_step (fail))
  refine wpQuiet_nil ?_
  clear j0 j1 j2
  go_wp2_with fail
  refine (CXP.out _ _ (VT.out _ X8.out)).mono ?_
  rintro e W9 ⟨rfl, X9⟩
  have X9 := hid (X8.out.trans X9)
  have ne1 : tx.isEmpty = false := by simpa using NE.out
  have ne2 : (tx != []) = true := by simpa using NE.out
  go_wp2_with fail
  refine ⟨In.of X9.out, In.of X9.out, ?_⟩
  change wpQuiet _ _ (fun w' => ∃ t : LaterF none' W5, w' = t.w) _ _ _
  repeat (go_big_quiet_step (fail))
  refine wpQuiet_nil ?_
  go_wp2_with fail
  refine (awake_any _).mono ?_
  rintro e W10 ⟨rfl, X10⟩
  have X10 := hid (X9.out.trans X10)
  go_wp2_with fail
  refine ⟨In.of X10.out, In.of X10.out, ?_⟩
  change wpQuiet _ _ (fun w' => ∃ t : LaterF none' W5, w' = t.w) _ _ _
  repeat (go_big_quiet_step (fail))
  refine wpQuiet_nil ?_
  go_wp2_with fail
  go_ret
  exact ⟨rfl, X5.out.trans X10.out⟩
end Go.Proofs.YtbhpmmofgdppdaaGreatDoor
