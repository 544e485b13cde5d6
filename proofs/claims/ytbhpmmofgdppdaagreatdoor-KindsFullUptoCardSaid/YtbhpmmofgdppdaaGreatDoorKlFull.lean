import Derived.Test.YtbhpmmofgdppdaaGreatDoorKlOrder
import Derived.Test.YtbhpmmofgdppdaaGreatDoorKlOthers
import Derived.Test.YtbhpmmofgdppdaaGreatDoorKlFullP
import Derived.Test.YtbhpmmofgdppdaaGreatDoorKlPlain
import Derived.Test.YtbhpmmofgdppdaaGreatDoorKlAls
/-
  KindsFull: the law's function.
-/
namespace Go.Proofs.YtbhpmmofgdppdaaGreatDoor
open Go.RowKit Go.Lib Go.BigFrame
set_option linter.unusedSimpArgs false
set_option linter.unusedVariables false
set_option maxRecDepth 100000 in
set_option maxHeartbeats 6400000 in
theorem law_full (ds : List Df) (t : Ty) (hsz : ∀ d ∈ ds, d.ty.size ≤ bigD) (ht : t.size ≤ bigD) (dv v : Value) (w : World) (hd : IsSl 6 IsDf none' w dv ds) (hv : TyV none' w t v) : Calls Tryz.prog 3 #[dv, v] w (TruePost w) := by
  have HD := hid hd
  have HV := hid hv
  have C1 := hid fun W (X : Ext none' w W) => light_any ds hsz dv W (hd.ext isDf_good X fun _ _ h => h)
  have C2 := hid fun W (X : Ext none' w W) => rsize_any t ht none' _ W (HV.out.ext X fun _ _ h => h)
  obtain ⟨x, rfl, hx⟩ := hv
  obtain ⟨a1, cap1, rfl, _⟩ := hx
  obtain ⟨ad, cd, rfl, _⟩ := hd
  have hts := ht
  unfold bigD at hts
  obtain ⟨B, hB⟩ : ∃ B, B = w.heap.size := ⟨_, rfl⟩
  have G0 := hid (heap_alloc_at (w := w) hB (.cells #[.int .i64 t.kind, .string ⟨t.name.toArray⟩, .slice a1 t.args.length cap1] 25))
  have HB := hid hB
  have HSZ := hid hsz
  clear hB hsz
  obtain ⟨li, hli⟩ : ∃ li, lightP ds = li := ⟨_, rfl⟩
  rw [hli] at C1
  cases li with
  | false =>
    clear hli
    go_enter Tryz.func3, Tryz.ntmps3
    go_wp2_with fail
    refine (C1.out _ ((Ext.refl _ _).alloc _)).mono ?_
    rintro e W1 ⟨rfl, X1⟩
    have X1 := hid (((Ext.refl none' w).alloc _).trans X1)
    go_wp2_with fail
    go_ret
    exact ⟨rfl, X1.out⟩
  | true =>
    have fit := light_fit hli
    obtain ⟨hl1, hl2⟩ := light_len hli
    have C3 := hid fun W (X : Ext none' w W) A (hA : ∀ b, A b → b < W.heap.size) => defs_any ds hl1 (fun d h => ⟨HSZ.out d h, hl2 d h⟩) A _ W (HD.out.ext isDf_good X fun _ _ h => h) hA
    have C4 := hid fun W (X : Ext none' w W) A (hA : ∀ b, A b → b < W.heap.size) => of_tyany t ht A _ W (HV.out.ext X fun _ _ h => h) hA
    have FIT := hid fit
    have LEN := hid hl1
    clear hli hl1 hl2 fit
    by_cases h6 : t.size ≤ 60
    · have z1 : ¬ ((60 : Int) < (t.size : Int)) := by omega
      go_enter Tryz.func3, Tryz.ntmps3
      go_wp2_with fail
      refine (C1.out _ ((Ext.refl _ _).alloc _)).mono ?_
      rintro e W1 ⟨rfl, X1⟩
      have G0 := hid (X1.heap G0.out fun h => h)
      have X1 := hid (((Ext.refl none' w).alloc _).trans X1)
      have c0 := cell_at G0.out 0
      have c1 := cell_at G0.out 1
      have c2 := cell_at G0.out 2
      simp only [List.getElem?_toArray, List.getElem?_cons_zero, List.getElem?_cons_succ] at c0 c1 c2
      rw [HB.out] at c0 c1 c2
      go_wp2_with fail
      refine (C2.out _ X1.out).mono ?_
      rintro e W2 ⟨rfl, X2⟩
      have G0 := hid (X2.heap G0.out fun h => h)
      have X2 := hid (X1.out.trans X2)
      clear c0 c1 c2
      have c0 := cell_at G0.out 0
      have c1 := cell_at G0.out 1
      have c2 := cell_at G0.out 2
      simp only [List.getElem?_toArray, List.getElem?_cons_zero, List.getElem?_cons_succ] at c0 c1 c2
      rw [HB.out] at c0 c1 c2
      go_wp2_with fail
      refine (C3.out _ X2.out none' (fun _ h => h.elim)).mono ?_
      rintro e W3 ⟨u, rfl, hu, X3⟩
      have HDS := hid hu
      obtain ⟨a5, cap5, rfl, _⟩ := hu
      have G0 := hid (X3.heap G0.out fun h => h)
      have X3 := hid (X2.out.trans X3)
      clear c0 c1 c2
      have c0 := cell_at G0.out 0
      have c1 := cell_at G0.out 1
      have c2 := cell_at G0.out 2
      simp only [List.getElem?_toArray, List.getElem?_cons_zero, List.getElem?_cons_succ] at c0 c1 c2
      rw [HB.out] at c0 c1 c2
      go_wp2_with fail
      refine (C4.out _ X3.out none' (fun _ h => h.elim)).mono ?_
      rintro e W4 ⟨u, rfl, hu, X4⟩
      have HT4 := hid hu
      obtain ⟨x4, rfl, hx4⟩ := hu
      obtain ⟨a4, cap4, rfl, _⟩ := hx4
      have G0 := hid (X4.heap G0.out fun h => h)
      have E34 := hid X4
      have X4 := hid (X3.out.trans X4)
      clear c0 c1 c2
      have hfl : (fullP ds t).size ≤ bigD := Nat.le_trans (full_size FIT.out.ok t) (by unfold bigD; omega)
      have HCL := hid (fullP_clean FIT.out.ok t)
      have CF := hid (Full_any ds FIT.out t ht none' _ _ W4 (HDS.out.ext isDf_good E34.out fun _ _ h => h) HT4.out (fun _ h => h.elim))
      have CB := hid fun x W (X : Ext none' W3 W) hv => Behind_any ds FIT.out t ht none' _ x W (HDS.out.ext isDf_good X fun _ _ h => h) hv (fun _ h => h.elim)
      have hbk := behP_kind ds 100 t
      have CF2 := hid fun x W (X : Ext none' W3 W) hv => Full_any ds FIT.out (fullP ds t) hfl none' _ x W (HDS.out.ext isDf_good X fun _ _ h => h) hv (fun _ h => h.elim)
      have HDL := hid (show ds.length ≤ 1000000 from LEN.out)
      have CA := hid fun x W (X : Ext none' W3 W) hv => aliased_any ds HDL.out (fullP ds t) hfl _ x W (HDS.out.ext isDf_good X fun _ _ h => h) hv
      obtain ⟨b, hb⟩ : ∃ b, behindP ds t = b := ⟨_, rfl⟩
      have hbk : b.kind ≠ 3 := by rw [← hb]; exact hbk
      rw [hb] at CB
      obtain ⟨f, hf⟩ : ∃ f, fullP ds t = f := ⟨_, rfl⟩
      rw [hf] at CF CF2 CA HCL hfl
      obtain ⟨f2, hf2⟩ : ∃ f2, fullP ds f = f2 := ⟨_, rfl⟩
      obtain ⟨al, hal⟩ : ∃ al, aliasB ds f = al := ⟨_, rfl⟩
      rw [hf2] at CF2 HCL
      rw [hal] at CA HCL
      have PL := hid fun v W hv => plain_tyany f hfl none' v W hv (fun _ h => h.elim)
      have hfa : f.args.length ≤ bigD := by have := Ty.args_len f; omega
      have hfy : ∀ y ∈ f.args, y.size ≤ bigD := fun y hy => by have := Ty.size_arg hy; omega
      have CT := hid fun v u W hv hu => (show Calls Tryz.prog _ #[v, u] W (BoolP true W) from by have h := told_any f.size hfl f f (Nat.le_refl _) hfa hfy v u W hv hu; rw [sameP_refl _ _ (Nat.le_refl _)] at h; exact h)
      have hb3 : (b.kind == 3) = false := by simpa using hbk
      have HB3 := hid hb3
      clear hb hf hf2 hal hfl hfa hfy hbk hb3
      go_wp2_with fail
      refine CF.out.mono ?_
      rintro e W5 ⟨u, rfl, hu, X5⟩
      have HFV := hid hu
      obtain ⟨xf, rfl, hxf⟩ := hu
      obtain ⟨af, capf, rfl, _⟩ := hxf
      have G0 := hid (X5.heap G0.out fun h => h)
      have E35 := hid (E34.out.trans X5)
      have X5 := hid (X4.out.trans X5)
      go_upto_region 5 with (fail)
      obtain ⟨W6, hW6⟩ : ∃ W6, W6 = W5.alloc (.cells #[.int .i64 f.kind, .string ⟨f.name.toArray⟩, .slice af f.args.length capf] 32) := ⟨_, rfl⟩
      rw [← hW6]
      have X56 := hid (show Ext none' W5 W6 by rw [hW6]; exact (Ext.refl _ _).alloc _)
      have G8 := hid (show W6.heap[W5.heap.size]? = some (.cells #[.int .i64 f.kind, .string ⟨f.name.toArray⟩, .slice af f.args.length capf] 32 (0, 0)) by rw [hW6]; exact heap_alloc_at rfl _)
      clear hW6
      have G0 := hid (X56.out.heap G0.out fun h => h)
      have E36 := hid (E35.out.trans X56.out)
      have X6 := hid (X5.out.trans X56.out)
      have c0 := cell_at G0.out 0
      have c1 := cell_at G0.out 1
      have c2 := cell_at G0.out 2
      simp only [List.getElem?_toArray, List.getElem?_cons_zero, List.getElem?_cons_succ] at c0 c1 c2
      rw [HB.out] at c0 c1 c2
      go_wp2_with fail
      refine (C4.out _ X6.out none' (fun _ h => h.elim)).mono ?_
      rintro e W7 ⟨u, rfl, hu, X7⟩
      have HT7 := hid hu
      obtain ⟨x7, rfl, hx7⟩ := hu
      obtain ⟨a7, cap7, rfl, _⟩ := hx7
      have G8 := hid (X7.heap G8.out fun h => h)
      have E57 := hid (X56.out.trans X7)
      have E37 := hid (E36.out.trans X7)
      have X7 := hid (X6.out.trans X7)
      clear c0 c1 c2
      go_wp2_with fail
      refine (CB.out _ _ E37.out HT7.out).mono ?_
      rintro e W8 ⟨u, rfl, ⟨xb, rfl, hxb⟩, X8⟩
      obtain ⟨ab, capb, rfl, _⟩ := hxb
      have G8 := hid (X8.heap G8.out fun h => h)
      have E38 := hid (E37.out.trans X8)
      have HFV := hid (HFV.out.ext (E57.out.trans X8) fun _ _ h => h)
      have X8 := hid (X7.out.trans X8)
      have hb3 := HB3.out
      have hfl := field_kind
      go_upto_region 7 with (fail)
      clear hb3 hfl
      have y0 := fun t' : LaterF none' W8 => cell_at (t'.x.heap G8.out fun h => h) 0
      have y1 := fun t' : LaterF none' W8 => cell_at (t'.x.heap G8.out fun h => h) 1
      have y2 := fun t' : LaterF none' W8 => cell_at (t'.x.heap G8.out fun h => h) 2
      simp only [List.getElem?_toArray, List.getElem?_cons_zero, List.getElem?_cons_succ] at y0 y1 y2
      have HY := hid (And.intro y0 (And.intro y1 y2))
      have D1 := hid (Ext.refl none' W8).drew
      refine region_q none' W8 (.qs [0, 1, 2, 3, 4, 5] (.one 6 true (.qs [7, 8, 9, 10, 12] (.one 11 true (.one 13 true (.one 14 true (.qs [15, 16, 17] (.one 18 true (.qs [19, 20] .fin))))))))) (by kernel_rfl) (by kernel_rfl) (fun dst v c a w h => by cases dst <;> exact h) ?_
      refine ⟨In.of (Ext.refl _ _).drew, ?_⟩
      change wpQuiet _ _ (fun w' => ∃ t : LaterF none' W8, w' = t.w) _ _ _
      simp only [sel, List.getElem?_cons_succ, List.getElem?_cons_zero]
      by_cases k0 : f.kind = 0
      · rw [k0] at y0
        clear k0
        repeat (go_big_quiet_step (fail))
        refine wpQuiet_nil ?_
        simp only [wpTreeQ, stepT, sel, List.getElem?_cons_succ, List.getElem?_cons_zero]
        clear y0 y1 y2
        go_wp2_with fail
        refine ⟨In.of D1.out, In.of D1.out, ?_⟩
        change wpQuiet _ _ (fun w' => ∃ t : LaterF none' W8, w' = t.w) _ _ _
        repeat (go_big_quiet_step (fail))
        refine wpQuiet_nil ?_
        go_wp2_with fail
        refine ⟨In.of D1.out, ?_⟩
        go_wp2_with fail
        refine ⟨In.of D1.out, ?_⟩
        go_wp2_with fail
        refine ⟨In.of D1.out, In.of D1.out, ?_⟩
        change wpQuiet _ _ (fun w' => ∃ t : LaterF none' W8, w' = t.w) _ _ _
        repeat (go_big_quiet_step (fail))
        refine wpQuiet_nil ?_
        go_wp2_with fail
        refine (awake_any _).mono ?_
        rintro e WZ ⟨rfl, XZ⟩
        have XZ := hid (D1.out.trans XZ)
        go_wp2_with fail
        refine ⟨In.of XZ.out, In.of XZ.out, ?_⟩
        change wpQuiet _ _ (fun w' => ∃ t : LaterF none' W8, w' = t.w) _ _ _
        repeat (go_big_quiet_step (fail))
        refine wpQuiet_nil ?_
        go_wp2_with fail
        go_ret
        exact ⟨rfl, X8.out.trans XZ.out⟩
      · obtain ⟨ea, ef⟩ := HCL.out k0
        rw [ea] at CA
        rw [ef] at CF2
        clear ea ef
        have e0 : (f.kind == 0) = false := by simpa using k0
        clear k0
        repeat (go_big_quiet_step (fail))
        refine wpQuiet_nil ?_
        simp only [wpTreeQ, stepT, sel, List.getElem?_cons_succ, List.getElem?_cons_zero]
        clear y0 y1 y2 e0
        go_wp2_with fail
        refine (CA.out _ _ (E38.out.trans D1.out) (HFV.out.ext D1.out fun _ _ h => h)).mono ?_
        rintro e W9 ⟨rfl, X9⟩
        have X9 := hid (D1.out.trans X9)
        go_wp2_with fail
        refine ⟨In.of X9.out, In.of X9.out, ?_⟩
        have y0 := HY.out.1
        have y1 := HY.out.2.1
        have y2 := HY.out.2.2
        change wpQuiet _ _ (fun w' => ∃ t : LaterF none' W8, w' = t.w) _ _ _
        repeat (go_big_quiet_step (fail))
        refine wpQuiet_nil ?_
        clear y0 y1 y2
        go_wp2_with fail
        refine (CF2.out _ _ (E38.out.trans X9.out) (HFV.out.ext X9.out fun _ _ h => h)).mono ?_
        rintro e W10 ⟨u10, rfl, hu10, X10⟩
        have E10 := hid hu10
        clear hu10
        have X10 := hid (X9.out.trans X10)
        go_wp2_with fail
        refine ⟨In.of X10.out, ?_⟩
        go_wp2_with fail
        refine (PL.out _ _ (HFV.out.ext X10.out fun _ _ h => h)).mono ?_
        rintro e W11 ⟨u11, rfl, hu11, X11⟩
        have E11 := hid hu11
        have E10 := hid (E10.out.ext X11 fun _ _ h => h)
        clear hu11
        have X11 := hid (X10.out.trans X11)
        go_wp2_with fail
        refine ⟨In.of X11.out, ?_⟩
        go_wp2_with fail
        refine (CT.out _ _ _ E10.out E11.out).mono ?_
        rintro e W12 ⟨rfl, X12⟩
        have X12 := hid (X11.out.trans X12)
        go_wp2_with fail
        refine ⟨In.of X12.out, In.of X12.out, ?_⟩
        change wpQuiet _ _ (fun w' => ∃ t : LaterF none' W8, w' = t.w) _ _ _
        repeat (go_big_quiet_step (fail))
        refine wpQuiet_nil ?_
        go_wp2_with fail
        refine (awake_any _).mono ?_
        rintro e WZ ⟨rfl, XZ⟩
        have XZ := hid (X12.out.trans XZ)
        go_wp2_with fail
        refine ⟨In.of XZ.out, In.of XZ.out, ?_⟩
        change wpQuiet _ _ (fun w' => ∃ t : LaterF none' W8, w' = t.w) _ _ _
        repeat (go_big_quiet_step (fail))
        refine wpQuiet_nil ?_
        go_wp2_with fail
        go_ret
        exact ⟨rfl, X8.out.trans XZ.out⟩
    · have z1 : (60 : Int) < (t.size : Int) := by omega
      go_enter Tryz.func3, Tryz.ntmps3
      go_wp2_with fail
      refine (C1.out _ ((Ext.refl _ _).alloc _)).mono ?_
      rintro e W1 ⟨rfl, X1⟩
      have G0 := hid (X1.heap G0.out fun h => h)
      have X1 := hid (((Ext.refl none' w).alloc _).trans X1)
      have c0 := cell_at G0.out 0
      have c1 := cell_at G0.out 1
      have c2 := cell_at G0.out 2
      simp only [List.getElem?_toArray, List.getElem?_cons_zero, List.getElem?_cons_succ] at c0 c1 c2
      rw [HB.out] at c0 c1 c2
      go_wp2_with fail
      refine (C2.out _ X1.out).mono ?_
      rintro e W2 ⟨rfl, X2⟩
      have X2 := hid (X1.out.trans X2)
      clear c0 c1 c2
      go_wp2_with fail
      go_ret
      exact ⟨rfl, X2.out⟩
end Go.Proofs.YtbhpmmofgdppdaaGreatDoor
