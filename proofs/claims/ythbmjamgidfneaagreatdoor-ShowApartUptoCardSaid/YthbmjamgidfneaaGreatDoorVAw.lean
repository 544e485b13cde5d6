import Derived.Test.YthbmjamgidfneaaGreatDoorVAb
import Derived.Test.YthbmjamgidfneaaGreatDoorVAf
import Derived.Test.YthbmjamgidfneaaGreatDoorVAq
import Derived.Test.YthbmjamgidfneaaGreatDoorVAv
set_option maxRecDepth 100000
set_option maxHeartbeats 6400000
namespace Go.Proofs.YthbmjamgidfneaaGreatDoor
open Go.RowKit Go.Lib Go.BigFrame
set_option linter.unusedVariables false
set_option linter.unusedSimpArgs false
theorem put_same {a : Act} {d : Tmp} {v : Value} (h : a.tmps[d]? = some v) : a.put (some d) v = a := by
 obtain ⟨hl, h⟩ := Array.getElem?_eq_some_iff.mp h
 show { a with tmps := a.tmps.setIfInBounds d v } = a
 have : a.tmps.setIfInBounds d v = a.tmps := by
  apply Array.ext
  · simp
  · intro i h1 h2
    rw [Array.getElem_setIfInBounds]
    split
    · rename_i e; subst e; exact h.symm
    · rfl
 rw [this]
theorem wpQuiet_putSame {P : Program} {ops : Array Oper} {C : World → Prop} {Q : Act → Prop} {l : List Oper} {a : Act} {d : Tmp} {v : Value} (h : a.tmps[d]? = some v) (hq : wpQuiet P ops C Q l a) : wpQuiet P ops C Q l (a.put (some d) v) := by
 rw [put_same h]; exact hq
theorem sx_bin (f : Nat) (H : ExpH f) (deep : Nat) (head : Bool) (hd : deep + (f + 1) ≤ 1200000) (hf : f + 1 ≤ 1100000) (t : Nd) (ht : t.size ≤ f + 1) (hk : t.kind = 20) (he : namB binB 20 [exF f, exF f] t = true) (v : Value) (w : World) (hm : MaxL w) (hv : NdV none' w t v) :
  Calls Tryz.prog 23 #[shV deep head, v] w (StrPost (brT (exT f) deep head ((t.kid 0).kind == 20 && decide (tightN (t.kid 0).text < tightN t.text)) (t.kid 0) ++ [32] ++ t.text ++ [32] ++ brT (exT f) deep head ((t.kid 1).kind == 20 && decide (tightN (t.kid 1).text ≤ tightN t.text)) (t.kid 1)) w) := by
 obtain ⟨y, rfl, hy⟩ := hv
 have HY := hid hy
 obtain ⟨a1, cap1, rfl, hcap, _⟩ := hy
 have hkl : t.kids.length ≤ 1100000 := by have := t.kids_len; omega
 obtain ⟨rr, hrr⟩ : ∃ r, r = brT (exT f) deep head ((t.kid 0).kind == 20 && decide (tightN (t.kid 0).text < tightN t.text)) (t.kid 0) ++ [32] ++ t.text ++ [32] ++ brT (exT f) deep head ((t.kid 1).kind == 20 && decide (tightN (t.kid 1).text ≤ tightN t.text)) (t.kid 1) := ⟨_, rfl⟩
 rw [← hrr]
 obtain ⟨_, htn, h3⟩ := namB_parts he
 obtain ⟨x, y, hkx, hx1, hy1⟩ := two_kids h3
 obtain ⟨hx0, hy0⟩ := kid_two hkx
 have hsz := size_two hkx
 have hl : t.kids.length = 2 := by rw [hkx]; rfl
 have htl := binB_len htn
 obtain ⟨yy0, hyy0⟩ : ∃ y, y = ((t.kid 0).kind == 20 && decide (tightN (t.kid 0).text < tightN t.text)) := ⟨_, rfl⟩
 rw [← hyy0] at hrr
 have hbl0 := brT_len (head := head) (yes := yy0) ((lens_all f deep (by omega)).1 x (by omega) hx1)
 have C0 := hid fun W (X : Ext none' w W) v' (hv' : NdV none' W (t.kid 0) v') => bracket_any f H deep head yy0 (by omega) (by omega) (t.kid 0) (by rw [hx0]; omega) (by rw [hx0]; exact hx1) v' W (maxL_later hm X) hv'
 have hbm0 : (brT (exT f) deep head yy0 (t.kid 0)).length ≤ 10000000000000 := by rw [hx0]; omega
 obtain ⟨q0, hq0⟩ : ∃ q, brT (exT f) deep head yy0 (t.kid 0) = q := ⟨_, rfl⟩
 rw [hq0] at C0 hbm0 hrr
 have T0 := hid fun W => tight_any (t.kid 0).text W
 obtain ⟨p0, hp0⟩ : ∃ p, tightN (t.kid 0).text = p := ⟨_, rfl⟩
 rw [hp0] at T0 hyy0
 obtain ⟨e0, he0⟩ : ∃ b, ((t.kid 0).kind == 20) = b := ⟨_, rfl⟩
 rw [he0] at hyy0
 obtain ⟨yy1, hyy1⟩ : ∃ y, y = ((t.kid 1).kind == 20 && decide (tightN (t.kid 1).text ≤ tightN t.text)) := ⟨_, rfl⟩
 rw [← hyy1] at hrr
 have hbl1 := brT_len (head := head) (yes := yy1) ((lens_all f deep (by omega)).1 y (by omega) hy1)
 have C1 := hid fun W (X : Ext none' w W) v' (hv' : NdV none' W (t.kid 1) v') => bracket_any f H deep head yy1 (by omega) (by omega) (t.kid 1) (by rw [hy0]; omega) (by rw [hy0]; exact hy1) v' W (maxL_later hm X) hv'
 have hbm1 : (brT (exT f) deep head yy1 (t.kid 1)).length ≤ 10000000000000 := by rw [hy0]; omega
 obtain ⟨q1, hq1⟩ : ∃ q, brT (exT f) deep head yy1 (t.kid 1) = q := ⟨_, rfl⟩
 rw [hq1] at C1 hbm1 hrr
 have T1 := hid fun W => tight_any (t.kid 1).text W
 obtain ⟨p1, hp1⟩ : ∃ p, tightN (t.kid 1).text = p := ⟨_, rfl⟩
 rw [hp1] at T1 hyy1
 obtain ⟨e1, he1⟩ : ∃ b, ((t.kid 1).kind == 20) = b := ⟨_, rfl⟩
 rw [he1] at hyy1
 have TT := hid fun W => tight_any t.text W
 obtain ⟨pp, hpp⟩ : ∃ p, tightN t.text = p := ⟨_, rfl⟩
 rw [hpp] at TT hyy0 hyy1
 have HY0 := hid hyy0
 have HY1 := hid hyy1
 have y0 : (0 : Int) < (t.kids.length : Int) := by omega
 have y1 : (1 : Int) < (t.kids.length : Int) := by omega
 have cat1 := str_cat q0 [32]
 have cat2 := str_cat (q0 ++ [32]) t.text
 have cat3 := str_cat (q0 ++ [32] ++ t.text) [32]
 have cat4 := str_cat (q0 ++ [32] ++ t.text ++ [32]) q1
 simp only [List.append_assoc, List.cons_append, List.nil_append] at cat2 cat3 cat4
 have HR := hid hrr
 rw [hk]
 have CF := hid fun W => free_any deep head W
 obtain ⟨B, hB⟩ : ∃ B, B = w.heap.size := ⟨_, rfl⟩
 have BX := TwoBox.mk' (deep := deep) (head := head) (cs := #[.int .i64 20, .string ⟨t.text.toArray⟩, .slice a1 t.kids.length cap1, .int .i64 t.pos]) hB
 obtain ⟨W0, hW0⟩ : ∃ W0, W0 = ((w.alloc (.cells #[.int .i64 (deep : Nat), .bool head] 50)).alloc (.cells #[.int .i64 20, .string ⟨t.text.toArray⟩, .slice a1 t.kids.length cap1, .int .i64 t.pos] 24)) := ⟨_, rfl⟩
 rw [← hW0] at BX
 have BX := hid BX
 have hmf := mkf_run
 clear hk he hrr ht hd hf hsz htn h3 hkx hx1 hy1 hx0 hy0 H hl hyy0 hyy1 hbl0 hbl1 hq0 hq1 hp0 hp1 hpp
 go_enter Tryz.func23, Tryz.ntmps23
 go_upto_region 1 with (fail)
 rw [← hW0, ← hB]
 clear hW0 hB
 obtain ⟨x0, x1⟩ := cell2 BX.out.g0
 obtain ⟨c0, c1, c2, c3⟩ := cell4 BX.out.g1
 go_wp2_with fail
 refine (CF.out _).mono ?_
 rintro e w1 ⟨rfl, X1⟩
 have BX := hid (BX.out.ext X1)
 clear x0 x1 c0 c1 c2 c3 X1
 obtain ⟨x0, x1⟩ := cell2 BX.out.g0
 obtain ⟨c0, c1, c2, c3⟩ := cell4 BX.out.g1
 go_upto_region 9 with (fail)
 clear x0 x1 c0 c1 c2 c3
 obtain ⟨x0, x1⟩ := cell2 BX.out.g0
 obtain ⟨c0, c1, c2, c3⟩ := cell4 BX.out.g1
 go_wp2_with fail
 refine (TT.out _).mono ?_
 rintro e w2 ⟨rfl, X2⟩
 have BX := hid (BX.out.ext X2)
 clear x0 x1 c0 c1 c2 c3 X2
 go_upto_region 10 with (fail)
 obtain ⟨b, off, z0, rfl, hbw, k00, k01, k02, k03, hz0⟩ := kid_val (HY.out.ext isNd_good BX.out.x fun _ _ h => h) 0 (by omega)
 obtain ⟨b', off', z1, e1, hbw1, k10, k11, k12, k13, hz1⟩ := kid_val (HY.out.ext isNd_good BX.out.x fun _ _ h => h) 1 (by omega)
 injection e1 with e1
 injection e1 with e1 e2 _
 subst e1 e2
 simp only [Nat.zero_mul, Nat.one_mul, Nat.add_zero] at k00 k01 k02 k03 k10 k11 k12 k13
 have HZ0 := hid hz0
 obtain ⟨a2, cap2, rfl, _⟩ := hz0
 have HZ1 := hid hz1
 obtain ⟨a3, cap3, rfl, _⟩ := hz1
 have m00 := fun t' : LaterF none' w2 => (t'.x.cell (p := ⟨b, off, none⟩) hbw (fun h => h)).trans k00
 have m01 := fun t' : LaterF none' w2 => (t'.x.cell (p := ⟨b, off + 1, none⟩) hbw (fun h => h)).trans k01
 have m02 := fun t' : LaterF none' w2 => (t'.x.cell (p := ⟨b, off + 2, none⟩) hbw (fun h => h)).trans k02
 have m03 := fun t' : LaterF none' w2 => (t'.x.cell (p := ⟨b, off + 3, none⟩) hbw (fun h => h)).trans k03
 have m10 := fun t' : LaterF none' w2 => (t'.x.cell (p := ⟨b, off + 4, none⟩) hbw (fun h => h)).trans k10
 have m11 := fun t' : LaterF none' w2 => (t'.x.cell (p := ⟨b, off + 4 + 1, none⟩) hbw (fun h => h)).trans k11
 have m12 := fun t' : LaterF none' w2 => (t'.x.cell (p := ⟨b, off + 4 + 2, none⟩) hbw (fun h => h)).trans k12
 have m13 := fun t' : LaterF none' w2 => (t'.x.cell (p := ⟨b, off + 4 + 3, none⟩) hbw (fun h => h)).trans k13
 clear k00 k01 k02 k03 k10 k11 k12 k13
 obtain ⟨x0, x1⟩ := cell2L fun t' : LaterF none' w2 => t'.x.heap BX.out.g0 fun h => h
 obtain ⟨c0, c1, c2, c3⟩ := cell4L fun t' : LaterF none' w2 => t'.x.heap BX.out.g1 fun h => h
 cases e0
 · obtain ⟨rfl⟩ : Hid (yy0 = false) := hid (by rw [HY0.out]; rfl)
   refine region_q none' w2 (.qs [0, 1, 2, 3, 4, 5, 6, 7, 8, 9, 10, 11, 12, 13, 15] (.one 14 true (.qs [16, 17] (.one 18 false (.one 19 false .fin))))) (by kernel_rfl) (by kernel_rfl) (fun dst v c a w h => by cases dst <;> exact h) ?_
   refine ⟨In.of (Ext.refl _ _).drew, ?_⟩
   change wpQuiet _ _ (fun w' => ∃ t : LaterF none' w2, w' = t.w) _ _ _
   simp only [sel, List.getElem?_cons_succ, List.getElem?_cons_zero]
   repeat (go_big_quiet_step (fail))
   refine wpQuiet_nil ?_
   simp only [wpTreeQ, stepT, sel, List.getElem?_cons_succ, List.getElem?_cons_zero]
   have XA := hid (Ext.refl none' w2).drew
   refine ⟨In.of XA.out, In.of XA.out, ?_⟩
   change wpQuiet _ _ (fun w' => ∃ t : LaterF none' w2, w' = t.w) _ _ _
   refine wpQuiet_putSame (d := 74) (v := Go.undef) (by kernel_rfl) ?_
   repeat (go_big_quiet_step (fail))
   refine wpQuiet_nil ?_
   clear x0 x1 c0 c1 c2 c3 m00 m01 m02 m03 m10 m11 m12 m13
   go_wp2_with fail
   refine (C0.out _ (BX.out.x.trans XA.out) _ ⟨_, rfl, HZ0.out.ext isNd_good XA.out fun _ _ h => h⟩).mono ?_
   rintro e wb ⟨rfl, X2⟩
   have XX := hid (XA.out.trans X2)
   have BX := hid (BX.out.ext XX.out)
   clear XX XA HZ0 HZ1 hbw hbw1
   go_upto_region 11 with (fail)
   obtain ⟨b', off', z0, e1, hbw, k00, k01, k02, k03, hz0⟩ := kid_val (HY.out.ext isNd_good BX.out.x fun _ _ h => h) 0 (by omega)
   injection e1 with e1
   injection e1 with e1 e2 _
   subst e1 e2
   obtain ⟨b', off', z1, e1, hbw1, k10, k11, k12, k13, hz1⟩ := kid_val (HY.out.ext isNd_good BX.out.x fun _ _ h => h) 1 (by omega)
   injection e1 with e1
   injection e1 with e1 e2 _
   subst e1 e2
   simp only [Nat.zero_mul, Nat.one_mul, Nat.add_zero] at k00 k01 k02 k03 k10 k11 k12 k13
   have HZ0 := hid hz0
   obtain ⟨a2, cap2, rfl, _⟩ := hz0
   have HZ1 := hid hz1
   obtain ⟨a3, cap3, rfl, _⟩ := hz1
   have m00 := fun t' : LaterF none' wb => (t'.x.cell (p := ⟨b, off, none⟩) hbw (fun h => h)).trans k00
   have m01 := fun t' : LaterF none' wb => (t'.x.cell (p := ⟨b, off + 1, none⟩) hbw (fun h => h)).trans k01
   have m02 := fun t' : LaterF none' wb => (t'.x.cell (p := ⟨b, off + 2, none⟩) hbw (fun h => h)).trans k02
   have m03 := fun t' : LaterF none' wb => (t'.x.cell (p := ⟨b, off + 3, none⟩) hbw (fun h => h)).trans k03
   have m10 := fun t' : LaterF none' wb => (t'.x.cell (p := ⟨b, off + 4, none⟩) hbw (fun h => h)).trans k10
   have m11 := fun t' : LaterF none' wb => (t'.x.cell (p := ⟨b, off + 4 + 1, none⟩) hbw (fun h => h)).trans k11
   have m12 := fun t' : LaterF none' wb => (t'.x.cell (p := ⟨b, off + 4 + 2, none⟩) hbw (fun h => h)).trans k12
   have m13 := fun t' : LaterF none' wb => (t'.x.cell (p := ⟨b, off + 4 + 3, none⟩) hbw (fun h => h)).trans k13
   clear k00 k01 k02 k03 k10 k11 k12 k13
   obtain ⟨x0, x1⟩ := cell2L fun t' : LaterF none' wb => t'.x.heap BX.out.g0 fun h => h
   obtain ⟨c0, c1, c2, c3⟩ := cell4L fun t' : LaterF none' wb => t'.x.heap BX.out.g1 fun h => h
   cases e1
   · obtain ⟨rfl⟩ : Hid (yy1 = false) := hid (by rw [HY1.out]; rfl)
     refine region_q none' wb (.qs [0, 1, 2, 3, 4, 5, 6, 7, 8, 9, 10, 11, 12, 13, 15] (.one 14 true (.qs [16, 17] (.one 18 false (.one 19 false .fin))))) (by kernel_rfl) (by kernel_rfl) (fun dst v c a w h => by cases dst <;> exact h) ?_
     refine ⟨In.of (Ext.refl _ _).drew, ?_⟩
     change wpQuiet _ _ (fun w' => ∃ t : LaterF none' wb, w' = t.w) _ _ _
     simp only [sel, List.getElem?_cons_succ, List.getElem?_cons_zero]
     repeat (go_big_quiet_step (fail))
     refine wpQuiet_nil ?_
     simp only [wpTreeQ, stepT, sel, List.getElem?_cons_succ, List.getElem?_cons_zero]
     have XA := hid (Ext.refl none' wb).drew
     refine ⟨In.of XA.out, In.of XA.out, ?_⟩
     change wpQuiet _ _ (fun w' => ∃ t : LaterF none' wb, w' = t.w) _ _ _
     refine wpQuiet_putSame (d := 93) (v := Go.undef) (by kernel_rfl) ?_
     repeat (go_big_quiet_step (fail))
     refine wpQuiet_nil ?_
     clear x0 x1 c0 c1 c2 c3 m00 m01 m02 m03 m10 m11 m12 m13
     go_wp2_with fail
     refine (C1.out _ (BX.out.x.trans XA.out) _ ⟨_, rfl, HZ1.out.ext isNd_good XA.out fun _ _ h => h⟩).mono ?_
     rintro e wd ⟨rfl, X2⟩
     have XX := hid (XA.out.trans X2)
     have BX := hid (BX.out.ext XX.out)
     obtain ⟨x0, x1⟩ := cell2 BX.out.g0
     obtain ⟨c0, c1, c2, c3⟩ := cell4 BX.out.g1
     go_wp2_with fail
     go_ret
     exact ⟨by rw [HR.out]; simp, BX.out.x⟩
   · obtain ⟨rfl⟩ : Hid (yy1 = decide (p1 ≤ pp)) := hid (by rw [HY1.out]; rfl)
     refine region_q none' wb (.qs [0, 1, 2, 3, 4, 5, 6, 7, 8, 9, 10, 11, 12, 13, 15] (.one 14 true (.qs [16, 17] (.one 18 false (.one 19 false .fin))))) (by kernel_rfl) (by kernel_rfl) (fun dst v c a w h => by cases dst <;> exact h) ?_
     refine ⟨In.of (Ext.refl _ _).drew, ?_⟩
     change wpQuiet _ _ (fun w' => ∃ t : LaterF none' wb, w' = t.w) _ _ _
     simp only [sel, List.getElem?_cons_succ, List.getElem?_cons_zero]
     repeat (go_big_quiet_step (fail))
     refine wpQuiet_nil ?_
     simp only [wpTreeQ, stepT, sel, List.getElem?_cons_succ, List.getElem?_cons_zero]
     have D1 := hid (Ext.refl none' wb).drew
     go_wp2_with fail
     refine (T1.out _).mono ?_
     rintro e wc ⟨rfl, X2⟩
     have XA := hid (D1.out.trans X2)
     clear X2
     go_wp2_with fail
     refine ⟨In.of XA.out, In.of XA.out, ?_⟩
     change wpQuiet _ _ (fun w' => ∃ t : LaterF none' wb, w' = t.w) _ _ _
     repeat (go_big_quiet_step (fail))
     refine wpQuiet_nil ?_
     clear x0 x1 c0 c1 c2 c3 m00 m01 m02 m03 m10 m11 m12 m13
     go_wp2_with fail
     refine (C1.out _ (BX.out.x.trans XA.out) _ ⟨_, rfl, HZ1.out.ext isNd_good XA.out fun _ _ h => h⟩).mono ?_
     rintro e wd ⟨rfl, X2⟩
     have XX := hid (XA.out.trans X2)
     have BX := hid (BX.out.ext XX.out)
     obtain ⟨x0, x1⟩ := cell2 BX.out.g0
     obtain ⟨c0, c1, c2, c3⟩ := cell4 BX.out.g1
     go_wp2_with fail
     go_ret
     exact ⟨by rw [HR.out]; simp, BX.out.x⟩
 · obtain ⟨rfl⟩ : Hid (yy0 = decide (p0 < pp)) := hid (by rw [HY0.out]; rfl)
   refine region_q none' w2 (.qs [0, 1, 2, 3, 4, 5, 6, 7, 8, 9, 10, 11, 12, 13, 15] (.one 14 true (.qs [16, 17] (.one 18 false (.one 19 false .fin))))) (by kernel_rfl) (by kernel_rfl) (fun dst v c a w h => by cases dst <;> exact h) ?_
   refine ⟨In.of (Ext.refl _ _).drew, ?_⟩
   change wpQuiet _ _ (fun w' => ∃ t : LaterF none' w2, w' = t.w) _ _ _
   simp only [sel, List.getElem?_cons_succ, List.getElem?_cons_zero]
   repeat (go_big_quiet_step (fail))
   refine wpQuiet_nil ?_
   simp only [wpTreeQ, stepT, sel, List.getElem?_cons_succ, List.getElem?_cons_zero]
   have D1 := hid (Ext.refl none' w2).drew
   go_wp2_with fail
   refine (T0.out _).mono ?_
   rintro e wa ⟨rfl, X2⟩
   have XA := hid (D1.out.trans X2)
   clear X2
   go_wp2_with fail
   refine ⟨In.of XA.out, In.of XA.out, ?_⟩
   change wpQuiet _ _ (fun w' => ∃ t : LaterF none' w2, w' = t.w) _ _ _
   repeat (go_big_quiet_step (fail))
   refine wpQuiet_nil ?_
   clear x0 x1 c0 c1 c2 c3 m00 m01 m02 m03 m10 m11 m12 m13
   go_wp2_with fail
   refine (C0.out _ (BX.out.x.trans XA.out) _ ⟨_, rfl, HZ0.out.ext isNd_good XA.out fun _ _ h => h⟩).mono ?_
   rintro e wb ⟨rfl, X2⟩
   have XX := hid (XA.out.trans X2)
   have BX := hid (BX.out.ext XX.out)
   clear XX XA HZ0 HZ1 hbw hbw1
   go_upto_region 11 with (fail)
   obtain ⟨b', off', z0, e1, hbw, k00, k01, k02, k03, hz0⟩ := kid_val (HY.out.ext isNd_good BX.out.x fun _ _ h => h) 0 (by omega)
   injection e1 with e1
   injection e1 with e1 e2 _
   subst e1 e2
   obtain ⟨b', off', z1, e1, hbw1, k10, k11, k12, k13, hz1⟩ := kid_val (HY.out.ext isNd_good BX.out.x fun _ _ h => h) 1 (by omega)
   injection e1 with e1
   injection e1 with e1 e2 _
   subst e1 e2
   simp only [Nat.zero_mul, Nat.one_mul, Nat.add_zero] at k00 k01 k02 k03 k10 k11 k12 k13
   have HZ0 := hid hz0
   obtain ⟨a2, cap2, rfl, _⟩ := hz0
   have HZ1 := hid hz1
   obtain ⟨a3, cap3, rfl, _⟩ := hz1
   have m00 := fun t' : LaterF none' wb => (t'.x.cell (p := ⟨b, off, none⟩) hbw (fun h => h)).trans k00
   have m01 := fun t' : LaterF none' wb => (t'.x.cell (p := ⟨b, off + 1, none⟩) hbw (fun h => h)).trans k01
   have m02 := fun t' : LaterF none' wb => (t'.x.cell (p := ⟨b, off + 2, none⟩) hbw (fun h => h)).trans k02
   have m03 := fun t' : LaterF none' wb => (t'.x.cell (p := ⟨b, off + 3, none⟩) hbw (fun h => h)).trans k03
   have m10 := fun t' : LaterF none' wb => (t'.x.cell (p := ⟨b, off + 4, none⟩) hbw (fun h => h)).trans k10
   have m11 := fun t' : LaterF none' wb => (t'.x.cell (p := ⟨b, off + 4 + 1, none⟩) hbw (fun h => h)).trans k11
   have m12 := fun t' : LaterF none' wb => (t'.x.cell (p := ⟨b, off + 4 + 2, none⟩) hbw (fun h => h)).trans k12
   have m13 := fun t' : LaterF none' wb => (t'.x.cell (p := ⟨b, off + 4 + 3, none⟩) hbw (fun h => h)).trans k13
   clear k00 k01 k02 k03 k10 k11 k12 k13
   obtain ⟨x0, x1⟩ := cell2L fun t' : LaterF none' wb => t'.x.heap BX.out.g0 fun h => h
   obtain ⟨c0, c1, c2, c3⟩ := cell4L fun t' : LaterF none' wb => t'.x.heap BX.out.g1 fun h => h
   cases e1
   · obtain ⟨rfl⟩ : Hid (yy1 = false) := hid (by rw [HY1.out]; rfl)
     refine region_q none' wb (.qs [0, 1, 2, 3, 4, 5, 6, 7, 8, 9, 10, 11, 12, 13, 15] (.one 14 true (.qs [16, 17] (.one 18 false (.one 19 false .fin))))) (by kernel_rfl) (by kernel_rfl) (fun dst v c a w h => by cases dst <;> exact h) ?_
     refine ⟨In.of (Ext.refl _ _).drew, ?_⟩
     change wpQuiet _ _ (fun w' => ∃ t : LaterF none' wb, w' = t.w) _ _ _
     simp only [sel, List.getElem?_cons_succ, List.getElem?_cons_zero]
     repeat (go_big_quiet_step (fail))
     refine wpQuiet_nil ?_
     simp only [wpTreeQ, stepT, sel, List.getElem?_cons_succ, List.getElem?_cons_zero]
     have XA := hid (Ext.refl none' wb).drew
     refine ⟨In.of XA.out, In.of XA.out, ?_⟩
     change wpQuiet _ _ (fun w' => ∃ t : LaterF none' wb, w' = t.w) _ _ _
     refine wpQuiet_putSame (d := 93) (v := Go.undef) (by kernel_rfl) ?_
     repeat (go_big_quiet_step (fail))
     refine wpQuiet_nil ?_
     clear x0 x1 c0 c1 c2 c3 m00 m01 m02 m03 m10 m11 m12 m13
     go_wp2_with fail
     refine (C1.out _ (BX.out.x.trans XA.out) _ ⟨_, rfl, HZ1.out.ext isNd_good XA.out fun _ _ h => h⟩).mono ?_
     rintro e wd ⟨rfl, X2⟩
     have XX := hid (XA.out.trans X2)
     have BX := hid (BX.out.ext XX.out)
     obtain ⟨x0, x1⟩ := cell2 BX.out.g0
     obtain ⟨c0, c1, c2, c3⟩ := cell4 BX.out.g1
     go_wp2_with fail
     go_ret
     exact ⟨by rw [HR.out]; simp, BX.out.x⟩
   · obtain ⟨rfl⟩ : Hid (yy1 = decide (p1 ≤ pp)) := hid (by rw [HY1.out]; rfl)
     refine region_q none' wb (.qs [0, 1, 2, 3, 4, 5, 6, 7, 8, 9, 10, 11, 12, 13, 15] (.one 14 true (.qs [16, 17] (.one 18 false (.one 19 false .fin))))) (by kernel_rfl) (by kernel_rfl) (fun dst v c a w h => by cases dst <;> exact h) ?_
     refine ⟨In.of (Ext.refl _ _).drew, ?_⟩
     change wpQuiet _ _ (fun w' => ∃ t : LaterF none' wb, w' = t.w) _ _ _
     simp only [sel, List.getElem?_cons_succ, List.getElem?_cons_zero]
     repeat (go_big_quiet_step (fail))
     refine wpQuiet_nil ?_
     simp only [wpTreeQ, stepT, sel, List.getElem?_cons_succ, List.getElem?_cons_zero]
     have D1 := hid (Ext.refl none' wb).drew
     go_wp2_with fail
     refine (T1.out _).mono ?_
     rintro e wc ⟨rfl, X2⟩
     have XA := hid (D1.out.trans X2)
     clear X2
     go_wp2_with fail
     refine ⟨In.of XA.out, In.of XA.out, ?_⟩
     change wpQuiet _ _ (fun w' => ∃ t : LaterF none' wb, w' = t.w) _ _ _
     repeat (go_big_quiet_step (fail))
     refine wpQuiet_nil ?_
     clear x0 x1 c0 c1 c2 c3 m00 m01 m02 m03 m10 m11 m12 m13
     go_wp2_with fail
     refine (C1.out _ (BX.out.x.trans XA.out) _ ⟨_, rfl, HZ1.out.ext isNd_good XA.out fun _ _ h => h⟩).mono ?_
     rintro e wd ⟨rfl, X2⟩
     have XX := hid (XA.out.trans X2)
     have BX := hid (BX.out.ext XX.out)
     obtain ⟨x0, x1⟩ := cell2 BX.out.g0
     obtain ⟨c0, c1, c2, c3⟩ := cell4 BX.out.g1
     go_wp2_with fail
     go_ret
     exact ⟨by rw [HR.out]; simp, BX.out.x⟩
end Go.Proofs.YthbmjamgidfneaaGreatDoor
