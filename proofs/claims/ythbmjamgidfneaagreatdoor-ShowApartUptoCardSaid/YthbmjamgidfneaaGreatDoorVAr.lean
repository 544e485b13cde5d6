import Derived.Test.YthbmjamgidfneaaGreatDoorVAb
import Derived.Test.YthbmjamgidfneaaGreatDoorVAf
import Derived.Test.YthbmjamgidfneaaGreatDoorVAq
import Derived.Test.YthbmjamgidfneaaGreatDoorVAl
set_option maxRecDepth 100000
set_option maxHeartbeats 6400000
namespace Go.Proofs.YthbmjamgidfneaaGreatDoor
open Go.RowKit Go.Lib Go.BigFrame
set_option linter.unusedVariables false
set_option linter.unusedSimpArgs false
theorem ss_short (f : Nat) (H : ExpH f) (deep : Nat) (head : Bool) (hd : deep + (f + 1) ≤ 1200000) (hf : f + 1 ≤ 1100000) (t : Nd) (ht : t.size ≤ f + 1) (hk : t.kind = 26) (he : shB (exF f) t = true) (v : Value) (w : World) (hm : MaxL w) (hv : NdV none' w t v) :
  Calls Tryz.prog 56 #[shV deep head, v] w (StrPost (t.text ++ [32, 58, 61, 32] ++ exT f deep head (t.kid 0)) w) := by
 obtain ⟨y, rfl, hy⟩ := hv
 have HY := hid hy
 obtain ⟨a1, cap1, rfl, hcap, _⟩ := hy
 have hkl : t.kids.length ≤ 1100000 := by have := t.kids_len; omega
 rw [hk]
 clear hk
 obtain ⟨B, hB⟩ : ∃ B, B = w.heap.size := ⟨_, rfl⟩
 have BX := TwoBox.mk' (deep := deep) (head := head) (cs := #[.int .i64 26, .string ⟨t.text.toArray⟩, .slice a1 t.kids.length cap1, .int .i64 t.pos]) hB
 obtain ⟨W0, hW0⟩ : ∃ W0, W0 = ((w.alloc (.cells #[.int .i64 (deep : Nat), .bool head] 50)).alloc (.cells #[.int .i64 26, .string ⟨t.text.toArray⟩, .slice a1 t.kids.length cap1, .int .i64 t.pos] 24)) := ⟨_, rfl⟩
 rw [← hW0] at BX
 have BX := hid BX
 obtain ⟨rr, hrr⟩ : ∃ r, r = t.text ++ [32, 58, 61, 32] ++ exT f deep head (t.kid 0) := ⟨_, rfl⟩
 rw [← hrr]
 obtain ⟨hk2, htn, h3⟩ := namB_parts he
 obtain ⟨x, hkx, hx1⟩ := one_kid h3
 have hx0 := kid_one hkx
 have hsz := size_one hkx
 have hl : t.kids.length = 1 := by rw [hkx]; rfl
 have y0 : (0 : Int) < (t.kids.length : Int) := by omega
 have htl := bndB_len htn
 have hbl0 := (lens_all f deep (by omega)).1 x (by omega) hx1 head
 have C0 := hid fun W (X : Ext none' w W) v' (hv' : NdV none' W (t.kid 0) v') => H deep head (by omega) (t.kid 0) (by rw [hx0]; omega) (by rw [hx0]; exact hx1) v' W (maxL_later hm X) hv'
 have hbm0 : (exT f deep head (t.kid 0)).length ≤ 10000000000000 := by rw [hx0]; omega
 obtain ⟨q0, hq0⟩ : ∃ q, exT f deep head (t.kid 0) = q := ⟨_, rfl⟩
 rw [hq0] at C0 hbm0 hrr
 have cat1 := str_cat t.text [32, 58, 61, 32]
 have cat2 := str_cat (t.text ++ [32, 58, 61, 32]) q0
 simp only [List.append_assoc, List.cons_append, List.nil_append] at cat1 cat2
 have HR := hid hrr
 have hmf := mkf_run
 clear hrr ht hd hf he hk2 htn h3 hkx hx1 hx0 hsz hl hbl0 hq0 H
 go_enter Tryz.func56, Tryz.ntmps56
 go_upto_region 1 with (fail)
 rw [← hW0, ← hB]
 clear hW0 hB
 obtain ⟨x0, x1⟩ := cell2 BX.out.g0
 obtain ⟨c0, c1, c2, c3⟩ := cell4 BX.out.g1
 go_upto_region 4 with (fail)
 clear x0 x1 c0 c1 c2 c3
 obtain ⟨b, off, z0, rfl, hbw, k00, k01, k02, k03, hz0⟩ := kid_val (HY.out.ext isNd_good BX.out.x fun _ _ h => h) 0 (by omega)
 simp only [Nat.zero_mul, Nat.add_zero] at k00 k01 k02 k03
 have HZ0 := hid hz0
 obtain ⟨a2, cap2, rfl, _⟩ := hz0
 have m00 := fun t' : LaterF none' W0 => (t'.x.cell (p := ⟨b, off, none⟩) hbw (fun h => h)).trans k00
 have m01 := fun t' : LaterF none' W0 => (t'.x.cell (p := ⟨b, off + 1, none⟩) hbw (fun h => h)).trans k01
 have m02 := fun t' : LaterF none' W0 => (t'.x.cell (p := ⟨b, off + 2, none⟩) hbw (fun h => h)).trans k02
 have m03 := fun t' : LaterF none' W0 => (t'.x.cell (p := ⟨b, off + 3, none⟩) hbw (fun h => h)).trans k03
 clear k00 k01 k02 k03
 obtain ⟨x0, x1⟩ := cell2L fun t' : LaterF none' W0 => t'.x.heap BX.out.g0 fun h => h
 obtain ⟨c0, c1, c2, c3⟩ := cell4L fun t' : LaterF none' W0 => t'.x.heap BX.out.g1 fun h => h
 refine region_q none' W0 (.qs [0, 1, 2, 3, 4, 5, 6] (.one 7 true (.one 8 false (.one 9 false .fin)))) (by kernel_rfl) (by kernel_rfl) (fun dst v c a w h => by cases dst <;> exact h) ?_
 refine ⟨In.of (Ext.refl _ _).drew, ?_⟩
 change wpQuiet _ _ (fun w' => ∃ t : LaterF none' W0, w' = t.w) _ _ _
 simp only [sel, List.getElem?_cons_succ, List.getElem?_cons_zero]
 repeat (go_big_quiet_step (fail))
 refine wpQuiet_nil ?_
 simp only [wpTreeQ, stepT, sel, List.getElem?_cons_succ, List.getElem?_cons_zero]
 have D1 := hid (Ext.refl none' W0).drew
 clear x0 x1 c0 c1 c2 c3 m00 m01 m02 m03
 go_wp2_with fail
 refine (C0.out _ (BX.out.x.trans D1.out) _ ⟨_, rfl, HZ0.out.ext isNd_good D1.out fun _ _ h => h⟩).mono ?_
 rintro e w2 ⟨rfl, X2⟩
 have XX := hid (D1.out.trans X2)
 go_wp2_with fail
 refine ⟨In.of XX.out, ?_⟩
 go_wp2_with fail
 go_ret
 exact ⟨by rw [HR.out]; simp, BX.out.x.trans XX.out⟩
theorem ss_set (f : Nat) (H : ExpH f) (deep : Nat) (head : Bool) (hd : deep + (f + 1) ≤ 1200000) (hf : f + 1 ≤ 1100000) (t : Nd) (ht : t.size ≤ f + 1) (hk : t.kind = 27) (he : setB (exF f) t = true) (v : Value) (w : World) (hm : MaxL w) (hv : NdV none' w t v) :
  Calls Tryz.prog 56 #[shV deep head, v] w (StrPost (exT f deep head (t.kid 0) ++ [32, 61, 32] ++ exT f deep head (t.kid 1)) w) := by
 obtain ⟨y, rfl, hy⟩ := hv
 have HY := hid hy
 obtain ⟨a1, cap1, rfl, hcap, _⟩ := hy
 have hkl : t.kids.length ≤ 1100000 := by have := t.kids_len; omega
 rw [hk]
 clear hk
 obtain ⟨B, hB⟩ : ∃ B, B = w.heap.size := ⟨_, rfl⟩
 have BX := TwoBox.mk' (deep := deep) (head := head) (cs := #[.int .i64 27, .string ⟨t.text.toArray⟩, .slice a1 t.kids.length cap1, .int .i64 t.pos]) hB
 obtain ⟨W0, hW0⟩ : ∃ W0, W0 = ((w.alloc (.cells #[.int .i64 (deep : Nat), .bool head] 50)).alloc (.cells #[.int .i64 27, .string ⟨t.text.toArray⟩, .slice a1 t.kids.length cap1, .int .i64 t.pos] 24)) := ⟨_, rfl⟩
 rw [← hW0] at BX
 have BX := hid BX
 obtain ⟨rr, hrr⟩ : ∃ r, r = exT f deep head (t.kid 0) ++ [32, 61, 32] ++ exT f deep head (t.kid 1) := ⟨_, rfl⟩
 rw [← hrr]
 obtain ⟨hk2, htn, h3⟩ := ofB_parts he
 obtain ⟨x, y, hkx, hx1, hy1⟩ := two_kids h3
 obtain ⟨hx0, hy0⟩ := kid_two hkx
 have hsz := size_two hkx
 have hl : t.kids.length = 2 := by rw [hkx]; rfl
 have y0 : (0 : Int) < (t.kids.length : Int) := by omega
 have y1 : (1 : Int) < (t.kids.length : Int) := by omega
 have hbl0 := (lens_all f deep (by omega)).1 x (by omega) hx1 head
 have C0 := hid fun W (X : Ext none' w W) v' (hv' : NdV none' W (t.kid 0) v') => H deep head (by omega) (t.kid 0) (by rw [hx0]; omega) (by rw [hx0]; exact hx1) v' W (maxL_later hm X) hv'
 have hbm0 : (exT f deep head (t.kid 0)).length ≤ 10000000000000 := by rw [hx0]; omega
 obtain ⟨q0, hq0⟩ : ∃ q, exT f deep head (t.kid 0) = q := ⟨_, rfl⟩
 rw [hq0] at C0 hbm0 hrr
 have hbl1 := (lens_all f deep (by omega)).1 y (by omega) hy1 head
 have C1 := hid fun W (X : Ext none' w W) v' (hv' : NdV none' W (t.kid 1) v') => H deep head (by omega) (t.kid 1) (by rw [hy0]; omega) (by rw [hy0]; exact hy1) v' W (maxL_later hm X) hv'
 have hbm1 : (exT f deep head (t.kid 1)).length ≤ 10000000000000 := by rw [hy0]; omega
 obtain ⟨q1, hq1⟩ : ∃ q, exT f deep head (t.kid 1) = q := ⟨_, rfl⟩
 rw [hq1] at C1 hbm1 hrr
 have cat1 := str_cat q0 [32, 61, 32]
 have cat2 := str_cat (q0 ++ [32, 61, 32]) q1
 simp only [List.append_assoc, List.cons_append, List.nil_append] at cat1 cat2
 have HR := hid hrr
 have hmf := mkf_run
 clear hrr ht hd hf he hk2 htn h3 hkx hx1 hx0 hsz hl hbl0 hq0 H hy1 hy0 hbl1 hq1
 go_enter Tryz.func56, Tryz.ntmps56
 go_upto_region 1 with (fail)
 rw [← hW0, ← hB]
 clear hW0 hB
 obtain ⟨x0, x1⟩ := cell2 BX.out.g0
 obtain ⟨c0, c1, c2, c3⟩ := cell4 BX.out.g1
 go_upto_region 6 with (fail)
 clear x0 x1 c0 c1 c2 c3
 obtain ⟨b, off, z0, rfl, hbw, k00, k01, k02, k03, hz0⟩ := kid_val (HY.out.ext isNd_good BX.out.x fun _ _ h => h) 0 (by omega)
 obtain ⟨b', off', z1, e1, hbw1, k10, k11, k12, k13, hz1⟩ := kid_val (HY.out.ext isNd_good BX.out.x fun _ _ h => h) 1 (by omega)
 injection e1 with e1
 injection e1 with e1 e2 _
 subst e1 e2
 simp only [Nat.zero_mul, Nat.one_mul, Nat.add_zero] at k00 k01 k02 k03 k10 k11 k12 k13
 have HZ0 := hid hz0
 obtain ⟨a2, cap2, rfl, _⟩ := hz0
 have HZ1 := hid hz1
 obtain ⟨a3, cap3, rfl, _⟩ := hz1
 have m00 := fun t' : LaterF none' W0 => (t'.x.cell (p := ⟨b, off, none⟩) hbw (fun h => h)).trans k00
 have m01 := fun t' : LaterF none' W0 => (t'.x.cell (p := ⟨b, off + 1, none⟩) hbw (fun h => h)).trans k01
 have m02 := fun t' : LaterF none' W0 => (t'.x.cell (p := ⟨b, off + 2, none⟩) hbw (fun h => h)).trans k02
 have m03 := fun t' : LaterF none' W0 => (t'.x.cell (p := ⟨b, off + 3, none⟩) hbw (fun h => h)).trans k03
 have m10 := fun t' : LaterF none' W0 => (t'.x.cell (p := ⟨b, off + 4, none⟩) hbw (fun h => h)).trans k10
 have m11 := fun t' : LaterF none' W0 => (t'.x.cell (p := ⟨b, off + 4 + 1, none⟩) hbw (fun h => h)).trans k11
 have m12 := fun t' : LaterF none' W0 => (t'.x.cell (p := ⟨b, off + 4 + 2, none⟩) hbw (fun h => h)).trans k12
 have m13 := fun t' : LaterF none' W0 => (t'.x.cell (p := ⟨b, off + 4 + 3, none⟩) hbw (fun h => h)).trans k13
 clear k00 k01 k02 k03 k10 k11 k12 k13
 obtain ⟨x0, x1⟩ := cell2L fun t' : LaterF none' W0 => t'.x.heap BX.out.g0 fun h => h
 obtain ⟨c0, c1, c2, c3⟩ := cell4L fun t' : LaterF none' W0 => t'.x.heap BX.out.g1 fun h => h
 refine region_q none' W0 (.qs [0, 1, 2, 3, 6, 7, 8, 9] (.one 4 true (.qs [5] (.one 10 true (.qs [11, 12] .fin))))) (by kernel_rfl) (by kernel_rfl) (fun dst v c a w h => by cases dst <;> exact h) ?_
 refine ⟨In.of (Ext.refl _ _).drew, ?_⟩
 change wpQuiet _ _ (fun w' => ∃ t : LaterF none' W0, w' = t.w) _ _ _
 simp only [sel, List.getElem?_cons_succ, List.getElem?_cons_zero]
 repeat (go_big_quiet_step (fail))
 refine wpQuiet_nil ?_
 simp only [wpTreeQ, stepT, sel, List.getElem?_cons_succ, List.getElem?_cons_zero]
 have D1 := hid (Ext.refl none' W0).drew
 clear x0 x1 c0 c1 c2 c3 m00 m01 m02 m03 m10 m11 m12 m13
 go_wp2_with fail
 refine (C0.out _ (BX.out.x.trans D1.out) _ ⟨_, rfl, HZ0.out.ext isNd_good D1.out fun _ _ h => h⟩).mono ?_
 rintro e w2 ⟨rfl, X2⟩
 have XX := hid (D1.out.trans X2)
 go_wp2_with fail
 refine ⟨In.of XX.out, In.of XX.out, ?_⟩
 change wpQuiet _ _ (fun w' => ∃ t : LaterF none' W0, w' = t.w) _ _ _
 repeat (go_big_quiet_step (fail))
 refine wpQuiet_nil ?_
 go_wp2_with fail
 refine (C1.out _ (BX.out.x.trans XX.out) _ ⟨_, rfl, HZ1.out.ext isNd_good XX.out fun _ _ h => h⟩).mono ?_
 rintro e w3 ⟨rfl, X2⟩
 have XX := hid (XX.out.trans X2)
 go_wp2_with fail
 refine ⟨In.of XX.out, In.of XX.out, ?_⟩
 change wpQuiet _ _ (fun w' => ∃ t : LaterF none' W0, w' = t.w) _ _ _
 repeat (go_big_quiet_step (fail))
 refine wpQuiet_nil ?_
 go_wp2_with fail
 go_ret
 exact ⟨by rw [HR.out]; simp, BX.out.x.trans XX.out⟩
theorem ss_inc (f : Nat) (H : ExpH f) (deep : Nat) (head : Bool) (hd : deep + (f + 1) ≤ 1200000) (hf : f + 1 ≤ 1100000) (t : Nd) (ht : t.size ≤ f + 1) (hk : t.kind = 28) (he : incrB (exF f) t = true) (v : Value) (w : World) (hm : MaxL w) (hv : NdV none' w t v) :
  Calls Tryz.prog 56 #[shV deep head, v] w (StrPost (exT f deep head (t.kid 0) ++ t.text) w) := by
 obtain ⟨y, rfl, hy⟩ := hv
 have HY := hid hy
 obtain ⟨a1, cap1, rfl, hcap, _⟩ := hy
 have hkl : t.kids.length ≤ 1100000 := by have := t.kids_len; omega
 rw [hk]
 clear hk
 obtain ⟨B, hB⟩ : ∃ B, B = w.heap.size := ⟨_, rfl⟩
 have BX := TwoBox.mk' (deep := deep) (head := head) (cs := #[.int .i64 28, .string ⟨t.text.toArray⟩, .slice a1 t.kids.length cap1, .int .i64 t.pos]) hB
 obtain ⟨W0, hW0⟩ : ∃ W0, W0 = ((w.alloc (.cells #[.int .i64 (deep : Nat), .bool head] 50)).alloc (.cells #[.int .i64 28, .string ⟨t.text.toArray⟩, .slice a1 t.kids.length cap1, .int .i64 t.pos] 24)) := ⟨_, rfl⟩
 rw [← hW0] at BX
 have BX := hid BX
 obtain ⟨rr, hrr⟩ : ∃ r, r = exT f deep head (t.kid 0) ++ t.text := ⟨_, rfl⟩
 rw [← hrr]
 obtain ⟨hk2, htn, h3⟩ := namB_parts he
 obtain ⟨x, hkx, hx1⟩ := one_kid h3
 have hx0 := kid_one hkx
 have hsz := size_one hkx
 have hl : t.kids.length = 1 := by rw [hkx]; rfl
 have y0 : (0 : Int) < (t.kids.length : Int) := by omega
 have htl := incB_len htn
 have hbl0 := (lens_all f deep (by omega)).1 x (by omega) hx1 head
 have C0 := hid fun W (X : Ext none' w W) v' (hv' : NdV none' W (t.kid 0) v') => H deep head (by omega) (t.kid 0) (by rw [hx0]; omega) (by rw [hx0]; exact hx1) v' W (maxL_later hm X) hv'
 have hbm0 : (exT f deep head (t.kid 0)).length ≤ 10000000000000 := by rw [hx0]; omega
 obtain ⟨q0, hq0⟩ : ∃ q, exT f deep head (t.kid 0) = q := ⟨_, rfl⟩
 rw [hq0] at C0 hbm0 hrr
 have cat1 := str_cat q0 t.text
 have HR := hid hrr
 have hmf := mkf_run
 clear hrr ht hd hf he hk2 htn h3 hkx hx1 hx0 hsz hl hbl0 hq0 H
 go_enter Tryz.func56, Tryz.ntmps56
 go_upto_region 1 with (fail)
 rw [← hW0, ← hB]
 clear hW0 hB
 obtain ⟨x0, x1⟩ := cell2 BX.out.g0
 obtain ⟨c0, c1, c2, c3⟩ := cell4 BX.out.g1
 go_upto_region 8 with (fail)
 clear x0 x1 c0 c1 c2 c3
 obtain ⟨b, off, z0, rfl, hbw, k00, k01, k02, k03, hz0⟩ := kid_val (HY.out.ext isNd_good BX.out.x fun _ _ h => h) 0 (by omega)
 simp only [Nat.zero_mul, Nat.add_zero] at k00 k01 k02 k03
 have HZ0 := hid hz0
 obtain ⟨a2, cap2, rfl, _⟩ := hz0
 have m00 := fun t' : LaterF none' W0 => (t'.x.cell (p := ⟨b, off, none⟩) hbw (fun h => h)).trans k00
 have m01 := fun t' : LaterF none' W0 => (t'.x.cell (p := ⟨b, off + 1, none⟩) hbw (fun h => h)).trans k01
 have m02 := fun t' : LaterF none' W0 => (t'.x.cell (p := ⟨b, off + 2, none⟩) hbw (fun h => h)).trans k02
 have m03 := fun t' : LaterF none' W0 => (t'.x.cell (p := ⟨b, off + 3, none⟩) hbw (fun h => h)).trans k03
 clear k00 k01 k02 k03
 obtain ⟨x0, x1⟩ := cell2L fun t' : LaterF none' W0 => t'.x.heap BX.out.g0 fun h => h
 obtain ⟨c0, c1, c2, c3⟩ := cell4L fun t' : LaterF none' W0 => t'.x.heap BX.out.g1 fun h => h
 refine region_q none' W0 (.qs [0, 1, 2, 3, 5, 6] (.one 4 true (.one 7 false (.one 8 false .fin)))) (by kernel_rfl) (by kernel_rfl) (fun dst v c a w h => by cases dst <;> exact h) ?_
 refine ⟨In.of (Ext.refl _ _).drew, ?_⟩
 change wpQuiet _ _ (fun w' => ∃ t : LaterF none' W0, w' = t.w) _ _ _
 simp only [sel, List.getElem?_cons_succ, List.getElem?_cons_zero]
 repeat (go_big_quiet_step (fail))
 refine wpQuiet_nil ?_
 simp only [wpTreeQ, stepT, sel, List.getElem?_cons_succ, List.getElem?_cons_zero]
 have D1 := hid (Ext.refl none' W0).drew
 clear x0 x1 c0 c1 c2 c3 m00 m01 m02 m03
 go_wp2_with fail
 refine (C0.out _ (BX.out.x.trans D1.out) _ ⟨_, rfl, HZ0.out.ext isNd_good D1.out fun _ _ h => h⟩).mono ?_
 rintro e w2 ⟨rfl, X2⟩
 have XX := hid (D1.out.trans X2)
 go_wp2_with fail
 refine ⟨In.of XX.out, ?_⟩
 go_wp2_with fail
 go_ret
 exact ⟨by rw [HR.out]; rfl, BX.out.x.trans XX.out⟩
theorem ss_call (f : Nat) (H : ExpH f) (deep : Nat) (head : Bool) (hd : deep + (f + 1) ≤ 1200000) (hf : f + 1 ≤ 1100000) (t : Nd) (ht : t.size ≤ f + 1) (hk : t.kind = 29) (he : callB (exF f) t = true) (v : Value) (w : World) (hm : MaxL w) (hv : NdV none' w t v) :
  Calls Tryz.prog 56 #[shV deep head, v] w (StrPost (exT f deep head (t.kid 0)) w) := by
 obtain ⟨y, rfl, hy⟩ := hv
 have HY := hid hy
 obtain ⟨a1, cap1, rfl, hcap, _⟩ := hy
 have hkl : t.kids.length ≤ 1100000 := by have := t.kids_len; omega
 rw [hk]
 clear hk
 obtain ⟨B, hB⟩ : ∃ B, B = w.heap.size := ⟨_, rfl⟩
 have BX := TwoBox.mk' (deep := deep) (head := head) (cs := #[.int .i64 29, .string ⟨t.text.toArray⟩, .slice a1 t.kids.length cap1, .int .i64 t.pos]) hB
 obtain ⟨W0, hW0⟩ : ∃ W0, W0 = ((w.alloc (.cells #[.int .i64 (deep : Nat), .bool head] 50)).alloc (.cells #[.int .i64 29, .string ⟨t.text.toArray⟩, .slice a1 t.kids.length cap1, .int .i64 t.pos] 24)) := ⟨_, rfl⟩
 rw [← hW0] at BX
 have BX := hid BX
 obtain ⟨rr, hrr⟩ : ∃ r, r = exT f deep head (t.kid 0) := ⟨_, rfl⟩
 rw [← hrr]
 obtain ⟨hk2, htn, h3⟩ := ofB_parts he
 obtain ⟨x, hkx, hx1⟩ := one_kid h3
 have hx0 := kid_one hkx
 have hsz := size_one hkx
 have hl : t.kids.length = 1 := by rw [hkx]; rfl
 have y0 : (0 : Int) < (t.kids.length : Int) := by omega
 unfold isCallB at hx1
 simp only [Bool.and_eq_true] at hx1
 replace hx1 := hx1.2
 have hbl0 := (lens_all f deep (by omega)).1 x (by omega) hx1 head
 have C0 := hid fun W (X : Ext none' w W) v' (hv' : NdV none' W (t.kid 0) v') => H deep head (by omega) (t.kid 0) (by rw [hx0]; omega) (by rw [hx0]; exact hx1) v' W (maxL_later hm X) hv'
 have hbm0 : (exT f deep head (t.kid 0)).length ≤ 10000000000000 := by rw [hx0]; omega
 obtain ⟨q0, hq0⟩ : ∃ q, exT f deep head (t.kid 0) = q := ⟨_, rfl⟩
 rw [hq0] at C0 hbm0 hrr
 have HR := hid hrr
 have hmf := mkf_run
 clear hrr ht hd hf he hk2 htn h3 hkx hx1 hx0 hsz hl hbl0 hq0 H
 go_enter Tryz.func56, Tryz.ntmps56
 go_upto_region 1 with (fail)
 rw [← hW0, ← hB]
 clear hW0 hB
 obtain ⟨x0, x1⟩ := cell2 BX.out.g0
 obtain ⟨c0, c1, c2, c3⟩ := cell4 BX.out.g1
 go_upto_region 9 with (fail)
 clear x0 x1 c0 c1 c2 c3
 obtain ⟨b, off, z0, rfl, hbw, k00, k01, k02, k03, hz0⟩ := kid_val (HY.out.ext isNd_good BX.out.x fun _ _ h => h) 0 (by omega)
 simp only [Nat.zero_mul, Nat.add_zero] at k00 k01 k02 k03
 have HZ0 := hid hz0
 obtain ⟨a2, cap2, rfl, _⟩ := hz0
 have m00 := fun t' : LaterF none' W0 => (t'.x.cell (p := ⟨b, off, none⟩) hbw (fun h => h)).trans k00
 have m01 := fun t' : LaterF none' W0 => (t'.x.cell (p := ⟨b, off + 1, none⟩) hbw (fun h => h)).trans k01
 have m02 := fun t' : LaterF none' W0 => (t'.x.cell (p := ⟨b, off + 2, none⟩) hbw (fun h => h)).trans k02
 have m03 := fun t' : LaterF none' W0 => (t'.x.cell (p := ⟨b, off + 3, none⟩) hbw (fun h => h)).trans k03
 clear k00 k01 k02 k03
 obtain ⟨x0, x1⟩ := cell2L fun t' : LaterF none' W0 => t'.x.heap BX.out.g0 fun h => h
 obtain ⟨c0, c1, c2, c3⟩ := cell4L fun t' : LaterF none' W0 => t'.x.heap BX.out.g1 fun h => h
 refine region_q none' W0 (.qs [0, 1, 2, 3] (.one 4 true (.one 5 false .fin))) (by kernel_rfl) (by kernel_rfl) (fun dst v c a w h => by cases dst <;> exact h) ?_
 refine ⟨In.of (Ext.refl _ _).drew, ?_⟩
 change wpQuiet _ _ (fun w' => ∃ t : LaterF none' W0, w' = t.w) _ _ _
 simp only [sel, List.getElem?_cons_succ, List.getElem?_cons_zero]
 repeat (go_big_quiet_step (fail))
 refine wpQuiet_nil ?_
 simp only [wpTreeQ, stepT, sel, List.getElem?_cons_succ, List.getElem?_cons_zero]
 have D1 := hid (Ext.refl none' W0).drew
 clear x0 x1 c0 c1 c2 c3 m00 m01 m02 m03
 go_wp2_with fail
 refine (C0.out _ (BX.out.x.trans D1.out) _ ⟨_, rfl, HZ0.out.ext isNd_good D1.out fun _ _ h => h⟩).mono ?_
 rintro e w2 ⟨rfl, X2⟩
 have XX := hid (D1.out.trans X2)
 go_wp2_with fail
 refine ⟨In.of XX.out, ?_⟩
 go_wp2_with fail
 go_ret
 exact ⟨by rw [HR.out]; rfl, BX.out.x.trans XX.out⟩
def SimD (f : Nat) (t : Nd) : Prop := t.size ≤ f + 1 ∧ (shB (exF f) t = true ∨ setB (exF f) t = true ∨ incrB (exF f) t = true ∨ callB (exF f) t = true)
theorem shsim_any (f : Nat) (H : ExpH f) (deep : Nat) (head : Bool) (hd : deep + (f + 1) ≤ 1200000) (hf : f + 1 ≤ 1100000) (t : Nd) (ht : SimD f t) (v : Value) (w : World) (hm : MaxL w) (hv : NdV none' w t v) :
  Calls Tryz.prog 56 #[shV deep head, v] w (StrPost (simT (exT f) deep head t) w) := by
 obtain ⟨ht, he⟩ := ht
 unfold simT
 rcases he with he | he | he | he
 · have hk := (namB_parts he).1
   rw [if_pos hk]
   exact ss_short f H deep head hd hf t ht hk he v w hm hv
 · have hk := (ofB_parts he).1
   rw [if_neg (by omega), if_pos hk]
   exact ss_set f H deep head hd hf t ht hk he v w hm hv
 · have hk := (namB_parts he).1
   rw [if_neg (by omega), if_neg (by omega), if_pos hk]
   exact ss_inc f H deep head hd hf t ht hk he v w hm hv
 · have hk := (ofB_parts he).1
   rw [if_neg (by omega), if_neg (by omega), if_neg (by omega)]
   exact ss_call f H deep head hd hf t ht hk he v w hm hv
theorem sim_tell (f : Nat) (H : ExpH f) (deep : Nat) (head : Bool) (hd : deep + (f + 1) ≤ 1200000) (hf : f + 1 ≤ 1100000) (w : World) (hm : MaxL w) : TellV (SimD f) (simT (exT f) deep head) w (.func (.func 56) #[shV deep head] #[]) :=
 ⟨_, _, _, rfl, Go.Proofs.enters_of Tryz.func56 (by kernel_rfl) rfl, fun t ht W x X hx => shsim_any f H deep head hd hf t ht x W (maxL_later hm X) hx⟩
theorem ex_tell (f : Nat) (H : ExpH f) (deep : Nat) (head : Bool) (hd : deep + f ≤ 1200000) (w : World) (hm : MaxL w) : TellV (ExD f) (exT f deep head) w (.func (.func 23) #[shV deep head] #[]) :=
 ⟨_, _, _, rfl, Go.Proofs.enters_of Tryz.func23 (by kernel_rfl) rfl, fun t ht W x X hx => H deep head hd t ht.1 ht.2 x W (maxL_later hm X) hx⟩
end Go.Proofs.YthbmjamgidfneaaGreatDoor
