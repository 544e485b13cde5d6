import Derived.Test.YthbmjamgidfneaaGreatDoorYAa
import Derived.Test.YthbmjamgidfneaaGreatDoorYAd
import Derived.Test.YthbmjamgidfneaaGreatDoorYAr
import Derived.Test.YthbmjamgidfneaaGreatDoorYAf
set_option maxRecDepth 100000
set_option maxHeartbeats 6400000
namespace Go.Proofs.YthbmjamgidfneaaGreatDoor
open Go.RowKit Go.Lib Go.BigFrame
set_option linter.unusedVariables false
set_option linter.unusedSimpArgs false
theorem rm_short (f : Nat) (hf : f + 1 ≤ 1100000) (H : REx7 f) (deep : Nat) (head : Bool) (hd : deep + (f + 1) ≤ 1200000) (t : Nd) (ht : t.size ≤ f + 1) (hk : t.kind = 26) (he : shB (exF f) t = true) (v : Value) (w : World) (hv : NdV none' w t v) :
 Calls Tryz.prog 29 #[v, .int .i64 (deep : Nat), .bool head] w (StrPost (t.text ++ [32, 58, 61, 32] ++ exT f deep head (t.kid 0)) w) := by
 obtain ⟨a1, cap1, rfl, hcap, HV, HY⟩ := nd_open hv
 have hkl : t.kids.length ≤ 1100000 := by have := t.kids_len; omega
 obtain ⟨r, hr⟩ : ∃ r, r = (t.text ++ [32, 58, 61, 32] ++ exT f deep head (t.kid 0)) := ⟨_, rfl⟩
 rw [← hr]
 have HT := hid ht
 have HF := hid hf
 unfold shB at he
 obtain ⟨_, htn, h3⟩ := namB_parts he
 obtain ⟨x, hkx, hx1⟩ := one_kid h3
 have hl0 : 0 < t.kids.length := by rw [hkx]; simp
 rw [← kid_one hkx] at hx1
 have htl := bndB_len htn
 have hks0 : (t.kid 0).size ≤ f := by have := kid_size (t := t) (i := 0) (by omega); omega
 have C0 := hid fun v' W (hv' : NdV none' W (t.kid 0) v') => H deep head (by omega) (t.kid 0) hks0 hx1 v' W hv'
 have hql0 : (exT f deep head (t.kid 0)).length ≤ 10000000000000 := by have := exlen7 hx1 hks0 (deep := deep) (by omega) (by omega) head; omega
 obtain ⟨q0, hq0⟩ : ∃ q, exT f deep head (t.kid 0) = q := ⟨_, rfl⟩
 rw [hq0] at C0 hql0 hr
 clear hks0 hq0
 have y0 : (0 : Int) < (t.kids.length : Int) := by omega
 have cat11 := str_cat (t.text) ([32, 58, 61, 32])
 have cat12 := str_cat (t.text ++ [32, 58, 61, 32]) (q0)
 simp only [List.append_assoc, List.cons_append, List.nil_append] at cat11 cat12
 have HR := hid hr
 have HK := hid hk
 rw [hk] at HV ⊢
 obtain ⟨tx, htx⟩ : ∃ k, t.text = k := ⟨_, rfl⟩
 have HTX := hid htx
 rw [htx] at HV htl cat11 cat12 ⊢
 try rw [htx] at HR
 obtain ⟨B, W0, hB, hW0, X0, G0⟩ := boxed w (.cells #[.int .i64 26, .string ⟨tx.toArray⟩, .slice a1 t.kids.length cap1, .int .i64 t.pos] 24)
 have XX := hid (Ext.refl none' W0)
 clear hr htx ht hf hk he H hd htn h3 hkx hx1
 go_enter Tryz.func29, Tryz.ntmps29
 go_upto_region 1 with (fail)
 rw [← hW0, ← hB]
 clear hW0 hB
 obtain ⟨c0, c1, c2, c3⟩ := cellx XX.out G0.out
 obtain ⟨b, off, ka0, kc0, rfl, HBW, HZ0, KK0⟩ := kidA (HY.out.ext isNd_good X0.out fun _ _ h => h) (by omega)
 have C0 := hid fun W (X : Ext none' W0 W) => C0.out _ W (ndvx HZ0.out X)
 go_upto_region 6 with (fail)
 clear c0 c1 c2 c3
 have c1 := fun t' : LaterF none' W0 => cell_at ((XX.out.trans t'.x).heap G0.out fun h => h) 1
 simp only [List.getElem?_toArray, List.getElem?_cons_zero, List.getElem?_cons_succ] at c1
 obtain ⟨m00, m01, m02, m03⟩ := kidL (w1 := W0) XX.out HBW.out KK0.out
 refine region_q none' W0 (.qs [0, 1, 2, 3, 4, 5, 6, 7] (.one 8 true (.qs [9, 10] .fin))) (by kernel_rfl) (by kernel_rfl) (fun dst v c a w h => by cases dst <;> exact h) ?_
 refine ⟨In.of (Ext.refl _ _).drew, ?_⟩
 change wpQuiet _ _ (fun w' => ∃ t : LaterF none' W0, w' = t.w) _ _ _
 simp only [sel, List.getElem?_cons_succ, List.getElem?_cons_zero]
 repeat (go_big_quiet_step (fail))
 refine wpQuiet_nil ?_
 simp only [wpTreeQ, stepT, sel, List.getElem?_cons_succ, List.getElem?_cons_zero]
 have D1 := hid (Ext.refl none' W0).drew
 clear c1 m00 m01 m02 m03
 go_wp2_with fail
 refine (C0.out _ D1.out).mono ?_
 rintro e w2 ⟨rfl, X2⟩
 have XX := hid (D1.out.trans X2)
 clear X2
 go_wp2_with fail
 refine ⟨In.of XX.out, In.of XX.out, ?_⟩
 change wpQuiet _ _ (fun w' => ∃ t : LaterF none' W0, w' = t.w) _ _ _
 repeat (go_big_quiet_step (fail))
 refine wpQuiet_nil ?_
 go_wp2_with fail
 go_ret
 exact ⟨by first | (rw [HR.out]; done) | (rw [HR.out]; simp), X0.out.trans XX.out⟩
theorem rm_set (f : Nat) (hf : f + 1 ≤ 1100000) (H : REx7 f) (deep : Nat) (head : Bool) (hd : deep + (f + 1) ≤ 1200000) (t : Nd) (ht : t.size ≤ f + 1) (hk : t.kind = 27) (he : setB (exF f) t = true) (v : Value) (w : World) (hv : NdV none' w t v) :
 Calls Tryz.prog 29 #[v, .int .i64 (deep : Nat), .bool head] w (StrPost (exT f deep head (t.kid 0) ++ [32, 61, 32] ++ exT f deep head (t.kid 1)) w) := by
 obtain ⟨a1, cap1, rfl, hcap, HV, HY⟩ := nd_open hv
 have hkl : t.kids.length ≤ 1100000 := by have := t.kids_len; omega
 obtain ⟨r, hr⟩ : ∃ r, r = (exT f deep head (t.kid 0) ++ [32, 61, 32] ++ exT f deep head (t.kid 1)) := ⟨_, rfl⟩
 rw [← hr]
 have HT := hid ht
 have HF := hid hf
 unfold setB at he
 obtain ⟨_, _, h3⟩ := ofB_parts he
 obtain ⟨x, y, hkx, hx1, hy1⟩ := two_kids h3
 obtain ⟨hx0, hy0⟩ := kid_two hkx
 have hl0 : 0 < t.kids.length := by rw [hkx]; simp
 have hl1 : 1 < t.kids.length := by rw [hkx]; simp
 rw [← hx0] at hx1
 rw [← hy0] at hy1
 clear hx0 hy0
 have hks0 : (t.kid 0).size ≤ f := by have := kid_size (t := t) (i := 0) (by omega); omega
 have C0 := hid fun v' W (hv' : NdV none' W (t.kid 0) v') => H deep head (by omega) (t.kid 0) hks0 hx1 v' W hv'
 have hql0 : (exT f deep head (t.kid 0)).length ≤ 10000000000000 := by have := exlen7 hx1 hks0 (deep := deep) (by omega) (by omega) head; omega
 obtain ⟨q0, hq0⟩ : ∃ q, exT f deep head (t.kid 0) = q := ⟨_, rfl⟩
 rw [hq0] at C0 hql0 hr
 clear hks0 hq0
 have hks1 : (t.kid 1).size ≤ f := by have := kid_size (t := t) (i := 1) (by omega); omega
 have C1 := hid fun v' W (hv' : NdV none' W (t.kid 1) v') => H deep head (by omega) (t.kid 1) hks1 hy1 v' W hv'
 have hql1 : (exT f deep head (t.kid 1)).length ≤ 10000000000000 := by have := exlen7 hy1 hks1 (deep := deep) (by omega) (by omega) head; omega
 obtain ⟨q1, hq1⟩ : ∃ q, exT f deep head (t.kid 1) = q := ⟨_, rfl⟩
 rw [hq1] at C1 hql1 hr
 clear hks1 hq1
 have y0 : (0 : Int) < (t.kids.length : Int) := by omega
 have y1 : (1 : Int) < (t.kids.length : Int) := by omega
 have cat13 := str_cat (q0) ([32, 61, 32])
 have cat14 := str_cat (q0 ++ [32, 61, 32]) (q1)
 simp only [List.append_assoc, List.cons_append, List.nil_append] at cat13 cat14
 have HR := hid hr
 have HK := hid hk
 rw [hk] at HV ⊢
 obtain ⟨tx, htx⟩ : ∃ k, t.text = k := ⟨_, rfl⟩
 have HTX := hid htx
 rw [htx] at HV  ⊢
 try rw [htx] at HR
 obtain ⟨B, W0, hB, hW0, X0, G0⟩ := boxed w (.cells #[.int .i64 27, .string ⟨tx.toArray⟩, .slice a1 t.kids.length cap1, .int .i64 t.pos] 24)
 have XX := hid (Ext.refl none' W0)
 clear hr htx ht hf hk he H hd h3 hkx hx1 hy1
 go_enter Tryz.func29, Tryz.ntmps29
 go_upto_region 1 with (fail)
 rw [← hW0, ← hB]
 clear hW0 hB
 obtain ⟨c0, c1, c2, c3⟩ := cellx XX.out G0.out
 obtain ⟨b, off, ka0, kc0, rfl, HBW, HZ0, KK0⟩ := kidA (HY.out.ext isNd_good X0.out fun _ _ h => h) (by omega)
 obtain ⟨ka1, kc1, HZ1, KK1⟩ := kidB (HY.out.ext isNd_good X0.out fun _ _ h => h) 1 4 rfl (by omega)
 have C0 := hid fun W (X : Ext none' W0 W) => C0.out _ W (ndvx HZ0.out X)
 have C1 := hid fun W (X : Ext none' W0 W) => C1.out _ W (ndvx HZ1.out X)
 go_upto_region 8 with (fail)
 clear c0 c1 c2 c3
 obtain ⟨m00, m01, m02, m03⟩ := kidL (w1 := W0) XX.out HBW.out KK0.out
 obtain ⟨m10, m11, m12, m13⟩ := kidL (w1 := W0) XX.out HBW.out KK1.out
 refine region_q none' W0 (.qs [0, 1, 2, 3, 4, 7, 8, 9, 10, 11] (.one 5 true (.qs [6] (.one 12 true (.qs [13, 14] .fin))))) (by kernel_rfl) (by kernel_rfl) (fun dst v c a w h => by cases dst <;> exact h) ?_
 refine ⟨In.of (Ext.refl _ _).drew, ?_⟩
 change wpQuiet _ _ (fun w' => ∃ t : LaterF none' W0, w' = t.w) _ _ _
 simp only [sel, List.getElem?_cons_succ, List.getElem?_cons_zero]
 repeat (go_big_quiet_step (fail))
 refine wpQuiet_nil ?_
 simp only [wpTreeQ, stepT, sel, List.getElem?_cons_succ, List.getElem?_cons_zero]
 have D1 := hid (Ext.refl none' W0).drew
 clear  m00 m01 m02 m03 m10 m11 m12 m13
 go_wp2_with fail
 refine (C0.out _ D1.out).mono ?_
 rintro e w2 ⟨rfl, X2⟩
 have XX := hid (D1.out.trans X2)
 clear X2
 go_wp2_with fail
 refine ⟨In.of XX.out, In.of XX.out, ?_⟩
 change wpQuiet _ _ (fun w' => ∃ t : LaterF none' W0, w' = t.w) _ _ _
 repeat (go_big_quiet_step (fail))
 refine wpQuiet_nil ?_
 go_wp2_with fail
 refine (C1.out _ XX.out).mono ?_
 rintro e w3 ⟨rfl, X⟩
 have XX := hid (XX.out.trans X)
 clear X 
 go_wp2_with fail
 refine ⟨In.of XX.out, In.of XX.out, ?_⟩
 change wpQuiet _ _ (fun w' => ∃ t : LaterF none' W0, w' = t.w) _ _ _
 repeat (go_big_quiet_step (fail))
 refine wpQuiet_nil ?_
 go_wp2_with fail
 go_ret
 exact ⟨by first | (rw [HR.out]; done) | (rw [HR.out]; simp), X0.out.trans XX.out⟩
theorem rm_inc (f : Nat) (hf : f + 1 ≤ 1100000) (H : REx7 f) (deep : Nat) (head : Bool) (hd : deep + (f + 1) ≤ 1200000) (t : Nd) (ht : t.size ≤ f + 1) (hk : t.kind = 28) (he : incrB (exF f) t = true) (v : Value) (w : World) (hv : NdV none' w t v) :
 Calls Tryz.prog 29 #[v, .int .i64 (deep : Nat), .bool head] w (StrPost (exT f deep head (t.kid 0) ++ t.text) w) := by
 obtain ⟨a1, cap1, rfl, hcap, HV, HY⟩ := nd_open hv
 have hkl : t.kids.length ≤ 1100000 := by have := t.kids_len; omega
 obtain ⟨r, hr⟩ : ∃ r, r = (exT f deep head (t.kid 0) ++ t.text) := ⟨_, rfl⟩
 rw [← hr]
 have HT := hid ht
 have HF := hid hf
 unfold incrB at he
 obtain ⟨_, htn, h3⟩ := namB_parts he
 obtain ⟨x, hkx, hx1⟩ := one_kid h3
 have hl0 : 0 < t.kids.length := by rw [hkx]; simp
 rw [← kid_one hkx] at hx1
 have htl := incB_len htn
 have hks0 : (t.kid 0).size ≤ f := by have := kid_size (t := t) (i := 0) (by omega); omega
 have C0 := hid fun v' W (hv' : NdV none' W (t.kid 0) v') => H deep head (by omega) (t.kid 0) hks0 hx1 v' W hv'
 have hql0 : (exT f deep head (t.kid 0)).length ≤ 10000000000000 := by have := exlen7 hx1 hks0 (deep := deep) (by omega) (by omega) head; omega
 obtain ⟨q0, hq0⟩ : ∃ q, exT f deep head (t.kid 0) = q := ⟨_, rfl⟩
 rw [hq0] at C0 hql0 hr
 clear hks0 hq0
 have y0 : (0 : Int) < (t.kids.length : Int) := by omega
 have cat0 := str_cat q0 t.text
 have HR := hid hr
 have HK := hid hk
 rw [hk] at HV ⊢
 obtain ⟨tx, htx⟩ : ∃ k, t.text = k := ⟨_, rfl⟩
 have HTX := hid htx
 rw [htx] at HV htl cat0 ⊢
 try rw [htx] at HR
 obtain ⟨B, W0, hB, hW0, X0, G0⟩ := boxed w (.cells #[.int .i64 28, .string ⟨tx.toArray⟩, .slice a1 t.kids.length cap1, .int .i64 t.pos] 24)
 have XX := hid (Ext.refl none' W0)
 clear hr htx ht hf hk he H hd htn h3 hkx hx1
 go_enter Tryz.func29, Tryz.ntmps29
 go_upto_region 1 with (fail)
 rw [← hW0, ← hB]
 clear hW0 hB
 obtain ⟨c0, c1, c2, c3⟩ := cellx XX.out G0.out
 obtain ⟨b, off, ka0, kc0, rfl, HBW, HZ0, KK0⟩ := kidA (HY.out.ext isNd_good X0.out fun _ _ h => h) (by omega)
 have C0 := hid fun W (X : Ext none' W0 W) => C0.out _ W (ndvx HZ0.out X)
 go_upto_region 10 with (fail)
 clear c0 c1 c2 c3
 have c1 := fun t' : LaterF none' W0 => cell_at ((XX.out.trans t'.x).heap G0.out fun h => h) 1
 simp only [List.getElem?_toArray, List.getElem?_cons_zero, List.getElem?_cons_succ] at c1
 obtain ⟨m00, m01, m02, m03⟩ := kidL (w1 := W0) XX.out HBW.out KK0.out
 refine region_q none' W0 (.qs [0, 1, 2, 3, 4, 6, 7] (.one 5 true (.qs [8, 9] .fin))) (by kernel_rfl) (by kernel_rfl) (fun dst v c a w h => by cases dst <;> exact h) ?_
 refine ⟨In.of (Ext.refl _ _).drew, ?_⟩
 change wpQuiet _ _ (fun w' => ∃ t : LaterF none' W0, w' = t.w) _ _ _
 simp only [sel, List.getElem?_cons_succ, List.getElem?_cons_zero]
 repeat (go_big_quiet_step (fail))
 refine wpQuiet_nil ?_
 simp only [wpTreeQ, stepT, sel, List.getElem?_cons_succ, List.getElem?_cons_zero]
 have D1 := hid (Ext.refl none' W0).drew
 clear c1 m00 m01 m02 m03
 go_wp2_with fail
 refine (C0.out _ D1.out).mono ?_
 rintro e w2 ⟨rfl, X2⟩
 have XX := hid (D1.out.trans X2)
 clear X2
 go_wp2_with fail
 refine ⟨In.of XX.out, In.of XX.out, ?_⟩
 change wpQuiet _ _ (fun w' => ∃ t : LaterF none' W0, w' = t.w) _ _ _
 repeat (go_big_quiet_step (fail))
 refine wpQuiet_nil ?_
 go_wp2_with fail
 go_ret
 exact ⟨by first | (rw [HR.out]; done) | (rw [HR.out]; simp), X0.out.trans XX.out⟩
theorem rm_expr (f : Nat) (hf : f + 1 ≤ 1100000) (H : REx7 f) (deep : Nat) (head : Bool) (hd : deep + (f + 1) ≤ 1200000) (t : Nd) (ht : t.size ≤ f + 1) (hk : t.kind = 29) (he : callB (exF f) t = true) (v : Value) (w : World) (hv : NdV none' w t v) :
 Calls Tryz.prog 29 #[v, .int .i64 (deep : Nat), .bool head] w (StrPost (exT f deep head (t.kid 0)) w) := by
 obtain ⟨a1, cap1, rfl, hcap, HV, HY⟩ := nd_open hv
 have hkl : t.kids.length ≤ 1100000 := by have := t.kids_len; omega
 obtain ⟨r, hr⟩ : ∃ r, r = (exT f deep head (t.kid 0)) := ⟨_, rfl⟩
 rw [← hr]
 have HT := hid ht
 have HF := hid hf
 unfold callB at he
 obtain ⟨_, _, h3⟩ := ofB_parts he
 obtain ⟨x, hkx, hx1⟩ := one_kid h3
 have hl0 : 0 < t.kids.length := by rw [hkx]; simp
 rw [← kid_one hkx] at hx1
 unfold isCallB at hx1
 rw [Bool.and_eq_true] at hx1
 have hx1 := hx1.2
 have hks0 : (t.kid 0).size ≤ f := by have := kid_size (t := t) (i := 0) (by omega); omega
 have C0 := hid fun v' W (hv' : NdV none' W (t.kid 0) v') => H deep head (by omega) (t.kid 0) hks0 hx1 v' W hv'
 have hql0 : (exT f deep head (t.kid 0)).length ≤ 10000000000000 := by have := exlen7 hx1 hks0 (deep := deep) (by omega) (by omega) head; omega
 obtain ⟨q0, hq0⟩ : ∃ q, exT f deep head (t.kid 0) = q := ⟨_, rfl⟩
 rw [hq0] at C0 hql0 hr
 clear hks0 hq0
 have y0 : (0 : Int) < (t.kids.length : Int) := by omega
 have HR := hid hr
 have HK := hid hk
 rw [hk] at HV ⊢
 obtain ⟨tx, htx⟩ : ∃ k, t.text = k := ⟨_, rfl⟩
 have HTX := hid htx
 rw [htx] at HV  ⊢
 try rw [htx] at HR
 obtain ⟨B, W0, hB, hW0, X0, G0⟩ := boxed w (.cells #[.int .i64 29, .string ⟨tx.toArray⟩, .slice a1 t.kids.length cap1, .int .i64 t.pos] 24)
 have XX := hid (Ext.refl none' W0)
 clear hr htx ht hf hk he H hd h3 hkx hx1
 go_enter Tryz.func29, Tryz.ntmps29
 go_upto_region 1 with (fail)
 rw [← hW0, ← hB]
 clear hW0 hB
 obtain ⟨c0, c1, c2, c3⟩ := cellx XX.out G0.out
 obtain ⟨b, off, ka0, kc0, rfl, HBW, HZ0, KK0⟩ := kidA (HY.out.ext isNd_good X0.out fun _ _ h => h) (by omega)
 have C0 := hid fun W (X : Ext none' W0 W) => C0.out _ W (ndvx HZ0.out X)
 obtain ⟨m00, m01, m02, m03⟩ := kid' XX.out HBW.out KK0.out
 go_wp2_with fail
 refine (C0.out _ XX.out).mono ?_
 rintro e w2 ⟨rfl, X⟩
 have XX := hid (XX.out.trans X)
 clear X c0 c1 c2 c3 m00 m01 m02 m03
 go_wp2_with fail
 go_ret
 exact ⟨by first | (rw [HR.out]; done) | (rw [HR.out]; simp), X0.out.trans XX.out⟩
def simB (ex : Nd → Bool) (t : Nd) : Prop := shB ex t = true ∨ setB ex t = true ∨ incrB ex t = true ∨ callB ex t = true
theorem rsim_any (f : Nat) (hf : f + 1 ≤ 1100000) (H : REx7 f) (deep : Nat) (head : Bool) (hd : deep + (f + 1) ≤ 1200000) (t : Nd) (ht : t.size ≤ f + 1) (he : simB (exF f) t) (v : Value) (w : World) (hv : NdV none' w t v) :
 Calls Tryz.prog 29 #[v, .int .i64 (deep : Nat), .bool head] w (StrPost (simT (exT f) deep head t) w) := by
 unfold simT
 rcases he with he | he | he | he
 · have hk := (namB_parts he).1
   rw [if_pos hk]
   exact rm_short f hf H deep head hd t ht hk he v w hv
 · have hk := (ofB_parts he).1
   rw [if_neg (by omega), if_pos hk]
   exact rm_set f hf H deep head hd t ht hk he v w hv
 · have hk := (namB_parts he).1
   rw [if_neg (by omega), if_neg (by omega), if_pos hk]
   exact rm_inc f hf H deep head hd t ht hk he v w hv
 · have hk := (ofB_parts he).1
   rw [if_neg (by omega), if_neg (by omega), if_neg (by omega)]
   exact rm_expr f hf H deep head hd t ht hk he v w hv
theorem rs7_var (f : Nat) (hf : f + 1 ≤ 1100000) (H : REx7 f) (deep : Nat)  (hd : deep + (f + 1) ≤ 1200000) (t : Nd) (ht : t.size ≤ f + 1) (hk : t.kind = 5) (he : varB (tyF nmB f) (exF f) t = true) (v : Value) (w : World) (hv : NdV none' w t v) :
 Calls Tryz.prog 29 #[v, .int .i64 (deep : Nat), .bool false] w (StrPost (varT (typF f) (exT f) deep t) w) := by
 obtain ⟨a1, cap1, rfl, hcap, HV, HY⟩ := nd_open hv
 have hkl : t.kids.length ≤ 1100000 := by have := t.kids_len; omega
 obtain ⟨r, hr⟩ : ∃ r, r = (varT (typF f) (exT f) deep t) := ⟨_, rfl⟩
 rw [← hr]
 have HT := hid ht
 have HF := hid hf
 have C0 := hid fun v' W (hv' : NdV none' W t v') => rvart_any f hf H deep hd t ht he v' W hv'
 rw [← hr] at C0
 have HR := hid hr
 have HK := hid hk
 rw [hk] at HV ⊢
 obtain ⟨tx, htx⟩ : ∃ k, t.text = k := ⟨_, rfl⟩
 have HTX := hid htx
 rw [htx] at HV  ⊢
 try rw [htx] at HR
 obtain ⟨B, W0, hB, hW0, X0, G0⟩ := boxed w (.cells #[.int .i64 5, .string ⟨tx.toArray⟩, .slice a1 t.kids.length cap1, .int .i64 t.pos] 24)
 have XX := hid (Ext.refl none' W0)
 clear hr htx ht hf hk he H hd
 go_enter Tryz.func29, Tryz.ntmps29
 go_upto_region 1 with (fail)
 rw [← hW0, ← hB]
 clear hW0 hB
 obtain ⟨c0, c1, c2, c3⟩ := cellx XX.out G0.out
 have C0 := hid fun W (X : Ext none' W0 W) => C0.out (.agg #[.int .i64 5, .string ⟨tx.toArray⟩, .slice a1 t.kids.length cap1, .int .i64 t.pos]) W (HV.out.ext (X0.out.trans X) fun _ _ h => h)
 go_wp2_with fail
 refine (C0.out _ XX.out).mono ?_
 rintro e w2 ⟨rfl, X⟩
 have XX := hid (XX.out.trans X)
 clear X c0 c1 c2 c3
 go_wp2_with fail
 go_ret
 exact ⟨rfl, X0.out.trans XX.out⟩
theorem rs7_block (f : Nat) (hf : f + 1 ≤ 1100000) (HS : RSt7 f) (deep : Nat)  (hd : deep + (f + 1) ≤ 1200000) (t : Nd) (ht : t.size ≤ f + 1) (hk : t.kind = 36) (he : blkB (stF f) t = true) (v : Value) (w : World) (hv : NdV none' w t v) :
 Calls Tryz.prog 29 #[v, .int .i64 (deep : Nat), .bool false] w (StrPost (blT (stT f) deep t) w) := by
 obtain ⟨a1, cap1, rfl, hcap, HV, HY⟩ := nd_open hv
 have hkl : t.kids.length ≤ 1100000 := by have := t.kids_len; omega
 obtain ⟨r, hr⟩ : ∃ r, r = (blT (stT f) deep t) := ⟨_, rfl⟩
 rw [← hr]
 have HT := hid ht
 have HF := hid hf
 have C0 := hid fun v' W (hv' : NdV none' W t v') => rblockt_any f hf HS deep hd t ht he v' W hv'
 rw [← hr] at C0
 have HR := hid hr
 have HK := hid hk
 rw [hk] at HV ⊢
 obtain ⟨tx, htx⟩ : ∃ k, t.text = k := ⟨_, rfl⟩
 have HTX := hid htx
 rw [htx] at HV  ⊢
 try rw [htx] at HR
 obtain ⟨B, W0, hB, hW0, X0, G0⟩ := boxed w (.cells #[.int .i64 36, .string ⟨tx.toArray⟩, .slice a1 t.kids.length cap1, .int .i64 t.pos] 24)
 have XX := hid (Ext.refl none' W0)
 clear hr htx ht hf hk he HS hd
 go_enter Tryz.func29, Tryz.ntmps29
 go_upto_region 1 with (fail)
 rw [← hW0, ← hB]
 clear hW0 hB
 obtain ⟨c0, c1, c2, c3⟩ := cellx XX.out G0.out
 have C0 := hid fun W (X : Ext none' W0 W) => C0.out (.agg #[.int .i64 36, .string ⟨tx.toArray⟩, .slice a1 t.kids.length cap1, .int .i64 t.pos]) W (HV.out.ext (X0.out.trans X) fun _ _ h => h)
 go_wp2_with fail
 refine (C0.out _ XX.out).mono ?_
 rintro e w2 ⟨rfl, X⟩
 have XX := hid (XX.out.trans X)
 clear X c0 c1 c2 c3
 go_wp2_with fail
 go_ret
 exact ⟨rfl, X0.out.trans XX.out⟩
theorem rs7_break (f : Nat) (hf : f + 1 ≤ 1100000)  (deep : Nat)  (hd : deep + (f + 1) ≤ 1200000) (t : Nd) (ht : t.size ≤ f + 1) (hk : t.kind = 34)  (v : Value) (w : World) (hv : NdV none' w t v) :
 Calls Tryz.prog 29 #[v, .int .i64 (deep : Nat), .bool false] w (StrPost ([98, 114, 101, 97, 107] : List UInt8) w) := by
 obtain ⟨a1, cap1, rfl, hcap, HV, HY⟩ := nd_open hv
 have hkl : t.kids.length ≤ 1100000 := by have := t.kids_len; omega
 obtain ⟨r, hr⟩ : ∃ r, r = ([98, 114, 101, 97, 107] : List UInt8) := ⟨_, rfl⟩
 rw [← hr]
 have HT := hid ht
 have HF := hid hf
 have HR := hid hr
 have HK := hid hk
 rw [hk] at HV ⊢
 obtain ⟨tx, htx⟩ : ∃ k, t.text = k := ⟨_, rfl⟩
 have HTX := hid htx
 rw [htx] at HV  ⊢
 try rw [htx] at HR
 obtain ⟨B, W0, hB, hW0, X0, G0⟩ := boxed w (.cells #[.int .i64 34, .string ⟨tx.toArray⟩, .slice a1 t.kids.length cap1, .int .i64 t.pos] 24)
 have XX := hid (Ext.refl none' W0)
 clear hr htx ht hf hk hd
 go_enter Tryz.func29, Tryz.ntmps29
 go_upto_region 1 with (fail)
 rw [← hW0, ← hB]
 clear hW0 hB
 obtain ⟨c0, c1, c2, c3⟩ := cellx XX.out G0.out
 go_wp2_with fail
 go_ret
 exact ⟨by first | (rw [HR.out]; done) | (rw [HR.out]; simp), X0.out.trans XX.out⟩
theorem rs7_cont (f : Nat) (hf : f + 1 ≤ 1100000)  (deep : Nat)  (hd : deep + (f + 1) ≤ 1200000) (t : Nd) (ht : t.size ≤ f + 1) (hk : t.kind = 35)  (v : Value) (w : World) (hv : NdV none' w t v) :
 Calls Tryz.prog 29 #[v, .int .i64 (deep : Nat), .bool false] w (StrPost ([99, 111, 110, 116, 105, 110, 117, 101] : List UInt8) w) := by
 obtain ⟨a1, cap1, rfl, hcap, HV, HY⟩ := nd_open hv
 have hkl : t.kids.length ≤ 1100000 := by have := t.kids_len; omega
 obtain ⟨r, hr⟩ : ∃ r, r = ([99, 111, 110, 116, 105, 110, 117, 101] : List UInt8) := ⟨_, rfl⟩
 rw [← hr]
 have HT := hid ht
 have HF := hid hf
 have HR := hid hr
 have HK := hid hk
 rw [hk] at HV ⊢
 obtain ⟨tx, htx⟩ : ∃ k, t.text = k := ⟨_, rfl⟩
 have HTX := hid htx
 rw [htx] at HV  ⊢
 try rw [htx] at HR
 obtain ⟨B, W0, hB, hW0, X0, G0⟩ := boxed w (.cells #[.int .i64 35, .string ⟨tx.toArray⟩, .slice a1 t.kids.length cap1, .int .i64 t.pos] 24)
 have XX := hid (Ext.refl none' W0)
 clear hr htx ht hf hk hd
 go_enter Tryz.func29, Tryz.ntmps29
 go_upto_region 1 with (fail)
 rw [← hW0, ← hB]
 clear hW0 hB
 obtain ⟨c0, c1, c2, c3⟩ := cellx XX.out G0.out
 go_wp2_with fail
 go_ret
 exact ⟨by first | (rw [HR.out]; done) | (rw [HR.out]; simp), X0.out.trans XX.out⟩
theorem rs7_return (f : Nat) (hf : f + 1 ≤ 1100000) (H : REx7 f) (deep : Nat)  (hd : deep + (f + 1) ≤ 1200000) (t : Nd) (ht : t.size ≤ f + 1) (hk : t.kind = 33) (he : ofB 33 [orB emptyB (exF f)] t = true) (v : Value) (w : World) (hv : NdV none' w t v) :
 Calls Tryz.prog 29 #[v, .int .i64 (deep : Nat), .bool false] w (StrPost ([114, 101, 116, 117, 114, 110] ++ (if (t.kid 0).kind = 0 then [] else [32] ++ exT f deep false (t.kid 0))) w) := by
 obtain ⟨a1, cap1, rfl, hcap, HV, HY⟩ := nd_open hv
 have hkl : t.kids.length ≤ 1100000 := by have := t.kids_len; omega
 obtain ⟨r, hr⟩ : ∃ r, r = ([114, 101, 116, 117, 114, 110] ++ (if (t.kid 0).kind = 0 then [] else [32] ++ exT f deep false (t.kid 0))) := ⟨_, rfl⟩
 rw [← hr]
 have HT := hid ht
 have HF := hid hf
 obtain ⟨_, _, h3⟩ := ofB_parts he
 obtain ⟨x, hkx, hx1⟩ := one_kid h3
 have hl0 : 0 < t.kids.length := by rw [hkx]; simp
 rw [← kid_one hkx] at hx1
 unfold orB at hx1
 simp only [Bool.or_eq_true] at hx1
 have hx2 : (t.kid 0).kind ≠ 0 → exF f (t.kid 0) = true := fun h => hx1.resolve_left fun h' => h (emptyB_kind h')
 have hks : (t.kid 0).size ≤ f := by have := kid_size hl0; omega
 have C0 := hid fun (h : (t.kid 0).kind ≠ 0) v' W (hv' : NdV none' W (t.kid 0) v') => H deep false (by omega) (t.kid 0) hks (hx2 h) v' W hv'
 have QL := hid fun (h : (t.kid 0).kind ≠ 0) => (show (exT f deep false (t.kid 0)).length ≤ 10000000000000 by have := exlen7 (hx2 h) hks (deep := deep) (by omega) (by omega) false; omega)
 obtain ⟨q0, hq0⟩ : ∃ q, exT f deep false (t.kid 0) = q := ⟨_, rfl⟩
 rw [hq0] at C0 QL hr
 have y0 : (0 : Int) < (t.kids.length : Int) := by omega
 have HR := hid hr
 have HK := hid hk
 rw [hk] at HV ⊢
 obtain ⟨tx, htx⟩ : ∃ k, t.text = k := ⟨_, rfl⟩
 have HTX := hid htx
 rw [htx] at HV  ⊢
 try rw [htx] at HR
 obtain ⟨B, W0, hB, hW0, X0, G0⟩ := boxed w (.cells #[.int .i64 33, .string ⟨tx.toArray⟩, .slice a1 t.kids.length cap1, .int .i64 t.pos] 24)
 have XX := hid (Ext.refl none' W0)
 clear hr htx ht hf hk he H hd h3 hkx hx1 hx2 hks hq0
 go_enter Tryz.func29, Tryz.ntmps29
 go_upto_region 1 with (fail)
 rw [← hW0, ← hB]
 clear hW0 hB
 obtain ⟨c0, c1, c2, c3⟩ := cellx XX.out G0.out
 obtain ⟨b, off, ka0, kc0, rfl, HBW, HZ0, KK0⟩ := kidA (HY.out.ext isNd_good X0.out fun _ _ h => h) (by omega)
 obtain ⟨m00, m01, m02, m03⟩ := kid' XX.out HBW.out KK0.out
 by_cases h0 : (t.kid 0).kind = 0
 case pos =>
  have q1 : ((t.kid 0).kind == 0) = true := by simpa using h0
  have HR := hid (show r = [114, 101, 116, 117, 114, 110] by rw [HR.out, if_pos h0]; rfl)
  clear h0
  go_wp2_with fail
  go_ret
  exact ⟨by first | (rw [HR.out]; done) | (rw [HR.out]; simp), X0.out.trans XX.out⟩
 have q1 : ((t.kid 0).kind == 0) = false := by simpa using h0
 have HR := hid (show r = [114, 101, 116, 117, 114, 110, 32] ++ q0 by rw [HR.out, if_neg h0]; rfl)
 have hql := QL.out h0
 have C0 := hid fun W (X : Ext none' W0 W) => C0.out h0 _ W (ndvx HZ0.out X)
 have cat1 := str_cat [114, 101, 116, 117, 114, 110, 32] q0
 simp only [List.cons_append, List.nil_append] at cat1
 clear h0
 go_wp2_with fail
 refine (C0.out _ XX.out).mono ?_
 rintro e w2 ⟨rfl, X⟩
 have XX := hid (XX.out.trans X)
 clear X c0 c1 c2 c3 m00 m01 m02 m03
 go_wp2_with fail
 go_ret
 exact ⟨by first | (rw [HR.out]; done) | (rw [HR.out]; simp), X0.out.trans XX.out⟩
theorem rs7_if (f : Nat) (hf : f + 1 ≤ 1100000) (H : REx7 f) (HS : RSt7 f) (deep : Nat)  (hd : deep + (f + 1) ≤ 1200000) (t : Nd) (ht : t.size ≤ f + 1) (hk : t.kind = 30) (he : ifsB (exF f) (stF f) t = true) (v : Value) (w : World) (hv : NdV none' w t v) :
 Calls Tryz.prog 29 #[v, .int .i64 (deep : Nat), .bool false] w (StrPost ([105, 102, 32] ++ exT f deep true (t.kid 0) ++ [32] ++ blT (stT f) deep (t.kid 1) ++ (if (t.kid 2).kind = 0 then [] else [32, 101, 108, 115, 101, 32] ++ stT f deep (t.kid 2))) w) := by
 obtain ⟨a1, cap1, rfl, hcap, HV, HY⟩ := nd_open hv
 have hkl : t.kids.length ≤ 1100000 := by have := t.kids_len; omega
 obtain ⟨r, hr⟩ : ∃ r, r = ([105, 102, 32] ++ exT f deep true (t.kid 0) ++ [32] ++ blT (stT f) deep (t.kid 1) ++ (if (t.kid 2).kind = 0 then [] else [32, 101, 108, 115, 101, 32] ++ stT f deep (t.kid 2))) := ⟨_, rfl⟩
 rw [← hr]
 have HT := hid ht
 have HF := hid hf
 unfold ifsB at he
 obtain ⟨_, _, h3⟩ := ofB_parts he
 obtain ⟨x, y, z, hkx, hx1, hy1, hz1⟩ := three_kids h3
 obtain ⟨hx0, hy0, hz0⟩ := kid_three hkx
 have hl2 : 2 < t.kids.length := by rw [hkx]; simp
 rw [← hx0] at hx1
 rw [← hy0] at hy1
 rw [← hz0] at hz1
 clear hx0 hy0 hz0
 have hks : (t.kid 2).size ≤ f := by have := kid_size hl2; omega
 have hz2 : (t.kid 2).kind ≠ 0 → stF f (t.kid 2) = true := fun h => by
  unfold orB at hz1
  simp only [Bool.or_eq_true] at hz1
  rcases hz1 with (h1 | h1) | h1
  · exact absurd (emptyB_kind h1) h
  · exact stF_block hks h1
  · unfold ifB at h1
    rw [Bool.and_eq_true] at h1
    exact h1.2
 have hks0 : (t.kid 0).size ≤ f := by have := kid_size (t := t) (i := 0) (by omega); omega
 have C0 := hid fun v' W (hv' : NdV none' W (t.kid 0) v') => H deep true (by omega) (t.kid 0) hks0 hx1 v' W hv'
 have hql0 : (exT f deep true (t.kid 0)).length ≤ 10000000000000 := by have := exlen7 hx1 hks0 (deep := deep) (by omega) (by omega) true; omega
 obtain ⟨q0, hq0⟩ : ∃ q, exT f deep true (t.kid 0) = q := ⟨_, rfl⟩
 rw [hq0] at C0 hql0 hr
 clear hks0 hq0
 have hks1 : (t.kid 1).size ≤ f + 1 := by have := kid_size (t := t) (i := 1) (by omega); omega
 have hbl1 := blk_len (deep := deep) (st := stT f) (f := f) (by omega) (fun z hm hz => (lens_all f (deep + 1) (by omega)).2 z (by have := Nd.size_kid hm; have := kid_size (t := t) (i := 1) (by omega); omega) hz) hy1
 have C1 := hid fun v' W (hv' : NdV none' W (t.kid 1) v') => rblockt_any f (by omega) HS deep (by omega) (t.kid 1) hks1 hy1 v' W hv'
 have hql1 : (blT (stT f) deep (t.kid 1)).length ≤ 10000000000000 := by omega
 obtain ⟨q1, hq1⟩ : ∃ q, blT (stT f) deep (t.kid 1) = q := ⟨_, rfl⟩
 rw [hq1] at C1 hql1 hr
 clear hks1 hbl1 hq1
 have C2 := hid fun (h : (t.kid 2).kind ≠ 0) v' W (hv' : NdV none' W (t.kid 2) v') => HS deep (by omega) (t.kid 2) hks (hz2 h) v' W hv'
 have QL := hid fun (h : (t.kid 2).kind ≠ 0) => (show (stT f deep (t.kid 2)).length ≤ 10000000000000 by have := (lens_all f deep (by omega)).2 (t.kid 2) hks (hz2 h); omega)
 obtain ⟨q2, hq2⟩ : ∃ q, stT f deep (t.kid 2) = q := ⟨_, rfl⟩
 rw [hq2] at C2 QL hr
 have y0 : (0 : Int) < (t.kids.length : Int) := by omega
 have y1 : (1 : Int) < (t.kids.length : Int) := by omega
 have y2 : (2 : Int) < (t.kids.length : Int) := by omega
 have cat15 := str_cat ([105, 102, 32]) (q0)
 have cat16 := str_cat ([105, 102, 32] ++ q0) ([32])
 have cat17 := str_cat ([105, 102, 32] ++ (q0 ++ [32])) (q1)
 simp only [List.append_assoc, List.cons_append, List.nil_append] at cat15 cat16 cat17
 have HR := hid hr
 have HK := hid hk
 rw [hk] at HV ⊢
 obtain ⟨tx, htx⟩ : ∃ k, t.text = k := ⟨_, rfl⟩
 have HTX := hid htx
 rw [htx] at HV  ⊢
 try rw [htx] at HR
 obtain ⟨B, W0, hB, hW0, X0, G0⟩ := boxed w (.cells #[.int .i64 30, .string ⟨tx.toArray⟩, .slice a1 t.kids.length cap1, .int .i64 t.pos] 24)
 have XX := hid (Ext.refl none' W0)
 clear hr htx ht hf hk he H HS hd h3 hkx hx1 hy1 hz1 hz2 hks hq2
 go_enter Tryz.func29, Tryz.ntmps29
 go_upto_region 1 with (fail)
 rw [← hW0, ← hB]
 clear hW0 hB
 obtain ⟨c0, c1, c2, c3⟩ := cellx XX.out G0.out
 obtain ⟨b, off, ka0, kc0, rfl, HBW, HZ0, KK0⟩ := kidA (HY.out.ext isNd_good X0.out fun _ _ h => h) (by omega)
 obtain ⟨ka1, kc1, HZ1, KK1⟩ := kidB (HY.out.ext isNd_good X0.out fun _ _ h => h) 1 4 rfl (by omega)
 obtain ⟨ka2, kc2, HZ2, KK2⟩ := kidB (HY.out.ext isNd_good X0.out fun _ _ h => h) 2 8 rfl (by omega)
 have C0 := hid fun W (X : Ext none' W0 W) => C0.out _ W (ndvx HZ0.out X)
 have C1 := hid fun W (X : Ext none' W0 W) => C1.out _ W (ndvx HZ1.out X)
 go_upto_region 14 with (fail)
 clear c0 c1 c2 c3
 obtain ⟨m00, m01, m02, m03⟩ := kidL (w1 := W0) XX.out HBW.out KK0.out
 obtain ⟨m10, m11, m12, m13⟩ := kidL (w1 := W0) XX.out HBW.out KK1.out
 refine region_q none' W0 (.qs [0, 1, 2, 3, 7, 8, 9, 10] (.one 4 true (.qs [5, 6] (.one 11 true (.qs [12, 13] .fin))))) (by kernel_rfl) (by kernel_rfl) (fun dst v c a w h => by cases dst <;> exact h) ?_
 refine ⟨In.of (Ext.refl _ _).drew, ?_⟩
 change wpQuiet _ _ (fun w' => ∃ t : LaterF none' W0, w' = t.w) _ _ _
 simp only [sel, List.getElem?_cons_succ, List.getElem?_cons_zero]
 repeat (go_big_quiet_step (fail))
 refine wpQuiet_nil ?_
 simp only [wpTreeQ, stepT, sel, List.getElem?_cons_succ, List.getElem?_cons_zero]
 have D1 := hid (Ext.refl none' W0).drew
 clear  m00 m01 m02 m03 m10 m11 m12 m13
 go_wp2_with fail
 refine (C0.out _ D1.out).mono ?_
 rintro e w2 ⟨rfl, X2⟩
 have XX := hid (D1.out.trans X2)
 clear X2
 go_wp2_with fail
 refine ⟨In.of XX.out, In.of XX.out, ?_⟩
 change wpQuiet _ _ (fun w' => ∃ t : LaterF none' W0, w' = t.w) _ _ _
 repeat (go_big_quiet_step (fail))
 refine wpQuiet_nil ?_
 go_wp2_with fail
 refine (C1.out _ XX.out).mono ?_
 rintro e w3 ⟨rfl, X⟩
 have XX := hid (XX.out.trans X)
 clear X 
 go_wp2_with fail
 refine ⟨In.of XX.out, In.of XX.out, ?_⟩
 change wpQuiet _ _ (fun w' => ∃ t : LaterF none' W0, w' = t.w) _ _ _
 repeat (go_big_quiet_step (fail))
 refine wpQuiet_nil ?_
 obtain ⟨c0, c1, c2, c3⟩ := cellx XX.out G0.out
 obtain ⟨m20, m21, m22, m23⟩ := kid' XX.out HBW.out KK2.out
 by_cases h0 : (t.kid 2).kind = 0
 case pos =>
  have z1 : ((t.kid 2).kind != 0) = false := by simp [h0]
  have HR := hid (show r = [105, 102, 32] ++ q0 ++ [32] ++ q1 by rw [HR.out, if_pos h0]; simp)
  clear h0
  go_wp2_with fail
  go_ret
  exact ⟨by first | (rw [HR.out]; done) | (rw [HR.out]; simp), X0.out.trans XX.out⟩
 have z1 : ((t.kid 2).kind != 0) = true := by simpa using h0
 have HR := hid (show r = [105, 102, 32] ++ q0 ++ [32] ++ q1 ++ ([32, 101, 108, 115, 101, 32] ++ q2) by rw [HR.out, if_neg h0])
 have hql := QL.out h0
 have C2 := hid fun W (X : Ext none' W0 W) => C2.out h0 _ W (ndvx HZ2.out X)
 clear h0
 have cat18 := str_cat ([32, 101, 108, 115, 101, 32]) (q2)
 have cat19 := str_cat ([105, 102, 32] ++ (q0 ++ [32]) ++ q1) ([32, 101, 108, 115, 101, 32] ++ q2)
 simp only [List.append_assoc, List.cons_append, List.nil_append] at cat18 cat19
 go_wp2_with fail
 refine (C2.out _ XX.out).mono ?_
 rintro e w4 ⟨rfl, X⟩
 have XX := hid (XX.out.trans X)
 clear X c0 c1 c2 c3 m20 m21 m22 m23
 go_wp2_with fail
 go_ret
 exact ⟨by first | (rw [HR.out]; done) | (rw [HR.out]; simp), X0.out.trans XX.out⟩
theorem rng_take (s : List UInt8) (i : Nat) (h : i < s.length) : (s.take (i + 1)).flatMap (fun c => if c = 44 then [44, 32] else [c]) = (s.take i).flatMap (fun c => if c = 44 then [44, 32] else [c]) ++ (if s[i] = 44 then [44, 32] else [s[i]]) := by
 rw [List.take_add_one, List.getElem?_eq_getElem h, List.flatMap_append]
 simp
theorem rng_len (s : List UInt8) : (s.flatMap (fun c => if c = 44 then [44, 32] else [c])).length ≤ 2 * s.length := by
 induction s with
 | nil => simp
 | cons c l ih =>
  rw [List.flatMap_cons, List.length_append, List.length_cons]
  have : (if c = 44 then [44, 32] else [c]).length ≤ 2 := by split <;> simp
  omega
theorem rs7_range (f : Nat) (hf : f + 1 ≤ 1100000) (H : REx7 f) (HS : RSt7 f) (deep : Nat)  (hd : deep + (f + 1) ≤ 1200000) (t : Nd) (ht : t.size ≤ f + 1) (hk : t.kind = 32) (he : namB rngB 32 [exF f, blkB (stF f)] t = true) (v : Value) (w : World) (hv : NdV none' w t v) :
 Calls Tryz.prog 29 #[v, .int .i64 (deep : Nat), .bool false] w (StrPost ([102, 111, 114] ++ [32] ++ rngT t.text ++ [114, 97, 110, 103, 101, 32] ++ exT f deep true (t.kid 0) ++ [32] ++ blT (stT f) deep (t.kid 1)) w) := by
 obtain ⟨a1, cap1, rfl, hcap, HV, HY⟩ := nd_open hv
 have hkl : t.kids.length ≤ 1100000 := by have := t.kids_len; omega
 obtain ⟨r, hr⟩ : ∃ r, r = ([102, 111, 114] ++ [32] ++ rngT t.text ++ [114, 97, 110, 103, 101, 32] ++ exT f deep true (t.kid 0) ++ [32] ++ blT (stT f) deep (t.kid 1)) := ⟨_, rfl⟩
 rw [← hr]
 have HT := hid ht
 have HF := hid hf
 obtain ⟨_, htn, h3⟩ := namB_parts he
 obtain ⟨x, y, hkx, hx1, hy1⟩ := two_kids h3
 obtain ⟨hx0, hy0⟩ := kid_two hkx
 have hl0 : 0 < t.kids.length := by rw [hkx]; simp
 have hl1 : 1 < t.kids.length := by rw [hkx]; simp
 rw [← hx0] at hx1
 rw [← hy0] at hy1
 clear hx0 hy0
 have htl := rngB_len htn
 have hks0 : (t.kid 0).size ≤ f := by have := kid_size (t := t) (i := 0) (by omega); omega
 have C0 := hid fun v' W (hv' : NdV none' W (t.kid 0) v') => H deep true (by omega) (t.kid 0) hks0 hx1 v' W hv'
 have hql0 : (exT f deep true (t.kid 0)).length ≤ 10000000000000 := by have := exlen7 hx1 hks0 (deep := deep) (by omega) (by omega) true; omega
 obtain ⟨q0, hq0⟩ : ∃ q, exT f deep true (t.kid 0) = q := ⟨_, rfl⟩
 rw [hq0] at C0 hql0 hr
 clear hks0 hq0
 have hks1 : (t.kid 1).size ≤ f + 1 := by have := kid_size (t := t) (i := 1) (by omega); omega
 have hbl1 := blk_len (deep := deep) (st := stT f) (f := f) (by omega) (fun z hm hz => (lens_all f (deep + 1) (by omega)).2 z (by have := Nd.size_kid hm; have := kid_size (t := t) (i := 1) (by omega); omega) hz) hy1
 have C1 := hid fun v' W (hv' : NdV none' W (t.kid 1) v') => rblockt_any f (by omega) HS deep (by omega) (t.kid 1) hks1 hy1 v' W hv'
 have hql1 : (blT (stT f) deep (t.kid 1)).length ≤ 10000000000000 := by omega
 obtain ⟨q1, hq1⟩ : ∃ q, blT (stT f) deep (t.kid 1) = q := ⟨_, rfl⟩
 rw [hq1] at C1 hql1 hr
 clear hks1 hbl1 hq1
 have y0 : (0 : Int) < (t.kids.length : Int) := by omega
 have y1 : (1 : Int) < (t.kids.length : Int) := by omega
 have HR := hid hr
 have HK := hid hk
 rw [hk] at HV ⊢
 obtain ⟨tx, htx⟩ : ∃ k, t.text = k := ⟨_, rfl⟩
 have HTX := hid htx
 rw [htx] at HV htl ⊢
 try rw [htx] at HR
 obtain ⟨B, W0, hB, hW0, X0, G0⟩ := boxed w (.cells #[.int .i64 32, .string ⟨tx.toArray⟩, .slice a1 t.kids.length cap1, .int .i64 t.pos] 24)
 have XX := hid (Ext.refl none' W0)
 clear hr htx ht hf hk he H HS hd htn h3 hkx hx1 hy1
 go_enter Tryz.func29, Tryz.ntmps29
 go_upto_region 1 with (fail)
 rw [← hW0, ← hB]
 clear hW0 hB
 obtain ⟨c0, c1, c2, c3⟩ := cellx XX.out G0.out
 obtain ⟨b, off, ka0, kc0, rfl, HBW, HZ0, KK0⟩ := kidA (HY.out.ext isNd_good X0.out fun _ _ h => h) (by omega)
 obtain ⟨ka1, kc1, HZ1, KK1⟩ := kidB (HY.out.ext isNd_good X0.out fun _ _ h => h) 1 4 rfl (by omega)
 have C0 := hid fun W (X : Ext none' W0 W) => C0.out _ W (ndvx HZ0.out X)
 have C1 := hid fun W (X : Ext none' W0 W) => C1.out _ W (ndvx HZ1.out X)
 obtain ⟨A, hA⟩ : ∃ A : Nat → List UInt8, A = fun i => [102, 111, 114, 32] ++ (tx.take i).flatMap (fun c => if c = 44 then [44, 32] else [c]) := ⟨_, rfl⟩
 have AZ := hid (show A 0 = [102, 111, 114, 32] by rw [hA]; rfl)
 have AN := hid (show ∀ i (h : i < tx.length), A (i + 1) = A i ++ (if tx[i] = 44 then [44, 32] else [tx[i]]) by
  intro i h
  rw [hA]
  show _ ++ _ = (_ ++ _) ++ _
  rw [rng_take tx i h, List.append_assoc])
 have AL := hid (show ∀ i, (A i).length ≤ 1000 by
  intro i
  rw [hA]
  have h1 := rng_len (tx.take i)
  rw [List.length_take] at h1
  simp only [List.length_append, List.length_cons, List.length_nil]
  omega)
 have HR := hid (show r = A tx.length ++ ((if tx = [] then [] else [32, 58, 61, 32]) ++ ([114, 97, 110, 103, 101, 32] ++ (q0 ++ ([32] ++ q1)))) by
  rw [HR.out, hA]
  unfold rngT
  show _ = ([102, 111, 114, 32] ++ (tx.take tx.length).flatMap _) ++ _
  rw [List.take_length]
  split
  · rename_i h; subst h; simp
  · simp)
 clear hA
 go_wp2_with fail
 clear c0 c1 c2 c3
 go_loopw [10, 11] (fun o z wr => ∃ (i : Nat), z = .int .i64 (i : Nat) ∧ i ≤ tx.length ∧ o = .string ⟨(A i).toArray⟩ ∧ Hid (Ext none' W0 wr)) (fun _ z _ => tx.length - (RowKit.intOf z).toNat)
 case atStart => exact ⟨0, rfl, by omega, by rw [AZ.out], XX⟩
 case round =>
  obtain ⟨i, rfl, hle, rfl, RR⟩ := hrel
  have c1 := cell_at (RR.out.heap G0.out fun h => h) 1
  simp only [List.getElem?_toArray, List.getElem?_cons_zero, List.getElem?_cons_succ] at c1
  have hal := AL.out i
  by_cases hi : i < tx.length
  · have N := hid (AN.out i hi)
    have hi1 : ∀ W, (Instr.index 9 (.string ⟨tx.toArray⟩) (.int .i64 (i : Nat))).run Tryz.prog W = .ok (.int .u8 ((tx[i]'hi).toNat : Nat)) W := fun W => idx_run tx i hi W
    have hsl := fun W => cut_run tx (i : Int) ((i : Int) + 1) i (i + 1) rfl (by omega) (by omega) (by omega) W
    have hcut : (tx.drop i).take (i + 1 - i) = [tx[i]'hi] := by
     rw [List.drop_eq_getElem_cons hi, show i + 1 - i = 1 by omega]; rfl
    rw [hcut] at hsl
    obtain ⟨c, hc⟩ : ∃ c, tx[i]'hi = c := ⟨_, rfl⟩
    simp only [hc] at hi1 hsl N
    obtain ⟨o1, ho1⟩ : ∃ o, A i = o := ⟨_, rfl⟩
    rw [ho1] at N hal ⊢
    have cat1 := str_cat o1 [c]
    clear hc hcut ho1
    by_cases m1 : c = 44
    · have n1 : ((c.toNat : Int) == 44) = true := by rw [m1]; rfl
      have N := hid (show A (i + 1) = o1 ++ ([c] ++ [32]) by rw [N.out, if_pos m1, m1]; rfl)
      have cat2 := str_cat (o1 ++ [c]) [32]
      simp only [List.append_assoc] at cat2
      clear m1
      go_wp2_with fail
      go_roundw
      case rel => exact ⟨i + 1, by go_num, by omega, by first | (rw [N.out]; done) | (rw [N.out]; simp), RR⟩
      case measure => simp [RowKit.intOf]; omega
    · have n1 : ((c.toNat : Int) == 44) = false := by have := u8n m1; simp at this ⊢; omega
      have N := hid (show A (i + 1) = o1 ++ [c] by rw [N.out, if_neg m1])
      clear m1
      go_wp2_with fail
      go_roundw
      case rel => exact ⟨i + 1, by go_num, by omega, by rw [N.out], RR⟩
      case measure => simp [RowKit.intOf]; omega
  · obtain rfl : i = tx.length := by omega
    obtain ⟨o1, ho1⟩ : ∃ o, A tx.length = o := ⟨_, rfl⟩
    rw [ho1] at HR hal ⊢
    clear ho1
    by_cases hp0 : tx = []
    case pos =>
     have n1 : (tx == []) = true := by simpa using hp0
     have n2 : (tx != []) = false := by simp [hp0]
     have n3 : tx.isEmpty = true := by simpa using hp0
     have HR := hid (HR.out.trans (by rw [if_pos hp0]))
     have cat20 := str_cat (o1) ([114, 97, 110, 103, 101, 32])
     have cat21 := str_cat (o1 ++ [114, 97, 110, 103, 101, 32]) (q0)
     have cat22 := str_cat (o1 ++ [114, 97, 110, 103, 101, 32] ++ q0) ([32])
     have cat23 := str_cat (o1 ++ [114, 97, 110, 103, 101, 32] ++ q0 ++ [32]) (q1)
     simp only [List.append_assoc, List.cons_append, List.nil_append] at cat20 cat21 cat22 cat23
     clear hp0
     go_upto_region 40 with (fail)
     go_upto_region 42 with (fail)
     clear c1
     obtain ⟨m00, m01, m02, m03⟩ := kidL (w1 := wr) RR.out HBW.out KK0.out
     obtain ⟨m10, m11, m12, m13⟩ := kidL (w1 := wr) RR.out HBW.out KK1.out
     refine region_q none' wr (.qs [0, 1, 2, 3, 4, 5, 9, 10, 11, 12] (.one 6 true (.qs [7, 8] (.one 13 true (.qs [14, 15] .fin))))) (by kernel_rfl) (by kernel_rfl) (fun dst v c a w h => by cases dst <;> exact h) ?_
     refine ⟨In.of (Ext.refl _ _).drew, ?_⟩
     change wpQuiet _ _ (fun w' => ∃ t : LaterF none' wr, w' = t.w) _ _ _
     simp only [sel, List.getElem?_cons_succ, List.getElem?_cons_zero]
     repeat (go_big_quiet_step (fail))
     refine wpQuiet_nil ?_
     simp only [wpTreeQ, stepT, sel, List.getElem?_cons_succ, List.getElem?_cons_zero]
     have D1 := hid (Ext.refl none' wr).drew
     clear m00 m01 m02 m03 m10 m11 m12 m13
     go_wp2_with fail
     refine (C0.out _ (RR.out.trans D1.out)).mono ?_
     rintro e w2 ⟨rfl, X2⟩
     have XR := hid (D1.out.trans X2)
     clear X2
     go_wp2_with fail
     refine ⟨In.of XR.out, In.of XR.out, ?_⟩
     change wpQuiet _ _ (fun w' => ∃ t : LaterF none' wr, w' = t.w) _ _ _
     repeat (go_big_quiet_step (fail))
     refine wpQuiet_nil ?_
     go_wp2_with fail
     refine (C1.out _ (RR.out.trans XR.out)).mono ?_
     rintro e w3 ⟨rfl, X2⟩
     have XR := hid (XR.out.trans X2)
     clear X2
     go_wp2_with fail
     refine ⟨In.of XR.out, In.of XR.out, ?_⟩
     change wpQuiet _ _ (fun w' => ∃ t : LaterF none' wr, w' = t.w) _ _ _
     repeat (go_big_quiet_step (fail))
     refine wpQuiet_nil ?_
     go_wp2_with fail
     go_ret
     exact ⟨by first | (rw [HR.out]; done) | (rw [HR.out]; simp), X0.out.trans (RR.out.trans XR.out)⟩
    have n1 : (tx == []) = false := by simpa using hp0
    have n2 : (tx != []) = true := by simpa using hp0
    have n3 : tx.isEmpty = false := by simpa using hp0
    have HR := hid (HR.out.trans (by rw [if_neg hp0]))
    have cat24 := str_cat (o1) ([32, 58, 61, 32])
    have cat25 := str_cat (o1 ++ [32, 58, 61, 32]) ([114, 97, 110, 103, 101, 32])
    have cat26 := str_cat (o1 ++ [32, 58, 61, 32] ++ [114, 97, 110, 103, 101, 32]) (q0)
    have cat27 := str_cat (o1 ++ [32, 58, 61, 32] ++ [114, 97, 110, 103, 101, 32] ++ q0) ([32])
    have cat28 := str_cat (o1 ++ [32, 58, 61, 32] ++ [114, 97, 110, 103, 101, 32] ++ q0 ++ [32]) (q1)
    simp only [List.append_assoc, List.cons_append, List.nil_append] at cat24 cat25 cat26 cat27 cat28
    clear hp0
    go_upto_region 40 with (fail)
    go_upto_region 42 with (fail)
    clear c1
    obtain ⟨m00, m01, m02, m03⟩ := kidL (w1 := wr) RR.out HBW.out KK0.out
    obtain ⟨m10, m11, m12, m13⟩ := kidL (w1 := wr) RR.out HBW.out KK1.out
    refine region_q none' wr (.qs [0, 1, 2, 3, 4, 5, 9, 10, 11, 12] (.one 6 true (.qs [7, 8] (.one 13 true (.qs [14, 15] .fin))))) (by kernel_rfl) (by kernel_rfl) (fun dst v c a w h => by cases dst <;> exact h) ?_
    refine ⟨In.of (Ext.refl _ _).drew, ?_⟩
    change wpQuiet _ _ (fun w' => ∃ t : LaterF none' wr, w' = t.w) _ _ _
    simp only [sel, List.getElem?_cons_succ, List.getElem?_cons_zero]
    repeat (go_big_quiet_step (fail))
    refine wpQuiet_nil ?_
    simp only [wpTreeQ, stepT, sel, List.getElem?_cons_succ, List.getElem?_cons_zero]
    have D1 := hid (Ext.refl none' wr).drew
    clear m00 m01 m02 m03 m10 m11 m12 m13
    go_wp2_with fail
    refine (C0.out _ (RR.out.trans D1.out)).mono ?_
    rintro e w2 ⟨rfl, X2⟩
    have XR := hid (D1.out.trans X2)
    clear X2
    go_wp2_with fail
    refine ⟨In.of XR.out, In.of XR.out, ?_⟩
    change wpQuiet _ _ (fun w' => ∃ t : LaterF none' wr, w' = t.w) _ _ _
    repeat (go_big_quiet_step (fail))
    refine wpQuiet_nil ?_
    go_wp2_with fail
    refine (C1.out _ (RR.out.trans XR.out)).mono ?_
    rintro e w3 ⟨rfl, X2⟩
    have XR := hid (XR.out.trans X2)
    clear X2
    go_wp2_with fail
    refine ⟨In.of XR.out, In.of XR.out, ?_⟩
    change wpQuiet _ _ (fun w' => ∃ t : LaterF none' wr, w' = t.w) _ _ _
    repeat (go_big_quiet_step (fail))
    refine wpQuiet_nil ?_
    go_wp2_with fail
    go_ret
    exact ⟨by first | (rw [HR.out]; done) | (rw [HR.out]; simp), X0.out.trans (RR.out.trans XR.out)⟩
end Go.Proofs.YthbmjamgidfneaaGreatDoor
