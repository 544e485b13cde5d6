import Derived.Test.YthbmjamgidfneaaGreatDoorYAa
import Derived.Test.YthbmjamgidfneaaGreatDoorYAd
import Derived.Test.YthbmjamgidfneaaGreatDoorYAo
import Derived.Test.YthbmjamgidfneaaGreatDoorYAp
import Derived.Test.YthbmjamgidfneaaGreatDoorYAb
set_option maxRecDepth 100000
set_option maxHeartbeats 6400000
namespace Go.Proofs.YthbmjamgidfneaaGreatDoor
open Go.RowKit Go.Lib Go.BigFrame
set_option linter.unusedVariables false
set_option linter.unusedSimpArgs false
theorem rx_int (f : Nat) (hf : f + 1 ≤ 1100000) (H : REx7 f) (deep : Nat) (head : Bool) (hd : deep + (f + 1) ≤ 1200000) (t : Nd) (ht : t.size ≤ f + 1) (hk : t.kind = 16) (he : namB plainP 16 [] t = true) (v : Value) (w : World) (hv : NdV none' w t v) :
 Calls Tryz.prog 28 #[v, .int .i64 (deep : Nat), .bool head] w (StrPost (t.text ++ []) w) := by
 obtain ⟨a1, cap1, rfl, hcap, HV, HY⟩ := nd_open hv
 have hkl : t.kids.length ≤ 1100000 := by have := t.kids_len; omega
 obtain ⟨r, hr⟩ : ∃ r, r = (t.text ++ []) := ⟨_, rfl⟩
 rw [← hr]
 have HT := hid ht
 have HF := hid hf
 have HR := hid hr
 have HK := hid hk
 rw [hk] at HV ⊢
 obtain ⟨tx, htx⟩ : ∃ k, t.text = k := ⟨_, rfl⟩
 have HTX := hid htx
 rw [htx] at HV  ⊢
 try rw [htx] at HR
 obtain ⟨B, W0, hB, hW0, X0, G0⟩ := boxed w (.cells #[.int .i64 16, .string ⟨tx.toArray⟩, .slice a1 t.kids.length cap1, .int .i64 t.pos] 24)
 have XX := hid (Ext.refl none' W0)
 clear hr htx ht hf hk he H hd
 go_enter Tryz.func28, Tryz.ntmps28
 go_upto_region 1 with (fail)
 rw [← hW0, ← hB]
 clear hW0 hB
 obtain ⟨c0, c1, c2, c3⟩ := cellx XX.out G0.out
 go_wp2_with fail
 go_ret
 exact ⟨by first | (rw [HR.out]; done) | (rw [HR.out]; simp [wFunc]), X0.out.trans XX.out⟩
theorem rx_name (f : Nat) (hf : f + 1 ≤ 1100000) (H : REx7 f) (deep : Nat) (head : Bool) (hd : deep + (f + 1) ≤ 1200000) (t : Nd) (ht : t.size ≤ f + 1) (hk : t.kind = 18) (he : namB nmB 18 [] t = true) (v : Value) (w : World) (hv : NdV none' w t v) :
 Calls Tryz.prog 28 #[v, .int .i64 (deep : Nat), .bool head] w (StrPost (t.text ++ []) w) := by
 obtain ⟨a1, cap1, rfl, hcap, HV, HY⟩ := nd_open hv
 have hkl : t.kids.length ≤ 1100000 := by have := t.kids_len; omega
 obtain ⟨r, hr⟩ : ∃ r, r = (t.text ++ []) := ⟨_, rfl⟩
 rw [← hr]
 have HT := hid ht
 have HF := hid hf
 have HR := hid hr
 have HK := hid hk
 rw [hk] at HV ⊢
 obtain ⟨tx, htx⟩ : ∃ k, t.text = k := ⟨_, rfl⟩
 have HTX := hid htx
 rw [htx] at HV  ⊢
 try rw [htx] at HR
 obtain ⟨B, W0, hB, hW0, X0, G0⟩ := boxed w (.cells #[.int .i64 18, .string ⟨tx.toArray⟩, .slice a1 t.kids.length cap1, .int .i64 t.pos] 24)
 have XX := hid (Ext.refl none' W0)
 clear hr htx ht hf hk he H hd
 go_enter Tryz.func28, Tryz.ntmps28
 go_upto_region 1 with (fail)
 rw [← hW0, ← hB]
 clear hW0 hB
 obtain ⟨c0, c1, c2, c3⟩ := cellx XX.out G0.out
 go_wp2_with fail
 go_ret
 exact ⟨by first | (rw [HR.out]; done) | (rw [HR.out]; simp [wFunc]), X0.out.trans XX.out⟩
theorem rx_str (f : Nat) (hf : f + 1 ≤ 1100000) (H : REx7 f) (deep : Nat) (head : Bool) (hd : deep + (f + 1) ≤ 1200000) (t : Nd) (ht : t.size ≤ f + 1) (hk : t.kind = 17) (he : namB strB 17 [] t = true) (v : Value) (w : World) (hv : NdV none' w t v) :
 Calls Tryz.prog 28 #[v, .int .i64 (deep : Nat), .bool head] w (StrPost (quoteP t.text) w) := by
 obtain ⟨a1, cap1, rfl, hcap, HV, HY⟩ := nd_open hv
 have hkl : t.kids.length ≤ 1100000 := by have := t.kids_len; omega
 obtain ⟨r, hr⟩ : ∃ r, r = (quoteP t.text) := ⟨_, rfl⟩
 rw [← hr]
 have HT := hid ht
 have HF := hid hf
 have hsl := strB_len (namB_parts he).2.1
 have CQ := hid fun W => rquote_any t.text W (by omega)
 rw [← hr] at CQ
 have HR := hid hr
 have HK := hid hk
 rw [hk] at HV ⊢
 obtain ⟨tx, htx⟩ : ∃ k, t.text = k := ⟨_, rfl⟩
 have HTX := hid htx
 rw [htx] at HV CQ hsl ⊢
 try rw [htx] at HR
 obtain ⟨B, W0, hB, hW0, X0, G0⟩ := boxed w (.cells #[.int .i64 17, .string ⟨tx.toArray⟩, .slice a1 t.kids.length cap1, .int .i64 t.pos] 24)
 have XX := hid (Ext.refl none' W0)
 clear hr htx ht hf hk he H hd
 go_enter Tryz.func28, Tryz.ntmps28
 go_upto_region 1 with (fail)
 rw [← hW0, ← hB]
 clear hW0 hB
 obtain ⟨c0, c1, c2, c3⟩ := cellx XX.out G0.out
 go_wp2_with fail
 refine (CQ.out _).mono ?_
 rintro e w1 ⟨rfl, X⟩
 have XX := hid (XX.out.trans X)
 clear X c0 c1 c2 c3
 go_wp2_with fail
 go_ret
 exact ⟨rfl, X0.out.trans XX.out⟩
theorem rx_un (f : Nat) (hf : f + 1 ≤ 1100000) (H : REx7 f) (deep : Nat) (head : Bool) (hd : deep + (f + 1) ≤ 1200000) (t : Nd) (ht : t.size ≤ f + 1) (hk : t.kind = 19) (he : namB unB 19 [exF f] t = true) (v : Value) (w : World) (hv : NdV none' w t v) :
 Calls Tryz.prog 28 #[v, .int .i64 (deep : Nat), .bool head] w (StrPost (t.text ++ brT (exT f) deep head ((t.kid 0).kind == 20 || ((t.kid 0).kind == 19 && (t.text == [45] && (t.kid 0).text == [45]))) (t.kid 0)) w) := by
 obtain ⟨a1, cap1, rfl, hcap, HV, HY⟩ := nd_open hv
 have hkl : t.kids.length ≤ 1100000 := by have := t.kids_len; omega
 obtain ⟨r, hr⟩ : ∃ r, r = (t.text ++ brT (exT f) deep head ((t.kid 0).kind == 20 || ((t.kid 0).kind == 19 && (t.text == [45] && (t.kid 0).text == [45]))) (t.kid 0)) := ⟨_, rfl⟩
 rw [← hr]
 have HT := hid ht
 have HF := hid hf
 obtain ⟨_, htn, h3⟩ := namB_parts he
 obtain ⟨x, hkx, hx1⟩ := one_kid h3
 have hx0 := kid_one hkx
 have hsz := size_one hkx
 have hl : 0 < t.kids.length := by rw [hkx]; simp
 have htl := unB_len htn
 obtain ⟨yy, hyy⟩ : ∃ y, y = ((t.kid 0).kind == 20 || ((t.kid 0).kind == 19 && (t.text == [45] && (t.kid 0).text == [45]))) := ⟨_, rfl⟩
 rw [← hyy] at hr
 have hbl := brT_len (head := head) (yes := yy) ((lens_all f deep (by omega)).1 x (by omega) hx1)
 have C1 := hid fun v' W (hv' : NdV none' W (t.kid 0) v') => round_any f (by omega) H deep head yy (by omega) (t.kid 0) (by rw [hx0]; omega) (by rw [hx0]; exact hx1) v' W hv'
 have hxs : x.size ≤ 1100000 := by omega
 have hbl2 : (brT (exT f) deep head yy (t.kid 0)).length ≤ 10000000000000 := by rw [hx0]; omega
 have y0 : (0 : Int) < (t.kids.length : Int) := by omega
 obtain ⟨q1, hq1⟩ : ∃ q, brT (exT f) deep head yy (t.kid 0) = q := ⟨_, rfl⟩
 rw [hq1] at C1 hbl2 hr
 have cat1 := str_cat t.text q1
 obtain ⟨e1, he1⟩ : ∃ b, ((t.kid 0).kind == 20) = b := ⟨_, rfl⟩
 obtain ⟨e2, he2⟩ : ∃ b, ((t.kid 0).kind == 19) = b := ⟨_, rfl⟩
 obtain ⟨e3, he3⟩ : ∃ b, (t.text == [45]) = b := ⟨_, rfl⟩
 obtain ⟨e4, he4⟩ : ∃ b, ((t.kid 0).text == [45]) = b := ⟨_, rfl⟩
 rw [he1, he2, he3, he4] at hyy
 have HYY := hid hyy
 have HR := hid hr
 have HK := hid hk
 rw [hk] at HV ⊢
 obtain ⟨tx, htx⟩ : ∃ k, t.text = k := ⟨_, rfl⟩
 have HTX := hid htx
 rw [htx] at HV htl cat1 he3 ⊢
 try rw [htx] at HR
 obtain ⟨B, W0, hB, hW0, X0, G0⟩ := boxed w (.cells #[.int .i64 19, .string ⟨tx.toArray⟩, .slice a1 t.kids.length cap1, .int .i64 t.pos] 24)
 have XX := hid (Ext.refl none' W0)
 clear hr htx ht hf hk he H hd htn h3 hkx hx1 hx0 hsz hbl hxs hq1 hyy
 go_enter Tryz.func28, Tryz.ntmps28
 go_upto_region 1 with (fail)
 rw [← hW0, ← hB]
 clear hW0 hB
 obtain ⟨c0, c1, c2, c3⟩ := cellx XX.out G0.out
 obtain ⟨b, off, ka0, kc0, rfl, HBW, HZ0, KK0⟩ := kidA (HY.out.ext isNd_good X0.out fun _ _ h => h) (hl)
 obtain ⟨m00, m01, m02, m03⟩ := kid' XX.out HBW.out KK0.out
 have C1 := hid fun W (X : Ext none' W0 W) => C1.out _ W (ndvx HZ0.out X)
 obtain ⟨W1, hW1⟩ : ∃ W1, W1 = W0.alloc (.cells #[.int .i64 (t.kid 0).kind, .string ⟨(t.kid 0).text.toArray⟩, .slice ka0 (t.kid 0).kids.length kc0, .int .i64 (t.kid 0).pos] 24) := ⟨_, rfl⟩
 have X1 := hid (show Ext none' W0 W1 by rw [hW1]; exact (Ext.refl _ _).alloc _)
 have GB := hid (show W1.heap[W0.heap.size]? = some (.cells #[.int .i64 (t.kid 0).kind, .string ⟨(t.kid 0).text.toArray⟩, .slice ka0 (t.kid 0).kids.length kc0, .int .i64 (t.kid 0).pos] 24 (0, 0)) by rw [hW1]; exact heap_alloc_at rfl _)
 go_upto_region 5 with (fail)
 go_upto_region 6 with (fail)
 rw [← hW1]
 obtain ⟨BB, hBB⟩ : ∃ BB, BB = W0.heap.size := ⟨_, rfl⟩
 rw [← hBB] at GB ⊢
 clear hW1 hBB
 clear c0 c1 c2 c3 m00 m01 m02 m03
 have c1 := fun t' : LaterF none' W1 => cell_at ((X1.out.trans t'.x).heap G0.out fun h => h) 1
 simp only [List.getElem?_toArray, List.getElem?_cons_zero, List.getElem?_cons_succ] at c1
 obtain ⟨g0, g1, g2, g3⟩ := cell4L fun t' : LaterF none' W1 => (t'.x).heap GB.out fun h => h
 cases e1
 case true =>
  obtain ⟨rfl⟩ := HYY
  refine region_q none' W1 (.qs [0, 1, 2, 3, 4, 5, 6, 7, 8, 9, 10, 11, 12, 13, 14, 15, 16, 17, 18, 19, 20, 21, 22] (.one 23 true (.qs [24, 25] .fin))) (by kernel_rfl) (by kernel_rfl) (fun dst v c a w h => by cases dst <;> exact h) ?_
  refine ⟨In.of (Ext.refl _ _).drew, ?_⟩
  change wpQuiet _ _ (fun w' => ∃ t : LaterF none' W1, w' = t.w) _ _ _
  simp only [sel, List.getElem?_cons_succ, List.getElem?_cons_zero]
  repeat (go_big_quiet_step (fail))
  refine wpQuiet_nil ?_
  simp only [wpTreeQ, stepT, sel, List.getElem?_cons_succ, List.getElem?_cons_zero]
  have D1 := hid (Ext.refl none' W1).drew
  clear c1 g0 g1 g2 g3
  go_wp2_with fail
  refine (C1.out _ (X1.out.trans D1.out)).mono ?_
  rintro e w2 ⟨rfl, X2⟩
  have X2 := hid (D1.out.trans X2)
  have XX := hid (X1.out.trans X2.out)
  go_wp2_with fail
  refine ⟨In.of X2.out, In.of X2.out, ?_⟩
  change wpQuiet _ _ (fun w' => ∃ t : LaterF none' W1, w' = t.w) _ _ _
  repeat (go_big_quiet_step (fail))
  refine wpQuiet_nil ?_
  go_wp2_with fail
  go_ret
  exact ⟨by first | (rw [HR.out]; done) | (rw [HR.out]; simp [wFunc]), X0.out.trans XX.out⟩
 cases e2
 case false =>
  obtain ⟨rfl⟩ := HYY
  refine region_q none' W1 (.qs [0, 1, 2, 3, 4, 5, 6, 7, 8, 9, 10, 11, 12, 13, 14, 15, 16, 17, 18, 19, 20, 21, 22] (.one 23 true (.qs [24, 25] .fin))) (by kernel_rfl) (by kernel_rfl) (fun dst v c a w h => by cases dst <;> exact h) ?_
  refine ⟨In.of (Ext.refl _ _).drew, ?_⟩
  change wpQuiet _ _ (fun w' => ∃ t : LaterF none' W1, w' = t.w) _ _ _
  simp only [sel, List.getElem?_cons_succ, List.getElem?_cons_zero]
  repeat (go_big_quiet_step (fail))
  refine wpQuiet_nil ?_
  simp only [wpTreeQ, stepT, sel, List.getElem?_cons_succ, List.getElem?_cons_zero]
  have D1 := hid (Ext.refl none' W1).drew
  clear c1 g0 g1 g2 g3
  go_wp2_with fail
  refine (C1.out _ (X1.out.trans D1.out)).mono ?_
  rintro e w2 ⟨rfl, X2⟩
  have X2 := hid (D1.out.trans X2)
  have XX := hid (X1.out.trans X2.out)
  go_wp2_with fail
  refine ⟨In.of X2.out, In.of X2.out, ?_⟩
  change wpQuiet _ _ (fun w' => ∃ t : LaterF none' W1, w' = t.w) _ _ _
  repeat (go_big_quiet_step (fail))
  refine wpQuiet_nil ?_
  go_wp2_with fail
  go_ret
  exact ⟨by first | (rw [HR.out]; done) | (rw [HR.out]; simp [wFunc]), X0.out.trans XX.out⟩
 cases e3
 case false =>
  obtain ⟨rfl⟩ := HYY
  refine region_q none' W1 (.qs [0, 1, 2, 3, 4, 5, 6, 7, 8, 9, 10, 11, 12, 13, 14, 15, 16, 17, 18, 19, 20, 21, 22] (.one 23 true (.qs [24, 25] .fin))) (by kernel_rfl) (by kernel_rfl) (fun dst v c a w h => by cases dst <;> exact h) ?_
  refine ⟨In.of (Ext.refl _ _).drew, ?_⟩
  change wpQuiet _ _ (fun w' => ∃ t : LaterF none' W1, w' = t.w) _ _ _
  simp only [sel, List.getElem?_cons_succ, List.getElem?_cons_zero]
  repeat (go_big_quiet_step (fail))
  refine wpQuiet_nil ?_
  simp only [wpTreeQ, stepT, sel, List.getElem?_cons_succ, List.getElem?_cons_zero]
  have D1 := hid (Ext.refl none' W1).drew
  clear c1 g0 g1 g2 g3
  go_wp2_with fail
  refine (C1.out _ (X1.out.trans D1.out)).mono ?_
  rintro e w2 ⟨rfl, X2⟩
  have X2 := hid (D1.out.trans X2)
  have XX := hid (X1.out.trans X2.out)
  go_wp2_with fail
  refine ⟨In.of X2.out, In.of X2.out, ?_⟩
  change wpQuiet _ _ (fun w' => ∃ t : LaterF none' W1, w' = t.w) _ _ _
  repeat (go_big_quiet_step (fail))
  refine wpQuiet_nil ?_
  go_wp2_with fail
  go_ret
  exact ⟨by first | (rw [HR.out]; done) | (rw [HR.out]; simp [wFunc]), X0.out.trans XX.out⟩
 obtain ⟨rfl⟩ := HYY
 refine region_q none' W1 (.qs [0, 1, 2, 3, 4, 5, 6, 7, 8, 9, 10, 11, 12, 13, 14, 15, 16, 17, 18, 19, 20, 21, 22] (.one 23 true (.qs [24, 25] .fin))) (by kernel_rfl) (by kernel_rfl) (fun dst v c a w h => by cases dst <;> exact h) ?_
 refine ⟨In.of (Ext.refl _ _).drew, ?_⟩
 change wpQuiet _ _ (fun w' => ∃ t : LaterF none' W1, w' = t.w) _ _ _
 simp only [sel, List.getElem?_cons_succ, List.getElem?_cons_zero]
 repeat (go_big_quiet_step (fail))
 refine wpQuiet_nil ?_
 simp only [wpTreeQ, stepT, sel, List.getElem?_cons_succ, List.getElem?_cons_zero]
 have D1 := hid (Ext.refl none' W1).drew
 clear c1 g0 g1 g2 g3
 go_wp2_with fail
 refine (C1.out _ (X1.out.trans D1.out)).mono ?_
 rintro e w2 ⟨rfl, X2⟩
 have X2 := hid (D1.out.trans X2)
 have XX := hid (X1.out.trans X2.out)
 go_wp2_with fail
 refine ⟨In.of X2.out, In.of X2.out, ?_⟩
 change wpQuiet _ _ (fun w' => ∃ t : LaterF none' W1, w' = t.w) _ _ _
 repeat (go_big_quiet_step (fail))
 refine wpQuiet_nil ?_
 go_wp2_with fail
 go_ret
 exact ⟨by first | (rw [HR.out]; done) | (rw [HR.out]; simp [wFunc]), X0.out.trans XX.out⟩
theorem rx_call (f : Nat) (hf : f + 1 ≤ 1100000) (H : REx7 f) (deep : Nat) (head : Bool) (hd : deep + (f + 1) ≤ 1200000) (t : Nd) (ht : t.size ≤ f + 1) (hk : t.kind = 21) (he : (t.text == [] && (!t.kids.isEmpty && t.kids.all (exF f))) = true) (v : Value) (w : World) (hv : NdV none' w t v) :
 Calls Tryz.prog 28 #[v, .int .i64 (deep : Nat), .bool head] w (StrPost (fstT (exT f) deep head (t.kid 0) ++ [40] ++ othT (typF f) (exT f) deep t ++ [41]) w) := by
 obtain ⟨a1, cap1, rfl, hcap, HV, HY⟩ := nd_open hv
 have hkl : t.kids.length ≤ 1100000 := by have := t.kids_len; omega
 obtain ⟨r, hr⟩ : ∃ r, r = (fstT (exT f) deep head (t.kid 0) ++ [40] ++ othT (typF f) (exT f) deep t ++ [41]) := ⟨_, rfl⟩
 rw [← hr]
 have HT := hid ht
 have HF := hid hf
 simp only [Bool.and_eq_true, Bool.not_eq_true', List.all_eq_true] at he
 have h3 : 0 < t.kids.length := by
  have := he.2.1
  cases h : t.kids with
  | nil => rw [h] at this; simp at this
  | cons a l => simp
 have hx1 : exF f (t.kid 0) = true := he.2.2 _ (kid_mem' h3)
 have hag : ∀ x ∈ t.kids.drop 1, argB (tyF nmB f) (exF f) x = true := fun x hx => exB_arg (he.2.2 x (List.mem_of_mem_drop hx))
 have hks : (t.kid 0).size ≤ f := by have := kid_size h3; omega
 have hfl := brT_len (head := head) (yes := ((t.kid 0).kind == 19 || (t.kid 0).kind == 20)) ((lens_all f deep (by omega)).1 _ hks hx1)
 obtain ⟨yy, hyy⟩ : ∃ y, y = ((t.kid 0).kind == 19 || (t.kid 0).kind == 20) := ⟨_, rfl⟩
 unfold fstT at hr
 rw [← hyy] at hfl hr
 have C1 := hid fun v' W (hv' : NdV none' W (t.kid 0) v') => round_any f (by omega) H deep head yy (by omega) (t.kid 0) hks hx1 v' W hv'
 have hks2 : (t.kid 0).size ≤ 1100000 := by omega
 have hbl2 : (brT (exT f) deep head yy (t.kid 0)).length ≤ 10000000000000 := by omega
 obtain ⟨q0, hq0⟩ : ∃ q, brT (exT f) deep head yy (t.kid 0) = q := ⟨_, rfl⟩
 rw [hq0] at C1 hbl2 hr
 obtain ⟨e1, he1⟩ : ∃ b, ((t.kid 0).kind == 19) = b := ⟨_, rfl⟩
 obtain ⟨e2, he2⟩ : ∃ b, ((t.kid 0).kind == 20) = b := ⟨_, rfl⟩
 rw [he1, he2] at hyy
 have HYY := hid hyy
 have y0 : (0 : Int) < (t.kids.length : Int) := by omega
 have hol := othT_len (deep := deep) (ex := exT f) h3 ht (fun x hx he => (lens_all f deep (by omega)).1 x (by have := Nd.size_kid hx; omega) he) hag
 have hol2 : (othT (typF f) (exT f) deep t).length ≤ 10000000000000 := by omega
 have CO := hid fun v' W (hv' : NdV none' W t v') => others_any f (by omega) H deep (by omega) t ht h3 hag v' W hv'
 obtain ⟨q1, hq1⟩ : ∃ q, othT (typF f) (exT f) deep t = q := ⟨_, rfl⟩
 rw [hq1] at CO hol2 hr
 have cat11 := str_cat (q0) ([40])
 have cat12 := str_cat (q0 ++ [40]) (q1)
 have cat13 := str_cat (q0 ++ [40] ++ q1) ([41])
 simp only [List.append_assoc, List.cons_append, List.nil_append] at cat11 cat12 cat13
 have HR := hid hr
 have HK := hid hk
 rw [hk] at HV ⊢
 obtain ⟨tx, htx⟩ : ∃ k, t.text = k := ⟨_, rfl⟩
 have HTX := hid htx
 rw [htx] at HV  ⊢
 try rw [htx] at HR
 obtain ⟨B, W0, hB, hW0, X0, G0⟩ := boxed w (.cells #[.int .i64 21, .string ⟨tx.toArray⟩, .slice a1 t.kids.length cap1, .int .i64 t.pos] 24)
 have XX := hid (Ext.refl none' W0)
 clear hr htx ht hf hk he H hd hks hfl hks2 hyy hq0 hol hq1 hag hx1
 go_enter Tryz.func28, Tryz.ntmps28
 go_upto_region 1 with (fail)
 rw [← hW0, ← hB]
 clear hW0 hB
 have CO := hid fun W (X : Ext none' W0 W) => CO.out (.agg #[.int .i64 21, .string ⟨tx.toArray⟩, .slice a1 t.kids.length cap1, .int .i64 t.pos]) W (HV.out.ext (X0.out.trans X) fun _ _ h => h)
 obtain ⟨c0, c1, c2, c3⟩ := cellx XX.out G0.out
 obtain ⟨b, off, ka0, kc0, rfl, HBW, HZ0, KK0⟩ := kidA (HY.out.ext isNd_good X0.out fun _ _ h => h) (h3)
 obtain ⟨m00, m01, m02, m03⟩ := kid' XX.out HBW.out KK0.out
 have C1 := hid fun W (X : Ext none' W0 W) => C1.out _ W (ndvx HZ0.out X)
 obtain ⟨W1, hW1⟩ : ∃ W1, W1 = W0.alloc (.cells #[.int .i64 (t.kid 0).kind, .string ⟨(t.kid 0).text.toArray⟩, .slice ka0 (t.kid 0).kids.length kc0, .int .i64 (t.kid 0).pos] 24) := ⟨_, rfl⟩
 have X1 := hid (show Ext none' W0 W1 by rw [hW1]; exact (Ext.refl _ _).alloc _)
 have GB := hid (show W1.heap[W0.heap.size]? = some (.cells #[.int .i64 (t.kid 0).kind, .string ⟨(t.kid 0).text.toArray⟩, .slice ka0 (t.kid 0).kids.length kc0, .int .i64 (t.kid 0).pos] 24 (0, 0)) by rw [hW1]; exact heap_alloc_at rfl _)
 have HKL := hid h3
 clear h3
 go_upto_region 13 with (fail)
 go_upto_region 14 with (fail)
 rw [← hW1]
 obtain ⟨BB, hBB⟩ : ∃ BB, BB = W0.heap.size := ⟨_, rfl⟩
 rw [← hBB] at GB ⊢
 clear hW1 hBB
 clear c0 c1 c2 c3 m00 m01 m02 m03
 obtain ⟨g0, g1, g2, g3⟩ := cell4 ((Ext.refl none' W1).heap GB.out fun h => h)
 cases e1
 case true =>
  obtain ⟨rfl⟩ := HYY
  go_wp2_with fail
  refine (C1.out _ X1.out).mono ?_
  rintro e w2 ⟨rfl, X2⟩
  have XX := hid (X1.out.trans X2)
  clear X2 g0 g1 g2 g3
  obtain ⟨c0, c1, c2, c3⟩ := cellx XX.out G0.out
  go_wp2_with fail
  refine (CO.out _ XX.out).mono ?_
  rintro e w3 ⟨rfl, X⟩
  have XX := hid (XX.out.trans X)
  clear X c0 c1 c2 c3
  go_wp2_with fail
  go_ret
  exact ⟨by first | (rw [HR.out]; done) | (rw [HR.out]; simp [wFunc]), X0.out.trans XX.out⟩
 obtain ⟨rfl⟩ := HYY
 go_wp2_with fail
 refine (C1.out _ X1.out).mono ?_
 rintro e w2 ⟨rfl, X2⟩
 have XX := hid (X1.out.trans X2)
 clear X2 g0 g1 g2 g3
 obtain ⟨c0, c1, c2, c3⟩ := cellx XX.out G0.out
 go_wp2_with fail
 refine (CO.out _ XX.out).mono ?_
 rintro e w3 ⟨rfl, X⟩
 have XX := hid (XX.out.trans X)
 clear X c0 c1 c2 c3
 go_wp2_with fail
 go_ret
 exact ⟨by first | (rw [HR.out]; done) | (rw [HR.out]; simp [wFunc]), X0.out.trans XX.out⟩
theorem rx_idx (f : Nat) (hf : f + 1 ≤ 1100000) (H : REx7 f) (deep : Nat) (head : Bool) (hd : deep + (f + 1) ≤ 1200000) (t : Nd) (ht : t.size ≤ f + 1) (hk : t.kind = 22) (he : (t.text == [] && (decide (1 < t.kids.length) && (exF f (t.kid 0) && (t.kids.drop 1).all (argB (tyF nmB f) (exF f))))) = true) (v : Value) (w : World) (hv : NdV none' w t v) :
 Calls Tryz.prog 28 #[v, .int .i64 (deep : Nat), .bool head] w (StrPost (fstT (exT f) deep head (t.kid 0) ++ [91] ++ othT (typF f) (exT f) deep t ++ [93]) w) := by
 obtain ⟨a1, cap1, rfl, hcap, HV, HY⟩ := nd_open hv
 have hkl : t.kids.length ≤ 1100000 := by have := t.kids_len; omega
 obtain ⟨r, hr⟩ : ∃ r, r = (fstT (exT f) deep head (t.kid 0) ++ [91] ++ othT (typF f) (exT f) deep t ++ [93]) := ⟨_, rfl⟩
 rw [← hr]
 have HT := hid ht
 have HF := hid hf
 simp only [Bool.and_eq_true, decide_eq_true_eq, List.all_eq_true] at he
 have h3 : 0 < t.kids.length := by have := he.2.1; omega
 have hx1 : exF f (t.kid 0) = true := he.2.2.1
 have hag : ∀ x ∈ t.kids.drop 1, argB (tyF nmB f) (exF f) x = true := he.2.2.2
 have hks : (t.kid 0).size ≤ f := by have := kid_size h3; omega
 have hfl := brT_len (head := head) (yes := ((t.kid 0).kind == 19 || (t.kid 0).kind == 20)) ((lens_all f deep (by omega)).1 _ hks hx1)
 obtain ⟨yy, hyy⟩ : ∃ y, y = ((t.kid 0).kind == 19 || (t.kid 0).kind == 20) := ⟨_, rfl⟩
 unfold fstT at hr
 rw [← hyy] at hfl hr
 have C1 := hid fun v' W (hv' : NdV none' W (t.kid 0) v') => round_any f (by omega) H deep head yy (by omega) (t.kid 0) hks hx1 v' W hv'
 have hks2 : (t.kid 0).size ≤ 1100000 := by omega
 have hbl2 : (brT (exT f) deep head yy (t.kid 0)).length ≤ 10000000000000 := by omega
 obtain ⟨q0, hq0⟩ : ∃ q, brT (exT f) deep head yy (t.kid 0) = q := ⟨_, rfl⟩
 rw [hq0] at C1 hbl2 hr
 obtain ⟨e1, he1⟩ : ∃ b, ((t.kid 0).kind == 19) = b := ⟨_, rfl⟩
 obtain ⟨e2, he2⟩ : ∃ b, ((t.kid 0).kind == 20) = b := ⟨_, rfl⟩
 rw [he1, he2] at hyy
 have HYY := hid hyy
 have y0 : (0 : Int) < (t.kids.length : Int) := by omega
 have hol := othT_len (deep := deep) (ex := exT f) h3 ht (fun x hx he => (lens_all f deep (by omega)).1 x (by have := Nd.size_kid hx; omega) he) hag
 have hol2 : (othT (typF f) (exT f) deep t).length ≤ 10000000000000 := by omega
 have CO := hid fun v' W (hv' : NdV none' W t v') => others_any f (by omega) H deep (by omega) t ht h3 hag v' W hv'
 obtain ⟨q1, hq1⟩ : ∃ q, othT (typF f) (exT f) deep t = q := ⟨_, rfl⟩
 rw [hq1] at CO hol2 hr
 have cat14 := str_cat (q0) ([91])
 have cat15 := str_cat (q0 ++ [91]) (q1)
 have cat16 := str_cat (q0 ++ [91] ++ q1) ([93])
 simp only [List.append_assoc, List.cons_append, List.nil_append] at cat14 cat15 cat16
 have HR := hid hr
 have HK := hid hk
 rw [hk] at HV ⊢
 obtain ⟨tx, htx⟩ : ∃ k, t.text = k := ⟨_, rfl⟩
 have HTX := hid htx
 rw [htx] at HV  ⊢
 try rw [htx] at HR
 obtain ⟨B, W0, hB, hW0, X0, G0⟩ := boxed w (.cells #[.int .i64 22, .string ⟨tx.toArray⟩, .slice a1 t.kids.length cap1, .int .i64 t.pos] 24)
 have XX := hid (Ext.refl none' W0)
 clear hr htx ht hf hk he H hd hks hfl hks2 hyy hq0 hol hq1 hag hx1
 go_enter Tryz.func28, Tryz.ntmps28
 go_upto_region 1 with (fail)
 rw [← hW0, ← hB]
 clear hW0 hB
 have CO := hid fun W (X : Ext none' W0 W) => CO.out (.agg #[.int .i64 22, .string ⟨tx.toArray⟩, .slice a1 t.kids.length cap1, .int .i64 t.pos]) W (HV.out.ext (X0.out.trans X) fun _ _ h => h)
 obtain ⟨c0, c1, c2, c3⟩ := cellx XX.out G0.out
 obtain ⟨b, off, ka0, kc0, rfl, HBW, HZ0, KK0⟩ := kidA (HY.out.ext isNd_good X0.out fun _ _ h => h) (h3)
 obtain ⟨m00, m01, m02, m03⟩ := kid' XX.out HBW.out KK0.out
 have C1 := hid fun W (X : Ext none' W0 W) => C1.out _ W (ndvx HZ0.out X)
 obtain ⟨W1, hW1⟩ : ∃ W1, W1 = W0.alloc (.cells #[.int .i64 (t.kid 0).kind, .string ⟨(t.kid 0).text.toArray⟩, .slice ka0 (t.kid 0).kids.length kc0, .int .i64 (t.kid 0).pos] 24) := ⟨_, rfl⟩
 have X1 := hid (show Ext none' W0 W1 by rw [hW1]; exact (Ext.refl _ _).alloc _)
 have GB := hid (show W1.heap[W0.heap.size]? = some (.cells #[.int .i64 (t.kid 0).kind, .string ⟨(t.kid 0).text.toArray⟩, .slice ka0 (t.kid 0).kids.length kc0, .int .i64 (t.kid 0).pos] 24 (0, 0)) by rw [hW1]; exact heap_alloc_at rfl _)
 have HKL := hid h3
 clear h3
 go_upto_region 13 with (fail)
 go_upto_region 14 with (fail)
 rw [← hW1]
 obtain ⟨BB, hBB⟩ : ∃ BB, BB = W0.heap.size := ⟨_, rfl⟩
 rw [← hBB] at GB ⊢
 clear hW1 hBB
 clear c0 c1 c2 c3 m00 m01 m02 m03
 obtain ⟨g0, g1, g2, g3⟩ := cell4 ((Ext.refl none' W1).heap GB.out fun h => h)
 cases e1
 case true =>
  obtain ⟨rfl⟩ := HYY
  go_wp2_with fail
  refine (C1.out _ X1.out).mono ?_
  rintro e w2 ⟨rfl, X2⟩
  have XX := hid (X1.out.trans X2)
  clear X2 g0 g1 g2 g3
  obtain ⟨c0, c1, c2, c3⟩ := cellx XX.out G0.out
  go_wp2_with fail
  refine (CO.out _ XX.out).mono ?_
  rintro e w3 ⟨rfl, X⟩
  have XX := hid (XX.out.trans X)
  clear X c0 c1 c2 c3
  go_wp2_with fail
  go_ret
  exact ⟨by first | (rw [HR.out]; done) | (rw [HR.out]; simp [wFunc]), X0.out.trans XX.out⟩
 obtain ⟨rfl⟩ := HYY
 go_wp2_with fail
 refine (C1.out _ X1.out).mono ?_
 rintro e w2 ⟨rfl, X2⟩
 have XX := hid (X1.out.trans X2)
 clear X2 g0 g1 g2 g3
 obtain ⟨c0, c1, c2, c3⟩ := cellx XX.out G0.out
 go_wp2_with fail
 refine (CO.out _ XX.out).mono ?_
 rintro e w3 ⟨rfl, X⟩
 have XX := hid (XX.out.trans X)
 clear X c0 c1 c2 c3
 go_wp2_with fail
 go_ret
 exact ⟨by first | (rw [HR.out]; done) | (rw [HR.out]; simp [wFunc]), X0.out.trans XX.out⟩
theorem rx_field (f : Nat) (hf : f + 1 ≤ 1100000) (H : REx7 f) (deep : Nat) (head : Bool) (hd : deep + (f + 1) ≤ 1200000) (t : Nd) (ht : t.size ≤ f + 1) (hk : t.kind = 23) (he : namB nmB 23 [exF f] t = true) (v : Value) (w : World) (hv : NdV none' w t v) :
 Calls Tryz.prog 28 #[v, .int .i64 (deep : Nat), .bool head] w (StrPost (fstT (exT f) deep head (t.kid 0) ++ [46] ++ t.text) w) := by
 obtain ⟨a1, cap1, rfl, hcap, HV, HY⟩ := nd_open hv
 have hkl : t.kids.length ≤ 1100000 := by have := t.kids_len; omega
 obtain ⟨r, hr⟩ : ∃ r, r = (fstT (exT f) deep head (t.kid 0) ++ [46] ++ t.text) := ⟨_, rfl⟩
 rw [← hr]
 have HT := hid ht
 have HF := hid hf
 obtain ⟨_, htn, h3'⟩ := namB_parts he
 obtain ⟨x, hkx, hx1⟩ := one_kid h3'
 have htl := nmB_len _ htn
 have h3 : 0 < t.kids.length := by rw [hkx]; simp
 rw [← kid_one hkx] at hx1
 have hks : (t.kid 0).size ≤ f := by have := kid_size h3; omega
 have hfl := brT_len (head := head) (yes := ((t.kid 0).kind == 19 || (t.kid 0).kind == 20)) ((lens_all f deep (by omega)).1 _ hks hx1)
 obtain ⟨yy, hyy⟩ : ∃ y, y = ((t.kid 0).kind == 19 || (t.kid 0).kind == 20) := ⟨_, rfl⟩
 unfold fstT at hr
 rw [← hyy] at hfl hr
 have C1 := hid fun v' W (hv' : NdV none' W (t.kid 0) v') => round_any f (by omega) H deep head yy (by omega) (t.kid 0) hks hx1 v' W hv'
 have hks2 : (t.kid 0).size ≤ 1100000 := by omega
 have hbl2 : (brT (exT f) deep head yy (t.kid 0)).length ≤ 10000000000000 := by omega
 obtain ⟨q0, hq0⟩ : ∃ q, brT (exT f) deep head yy (t.kid 0) = q := ⟨_, rfl⟩
 rw [hq0] at C1 hbl2 hr
 obtain ⟨e1, he1⟩ : ∃ b, ((t.kid 0).kind == 19) = b := ⟨_, rfl⟩
 obtain ⟨e2, he2⟩ : ∃ b, ((t.kid 0).kind == 20) = b := ⟨_, rfl⟩
 rw [he1, he2] at hyy
 have HYY := hid hyy
 have y0 : (0 : Int) < (t.kids.length : Int) := by omega
 have cat17 := str_cat (q0) ([46])
 have cat18 := str_cat (q0 ++ [46]) (t.text)
 simp only [List.append_assoc, List.cons_append, List.nil_append] at cat17 cat18
 have HR := hid hr
 have HK := hid hk
 rw [hk] at HV ⊢
 obtain ⟨tx, htx⟩ : ∃ k, t.text = k := ⟨_, rfl⟩
 have HTX := hid htx
 rw [htx] at HV htl cat18 ⊢
 try rw [htx] at HR
 obtain ⟨B, W0, hB, hW0, X0, G0⟩ := boxed w (.cells #[.int .i64 23, .string ⟨tx.toArray⟩, .slice a1 t.kids.length cap1, .int .i64 t.pos] 24)
 have XX := hid (Ext.refl none' W0)
 clear hr htx ht hf hk he H hd hks hfl hks2 hyy hq0 htn h3' hkx hx1
 go_enter Tryz.func28, Tryz.ntmps28
 go_upto_region 1 with (fail)
 rw [← hW0, ← hB]
 clear hW0 hB
 obtain ⟨c0, c1, c2, c3⟩ := cellx XX.out G0.out
 obtain ⟨b, off, ka0, kc0, rfl, HBW, HZ0, KK0⟩ := kidA (HY.out.ext isNd_good X0.out fun _ _ h => h) (h3)
 obtain ⟨m00, m01, m02, m03⟩ := kid' XX.out HBW.out KK0.out
 have C1 := hid fun W (X : Ext none' W0 W) => C1.out _ W (ndvx HZ0.out X)
 obtain ⟨W1, hW1⟩ : ∃ W1, W1 = W0.alloc (.cells #[.int .i64 (t.kid 0).kind, .string ⟨(t.kid 0).text.toArray⟩, .slice ka0 (t.kid 0).kids.length kc0, .int .i64 (t.kid 0).pos] 24) := ⟨_, rfl⟩
 have X1 := hid (show Ext none' W0 W1 by rw [hW1]; exact (Ext.refl _ _).alloc _)
 have GB := hid (show W1.heap[W0.heap.size]? = some (.cells #[.int .i64 (t.kid 0).kind, .string ⟨(t.kid 0).text.toArray⟩, .slice ka0 (t.kid 0).kids.length kc0, .int .i64 (t.kid 0).pos] 24 (0, 0)) by rw [hW1]; exact heap_alloc_at rfl _)
 have HKL := hid h3
 clear h3
 go_upto_region 13 with (fail)
 go_upto_region 14 with (fail)
 rw [← hW1]
 obtain ⟨BB, hBB⟩ : ∃ BB, BB = W0.heap.size := ⟨_, rfl⟩
 rw [← hBB] at GB ⊢
 clear hW1 hBB
 clear c0 c1 c2 c3 m00 m01 m02 m03
 obtain ⟨g0, g1, g2, g3⟩ := cell4 ((Ext.refl none' W1).heap GB.out fun h => h)
 cases e1
 case true =>
  obtain ⟨rfl⟩ := HYY
  go_wp2_with fail
  refine (C1.out _ X1.out).mono ?_
  rintro e w2 ⟨rfl, X2⟩
  have XX := hid (X1.out.trans X2)
  clear X2 g0 g1 g2 g3
  obtain ⟨c0, c1, c2, c3⟩ := cellx XX.out G0.out
  go_wp2_with fail
  go_ret
  exact ⟨by first | (rw [HR.out]; done) | (rw [HR.out]; simp [wFunc]), X0.out.trans XX.out⟩
 obtain ⟨rfl⟩ := HYY
 go_wp2_with fail
 refine (C1.out _ X1.out).mono ?_
 rintro e w2 ⟨rfl, X2⟩
 have XX := hid (X1.out.trans X2)
 clear X2 g0 g1 g2 g3
 obtain ⟨c0, c1, c2, c3⟩ := cellx XX.out G0.out
 go_wp2_with fail
 go_ret
 exact ⟨by first | (rw [HR.out]; done) | (rw [HR.out]; simp [wFunc]), X0.out.trans XX.out⟩
theorem rx_lit (f : Nat) (hf : f + 1 ≤ 1100000) (H : REx7 f) (deep : Nat) (head : Bool) (hd : deep + (f + 1) ≤ 1200000) (t : Nd) (ht : t.size ≤ f + 1) (hk : t.kind = 24) (he : (t.text == [] && (!t.kids.isEmpty && ((t.kid 0).kind != 12 && (tyF nmB f (t.kid 0) && (t.kids.drop 1).all (exF f))))) = true) (v : Value) (w : World) (hv : NdV none' w t v) :
 Calls Tryz.prog 28 #[v, .int .i64 (deep : Nat), .bool head] w (StrPost ((if head ∧ (t.kid 0).kind = 10 then [40] ++ (typF f (t.kid 0) ++ [123] ++ othT (typF f) (exT f) deep t ++ [125]) ++ [41] else typF f (t.kid 0) ++ [123] ++ othT (typF f) (exT f) deep t ++ [125])) w) := by
 obtain ⟨a1, cap1, rfl, hcap, HV, HY⟩ := nd_open hv
 have hkl : t.kids.length ≤ 1100000 := by have := t.kids_len; omega
 obtain ⟨r, hr⟩ : ∃ r, r = ((if head ∧ (t.kid 0).kind = 10 then [40] ++ (typF f (t.kid 0) ++ [123] ++ othT (typF f) (exT f) deep t ++ [125]) ++ [41] else typF f (t.kid 0) ++ [123] ++ othT (typF f) (exT f) deep t ++ [125])) := ⟨_, rfl⟩
 rw [← hr]
 have HT := hid ht
 have HF := hid hf
 simp only [Bool.and_eq_true, Bool.not_eq_true', List.all_eq_true] at he
 have h3 : 0 < t.kids.length := by
  have := he.2.1
  cases h : t.kids with
  | nil => rw [h] at this; simp at this
  | cons a l => simp
 have hx1 : tyF nmB f (t.kid 0) = true := he.2.2.2.1
 have hag : ∀ x ∈ t.kids.drop 1, argB (tyF nmB f) (exF f) x = true := fun x hx => exB_arg (he.2.2.2.2 x hx)
 have hks : (t.kid 0).size ≤ f := by have := kid_size h3; omega
 have hfl := ty_len hx1 hks
 have C1 := hid fun v' W (hv' : NdV none' W (t.kid 0) v') => rtx_any f (by omega) (t.kid 0) hks hx1 v' W hv'
 have hbl2 : (typF f (t.kid 0)).length ≤ 10000000000000 := by omega
 obtain ⟨q0, hq0⟩ : ∃ q, typF f (t.kid 0) = q := ⟨_, rfl⟩
 rw [hq0] at C1 hbl2 hr
 obtain ⟨e1, he1⟩ : ∃ b, ((t.kid 0).kind == 10) = b := ⟨_, rfl⟩
 replace hr := lit_if he1 hr
 have y0 : (0 : Int) < (t.kids.length : Int) := by omega
 have hol := othT_len (deep := deep) (ex := exT f) h3 ht (fun x hx he => (lens_all f deep (by omega)).1 x (by have := Nd.size_kid hx; omega) he) hag
 have hol2 : (othT (typF f) (exT f) deep t).length ≤ 10000000000000 := by omega
 have CO := hid fun v' W (hv' : NdV none' W t v') => others_any f (by omega) H deep (by omega) t ht h3 hag v' W hv'
 obtain ⟨q1, hq1⟩ : ∃ q, othT (typF f) (exT f) deep t = q := ⟨_, rfl⟩
 rw [hq1] at CO hol2 hr
 have cat19 := str_cat (q0) ([123])
 have cat20 := str_cat (q0 ++ [123]) (q1)
 have cat21 := str_cat (q0 ++ [123] ++ q1) ([125])
 have cat22 := str_cat ([40]) (q0 ++ [123] ++ q1 ++ [125])
 have cat23 := str_cat (40 :: (q0 ++ [123] ++ q1 ++ [125])) ([41])
 simp only [List.append_assoc, List.cons_append, List.nil_append] at cat19 cat20 cat21 cat22 cat23
 have HR := hid hr
 have HK := hid hk
 rw [hk] at HV ⊢
 obtain ⟨tx, htx⟩ : ∃ k, t.text = k := ⟨_, rfl⟩
 have HTX := hid htx
 rw [htx] at HV  ⊢
 try rw [htx] at HR
 obtain ⟨B, W0, hB, hW0, X0, G0⟩ := boxed w (.cells #[.int .i64 24, .string ⟨tx.toArray⟩, .slice a1 t.kids.length cap1, .int .i64 t.pos] 24)
 have XX := hid (Ext.refl none' W0)
 clear hr htx ht hf hk he H hd hks hfl hq0 hol hq1 hag hx1
 go_enter Tryz.func28, Tryz.ntmps28
 go_upto_region 1 with (fail)
 rw [← hW0, ← hB]
 clear hW0 hB
 have CO := hid fun W (X : Ext none' W0 W) => CO.out (.agg #[.int .i64 24, .string ⟨tx.toArray⟩, .slice a1 t.kids.length cap1, .int .i64 t.pos]) W (HV.out.ext (X0.out.trans X) fun _ _ h => h)
 obtain ⟨c0, c1, c2, c3⟩ := cellx XX.out G0.out
 obtain ⟨b, off, ka0, kc0, rfl, HBW, HZ0, KK0⟩ := kidA (HY.out.ext isNd_good X0.out fun _ _ h => h) (h3)
 have C1 := hid fun W (X : Ext none' W0 W) => C1.out _ W (ndvx HZ0.out X)
 have HKL := hid h3
 clear h3
 go_upto_region 21 with (fail)
 clear c0 c1 c2 c3
 obtain ⟨c0, c1, c2, c3⟩ := cell4L fun t' : LaterF none' W0 => (XX.out.trans t'.x).heap G0.out fun h => h
 obtain ⟨m00, m01, m02, m03⟩ := kidL (w1 := W0) XX.out HBW.out KK0.out
 refine region_q none' W0 (.qs [0, 1, 2, 3, 6, 7] (.one 4 true (.qs [5] (.one 8 true (.qs [9, 10, 11] .fin))))) (by kernel_rfl) (by kernel_rfl) (fun dst v c a w h => by cases dst <;> exact h) ?_
 refine ⟨In.of (Ext.refl _ _).drew, ?_⟩
 change wpQuiet _ _ (fun w' => ∃ t : LaterF none' W0, w' = t.w) _ _ _
 simp only [sel, List.getElem?_cons_succ, List.getElem?_cons_zero]
 repeat (go_big_quiet_step (fail))
 refine wpQuiet_nil ?_
 simp only [wpTreeQ, stepT, sel, List.getElem?_cons_succ, List.getElem?_cons_zero]
 have D1 := hid (Ext.refl none' W0).drew
 clear c0 c1 c2 c3 m00 m01 m02 m03
 go_wp2_with fail
 refine (C1.out _ D1.out).mono ?_
 rintro e w2 ⟨rfl, X2⟩
 have XX := hid (D1.out.trans X2)
 clear X2
 go_wp2_with fail
 refine ⟨In.of XX.out, In.of XX.out, ?_⟩
 change wpQuiet _ _ (fun w' => ∃ t : LaterF none' W0, w' = t.w) _ _ _
 repeat (go_big_quiet_step (fail))
 refine wpQuiet_nil ?_
 go_wp2_with fail
 refine (CO.out _ XX.out).mono ?_
 rintro e w3 ⟨rfl, X⟩
 have XX := hid (XX.out.trans X)
 clear X 
 go_wp2_with fail
 refine ⟨In.of XX.out, In.of XX.out, ?_⟩
 change wpQuiet _ _ (fun w' => ∃ t : LaterF none' W0, w' = t.w) _ _ _
 repeat (go_big_quiet_step (fail))
 refine wpQuiet_nil ?_
 obtain ⟨c0, c1, c2, c3⟩ := cellx XX.out G0.out
 obtain ⟨m00, m01, m02, m03⟩ := kid' XX.out HBW.out KK0.out
 cases head <;> cases e1
 all_goals
  go_wp2_with fail
  go_ret
  exact ⟨by first | (rw [HR.out]; done) | (rw [HR.out]; simp [wFunc]), X0.out.trans XX.out⟩
theorem rx_func (f : Nat) (hf : f + 1 ≤ 1100000) (H : REx7 f) (deep : Nat) (head : Bool) (hd : deep + (f + 1) ≤ 1200000) (HS : RSt7 f) (t : Nd) (ht : t.size ≤ f + 1) (hk : t.kind = 25) (he : ofB 25 [sigB (tyF nmB f) nmB, blkB (stF f)] t = true) (v : Value) (w : World) (hv : NdV none' w t v) :
 Calls Tryz.prog 28 #[v, .int .i64 (deep : Nat), .bool head] w (StrPost (wFunc ++ sigT (typF f) (t.kid 0) ++ [32] ++ blT (stT f) deep (t.kid 1)) w) := by
 obtain ⟨a1, cap1, rfl, hcap, HV, HY⟩ := nd_open hv
 have hkl : t.kids.length ≤ 1100000 := by have := t.kids_len; omega
 obtain ⟨r, hr⟩ : ∃ r, r = (wFunc ++ sigT (typF f) (t.kid 0) ++ [32] ++ blT (stT f) deep (t.kid 1)) := ⟨_, rfl⟩
 rw [← hr]
 have HT := hid ht
 have HF := hid hf
 obtain ⟨_, _, h3⟩ := ofB_parts he
 obtain ⟨x, y, hkx, hx1, hy1⟩ := two_kids h3
 obtain ⟨hx0, hy0⟩ := kid_two hkx
 have hsz := size_two hkx
 have hl0 : 0 < t.kids.length := by rw [hkx]; simp
 have hl1 : 1 < t.kids.length := by rw [hkx]; simp
 have hsl := sigT_len nmB_len hx1 (show x.size ≤ f + 1 by omega)
 have hbl := blk_len (deep := deep) (st := stT f) (f := f) (by omega) (fun z hm hz => (lens_all f (deep + 1) (by omega)).2 z (by have := Nd.size_kid hm; omega) hz) hy1
 have C0 := hid fun v' W (hv' : NdV none' W (t.kid 0) v') => rsigt_any f (by omega) (rtx_any f (by omega)) (t.kid 0) (by rw [hx0]; omega) nmB nmB_len (by rw [hx0]; exact hx1) v' W hv'
 have C1 := hid fun v' W (hv' : NdV none' W (t.kid 1) v') => rblockt_any f (by omega) HS deep (by omega) (t.kid 1) (by rw [hy0]; omega) (by rw [hy0]; exact hy1) v' W hv'
 have hbm0 : (sigT (typF f) (t.kid 0)).length ≤ 10000000000000 := by rw [hx0]; omega
 have hbm1 : (blT (stT f) deep (t.kid 1)).length ≤ 10000000000000 := by rw [hy0]; omega
 obtain ⟨q0, hq0⟩ : ∃ q, sigT (typF f) (t.kid 0) = q := ⟨_, rfl⟩
 obtain ⟨q1, hq1⟩ : ∃ q, blT (stT f) deep (t.kid 1) = q := ⟨_, rfl⟩
 rw [hq0] at C0 hbm0 hr
 rw [hq1] at C1 hbm1 hr
 have y0 : (0 : Int) < (t.kids.length : Int) := by omega
 have y1 : (1 : Int) < (t.kids.length : Int) := by omega
 have cat24 := str_cat ([102, 117, 110, 99]) (q0)
 have cat25 := str_cat ([102, 117, 110, 99] ++ q0) ([32])
 have cat26 := str_cat ([102, 117, 110, 99] ++ (q0 ++ [32])) (q1)
 simp only [List.append_assoc, List.cons_append, List.nil_append] at cat24 cat25 cat26
 have HR := hid hr
 have HK := hid hk
 rw [hk] at HV ⊢
 obtain ⟨tx, htx⟩ : ∃ k, t.text = k := ⟨_, rfl⟩
 have HTX := hid htx
 rw [htx] at HV  ⊢
 try rw [htx] at HR
 obtain ⟨B, W0, hB, hW0, X0, G0⟩ := boxed w (.cells #[.int .i64 25, .string ⟨tx.toArray⟩, .slice a1 t.kids.length cap1, .int .i64 t.pos] 24)
 have XX := hid (Ext.refl none' W0)
 clear hr htx ht hf hk he H hd HS h3 hkx hx1 hy1 hx0 hy0 hsz hsl hbl hq0 hq1
 go_enter Tryz.func28, Tryz.ntmps28
 go_upto_region 1 with (fail)
 rw [← hW0, ← hB]
 clear hW0 hB
 obtain ⟨c0, c1, c2, c3⟩ := cellx XX.out G0.out
 obtain ⟨b, off, ka0, kc0, rfl, HBW, HZ0, KK0⟩ := kidA (HY.out.ext isNd_good X0.out fun _ _ h => h) (by omega)
 obtain ⟨ka1, kc1, HZ1, KK1⟩ := kidB (HY.out.ext isNd_good X0.out fun _ _ h => h) 1 4 rfl (by omega)
 have C0 := hid fun W (X : Ext none' W0 W) => C0.out _ W (ndvx HZ0.out X)
 have C1 := hid fun W (X : Ext none' W0 W) => C1.out _ W (ndvx HZ1.out X)
 go_upto_region 26 with (fail)
 clear c0 c1 c2 c3
 have c2 := fun t' : LaterF none' W0 => cell_at ((XX.out.trans t'.x).heap G0.out fun h => h) 2
 simp only [List.getElem?_toArray, List.getElem?_cons_zero, List.getElem?_cons_succ] at c2
 obtain ⟨m00, m01, m02, m03⟩ := kidL (w1 := W0) XX.out HBW.out KK0.out
 obtain ⟨m10, m11, m12, m13⟩ := kidL (w1 := W0) XX.out HBW.out KK1.out
 refine region_q none' W0 (.qs [0, 1, 2, 3, 7, 8, 9, 10, 11] (.one 4 true (.qs [5, 6] (.one 12 true (.qs [13, 14] .fin))))) (by kernel_rfl) (by kernel_rfl) (fun dst v c a w h => by cases dst <;> exact h) ?_
 refine ⟨In.of (Ext.refl _ _).drew, ?_⟩
 change wpQuiet _ _ (fun w' => ∃ t : LaterF none' W0, w' = t.w) _ _ _
 simp only [sel, List.getElem?_cons_succ, List.getElem?_cons_zero]
 repeat (go_big_quiet_step (fail))
 refine wpQuiet_nil ?_
 simp only [wpTreeQ, stepT, sel, List.getElem?_cons_succ, List.getElem?_cons_zero]
 have D1 := hid (Ext.refl none' W0).drew
 clear c2 m00 m01 m02 m03 m10 m11 m12 m13
 go_wp2_with fail
 refine (C0.out _ D1.out).mono ?_
 rintro e w2 ⟨rfl, X2⟩
 have XX := hid (D1.out.trans X2)
 clear X2
 go_wp2_with fail
 refine ⟨In.of XX.out, In.of XX.out, ?_⟩
 change wpQuiet _ _ (fun w' => ∃ t : LaterF none' W0, w' = t.w) _ _ _
 repeat (go_big_quiet_step (fail))
 refine wpQuiet_nil ?_
 go_wp2_with fail
 refine (C1.out _ XX.out).mono ?_
 rintro e w3 ⟨rfl, X⟩
 have XX := hid (XX.out.trans X)
 clear X 
 go_wp2_with fail
 refine ⟨In.of XX.out, In.of XX.out, ?_⟩
 change wpQuiet _ _ (fun w' => ∃ t : LaterF none' W0, w' = t.w) _ _ _
 repeat (go_big_quiet_step (fail))
 refine wpQuiet_nil ?_
 go_wp2_with fail
 go_ret
 exact ⟨by first | (rw [HR.out]; done) | (rw [HR.out]; simp [wFunc]), X0.out.trans XX.out⟩
end Go.Proofs.YthbmjamgidfneaaGreatDoor
namespace Go.Proofs.YthbmjamgidfneaaGreatDoor
open Go.RowKit Go.Lib
inductive Bz where
 | fin
 | one (i : Nat) (b : Bool) (r : Bz)
 | two (i : Nat) (b : Bool) (r : Bz) (j : Nat) (c : Bool) (q : Bz)
 | three (i : Nat) (b : Bool) (r : Bz) (j : Nat) (c : Bool) (q : Bz) (k : Nat) (d : Bool) (s : Bz)
 | qs (l : List Nat) (r : Bz)
def Bz.depth : Bz → Nat
 | .fin => 0
 | .one _ _ r => r.depth + 1
 | .two _ _ r _ _ _ => r.depth + 1
 | .three _ _ r _ _ _ _ _ _ => r.depth + 1
 | .qs l r => l.length + r.depth
def Bz.early : Bz → List Nat
 | .fin => []
 | .one i b r => (if b then [] else [i]) ++ r.early
 | .two i b r j c q => (if b then [] else [i]) ++ (r.early ++ ((if c then [] else [j]) ++ q.early))
 | .three i b r j c q k d s => (if b then [] else [i]) ++ (r.early ++ ((if c then [] else [j]) ++ (q.early ++ ((if d then [] else [k]) ++ s.early))))
 | .qs _ r => r.early
section
variable {P : Program} {ops : Array Oper} {Q : Exit → Act → World → Prop} {md : Region.Mode} {S : World → Prop} {E : Nat → Bool}
def wpTreeZ (P : Program) (l : List Oper) (Q : Exit → Act → World → Prop) (S : World → Prop) : Bz → Act → World → Prop
 | .fin, a, w => Q .normal a w
 | .one i b r, a, w => stepT P l Q S i b (wpTreeZ P l Q S r) a w
 | .two i b r j c q, a, w => stepT P l Q S i b (wpTreeZ P l Q S r) a w ∧ stepT P l Q S j c (wpTreeZ P l Q S q) a w
 | .three i b r j c q k d s, a, w => stepT P l Q S i b (wpTreeZ P l Q S r) a w ∧ (stepT P l Q S j c (wpTreeZ P l Q S q) a w ∧ stepT P l Q S k d (wpTreeZ P l Q S s) a w)
 | .qs lq r, a, w => S w ∧ wpQuiet P l.toArray S (fun a' => wpTreeZ P l Q S r a' w) (sel l lq) a
def treeZB (md : Region.Mode) (ops : Array Oper) (E : Nat → Bool) : Bz → Array Bool → Bool
 | .fin, listed => (Region.ready md ops listed).isEmpty
 | .one i _ r, listed => (Region.ready md ops listed) == [i] && treeZB md ops E r (listed.setIfInBounds i true)
 | .two i _ r j _ q, listed => (Region.ready md ops listed) == [i, j] && treeZB md ops E r (listed.setIfInBounds i true) && treeZB md ops E q (listed.setIfInBounds j true) && r.depth == q.depth
 | .three i _ r j _ q k _ s, listed => (Region.ready md ops listed) == [i, j, k] && treeZB md ops E r (listed.setIfInBounds i true) && treeZB md ops E q (listed.setIfInBounds j true) && treeZB md ops E s (listed.setIfInBounds k true) && r.depth == q.depth && r.depth == s.depth
 | .qs lq r, listed => readyA md ops lq listed && (lq.all fun i => (List.range ops.size).all fun j => E j || waitsB md ops ops.size j i) && treeZB md ops E r (listedA lq listed)
theorem phaseZ (l : List Oper) (hl : l.toArray = ops) (hs : Region.noSelect ops = true) (hQ : ∀ (dst : Option Tmp) v c a w, Q (.panic c) (a.put dst v) w → Q (.panic c) a w) : ∀ (t : Bz) (listed : Array Bool) (a : Act) (w : World), treeZB md ops E t listed = true → (∀ j ∈ t.early, E j = false) → Down md ops listed → wpTreeZ P l Q S t a w → wpAnyE P md ops Q S E t.depth listed a w
 | .fin, listed, a, w, hc, _, _, h => ⟨by simpa [treeZB] using hc, h⟩
 | .one i b r, listed, a, w, hc, he, hd, h => by
  simp only [treeZB, Bool.and_eq_true, beq_iff_eq] at hc
  refine ⟨fun h0 => (by rw [hc.1] at h0; cases h0), fun k hk => ?_⟩
  have hk' := hk
  rw [hc.1, List.mem_singleton] at hk'
  subst hk'
  exact stepT_op l hl hk (fun hb => he _ (by simp [Bz.early, hb])) (fun a' w' h' => phaseZ l hl hs hQ r _ a' w' hc.2 (fun j hj => he j (by simp [Bz.early, hj])) (hd.step hk) h') h
 | .two i b r j c q, listed, a, w, hc, he, hd, h => by
  simp only [treeZB, Bool.and_eq_true, beq_iff_eq] at hc
  obtain ⟨⟨⟨h1, h2⟩, h3⟩, h4⟩ := hc
  refine ⟨fun h0 => (by rw [h1] at h0; cases h0), fun k hk => ?_⟩
  have hk' := hk
  rw [h1] at hk'
  simp only [List.mem_cons, List.mem_nil_iff, or_false] at hk'
  rcases hk' with rfl | rfl
  · exact stepT_op l hl hk (fun hb => he _ (by simp [Bz.early, hb])) (fun a' w' h' => phaseZ l hl hs hQ r _ a' w' h2 (fun j hj => he j (by simp [Bz.early, hj])) (hd.step hk) h') h.1
  · refine stepT_op l hl hk (fun hb => he _ (by simp [Bz.early, hb])) (fun a' w' h' => ?_) h.2
    have := phaseZ l hl hs hQ q _ a' w' h3 (fun j hj => he j (by simp [Bz.early, hj])) (hd.step hk) h'
    rw [← h4] at this
    exact this
 | .three i b r j c q k d s, listed, a, w, hc, he, hd, h => by
  simp only [treeZB, Bool.and_eq_true, beq_iff_eq] at hc
  obtain ⟨⟨⟨⟨⟨h1, h2⟩, h3⟩, h4⟩, h5⟩, h6⟩ := hc
  refine ⟨fun h0 => (by rw [h1] at h0; cases h0), fun x hk => ?_⟩
  have hk' := hk
  rw [h1] at hk'
  simp only [List.mem_cons, List.mem_nil_iff, or_false] at hk'
  rcases hk' with rfl | rfl | rfl
  · exact stepT_op l hl hk (fun hb => he _ (by simp [Bz.early, hb])) (fun a' w' h' => phaseZ l hl hs hQ r _ a' w' h2 (fun j hj => he j (by simp [Bz.early, hj])) (hd.step hk) h') h.1
  · refine stepT_op l hl hk (fun hb => he _ (by simp [Bz.early, hb])) (fun a' w' h' => ?_) h.2.1
    have := phaseZ l hl hs hQ q _ a' w' h3 (fun j hj => he j (by simp [Bz.early, hj])) (hd.step hk) h'
    rw [← h5] at this
    exact this
  · refine stepT_op l hl hk (fun hb => he _ (by simp [Bz.early, hb])) (fun a' w' h' => ?_) h.2.2
    have := phaseZ l hl hs hQ s _ a' w' h4 (fun j hj => he j (by simp [Bz.early, hj])) (hd.step hk) h'
    rw [← h6] at this
    exact this
 | .qs lq r, listed, a, w, hc, he, hd, h => by
  simp only [treeZB, Bool.and_eq_true] at hc
  obtain ⟨⟨h1, h2⟩, h3⟩ := hc
  simp only [wpTreeZ] at h
  refine phaseA l hl hs hQ h.1 _ r.depth lq _ a h1 h2 hd (by rw [hl] at h; exact h.2) ?_
  intro a' h'
  exact phaseZ l hl hs hQ r _ a' w h3 (fun j hj => he j (by simpa [Bz.early] using hj)) (down_listed lq _ h1 hd) h'
def mixedZB (ops : Array Oper) (t : Bz) : Bool :=
 Region.noSelect ops && treeZB .any ops (fun j => !t.early.contains j) t (Array.replicate ops.size false) && t.depth == ops.size
theorem region_z {id : Nat} {a : Act} {w : World} {l : List Oper} (F : Nat → Prop) (w0 : World) (t : Bz) (hm : P.follows .mixedOrders = true) (hB : mixedZB l.toArray t = true)
 (hQ : ∀ (dst : Option Tmp) v c a w, Q (.panic c) (a.put dst v) w → Q (.panic c) a w)
 (h : wpTreeZ P l Q (In F w0) t a w.drew) : (Code.region id l.toArray true).wp P Q a w := by
 simp only [mixedZB, Bool.and_eq_true, beq_iff_eq] at hB
 obtain ⟨⟨h1, h2⟩, h3⟩ := hB
 refine wp_region_any hm (wpAny_of_E (S := In F w0) (E := fun j => !t.early.contains j) _ _ _ _ ?_)
 rw [← h3] at h2 ⊢
 refine phaseZ l rfl h1 hQ t _ a _ h2 (fun j hj => by simp [hj]) ?_ h
 intro k ok hk hl
 rw [getD_replicate] at hl
 cases hl
end
end Go.Proofs.YthbmjamgidfneaaGreatDoor
namespace Go.Proofs.YthbmjamgidfneaaGreatDoor
open Go.RowKit Go.Lib Go.BigFrame
set_option linter.unusedVariables false
set_option linter.unusedSimpArgs false
theorem put_same {a : Act} {d : Tmp} {v : Value} (h : a.tmps[d]? = some v) : a.put (some d) v = a := by
 obtain ⟨hl, h⟩ := Array.getElem?_eq_some_iff.mp h
 show { a with tmps := a.tmps.setIfInBounds d v } = a
 have : a.tmps.setIfInBounds d v = a.tmps := by
  apply Array.ext
  · simp
  · intro i h1 h2
    rw [Array.getElem_setIfInBounds]
    split
    · rename_i e; subst e; exact h.symm
    · rfl
 rw [this]
theorem wpQuiet_putSame {P : Program} {ops : Array Oper} {C : World → Prop} {Q : Act → Prop} {l : List Oper} {a : Act} {d : Tmp} {v : Value} (h : a.tmps[d]? = some v) (hq : wpQuiet P ops C Q l a) : wpQuiet P ops C Q l (a.put (some d) v) := by
 rw [put_same h]; exact hq
theorem sx_bin (f : Nat) (H : ExpH f) (deep : Nat) (head : Bool) (hd : deep + (f + 1) ≤ 1200000) (hf : f + 1 ≤ 1100000) (t : Nd) (ht : t.size ≤ f + 1) (hk : t.kind = 20) (he : namB binB 20 [exF f, exF f] t = true) (v : Value) (w : World) (hm : MaxL w) (hv : NdV none' w t v) :
 Calls Tryz.prog 23 #[shV deep head, v] w (StrPost (brT (exT f) deep head ((t.kid 0).kind == 20 && decide (tightN (t.kid 0).text < tightN t.text)) (t.kid 0) ++ [32] ++ t.text ++ [32] ++ brT (exT f) deep head ((t.kid 1).kind == 20 && decide (tightN (t.kid 1).text ≤ tightN t.text)) (t.kid 1)) w) := by
 obtain ⟨y, rfl, hy⟩ := hv
 have HY := hid hy
 obtain ⟨a1, cap1, rfl, hcap, _⟩ := hy
 have hkl : t.kids.length ≤ 1100000 := by have := t.kids_len; omega
 obtain ⟨rr, hrr⟩ : ∃ r, r = brT (exT f) deep head ((t.kid 0).kind == 20 && decide (tightN (t.kid 0).text < tightN t.text)) (t.kid 0) ++ [32] ++ t.text ++ [32] ++ brT (exT f) deep head ((t.kid 1).kind == 20 && decide (tightN (t.kid 1).text ≤ tightN t.text)) (t.kid 1) := ⟨_, rfl⟩
 rw [← hrr]
 obtain ⟨_, htn, h3⟩ := namB_parts he
 obtain ⟨x, y, hkx, hx1, hy1⟩ := two_kids h3
 obtain ⟨hx0, hy0⟩ := kid_two hkx
 have hsz := size_two hkx
 have hl : t.kids.length = 2 := by rw [hkx]; rfl
 have htl := binB_len htn
 obtain ⟨yy0, hyy0⟩ : ∃ y, y = ((t.kid 0).kind == 20 && decide (tightN (t.kid 0).text < tightN t.text)) := ⟨_, rfl⟩
 rw [← hyy0] at hrr
 have hbl0 := brT_len (head := head) (yes := yy0) ((lens_all f deep (by omega)).1 x (by omega) hx1)
 have C0 := hid fun W (X : Ext none' w W) v' (hv' : NdV none' W (t.kid 0) v') => bracket_any f H deep head yy0 (by omega) (by omega) (t.kid 0) (by rw [hx0]; omega) (by rw [hx0]; exact hx1) v' W (maxL_later hm X) hv'
 have hbm0 : (brT (exT f) deep head yy0 (t.kid 0)).length ≤ 10000000000000 := by rw [hx0]; omega
 obtain ⟨q0, hq0⟩ : ∃ q, brT (exT f) deep head yy0 (t.kid 0) = q := ⟨_, rfl⟩
 rw [hq0] at C0 hbm0 hrr
 have T0 := hid fun W => tight_any (t.kid 0).text W
 obtain ⟨p0, hp0⟩ : ∃ p, tightN (t.kid 0).text = p := ⟨_, rfl⟩
 rw [hp0] at T0 hyy0
 obtain ⟨e0, he0⟩ : ∃ b, ((t.kid 0).kind == 20) = b := ⟨_, rfl⟩
 rw [he0] at hyy0
 obtain ⟨yy1, hyy1⟩ : ∃ y, y = ((t.kid 1).kind == 20 && decide (tightN (t.kid 1).text ≤ tightN t.text)) := ⟨_, rfl⟩
 rw [← hyy1] at hrr
 have hbl1 := brT_len (head := head) (yes := yy1) ((lens_all f deep (by omega)).1 y (by omega) hy1)
 have C1 := hid fun W (X : Ext none' w W) v' (hv' : NdV none' W (t.kid 1) v') => bracket_any f H deep head yy1 (by omega) (by omega) (t.kid 1) (by rw [hy0]; omega) (by rw [hy0]; exact hy1) v' W (maxL_later hm X) hv'
 have hbm1 : (brT (exT f) deep head yy1 (t.kid 1)).length ≤ 10000000000000 := by rw [hy0]; omega
 obtain ⟨q1, hq1⟩ : ∃ q, brT (exT f) deep head yy1 (t.kid 1) = q := ⟨_, rfl⟩
 rw [hq1] at C1 hbm1 hrr
 have T1 := hid fun W => tight_any (t.kid 1).text W
 obtain ⟨p1, hp1⟩ : ∃ p, tightN (t.kid 1).text = p := ⟨_, rfl⟩
 rw [hp1] at T1 hyy1
 obtain ⟨e1, he1⟩ : ∃ b, ((t.kid 1).kind == 20) = b := ⟨_, rfl⟩
 rw [he1] at hyy1
 have TT := hid fun W => tight_any t.text W
 obtain ⟨pp, hpp⟩ : ∃ p, tightN t.text = p := ⟨_, rfl⟩
 rw [hpp] at TT hyy0 hyy1
 have HY0 := hid hyy0
 have HY1 := hid hyy1
 have y0 : (0 : Int) < (t.kids.length : Int) := by omega
 have y1 : (1 : Int) < (t.kids.length : Int) := by omega
 have cat1 := str_cat q0 [32]
 have cat2 := str_cat (q0 ++ [32]) t.text
 have cat3 := str_cat (q0 ++ [32] ++ t.text) [32]
 have cat4 := str_cat (q0 ++ [32] ++ t.text ++ [32]) q1
 simp only [List.append_assoc, List.cons_append, List.nil_append] at cat2 cat3 cat4
 have HR := hid hrr
 rw [hk]
 have CF := hid fun W => free_any deep head W
 obtain ⟨B, hB⟩ : ∃ B, B = w.heap.size := ⟨_, rfl⟩
 have BX := TwoBox.mk' (deep := deep) (head := head) (cs := #[.int .i64 20, .string ⟨t.text.toArray⟩, .slice a1 t.kids.length cap1, .int .i64 t.pos]) hB
 obtain ⟨W0, hW0⟩ : ∃ W0, W0 = ((w.alloc (.cells #[.int .i64 (deep : Nat), .bool head] 50)).alloc (.cells #[.int .i64 20, .string ⟨t.text.toArray⟩, .slice a1 t.kids.length cap1, .int .i64 t.pos] 24)) := ⟨_, rfl⟩
 rw [← hW0] at BX
 have BX := hid BX
 have hmf := mkf_run
 clear hk he hrr ht hd hf hsz htn h3 hkx hx1 hy1 hx0 hy0 H hl hyy0 hyy1 hbl0 hbl1 hq0 hq1 hp0 hp1 hpp
 go_enter Tryz.func23, Tryz.ntmps23
 go_upto_region 1 with (fail)
 rw [← hW0, ← hB]
 clear hW0 hB
 obtain ⟨x0, x1⟩ := cell2 BX.out.g0
 obtain ⟨c0, c1, c2, c3⟩ := cell4 BX.out.g1
 go_wp2_with fail
 refine (CF.out _).mono ?_
 rintro e w1 ⟨rfl, X1⟩
 have BX := hid (BX.out.ext X1)
 clear x0 x1 c0 c1 c2 c3 X1
 obtain ⟨x0, x1⟩ := cell2 BX.out.g0
 obtain ⟨c0, c1, c2, c3⟩ := cell4 BX.out.g1
 go_upto_region 9 with (fail)
 clear x0 x1 c0 c1 c2 c3
 obtain ⟨x0, x1⟩ := cell2 BX.out.g0
 obtain ⟨c0, c1, c2, c3⟩ := cell4 BX.out.g1
 go_wp2_with fail
 refine (TT.out _).mono ?_
 rintro e w2 ⟨rfl, X2⟩
 have BX := hid (BX.out.ext X2)
 clear x0 x1 c0 c1 c2 c3 X2
 go_upto_region 10 with (fail)
 obtain ⟨b, off, z0, rfl, hbw, k00, k01, k02, k03, hz0⟩ := kid_val (HY.out.ext isNd_good BX.out.x fun _ _ h => h) 0 (by omega)
 obtain ⟨b', off', z1, e1, hbw1, k10, k11, k12, k13, hz1⟩ := kid_val (HY.out.ext isNd_good BX.out.x fun _ _ h => h) 1 (by omega)
 injection e1 with e1
 injection e1 with e1 e2 _
 subst e1 e2
 simp only [Nat.zero_mul, Nat.one_mul, Nat.add_zero] at k00 k01 k02 k03 k10 k11 k12 k13
 have HZ0 := hid hz0
 obtain ⟨a2, cap2, rfl, _⟩ := hz0
 have HZ1 := hid hz1
 obtain ⟨a3, cap3, rfl, _⟩ := hz1
 have m00 := fun t' : LaterF none' w2 => (t'.x.cell (p := ⟨b, off, none⟩) hbw (fun h => h)).trans k00
 have m01 := fun t' : LaterF none' w2 => (t'.x.cell (p := ⟨b, off + 1, none⟩) hbw (fun h => h)).trans k01
 have m02 := fun t' : LaterF none' w2 => (t'.x.cell (p := ⟨b, off + 2, none⟩) hbw (fun h => h)).trans k02
 have m03 := fun t' : LaterF none' w2 => (t'.x.cell (p := ⟨b, off + 3, none⟩) hbw (fun h => h)).trans k03
 have m10 := fun t' : LaterF none' w2 => (t'.x.cell (p := ⟨b, off + 4, none⟩) hbw (fun h => h)).trans k10
 have m11 := fun t' : LaterF none' w2 => (t'.x.cell (p := ⟨b, off + 4 + 1, none⟩) hbw (fun h => h)).trans k11
 have m12 := fun t' : LaterF none' w2 => (t'.x.cell (p := ⟨b, off + 4 + 2, none⟩) hbw (fun h => h)).trans k12
 have m13 := fun t' : LaterF none' w2 => (t'.x.cell (p := ⟨b, off + 4 + 3, none⟩) hbw (fun h => h)).trans k13
 clear k00 k01 k02 k03 k10 k11 k12 k13
 obtain ⟨x0, x1⟩ := cell2L fun t' : LaterF none' w2 => t'.x.heap BX.out.g0 fun h => h
 obtain ⟨c0, c1, c2, c3⟩ := cell4L fun t' : LaterF none' w2 => t'.x.heap BX.out.g1 fun h => h
 cases e0
 · obtain ⟨rfl⟩ : Hid (yy0 = false) := hid (by rw [HY0.out]; rfl)
   refine region_q none' w2 (.qs [0, 1, 2, 3, 4, 5, 6, 7, 8, 9, 10, 11, 12, 13, 15] (.one 14 true (.qs [16, 17] (.one 18 false (.one 19 false .fin))))) (by kernel_rfl) (by kernel_rfl) (fun dst v c a w h => by cases dst <;> exact h) ?_
   refine ⟨In.of (Ext.refl _ _).drew, ?_⟩
   change wpQuiet _ _ (fun w' => ∃ t : LaterF none' w2, w' = t.w) _ _ _
   simp only [sel, List.getElem?_cons_succ, List.getElem?_cons_zero]
   repeat (go_big_quiet_step (fail))
   refine wpQuiet_nil ?_
   simp only [wpTreeQ, stepT, sel, List.getElem?_cons_succ, List.getElem?_cons_zero]
   have XA := hid (Ext.refl none' w2).drew
   refine ⟨In.of XA.out, In.of XA.out, ?_⟩
   change wpQuiet _ _ (fun w' => ∃ t : LaterF none' w2, w' = t.w) _ _ _
   refine wpQuiet_putSame (d := 74) (v := Go.undef) (by kernel_rfl) ?_
   repeat (go_big_quiet_step (fail))
   refine wpQuiet_nil ?_
   clear x0 x1 c0 c1 c2 c3 m00 m01 m02 m03 m10 m11 m12 m13
   go_wp2_with fail
   refine (C0.out _ (BX.out.x.trans XA.out) _ ⟨_, rfl, HZ0.out.ext isNd_good XA.out fun _ _ h => h⟩).mono ?_
   rintro e wb ⟨rfl, X2⟩
   have XX := hid (XA.out.trans X2)
   have BX := hid (BX.out.ext XX.out)
   clear XX XA HZ0 HZ1 hbw hbw1
   go_upto_region 11 with (fail)
   obtain ⟨b', off', z0, e1, hbw, k00, k01, k02, k03, hz0⟩ := kid_val (HY.out.ext isNd_good BX.out.x fun _ _ h => h) 0 (by omega)
   injection e1 with e1
   injection e1 with e1 e2 _
   subst e1 e2
   obtain ⟨b', off', z1, e1, hbw1, k10, k11, k12, k13, hz1⟩ := kid_val (HY.out.ext isNd_good BX.out.x fun _ _ h => h) 1 (by omega)
   injection e1 with e1
   injection e1 with e1 e2 _
   subst e1 e2
   simp only [Nat.zero_mul, Nat.one_mul, Nat.add_zero] at k00 k01 k02 k03 k10 k11 k12 k13
   have HZ0 := hid hz0
   obtain ⟨a2, cap2, rfl, _⟩ := hz0
   have HZ1 := hid hz1
   obtain ⟨a3, cap3, rfl, _⟩ := hz1
   have m00 := fun t' : LaterF none' wb => (t'.x.cell (p := ⟨b, off, none⟩) hbw (fun h => h)).trans k00
   have m01 := fun t' : LaterF none' wb => (t'.x.cell (p := ⟨b, off + 1, none⟩) hbw (fun h => h)).trans k01
   have m02 := fun t' : LaterF none' wb => (t'.x.cell (p := ⟨b, off + 2, none⟩) hbw (fun h => h)).trans k02
   have m03 := fun t' : LaterF none' wb => (t'.x.cell (p := ⟨b, off + 3, none⟩) hbw (fun h => h)).trans k03
   have m10 := fun t' : LaterF none' wb => (t'.x.cell (p := ⟨b, off + 4, none⟩) hbw (fun h => h)).trans k10
   have m11 := fun t' : LaterF none' wb => (t'.x.cell (p := ⟨b, off + 4 + 1, none⟩) hbw (fun h => h)).trans k11
   have m12 := fun t' : LaterF none' wb => (t'.x.cell (p := ⟨b, off + 4 + 2, none⟩) hbw (fun h => h)).trans k12
   have m13 := fun t' : LaterF none' wb => (t'.x.cell (p := ⟨b, off + 4 + 3, none⟩) hbw (fun h => h)).trans k13
   clear k00 k01 k02 k03 k10 k11 k12 k13
   obtain ⟨x0, x1⟩ := cell2L fun t' : LaterF none' wb => t'.x.heap BX.out.g0 fun h => h
   obtain ⟨c0, c1, c2, c3⟩ := cell4L fun t' : LaterF none' wb => t'.x.heap BX.out.g1 fun h => h
   cases e1
   · obtain ⟨rfl⟩ : Hid (yy1 = false) := hid (by rw [HY1.out]; rfl)
     refine region_q none' wb (.qs [0, 1, 2, 3, 4, 5, 6, 7, 8, 9, 10, 11, 12, 13, 15] (.one 14 true (.qs [16, 17] (.one 18 false (.one 19 false .fin))))) (by kernel_rfl) (by kernel_rfl) (fun dst v c a w h => by cases dst <;> exact h) ?_
     refine ⟨In.of (Ext.refl _ _).drew, ?_⟩
     change wpQuiet _ _ (fun w' => ∃ t : LaterF none' wb, w' = t.w) _ _ _
     simp only [sel, List.getElem?_cons_succ, List.getElem?_cons_zero]
     repeat (go_big_quiet_step (fail))
     refine wpQuiet_nil ?_
     simp only [wpTreeQ, stepT, sel, List.getElem?_cons_succ, List.getElem?_cons_zero]
     have XA := hid (Ext.refl none' wb).drew
     refine ⟨In.of XA.out, In.of XA.out, ?_⟩
     change wpQuiet _ _ (fun w' => ∃ t : LaterF none' wb, w' = t.w) _ _ _
     refine wpQuiet_putSame (d := 93) (v := Go.undef) (by kernel_rfl) ?_
     repeat (go_big_quiet_step (fail))
     refine wpQuiet_nil ?_
     clear x0 x1 c0 c1 c2 c3 m00 m01 m02 m03 m10 m11 m12 m13
     go_wp2_with fail
     refine (C1.out _ (BX.out.x.trans XA.out) _ ⟨_, rfl, HZ1.out.ext isNd_good XA.out fun _ _ h => h⟩).mono ?_
     rintro e wd ⟨rfl, X2⟩
     have XX := hid (XA.out.trans X2)
     have BX := hid (BX.out.ext XX.out)
     obtain ⟨x0, x1⟩ := cell2 BX.out.g0
     obtain ⟨c0, c1, c2, c3⟩ := cell4 BX.out.g1
     go_wp2_with fail
     go_ret
     exact ⟨by rw [HR.out]; simp, BX.out.x⟩
   · obtain ⟨rfl⟩ : Hid (yy1 = decide (p1 ≤ pp)) := hid (by rw [HY1.out]; rfl)
     refine region_q none' wb (.qs [0, 1, 2, 3, 4, 5, 6, 7, 8, 9, 10, 11, 12, 13, 15] (.one 14 true (.qs [16, 17] (.one 18 false (.one 19 false .fin))))) (by kernel_rfl) (by kernel_rfl) (fun dst v c a w h => by cases dst <;> exact h) ?_
     refine ⟨In.of (Ext.refl _ _).drew, ?_⟩
     change wpQuiet _ _ (fun w' => ∃ t : LaterF none' wb, w' = t.w) _ _ _
     simp only [sel, List.getElem?_cons_succ, List.getElem?_cons_zero]
     repeat (go_big_quiet_step (fail))
     refine wpQuiet_nil ?_
     simp only [wpTreeQ, stepT, sel, List.getElem?_cons_succ, List.getElem?_cons_zero]
     have D1 := hid (Ext.refl none' wb).drew
     go_wp2_with fail
     refine (T1.out _).mono ?_
     rintro e wc ⟨rfl, X2⟩
     have XA := hid (D1.out.trans X2)
     clear X2
     go_wp2_with fail
     refine ⟨In.of XA.out, In.of XA.out, ?_⟩
     change wpQuiet _ _ (fun w' => ∃ t : LaterF none' wb, w' = t.w) _ _ _
     repeat (go_big_quiet_step (fail))
     refine wpQuiet_nil ?_
     clear x0 x1 c0 c1 c2 c3 m00 m01 m02 m03 m10 m11 m12 m13
     go_wp2_with fail
     refine (C1.out _ (BX.out.x.trans XA.out) _ ⟨_, rfl, HZ1.out.ext isNd_good XA.out fun _ _ h => h⟩).mono ?_
     rintro e wd ⟨rfl, X2⟩
     have XX := hid (XA.out.trans X2)
     have BX := hid (BX.out.ext XX.out)
     obtain ⟨x0, x1⟩ := cell2 BX.out.g0
     obtain ⟨c0, c1, c2, c3⟩ := cell4 BX.out.g1
     go_wp2_with fail
     go_ret
     exact ⟨by rw [HR.out]; simp, BX.out.x⟩
 · obtain ⟨rfl⟩ : Hid (yy0 = decide (p0 < pp)) := hid (by rw [HY0.out]; rfl)
   refine region_q none' w2 (.qs [0, 1, 2, 3, 4, 5, 6, 7, 8, 9, 10, 11, 12, 13, 15] (.one 14 true (.qs [16, 17] (.one 18 false (.one 19 false .fin))))) (by kernel_rfl) (by kernel_rfl) (fun dst v c a w h => by cases dst <;> exact h) ?_
   refine ⟨In.of (Ext.refl _ _).drew, ?_⟩
   change wpQuiet _ _ (fun w' => ∃ t : LaterF none' w2, w' = t.w) _ _ _
   simp only [sel, List.getElem?_cons_succ, List.getElem?_cons_zero]
   repeat (go_big_quiet_step (fail))
   refine wpQuiet_nil ?_
   simp only [wpTreeQ, stepT, sel, List.getElem?_cons_succ, List.getElem?_cons_zero]
   have D1 := hid (Ext.refl none' w2).drew
   go_wp2_with fail
   refine (T0.out _).mono ?_
   rintro e wa ⟨rfl, X2⟩
   have XA := hid (D1.out.trans X2)
   clear X2
   go_wp2_with fail
   refine ⟨In.of XA.out, In.of XA.out, ?_⟩
   change wpQuiet _ _ (fun w' => ∃ t : LaterF none' w2, w' = t.w) _ _ _
   repeat (go_big_quiet_step (fail))
   refine wpQuiet_nil ?_
   clear x0 x1 c0 c1 c2 c3 m00 m01 m02 m03 m10 m11 m12 m13
   go_wp2_with fail
   refine (C0.out _ (BX.out.x.trans XA.out) _ ⟨_, rfl, HZ0.out.ext isNd_good XA.out fun _ _ h => h⟩).mono ?_
   rintro e wb ⟨rfl, X2⟩
   have XX := hid (XA.out.trans X2)
   have BX := hid (BX.out.ext XX.out)
   clear XX XA HZ0 HZ1 hbw hbw1
   go_upto_region 11 with (fail)
   obtain ⟨b', off', z0, e1, hbw, k00, k01, k02, k03, hz0⟩ := kid_val (HY.out.ext isNd_good BX.out.x fun _ _ h => h) 0 (by omega)
   injection e1 with e1
   injection e1 with e1 e2 _
   subst e1 e2
   obtain ⟨b', off', z1, e1, hbw1, k10, k11, k12, k13, hz1⟩ := kid_val (HY.out.ext isNd_good BX.out.x fun _ _ h => h) 1 (by omega)
   injection e1 with e1
   injection e1 with e1 e2 _
   subst e1 e2
   simp only [Nat.zero_mul, Nat.one_mul, Nat.add_zero] at k00 k01 k02 k03 k10 k11 k12 k13
   have HZ0 := hid hz0
   obtain ⟨a2, cap2, rfl, _⟩ := hz0
   have HZ1 := hid hz1
   obtain ⟨a3, cap3, rfl, _⟩ := hz1
   have m00 := fun t' : LaterF none' wb => (t'.x.cell (p := ⟨b, off, none⟩) hbw (fun h => h)).trans k00
   have m01 := fun t' : LaterF none' wb => (t'.x.cell (p := ⟨b, off + 1, none⟩) hbw (fun h => h)).trans k01
   have m02 := fun t' : LaterF none' wb => (t'.x.cell (p := ⟨b, off + 2, none⟩) hbw (fun h => h)).trans k02
   have m03 := fun t' : LaterF none' wb => (t'.x.cell (p := ⟨b, off + 3, none⟩) hbw (fun h => h)).trans k03
   have m10 := fun t' : LaterF none' wb => (t'.x.cell (p := ⟨b, off + 4, none⟩) hbw (fun h => h)).trans k10
   have m11 := fun t' : LaterF none' wb => (t'.x.cell (p := ⟨b, off + 4 + 1, none⟩) hbw (fun h => h)).trans k11
   have m12 := fun t' : LaterF none' wb => (t'.x.cell (p := ⟨b, off + 4 + 2, none⟩) hbw (fun h => h)).trans k12
   have m13 := fun t' : LaterF none' wb => (t'.x.cell (p := ⟨b, off + 4 + 3, none⟩) hbw (fun h => h)).trans k13
   clear k00 k01 k02 k03 k10 k11 k12 k13
   obtain ⟨x0, x1⟩ := cell2L fun t' : LaterF none' wb => t'.x.heap BX.out.g0 fun h => h
   obtain ⟨c0, c1, c2, c3⟩ := cell4L fun t' : LaterF none' wb => t'.x.heap BX.out.g1 fun h => h
   cases e1
   · obtain ⟨rfl⟩ : Hid (yy1 = false) := hid (by rw [HY1.out]; rfl)
     refine region_q none' wb (.qs [0, 1, 2, 3, 4, 5, 6, 7, 8, 9, 10, 11, 12, 13, 15] (.one 14 true (.qs [16, 17] (.one 18 false (.one 19 false .fin))))) (by kernel_rfl) (by kernel_rfl) (fun dst v c a w h => by cases dst <;> exact h) ?_
     refine ⟨In.of (Ext.refl _ _).drew, ?_⟩
     change wpQuiet _ _ (fun w' => ∃ t : LaterF none' wb, w' = t.w) _ _ _
     simp only [sel, List.getElem?_cons_succ, List.getElem?_cons_zero]
     repeat (go_big_quiet_step (fail))
     refine wpQuiet_nil ?_
     simp only [wpTreeQ, stepT, sel, List.getElem?_cons_succ, List.getElem?_cons_zero]
     have XA := hid (Ext.refl none' wb).drew
     refine ⟨In.of XA.out, In.of XA.out, ?_⟩
     change wpQuiet _ _ (fun w' => ∃ t : LaterF none' wb, w' = t.w) _ _ _
     refine wpQuiet_putSame (d := 93) (v := Go.undef) (by kernel_rfl) ?_
     repeat (go_big_quiet_step (fail))
     refine wpQuiet_nil ?_
     clear x0 x1 c0 c1 c2 c3 m00 m01 m02 m03 m10 m11 m12 m13
     go_wp2_with fail
     refine (C1.out _ (BX.out.x.trans XA.out) _ ⟨_, rfl, HZ1.out.ext isNd_good XA.out fun _ _ h => h⟩).mono ?_
     rintro e wd ⟨rfl, X2⟩
     have XX := hid (XA.out.trans X2)
     have BX := hid (BX.out.ext XX.out)
     obtain ⟨x0, x1⟩ := cell2 BX.out.g0
     obtain ⟨c0, c1, c2, c3⟩ := cell4 BX.out.g1
     go_wp2_with fail
     go_ret
     exact ⟨by rw [HR.out]; simp, BX.out.x⟩
   · obtain ⟨rfl⟩ : Hid (yy1 = decide (p1 ≤ pp)) := hid (by rw [HY1.out]; rfl)
     refine region_q none' wb (.qs [0, 1, 2, 3, 4, 5, 6, 7, 8, 9, 10, 11, 12, 13, 15] (.one 14 true (.qs [16, 17] (.one 18 false (.one 19 false .fin))))) (by kernel_rfl) (by kernel_rfl) (fun dst v c a w h => by cases dst <;> exact h) ?_
     refine ⟨In.of (Ext.refl _ _).drew, ?_⟩
     change wpQuiet _ _ (fun w' => ∃ t : LaterF none' wb, w' = t.w) _ _ _
     simp only [sel, List.getElem?_cons_succ, List.getElem?_cons_zero]
     repeat (go_big_quiet_step (fail))
     refine wpQuiet_nil ?_
     simp only [wpTreeQ, stepT, sel, List.getElem?_cons_succ, List.getElem?_cons_zero]
     have D1 := hid (Ext.refl none' wb).drew
     go_wp2_with fail
     refine (T1.out _).mono ?_
     rintro e wc ⟨rfl, X2⟩
     have XA := hid (D1.out.trans X2)
     clear X2
     go_wp2_with fail
     refine ⟨In.of XA.out, In.of XA.out, ?_⟩
     change wpQuiet _ _ (fun w' => ∃ t : LaterF none' wb, w' = t.w) _ _ _
     repeat (go_big_quiet_step (fail))
     refine wpQuiet_nil ?_
     clear x0 x1 c0 c1 c2 c3 m00 m01 m02 m03 m10 m11 m12 m13
     go_wp2_with fail
     refine (C1.out _ (BX.out.x.trans XA.out) _ ⟨_, rfl, HZ1.out.ext isNd_good XA.out fun _ _ h => h⟩).mono ?_
     rintro e wd ⟨rfl, X2⟩
     have XX := hid (XA.out.trans X2)
     have BX := hid (BX.out.ext XX.out)
     obtain ⟨x0, x1⟩ := cell2 BX.out.g0
     obtain ⟨c0, c1, c2, c3⟩ := cell4 BX.out.g1
     go_wp2_with fail
     go_ret
     exact ⟨by rw [HR.out]; simp, BX.out.x⟩
end Go.Proofs.YthbmjamgidfneaaGreatDoor
