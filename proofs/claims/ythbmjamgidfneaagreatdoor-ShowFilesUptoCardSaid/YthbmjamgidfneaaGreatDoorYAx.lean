import Derived.Test.YthbmjamgidfneaaGreatDoorYAa
import Derived.Test.YthbmjamgidfneaaGreatDoorYAd
import Derived.Test.YthbmjamgidfneaaGreatDoorYAu
import Derived.Test.YthbmjamgidfneaaGreatDoorYAw
import Derived.Test.YthbmjamgidfneaaGreatDoorYAh
set_option maxRecDepth 100000
set_option maxHeartbeats 6400000
namespace Go.Proofs.YthbmjamgidfneaaGreatDoor
open Go.RowKit Go.Lib Go.BigFrame
set_option linter.unusedVariables false
set_option linter.unusedSimpArgs false
theorem sd_var (f : Nat) (hf : f + 1 ≤ 1100000) (t : Nd) (ht : t.size ≤ f + 1) (hk2 : t.kind ≠ 2) (hk3 : t.kind ≠ 3) (hk4 : t.kind ≠ 4) (he : varB (tyF nmB f) (exF f) t = true) (v : Value) (w : World) (hm : MaxL w) (hv : NdV none' w t v) :
 Calls Tryz.prog 21 #[v] w (StrPost (varT (typF f) (exT f) 0 t) w) := by
 obtain ⟨H, HS⟩ := sh_all f (by omega)
 obtain ⟨y, rfl, hy⟩ := hv
 have HY := hid hy
 obtain ⟨a1, cap1, rfl, hcap, _⟩ := hy
 have hkl : t.kids.length ≤ 1100000 := by have := t.kids_len; omega
 obtain ⟨B, W0, hB, hW0, X0, G0⟩ := boxed w (.cells #[.int .i64 t.kind, .string ⟨t.text.toArray⟩, .slice a1 t.kids.length cap1, .int .i64 t.pos] 24)
 obtain ⟨rr, hrr⟩ : ∃ r, r = varT (typF f) (exT f) 0 t := ⟨_, rfl⟩
 rw [← hrr]
 have CV := hid fun W (X : Ext none' w W) (hs : IsSl 4 IsNd none' W (.slice a1 t.kids.length cap1) t.kids) => shvar_any f H 0 (by omega) hf t ht he (.agg #[.int .i64 t.kind, .string ⟨t.text.toArray⟩, .slice a1 t.kids.length cap1, .int .i64 t.pos]) W (maxL_later hm X) ⟨_, rfl, hs⟩
 obtain ⟨q0, hq0⟩ : ∃ q, varT (typF f) (exT f) 0 t = q := ⟨_, rfl⟩
 rw [hq0] at CV hrr
 have HR := hid hrr
 have n2 : (t.kind == 2) = false := by simpa using hk2
 have n3 : (t.kind == 3) = false := by simpa using hk3
 have n4 : (t.kind == 4) = false := by simpa using hk4
 clear hrr ht hf he hk2 hk3 hk4 hq0 H HS
 go_enter Tryz.func21, Tryz.ntmps21
 go_upto_region 1 with (fail)
 rw [← hW0, ← hB]
 clear hW0 hB
 obtain ⟨c0, c1, c2, c3⟩ := cell4 ((Ext.refl none' W0).heap G0.out fun h => h)
 go_upto_region 3 with (fail)
 clear c0 c1 c2 c3
 obtain ⟨w1, hw1⟩ : ∃ w1, w1 = (W0.alloc (.cells #[.int .i64 0, .bool false] 50)) := ⟨_, rfl⟩
 have XX := hid (show Ext none' W0 w1 by rw [hw1]; exact (Ext.refl _ _).alloc _)
 have G1 := hid (show w1.heap[W0.heap.size]? = some (.cells #[.int .i64 0, .bool false] 50 (0, 0)) by rw [hw1]; exact heap_alloc_at rfl _)
 rw [← hw1]
 clear hw1
 obtain ⟨C, hC⟩ : ∃ C, C = W0.heap.size := ⟨_, rfl⟩
 rw [← hC] at G1 ⊢
 clear hC
 obtain ⟨c0, c1, c2, c3⟩ := cellx XX.out G0.out
 obtain ⟨x0, x1⟩ := cell2 G1.out
 go_wp2_with fail
 refine (CV.out _ (X0.out.trans XX.out) (HY.out.ext isNd_good (X0.out.trans XX.out) fun _ _ h => h)).mono ?_
 rintro e w2 ⟨rfl, X2⟩
 have XX := hid (XX.out.trans X2)
 clear x0 x1 c0 c1 c2 c3
 go_wp2_with fail
 go_ret
 exact ⟨by rw [HR.out]; rfl, X0.out.trans XX.out⟩
theorem sd_type (f : Nat) (hf : f + 1 ≤ 1100000) (t : Nd) (ht : t.size ≤ f + 1) (hk : t.kind = 3) (he : namB nmB 3 [parsB (tyF nmB f), orB (orB (tyF nmB f) (structB (tyF nmB f))) (interB (tyF nmB f))] t = true) (hns : (t.kid 1).kind ≠ 13) (v : Value) (w : World) (hm : MaxL w) (hv : NdV none' w t v) :
 Calls Tryz.prog 21 #[v] w (StrPost (wType ++ t.text ++ parsT (typF f) (t.kid 0) ++ [32] ++ inT (typF f) (t.kid 1)) w) := by
 obtain ⟨H, HS⟩ := sh_all f (by omega)
 obtain ⟨y, rfl, hy⟩ := hv
 have HY := hid hy
 obtain ⟨a1, cap1, rfl, hcap, _⟩ := hy
 have hkl : t.kids.length ≤ 1100000 := by have := t.kids_len; omega
 obtain ⟨B, W0, hB, hW0, X0, G0⟩ := boxed w (.cells #[.int .i64 3, .string ⟨t.text.toArray⟩, .slice a1 t.kids.length cap1, .int .i64 t.pos] 24)
 obtain ⟨rr, hrr⟩ : ∃ r, r = wType ++ t.text ++ parsT (typF f) (t.kid 0) ++ [32] ++ inT (typF f) (t.kid 1) := ⟨_, rfl⟩
 rw [← hrr]
 obtain ⟨hk9, htn, h3⟩ := namB_parts he
 obtain ⟨x, y, hkx, hx1, hy1⟩ := two_kids h3
 obtain ⟨hx0, hy0⟩ := kid_two hkx
 have hsz := size_two hkx
 have hl : t.kids.length = 2 := by rw [hkx]; rfl
 have y0 : (0 : Int) < (t.kids.length : Int) := by omega
 have y1 : (1 : Int) < (t.kids.length : Int) := by omega
 have htl := nmB_len _ htn
 have hpl := (pars_len (by omega) hx1).1
 have l0 : (parsT (typF f) (t.kid 0)).length ≤ 10000000000000 := by rw [hx0]; omega
 have C0 := hid fun W v' (hv' : NdV none' W (t.kid 0) v') => shparams_any f hf (t.kid 0) (by rw [hx0]; omega) (by rw [hx0]; exact hx1) v' W hv'
 obtain ⟨o0, ho0⟩ : ∃ o, parsT (typF f) (t.kid 0) = o := ⟨_, rfl⟩
 rw [ho0] at hrr C0 l0
 have hyD : TyiD f y := ⟨by omega, by
  unfold orB at hy1
  simp only [Bool.or_eq_true] at hy1
  rcases hy1 with (h | h) | h
  · exact .inr ⟨by omega, h⟩
  · exfalso
    unfold structB at h
    simp only [Bool.and_eq_true, beq_iff_eq] at h
    rw [hy0] at hns
    exact hns h.1
  · exact .inl h⟩
 have hl1 := inT_len hyD
 have l1 : (inT (typF f) (t.kid 1)).length ≤ 10000000000000 := by rw [hy0]; omega
 have C1 := hid fun W v' (hv' : NdV none' W (t.kid 1) v') => typi_any f hf (t.kid 1) (by rw [hy0]; exact hyD) v' W hv'
 obtain ⟨o1, ho1⟩ : ∃ o, inT (typF f) (t.kid 1) = o := ⟨_, rfl⟩
 rw [ho1] at hrr C1 l1
 have q13 : ((t.kid 1).kind != 13) = true := by simpa using hns
 have cat1 := str_cat [116, 121, 112, 101, 32] t.text
 have cat2 := str_cat ([116, 121, 112, 101, 32] ++ t.text) o0
 have cat3 := str_cat ([116, 121, 112, 101, 32] ++ (t.text ++ o0)) [32]
 have cat4 := str_cat ([116, 121, 112, 101, 32] ++ (t.text ++ (o0 ++ [32]))) o1
 simp only [List.append_assoc, List.cons_append, List.nil_append] at cat1 cat2 cat3 cat4
 have HR := hid hrr
 rw [hk]
 clear hrr ht hf he hk htn h3 hkx hx1 hy1 hx0 hy0 hsz hl ho0 hpl H HS hk9 ho1 hyD hl1 hns
 go_enter Tryz.func21, Tryz.ntmps21
 go_upto_region 1 with (fail)
 rw [← hW0, ← hB]
 clear hW0 hB
 obtain ⟨b, off, ka0, kc0, rfl, HBW, HZ0, KK0⟩ := kidA (HY.out.ext isNd_good X0.out fun _ _ h => h) (by omega)
 obtain ⟨ka1, kc1, HZ1, KK1⟩ := kidB (HY.out.ext isNd_good X0.out fun _ _ h => h) 1 4 rfl (by omega)
 obtain ⟨c0, c1, c2, c3⟩ := cell4 ((Ext.refl none' W0).heap G0.out fun h => h)
 go_upto_region 3 with (fail)
 clear c0 c1 c2 c3
 obtain ⟨w1, hw1⟩ : ∃ w1, w1 = (W0.alloc (.cells #[.int .i64 0, .bool false] 50)) := ⟨_, rfl⟩
 have XX := hid (show Ext none' W0 w1 by rw [hw1]; exact (Ext.refl _ _).alloc _)
 have G1 := hid (show w1.heap[W0.heap.size]? = some (.cells #[.int .i64 0, .bool false] 50 (0, 0)) by rw [hw1]; exact heap_alloc_at rfl _)
 rw [← hw1]
 clear hw1
 obtain ⟨C, hC⟩ : ∃ C, C = W0.heap.size := ⟨_, rfl⟩
 rw [← hC] at G1 ⊢
 clear hC
 obtain ⟨c0, c1, c2, c3⟩ := cellx XX.out G0.out
 obtain ⟨m10, m11, m12, m13⟩ := kid' XX.out HBW.out KK1.out
 go_upto_region 8 with (fail)
 clear c0 c1 c2 c3 m10 m11 m12 m13
 have c1 := fun t' : LaterF none' w1 => cell_at (((XX.out).trans t'.x).heap G0.out fun h => h) 1
 simp only [List.getElem?_toArray, List.getElem?_cons_zero, List.getElem?_cons_succ] at c1
 obtain ⟨m00, m01, m02, m03⟩ := kidL (w1 := w1) XX.out HBW.out KK0.out
 obtain ⟨m10, m11, m12, m13⟩ := kidL (w1 := w1) XX.out HBW.out KK1.out
 refine region_q none' w1 (.qs [0, 1, 2, 3, 4, 5, 9, 10, 11] (.one 6 true (.qs [7, 8] (.one 12 true (.qs [13, 14] .fin))))) (by kernel_rfl) (by kernel_rfl) (fun dst v c a w h => by cases dst <;> exact h) ?_
 refine ⟨In.of (Ext.refl _ _).drew, ?_⟩
 change wpQuiet _ _ (fun w' => ∃ t : LaterF none' w1, w' = t.w) _ _ _
 simp only [sel, List.getElem?_cons_succ, List.getElem?_cons_zero]
 repeat (go_big_quiet_step (fail))
 refine wpQuiet_nil ?_
 simp only [wpTreeQ, stepT, sel, List.getElem?_cons_succ, List.getElem?_cons_zero]
 have D1 := hid (Ext.refl none' w1).drew
 clear m00 m01 m02 m03 m10 m11 m12 m13 c1
 go_wp2_with fail
 refine (C0.out _ _ ⟨_, rfl, HZ0.out.ext isNd_good (XX.out.trans D1.out) fun _ _ h => h⟩).mono ?_
 rintro e w2 ⟨rfl, X2⟩
 have X9 := hid (D1.out.trans X2)
 clear X2
 go_wp2_with fail
 refine ⟨In.of X9.out, In.of X9.out, ?_⟩
 change wpQuiet _ _ (fun w' => ∃ t : LaterF none' w1, w' = t.w) _ _ _
 repeat (go_big_quiet_step (fail))
 refine wpQuiet_nil ?_
 go_wp2_with fail
 refine (C1.out _ _ ⟨_, rfl, HZ1.out.ext isNd_good (XX.out.trans X9.out) fun _ _ h => h⟩).mono ?_
 rintro e w3 ⟨rfl, X2⟩
 have X9 := hid (X9.out.trans X2)
 clear X2
 go_wp2_with fail
 refine ⟨In.of X9.out, In.of X9.out, ?_⟩
 change wpQuiet _ _ (fun w' => ∃ t : LaterF none' w1, w' = t.w) _ _ _
 repeat (go_big_quiet_step (fail))
 refine wpQuiet_nil ?_
 go_wp2_with fail
 go_ret
 exact ⟨by rw [HR.out]; simp [wType], X0.out.trans (XX.out.trans X9.out)⟩
theorem sd_alias (f : Nat) (hf : f + 1 ≤ 1100000) (t : Nd) (ht : t.size ≤ f + 1) (hk : t.kind = 4) (he : namB nmB 4 [parsB (tyF nmB f), tyF nmB f] t = true) (v : Value) (w : World) (hm : MaxL w) (hv : NdV none' w t v) :
 Calls Tryz.prog 21 #[v] w (StrPost (wType ++ t.text ++ parsT (typF f) (t.kid 0) ++ [32, 61, 32] ++ typF f (t.kid 1)) w) := by
 obtain ⟨H, HS⟩ := sh_all f (by omega)
 obtain ⟨y, rfl, hy⟩ := hv
 have HY := hid hy
 obtain ⟨a1, cap1, rfl, hcap, _⟩ := hy
 have hkl : t.kids.length ≤ 1100000 := by have := t.kids_len; omega
 obtain ⟨B, W0, hB, hW0, X0, G0⟩ := boxed w (.cells #[.int .i64 4, .string ⟨t.text.toArray⟩, .slice a1 t.kids.length cap1, .int .i64 t.pos] 24)
 obtain ⟨rr, hrr⟩ : ∃ r, r = wType ++ t.text ++ parsT (typF f) (t.kid 0) ++ [32, 61, 32] ++ typF f (t.kid 1) := ⟨_, rfl⟩
 rw [← hrr]
 obtain ⟨hk9, htn, h3⟩ := namB_parts he
 obtain ⟨x, y, hkx, hx1, hy1⟩ := two_kids h3
 obtain ⟨hx0, hy0⟩ := kid_two hkx
 have hsz := size_two hkx
 have hl : t.kids.length = 2 := by rw [hkx]; rfl
 have y0 : (0 : Int) < (t.kids.length : Int) := by omega
 have y1 : (1 : Int) < (t.kids.length : Int) := by omega
 have htl := nmB_len _ htn
 have hpl := (pars_len (by omega) hx1).1
 have l0 : (parsT (typF f) (t.kid 0)).length ≤ 10000000000000 := by rw [hx0]; omega
 have C0 := hid fun W v' (hv' : NdV none' W (t.kid 0) v') => shparams_any f hf (t.kid 0) (by rw [hx0]; omega) (by rw [hx0]; exact hx1) v' W hv'
 obtain ⟨o0, ho0⟩ : ∃ o, parsT (typF f) (t.kid 0) = o := ⟨_, rfl⟩
 rw [ho0] at hrr C0 l0
 have hl1 := ty_len hy1 (show y.size ≤ f by omega)
 have l1 : (typF f (t.kid 1)).length ≤ 10000000000000 := by rw [hy0]; omega
 have C1 := hid fun W v' (hv' : NdV none' W (t.kid 1) v') => typ_any f (by unfold bigD; omega) (t.kid 1) (by rw [hy0]; exact ⟨by omega, hy1⟩) v' W hv'
 obtain ⟨o1, ho1⟩ : ∃ o, typF f (t.kid 1) = o := ⟨_, rfl⟩
 rw [ho1] at hrr C1 l1
 have cat1 := str_cat [116, 121, 112, 101, 32] t.text
 have cat2 := str_cat ([116, 121, 112, 101, 32] ++ t.text) o0
 have cat3 := str_cat ([116, 121, 112, 101, 32] ++ (t.text ++ o0)) [32, 61, 32]
 have cat4 := str_cat ([116, 121, 112, 101, 32] ++ (t.text ++ (o0 ++ [32, 61, 32]))) o1
 simp only [List.append_assoc, List.cons_append, List.nil_append] at cat1 cat2 cat3 cat4
 have HR := hid hrr
 rw [hk]
 clear hrr ht hf he hk htn h3 hkx hx1 hy1 hx0 hy0 hsz hl ho0 hpl H HS hk9 ho1 hl1
 go_enter Tryz.func21, Tryz.ntmps21
 go_upto_region 1 with (fail)
 rw [← hW0, ← hB]
 clear hW0 hB
 obtain ⟨b, off, ka0, kc0, rfl, HBW, HZ0, KK0⟩ := kidA (HY.out.ext isNd_good X0.out fun _ _ h => h) (by omega)
 obtain ⟨ka1, kc1, HZ1, KK1⟩ := kidB (HY.out.ext isNd_good X0.out fun _ _ h => h) 1 4 rfl (by omega)
 obtain ⟨c0, c1, c2, c3⟩ := cell4 ((Ext.refl none' W0).heap G0.out fun h => h)
 go_upto_region 3 with (fail)
 clear c0 c1 c2 c3
 obtain ⟨w1, hw1⟩ : ∃ w1, w1 = (W0.alloc (.cells #[.int .i64 0, .bool false] 50)) := ⟨_, rfl⟩
 have XX := hid (show Ext none' W0 w1 by rw [hw1]; exact (Ext.refl _ _).alloc _)
 have G1 := hid (show w1.heap[W0.heap.size]? = some (.cells #[.int .i64 0, .bool false] 50 (0, 0)) by rw [hw1]; exact heap_alloc_at rfl _)
 rw [← hw1]
 clear hw1
 obtain ⟨C, hC⟩ : ∃ C, C = W0.heap.size := ⟨_, rfl⟩
 rw [← hC] at G1 ⊢
 clear hC
 obtain ⟨c0, c1, c2, c3⟩ := cellx XX.out G0.out
 obtain ⟨m10, m11, m12, m13⟩ := kid' XX.out HBW.out KK1.out
 go_upto_region 17 with (fail)
 clear c0 c1 c2 c3 m10 m11 m12 m13
 have c1 := fun t' : LaterF none' w1 => cell_at (((XX.out).trans t'.x).heap G0.out fun h => h) 1
 simp only [List.getElem?_toArray, List.getElem?_cons_zero, List.getElem?_cons_succ] at c1
 obtain ⟨m00, m01, m02, m03⟩ := kidL (w1 := w1) XX.out HBW.out KK0.out
 obtain ⟨m10, m11, m12, m13⟩ := kidL (w1 := w1) XX.out HBW.out KK1.out
 refine region_q none' w1 (.qs [0, 1, 2, 3, 4, 5, 9, 10, 11] (.one 6 true (.qs [7, 8] (.one 12 true (.qs [13, 14] .fin))))) (by kernel_rfl) (by kernel_rfl) (fun dst v c a w h => by cases dst <;> exact h) ?_
 refine ⟨In.of (Ext.refl _ _).drew, ?_⟩
 change wpQuiet _ _ (fun w' => ∃ t : LaterF none' w1, w' = t.w) _ _ _
 simp only [sel, List.getElem?_cons_succ, List.getElem?_cons_zero]
 repeat (go_big_quiet_step (fail))
 refine wpQuiet_nil ?_
 simp only [wpTreeQ, stepT, sel, List.getElem?_cons_succ, List.getElem?_cons_zero]
 have D1 := hid (Ext.refl none' w1).drew
 clear m00 m01 m02 m03 m10 m11 m12 m13 c1
 go_wp2_with fail
 refine (C0.out _ _ ⟨_, rfl, HZ0.out.ext isNd_good (XX.out.trans D1.out) fun _ _ h => h⟩).mono ?_
 rintro e w2 ⟨rfl, X2⟩
 have X9 := hid (D1.out.trans X2)
 clear X2
 go_wp2_with fail
 refine ⟨In.of X9.out, In.of X9.out, ?_⟩
 change wpQuiet _ _ (fun w' => ∃ t : LaterF none' w1, w' = t.w) _ _ _
 repeat (go_big_quiet_step (fail))
 refine wpQuiet_nil ?_
 go_wp2_with fail
 refine (C1.out _ _ ⟨_, rfl, HZ1.out.ext isNd_good (XX.out.trans X9.out) fun _ _ h => h⟩).mono ?_
 rintro e w3 ⟨rfl, X2⟩
 have X9 := hid (X9.out.trans X2)
 clear X2
 go_wp2_with fail
 refine ⟨In.of X9.out, In.of X9.out, ?_⟩
 change wpQuiet _ _ (fun w' => ∃ t : LaterF none' w1, w' = t.w) _ _ _
 repeat (go_big_quiet_step (fail))
 refine wpQuiet_nil ?_
 go_wp2_with fail
 go_ret
 exact ⟨by rw [HR.out]; simp [wType], X0.out.trans (XX.out.trans X9.out)⟩
theorem sd_func (f : Nat) (hf : f + 1 ≤ 1100000) (t : Nd) (ht : t.size ≤ f + 1) (hk : t.kind = 2) (he : namB nmB 2 [parsB (tyF nmB f), sigB (tyF nmB f) nmB, blkB (stF f)] t = true) (v : Value) (w : World) (hm : MaxL w) (hv : NdV none' w t v) :
 Calls Tryz.prog 21 #[v] w (StrPost ([102, 117, 110, 99, 32] ++ t.text ++ parsT (typF f) (t.kid 0) ++ sigT (typF f) (t.kid 1) ++ [32] ++ blT (stT f) 0 (t.kid 2)) w) := by
 obtain ⟨H, HS⟩ := sh_all f (by omega)
 obtain ⟨y, rfl, hy⟩ := hv
 have HY := hid hy
 obtain ⟨a1, cap1, rfl, hcap, _⟩ := hy
 have hkl : t.kids.length ≤ 1100000 := by have := t.kids_len; omega
 obtain ⟨B, W0, hB, hW0, X0, G0⟩ := boxed w (.cells #[.int .i64 2, .string ⟨t.text.toArray⟩, .slice a1 t.kids.length cap1, .int .i64 t.pos] 24)
 obtain ⟨rr, hrr⟩ : ∃ r, r = [102, 117, 110, 99, 32] ++ t.text ++ parsT (typF f) (t.kid 0) ++ sigT (typF f) (t.kid 1) ++ [32] ++ blT (stT f) 0 (t.kid 2) := ⟨_, rfl⟩
 rw [← hrr]
 obtain ⟨hk9, htn, h3⟩ := namB_parts he
 obtain ⟨x, y, z, hkx, hx1, hy1, hz1⟩ := three_kids h3
 obtain ⟨hx0, hy0, hz0⟩ := kid_three hkx
 have hsz := size_three hkx
 have hl : t.kids.length = 3 := by rw [hkx]; rfl
 have y0 : (0 : Int) < (t.kids.length : Int) := by omega
 have y1 : (1 : Int) < (t.kids.length : Int) := by omega
 have y2 : (2 : Int) < (t.kids.length : Int) := by omega
 have htl := nmB_len _ htn
 have hpl := (pars_len (by omega) hx1).1
 have l0 : (parsT (typF f) (t.kid 0)).length ≤ 10000000000000 := by rw [hx0]; omega
 have C0 := hid fun W v' (hv' : NdV none' W (t.kid 0) v') => shparams_any f hf (t.kid 0) (by rw [hx0]; omega) (by rw [hx0]; exact hx1) v' W hv'
 obtain ⟨o0, ho0⟩ : ∃ o, parsT (typF f) (t.kid 0) = o := ⟨_, rfl⟩
 rw [ho0] at hrr C0 l0
 have hsl := sigT_len nmB_len hy1 (show y.size ≤ f + 1 by omega)
 have hbl := blk_len (deep := 0) (st := stT f) (f := f) (by omega) (fun z hm hz => (lens_all f 1 (by omega)).2 z (by have := Nd.size_kid hm; omega) hz) hz1
 have l1 : (sigT (typF f) (t.kid 1)).length ≤ 10000000000000 := by rw [hy0]; omega
 have l2 : (blT (stT f) 0 (t.kid 2)).length ≤ 10000000000000 := by rw [hz0]; omega
 have C1 := hid fun W v' (hv' : NdV none' W (t.kid 1) v') => signature_any f (by unfold bigD; omega) (t.kid 1) (by rw [hy0]; omega) (by rw [hy0]; exact hy1) v' W hv'
 have C2 := hid fun W (X : Ext none' w W) v' (hv' : NdV none' W (t.kid 2) v') => blk_show f HS 0 false (by omega) hf (t.kid 2) (by rw [hz0]; omega) (by rw [hz0]; exact hz1) v' W (maxL_later hm X) hv'
 obtain ⟨o1, ho1⟩ : ∃ o, sigT (typF f) (t.kid 1) = o := ⟨_, rfl⟩
 obtain ⟨o2, ho2⟩ : ∃ o, blT (stT f) 0 (t.kid 2) = o := ⟨_, rfl⟩
 rw [ho1] at hrr C1 l1
 rw [ho2] at hrr C2 l2
 have cat1 := str_cat [102, 117, 110, 99, 32] t.text
 have cat2 := str_cat ([102, 117, 110, 99, 32] ++ t.text) o0
 have cat3 := str_cat ([102, 117, 110, 99, 32] ++ (t.text ++ o0)) o1
 have cat4 := str_cat ([102, 117, 110, 99, 32] ++ (t.text ++ (o0 ++ o1))) [32]
 have cat5 := str_cat ([102, 117, 110, 99, 32] ++ (t.text ++ (o0 ++ (o1 ++ [32])))) o2
 simp only [List.append_assoc, List.cons_append, List.nil_append] at cat1 cat2 cat3 cat4 cat5
 have HR := hid hrr
 rw [hk]
 clear hrr ht hf he hk htn h3 hkx hx1 hy1 hx0 hy0 hsz hl ho0 hpl H HS hk9 hz1 hz0 hsl hbl ho1 ho2
 go_enter Tryz.func21, Tryz.ntmps21
 go_upto_region 1 with (fail)
 rw [← hW0, ← hB]
 clear hW0 hB
 obtain ⟨b, off, ka0, kc0, rfl, HBW, HZ0, KK0⟩ := kidA (HY.out.ext isNd_good X0.out fun _ _ h => h) (by omega)
 obtain ⟨ka1, kc1, HZ1, KK1⟩ := kidB (HY.out.ext isNd_good X0.out fun _ _ h => h) 1 4 rfl (by omega)
 obtain ⟨ka2, kc2, HZ2, KK2⟩ := kidB (HY.out.ext isNd_good X0.out fun _ _ h => h) 2 8 rfl (by omega)
 obtain ⟨c0, c1, c2, c3⟩ := cell4 ((Ext.refl none' W0).heap G0.out fun h => h)
 go_upto_region 3 with (fail)
 clear c0 c1 c2 c3
 obtain ⟨w1, hw1⟩ : ∃ w1, w1 = (W0.alloc (.cells #[.int .i64 0, .bool false] 50)) := ⟨_, rfl⟩
 have XX := hid (show Ext none' W0 w1 by rw [hw1]; exact (Ext.refl _ _).alloc _)
 have G1 := hid (show w1.heap[W0.heap.size]? = some (.cells #[.int .i64 0, .bool false] 50 (0, 0)) by rw [hw1]; exact heap_alloc_at rfl _)
 rw [← hw1]
 clear hw1
 obtain ⟨C, hC⟩ : ∃ C, C = W0.heap.size := ⟨_, rfl⟩
 rw [← hC] at G1 ⊢
 clear hC
 obtain ⟨c0, c1, c2, c3⟩ := cellx XX.out G0.out
 go_upto_region 5 with (fail)
 clear c0 c1 c2 c3
 have c1 := fun t' : LaterF none' w1 => cell_at (((XX.out).trans t'.x).heap G0.out fun h => h) 1
 simp only [List.getElem?_toArray, List.getElem?_cons_zero, List.getElem?_cons_succ] at c1
 obtain ⟨x0, x1⟩ := cell2L fun t' : LaterF none' w1 => (((Ext.refl none' w1)).trans t'.x).heap G1.out fun h => h
 obtain ⟨m00, m01, m02, m03⟩ := kidL (w1 := w1) XX.out HBW.out KK0.out
 obtain ⟨m10, m11, m12, m13⟩ := kidL (w1 := w1) XX.out HBW.out KK1.out
 obtain ⟨m20, m21, m22, m23⟩ := kidL (w1 := w1) XX.out HBW.out KK2.out
 refine region_q none' w1 (.qs [0, 1, 2, 3, 4, 5, 8, 9, 10, 14, 15, 16, 17] (.one 6 true (.qs [7] (.one 11 true (.qs [12, 13] (.one 18 true (.qs [19, 20] .fin))))))) (by kernel_rfl) (by kernel_rfl) (fun dst v c a w h => by cases dst <;> exact h) ?_
 refine ⟨In.of (Ext.refl _ _).drew, ?_⟩
 change wpQuiet _ _ (fun w' => ∃ t : LaterF none' w1, w' = t.w) _ _ _
 simp only [sel, List.getElem?_cons_succ, List.getElem?_cons_zero]
 repeat (go_big_quiet_step (fail))
 refine wpQuiet_nil ?_
 simp only [wpTreeQ, stepT, sel, List.getElem?_cons_succ, List.getElem?_cons_zero]
 have D1 := hid (Ext.refl none' w1).drew
 clear m00 m01 m02 m03 m10 m11 m12 m13 m20 m21 m22 m23 c1 x0 x1
 go_wp2_with fail
 refine (C0.out _ _ ⟨_, rfl, HZ0.out.ext isNd_good (XX.out.trans D1.out) fun _ _ h => h⟩).mono ?_
 rintro e w2 ⟨rfl, X2⟩
 have X9 := hid (D1.out.trans X2)
 clear X2
 go_wp2_with fail
 refine ⟨In.of X9.out, In.of X9.out, ?_⟩
 change wpQuiet _ _ (fun w' => ∃ t : LaterF none' w1, w' = t.w) _ _ _
 repeat (go_big_quiet_step (fail))
 refine wpQuiet_nil ?_
 go_wp2_with fail
 refine (C1.out _ _ ⟨_, rfl, HZ1.out.ext isNd_good (XX.out.trans X9.out) fun _ _ h => h⟩).mono ?_
 rintro e w3 ⟨rfl, X2⟩
 have X9 := hid (X9.out.trans X2)
 clear X2
 go_wp2_with fail
 refine ⟨In.of X9.out, In.of X9.out, ?_⟩
 change wpQuiet _ _ (fun w' => ∃ t : LaterF none' w1, w' = t.w) _ _ _
 repeat (go_big_quiet_step (fail))
 refine wpQuiet_nil ?_
 go_wp2_with fail
 refine (C2.out _ (X0.out.trans (XX.out.trans X9.out)) _ ⟨_, rfl, HZ2.out.ext isNd_good (XX.out.trans X9.out) fun _ _ h => h⟩).mono ?_
 rintro e w4 ⟨rfl, X2⟩
 have X9 := hid (X9.out.trans X2)
 clear X2
 go_wp2_with fail
 refine ⟨In.of X9.out, In.of X9.out, ?_⟩
 change wpQuiet _ _ (fun w' => ∃ t : LaterF none' w1, w' = t.w) _ _ _
 repeat (go_big_quiet_step (fail))
 refine wpQuiet_nil ?_
 go_wp2_with fail
 go_ret
 exact ⟨by rw [HR.out]; simp, X0.out.trans (XX.out.trans X9.out)⟩
def fldF (ty : Nd → List UInt8) (x : Nd) : List UInt8 := lineT 1 (x.text ++ [32] ++ ty (x.kid 0))
theorem fld_parts {f : Nat} {x : Nd} (h : namB nmB 9 [tyF nmB f] x = true) (hs : x.size ≤ f + 1) : ParD (TyD f) (typF f) x ∨ f + 1 > 1100000 := by
 by_cases hf : f + 1 ≤ 1100000
 · obtain ⟨_, h2, h3⟩ := namB_parts h
   obtain ⟨y, hk, hy⟩ := one_kid h3
   have h5 := size_one hk
   have h6 := nmB_len _ h2
   have h7 := ty_len hy (show y.size ≤ f by omega)
   refine .inl ⟨by rw [hk]; simp, by rw [kid_one hk]; exact ⟨by omega, hy⟩, by rw [kid_one hk]; omega⟩
 · exact .inr (by omega)
theorem fld_text {f : Nat} {x : Nd} (h : namB nmB 9 [tyF nmB f] x = true) : parF (typF f) x = x.text ++ [32] ++ typF f (x.kid 0) := by
 obtain ⟨_, h2, h3⟩ := namB_parts h
 obtain ⟨y, hk, hy⟩ := one_kid h3
 exact parF_text (fun e => by rw [e, nmB_nil'] at h2; cases h2) (by rw [kid_one hk]; exact ty_ne hy)
theorem fld_len {f : Nat} {x : Nd} (h : namB nmB 9 [tyF nmB f] x = true) (hs : x.size ≤ f + 1) : (fldF (typF f) x).length ≤ 4000000 * x.size ∧ (parF (typF f) x).length ≤ 4000000 * x.size := by
 rw [fld_text h]
 obtain ⟨_, h2, h3⟩ := namB_parts h
 obtain ⟨y, hk, hy⟩ := one_kid h3
 have h5 := size_one hk
 have h6 := nmB_len _ h2
 have h7 := ty_len hy (show y.size ≤ f by omega)
 unfold fldF lineT
 rw [kid_one hk]
 simp only [List.length_append, tabsT_len, List.length_cons, List.length_nil]
 omega
theorem sd_struct (f : Nat) (hf : f + 1 ≤ 1100000) (t : Nd) (ht : t.size ≤ f + 1) (hk : t.kind = 3) (he : namB nmB 3 [parsB (tyF nmB f), orB (orB (tyF nmB f) (structB (tyF nmB f))) (interB (tyF nmB f))] t = true) (hst : (t.kid 1).kind = 13) (v : Value) (w : World) (hm : MaxL w) (hv : NdV none' w t v) :
 Calls Tryz.prog 21 #[v] w (StrPost (wType ++ t.text ++ parsT (typF f) (t.kid 0) ++ [32] ++ ([115, 116, 114, 117, 99, 116, 32, 123, 10] ++ ((t.kid 1).kids.map fun x => lineT 1 (x.text ++ [32] ++ typF f (x.kid 0))).flatten ++ [125])) w) := by
 obtain ⟨H, HS⟩ := sh_all f (by omega)
 obtain ⟨y, rfl, hy⟩ := hv
 have HY := hid hy
 obtain ⟨a1, cap1, rfl, hcap, _⟩ := hy
 have hkl : t.kids.length ≤ 1100000 := by have := t.kids_len; omega
 obtain ⟨B, W0, hB, hW0, X0, G0⟩ := boxed w (.cells #[.int .i64 3, .string ⟨t.text.toArray⟩, .slice a1 t.kids.length cap1, .int .i64 t.pos] 24)
 obtain ⟨rr, hrr⟩ : ∃ r, r = wType ++ t.text ++ parsT (typF f) (t.kid 0) ++ [32] ++ ([115, 116, 114, 117, 99, 116, 32, 123, 10] ++ ((t.kid 1).kids.map fun x => lineT 1 (x.text ++ [32] ++ typF f (x.kid 0))).flatten ++ [125]) := ⟨_, rfl⟩
 rw [← hrr]
 obtain ⟨hk9, htn, h3⟩ := namB_parts he
 obtain ⟨x, y, hkx, hx1, hy1⟩ := two_kids h3
 obtain ⟨hx0, hy0⟩ := kid_two hkx
 have hsz := size_two hkx
 have hl : t.kids.length = 2 := by rw [hkx]; rfl
 have y0 : (0 : Int) < (t.kids.length : Int) := by omega
 have y1 : (1 : Int) < (t.kids.length : Int) := by omega
 have htl := nmB_len _ htn
 have hpl := (pars_len (by omega) hx1).1
 have l0 : (parsT (typF f) (t.kid 0)).length ≤ 10000000000000 := by rw [hx0]; omega
 have C0 := hid fun W v' (hv' : NdV none' W (t.kid 0) v') => shparams_any f hf (t.kid 0) (by rw [hx0]; omega) (by rw [hx0]; exact hx1) v' W hv'
 obtain ⟨o0, ho0⟩ : ∃ o, parsT (typF f) (t.kid 0) = o := ⟨_, rfl⟩
 rw [ho0] at hrr C0 l0
 have hys : structB (tyF nmB f) y = true := by
  unfold orB at hy1
  simp only [Bool.or_eq_true] at hy1
  rw [hy0] at hst
  rcases hy1 with (h | h) | h
  · have := tyF_kind h; omega
  · exact h
  · have := (interB_parts h).1; omega
 have hkb : ∀ x ∈ (t.kid 1).kids, namB nmB 9 [tyF nmB f] x = true := by
  rw [hy0]
  unfold structB at hys
  simp only [Bool.and_eq_true, List.all_eq_true] at hys
  exact hys.2.2
 have hyz : (t.kid 1).size ≤ f + 1 := by rw [hy0]; omega
 have hksz : ∀ x ∈ (t.kid 1).kids, x.size ≤ f + 1 := fun x hx => by have := Nd.size_kid hx; omega
 have hkl1 : (t.kid 1).kids.length ≤ 1100000 := by have := (t.kid 1).kids_len; omega
 have hz := size_kids (t.kid 1)
 obtain ⟨g, hg⟩ : ∃ g, g = fldF (typF f) := ⟨_, rfl⟩
 have hgl : ∀ x ∈ (t.kid 1).kids, (g x).length ≤ 4000000 * x.size := fun x hx => by rw [hg]; exact (fld_len (hkb x hx) (hksz x hx)).1
 have cat1 := str_cat [116, 121, 112, 101, 32] t.text
 have cat2 := str_cat ([116, 121, 112, 101, 32] ++ t.text) o0
 have cat3 := str_cat ([116, 121, 112, 101, 32] ++ (t.text ++ o0)) [32, 115, 116, 114, 117, 99, 116, 32, 123, 10]
 simp only [List.append_assoc, List.cons_append, List.nil_append] at cat1 cat2 cat3
 obtain ⟨acc, hacc⟩ : ∃ acc : Nat → List UInt8, acc = fun i => [116, 121, 112, 101, 32] ++ (t.text ++ (o0 ++ [32, 115, 116, 114, 117, 99, 116, 32, 123, 10])) ++ (((t.kid 1).kids.take i).map g).flatten := ⟨_, rfl⟩
 have AL := hid (show ∀ i, (acc i).length ≤ 100000000000000 by
  intro i
  have h1 := flat_len (p := g) (l := (t.kid 1).kids.take i) fun x hx => hgl x (List.mem_of_mem_take hx)
  have h2 : Nd.sizeL ((t.kid 1).kids.take i) ≤ Nd.sizeL (t.kid 1).kids := by
   conv => rhs; rw [← List.take_append_drop i (t.kid 1).kids]
   clear h1
   generalize (t.kid 1).kids.take i = a
   induction a with
   | nil => simp [Nd.sizeL]
   | cons x r ih => simp only [List.cons_append, Nd.sizeL]; omega
  rw [hacc]
  simp only [List.length_append, List.length_cons, List.length_nil]
  omega)
 have A1 := hid (show ∀ i (h : i < (t.kid 1).kids.length), acc (i + 1) = acc i ++ g (t.kid 1).kids[i] by
  intro i h
  rw [hacc]
  show _ ++ (((t.kid 1).kids.take (i + 1)).map g).flatten = _ ++ (((t.kid 1).kids.take i).map g).flatten ++ g (t.kid 1).kids[i]
  rw [List.take_add_one, List.getElem?_eq_getElem h, List.map_append, List.flatten_append]
  simp)
 have A0 := hid (show 116 :: 121 :: 112 :: 101 :: 32 :: (t.text ++ (o0 ++ [32, 115, 116, 114, 117, 99, 116, 32, 123, 10])) = acc 0 by rw [hacc]; simp)
 have HR := hid (show rr = acc (t.kid 1).kids.length ++ [125] by
  have e : fldF (typF f) = fun x => lineT 1 (x.text ++ [32] ++ typF f (x.kid 0)) := rfl
  rw [hrr, hacc, hg, e]
  simp [wType])
 have GL := hid (show ∀ i (h : i < (t.kid 1).kids.length), (g (t.kid 1).kids[i]).length ≤ 10000000000000 by
  intro i h
  have h1 := hgl _ (List.getElem_mem h)
  have h2 := Nd.size_kid (List.getElem_mem h)
  omega)
 have CP := hid fun i (h : i < (t.kid 1).kids.length) W v' (hv' : NdV none' W (t.kid 1).kids[i] v') => (by
  have hm := List.getElem_mem h
  obtain ⟨p1, p2, p3⟩ := (fld_parts (hkb _ hm) (hksz _ hm)).resolve_right (by omega)
  exact param_any (TyD f) (typF f) (typ_any f (by unfold bigD; omega)) _ p1 p2 p3 v' W hv' : Calls Tryz.prog 44 #[v'] W (StrPost (parF (typF f) (t.kid 1).kids[i]) W))
 have CL := hid fun i (h : i < (t.kid 1).kids.length) W => (by
  have hm := List.getElem_mem h
  have h1 := (fld_len (hkb _ hm) (hksz _ hm)).2
  have h2 := Nd.size_kid hm
  have h3 := line_any 1 (by omega) false (parF (typF f) (t.kid 1).kids[i]) (by omega) W
  rw [hg]
  unfold fldF
  rw [← fld_text (hkb _ hm)]
  exact h3 : Calls Tryz.prog 43 #[shV 1 false, .string ⟨(parF (typF f) (t.kid 1).kids[i]).toArray⟩] W (StrPost (g (t.kid 1).kids[i]) W))
 have CI := hid fun W => shin_any 0 (by omega) false W
 have q13 : ((t.kid 1).kind != 13) = false := by simpa using hst
 rw [hk]
 clear hrr ht hf he hk htn h3 hkx hx1 hy1 hx0 hy0 hsz hl ho0 hpl H HS hk9 hst hys hkb hyz hksz hz hg hgl hacc
 go_enter Tryz.func21, Tryz.ntmps21
 go_upto_region 1 with (fail)
 rw [← hW0, ← hB]
 clear hW0 hB
 obtain ⟨b, off, ka0, kc0, rfl, HBW, HZ0, KK0⟩ := kidA (HY.out.ext isNd_good X0.out fun _ _ h => h) (by omega)
 obtain ⟨ka1, kc1, HZ1, KK1⟩ := kidB (HY.out.ext isNd_good X0.out fun _ _ h => h) 1 4 rfl (by omega)
 obtain ⟨c0, c1, c2, c3⟩ := cell4 ((Ext.refl none' W0).heap G0.out fun h => h)
 go_upto_region 3 with (fail)
 clear c0 c1 c2 c3
 obtain ⟨w1, hw1⟩ : ∃ w1, w1 = (W0.alloc (.cells #[.int .i64 0, .bool false] 50)) := ⟨_, rfl⟩
 have XX := hid (show Ext none' W0 w1 by rw [hw1]; exact (Ext.refl _ _).alloc _)
 have G1 := hid (show w1.heap[W0.heap.size]? = some (.cells #[.int .i64 0, .bool false] 50 (0, 0)) by rw [hw1]; exact heap_alloc_at rfl _)
 rw [← hw1]
 clear hw1
 obtain ⟨C, hC⟩ : ∃ C, C = W0.heap.size := ⟨_, rfl⟩
 rw [← hC] at G1 ⊢
 clear hC
 obtain ⟨c0, c1, c2, c3⟩ := cellx XX.out G0.out
 obtain ⟨m10, m11, m12, m13⟩ := kid' XX.out HBW.out KK1.out
 go_upto_region 9 with (fail)
 clear c0 c1 c2 c3 m10 m11 m12 m13
 have c1 := fun t' : LaterF none' w1 => cell_at (((XX.out).trans t'.x).heap G0.out fun h => h) 1
 simp only [List.getElem?_toArray, List.getElem?_cons_zero, List.getElem?_cons_succ] at c1
 obtain ⟨m00, m01, m02, m03⟩ := kidL (w1 := w1) XX.out HBW.out KK0.out
 refine region_q none' w1 (.qs [0, 1, 2, 3, 4, 5] (.one 6 true (.qs [7, 8, 9] .fin))) (by kernel_rfl) (by kernel_rfl) (fun dst v c a w h => by cases dst <;> exact h) ?_
 refine ⟨In.of (Ext.refl _ _).drew, ?_⟩
 change wpQuiet _ _ (fun w' => ∃ t : LaterF none' w1, w' = t.w) _ _ _
 simp only [sel, List.getElem?_cons_succ, List.getElem?_cons_zero]
 repeat (go_big_quiet_step (fail))
 refine wpQuiet_nil ?_
 simp only [wpTreeQ, stepT, sel, List.getElem?_cons_succ, List.getElem?_cons_zero]
 have D1 := hid (Ext.refl none' w1).drew
 clear m00 m01 m02 m03 c1
 go_wp2_with fail
 refine (C0.out _ _ ⟨_, rfl, HZ0.out.ext isNd_good (XX.out.trans D1.out) fun _ _ h => h⟩).mono ?_
 rintro e w2 ⟨rfl, X2⟩
 have X9 := hid (D1.out.trans X2)
 clear X2
 go_wp2_with fail
 refine ⟨In.of X9.out, In.of X9.out, ?_⟩
 change wpQuiet _ _ (fun w' => ∃ t : LaterF none' w1, w' = t.w) _ _ _
 repeat (go_big_quiet_step (fail))
 refine wpQuiet_nil ?_
 have GS := hid (X9.out.heap G1.out fun h => h)
 have XX := hid (XX.out.trans X9.out)
 have hk1 := HZ1.out.ext isNd_good XX.out fun _ _ h => h
 have HK := hid hk1
 clear hk1
 obtain ⟨m10, m11, m12, m13⟩ := kid' XX.out HBW.out KK1.out
 rw [A0.out]
 go_wp2_with fail
 clear m10 m11 m12 m13
 go_loopw [5, 7, 70] (fun o _ z wr => ∃ (i : Nat), z = .int .i64 (i : Nat) ∧ i ≤ (t.kid 1).kids.length ∧ o = .string ⟨(acc i).toArray⟩ ∧ Hid (Ext none' w2 wr)) (fun _ _ z _ => (t.kid 1).kids.length - (RowKit.intOf z).toNat)
 case atStart => exact ⟨0, rfl, by omega, rfl, hid (Ext.refl _ _)⟩
 case round =>
  obtain ⟨i, rfl, hle, rfl, R⟩ := hrel
  by_cases hi : i < (t.kid 1).kids.length
  · obtain ⟨b2, off2, cs, e1, _, hbw2, hcc, hty⟩ := (HK.out.ext isNd_good R.out fun _ _ h => h.elim).at i hi
    subst e1
    obtain ⟨y, rfl, hy⟩ := hty.parts
    have HYI := hid hy
    have c0 := hcc 0 _ rfl
    have c1 := hcc 1 _ rfl
    have c2 := hcc 2 _ rfl
    have c3 := hcc 3 _ rfl
    simp only [Nat.add_zero] at c0
    obtain ⟨a3, cap3, rfl, _⟩ := hy
    have CP := hid (CP.out i hi)
    have CL := hid (CL.out i hi)
    have A1 := hid (A1.out i hi)
    have hal := AL.out i
    have hgl := GL.out i hi
    obtain ⟨t1, ht1⟩ : ∃ t1, (t.kid 1).kids[i] = t1 := ⟨_, rfl⟩
    rw [ht1] at c0 c1 c2 c3 CP CL A1 hgl HYI
    obtain ⟨x1, hx1⟩ : ∃ x1, parF (typF f) t1 = x1 := ⟨_, rfl⟩
    rw [hx1] at CP CL
    obtain ⟨q1, hq1⟩ : ∃ q1, g t1 = q1 := ⟨_, rfl⟩
    rw [hq1] at CL A1 hgl
    obtain ⟨o1, ho1⟩ : ∃ o1, acc i = o1 := ⟨_, rfl⟩
    rw [ho1] at A1 hal ⊢
    have cat := str_cat o1 q1
    obtain ⟨W1, hW1⟩ : ∃ W1, W1 = wr.alloc (.cells #[.int .i64 t1.kind, .string ⟨t1.text.toArray⟩, .slice a3 t1.kids.length cap3, .int .i64 t1.pos] 24) := ⟨_, rfl⟩
    have X1 := hid (show Ext none' wr W1 by rw [hW1]; exact (Ext.refl _ _).alloc _)
    have GB := hid (show W1.heap[wr.heap.size]? = some (.cells #[.int .i64 t1.kind, .string ⟨t1.text.toArray⟩, .slice a3 t1.kids.length cap3, .int .i64 t1.pos] 24 (0, 0)) by rw [hW1]; exact heap_alloc_at rfl _)
    clear ht1 hx1 hq1 ho1 hcc hty
    go_upto_region 13 with (fail)
    rw [← hW1]
    clear hW1 c0 c1 c2 c3
    obtain ⟨BB, hBB⟩ : ∃ BB, BB = wr.heap.size := ⟨_, rfl⟩
    rw [← hBB] at GB ⊢
    clear hBB
    have R := hid (R.out.trans X1.out)
    obtain ⟨x0, x1⟩ := cell2L fun t' : LaterF none' W1 => (R.out.trans t'.x).heap GS.out fun h => h
    obtain ⟨m0, m1, m2, m3⟩ := cell4L fun t' : LaterF none' W1 => t'.x.heap GB.out fun h => h
    refine region_q none' W1 (.qs [0, 1, 3] (.one 2 true (.one 4 true (.one 5 true (.one 6 false (.one 7 false .fin)))))) (by kernel_rfl) (by kernel_rfl) (fun dst v c a w h => by cases dst <;> exact h) ?_
    refine ⟨In.of (Ext.refl _ _).drew, ?_⟩
    change wpQuiet _ _ (fun w' => ∃ t : LaterF none' W1, w' = t.w) _ _ _
    simp only [sel, List.getElem?_cons_succ, List.getElem?_cons_zero]
    repeat (go_big_quiet_step (fail))
    refine wpQuiet_nil ?_
    simp only [wpTreeQ, stepT, sel, List.getElem?_cons_succ, List.getElem?_cons_zero]
    have D1 := hid (Ext.refl none' W1).drew
    clear x0 x1 m0 m1 m2 m3
    go_wp2_with fail
    refine (CI.out _).mono ?_
    rintro e w3 ⟨rfl, X2⟩
    have X9 := hid (D1.out.trans X2)
    clear X2
    go_wp2_with fail
    refine ⟨In.of X9.out, ?_⟩
    go_wp2_with fail
    refine (CP.out _ _ ⟨_, rfl, HYI.out.ext isNd_good (X1.out.trans X9.out) fun _ _ h => h⟩).mono ?_
    rintro e w4 ⟨rfl, X2⟩
    have X9 := hid (X9.out.trans X2)
    clear X2
    go_wp2_with fail
    refine ⟨In.of X9.out, ?_⟩
    go_wp2_with fail
    refine (CL.out _).mono ?_
    rintro e w5 ⟨rfl, X2⟩
    have X9 := hid (X9.out.trans X2)
    clear X2
    go_wp2_with fail
    refine ⟨In.of X9.out, ?_⟩
    go_wp2_with fail
    have N := hid (R.out.trans X9.out)
    clear R X9 D1 X1
    go_roundw
    case rel => exact ⟨i + 1, by go_num, by omega, by rw [A1.out], N⟩
    case measure => simp [RowKit.intOf]; omega
  · obtain rfl : i = (t.kid 1).kids.length := by omega
    have hal := AL.out (t.kid 1).kids.length
    obtain ⟨o1, ho1⟩ : ∃ o1, acc (t.kid 1).kids.length = o1 := ⟨_, rfl⟩
    rw [ho1] at HR hal ⊢
    have cat := str_cat o1 [125]
    clear ho1
    go_wp2_with fail
    go_ret
    exact ⟨by rw [HR.out]; rfl, X0.out.trans (XX.out.trans R.out)⟩
theorem shdecl_any (f : Nat) (hf : f + 1 ≤ 1100000) (t : Nd) (ht : t.size ≤ f + 1) (he : declB (tyF nmB f) (exF f) (stF f) t = true) (v : Value) (w : World) (hm : MaxL w) (hv : NdV none' w t v) :
 Calls Tryz.prog 21 #[v] w (StrPost (declT (typF f) (exT f) (stT f) t) w) := by
 unfold declB at he
 unfold declT
 by_cases h2 : t.kind = 2
 · rw [if_pos h2] at he ⊢
   exact sd_func f hf t ht h2 he v w hm hv
 rw [if_neg h2] at he ⊢
 by_cases h3 : t.kind = 3
 · rw [if_pos h3] at he ⊢
   by_cases h13 : (t.kid 1).kind = 13
   · rw [if_pos h13]
     exact sd_struct f hf t ht h3 he h13 v w hm hv
   · rw [if_neg h13]
     exact sd_type f hf t ht h3 he h13 v w hm hv
 rw [if_neg h3] at he ⊢
 by_cases h4 : t.kind = 4
 · rw [if_pos h4] at he ⊢
   exact sd_alias f hf t ht h4 he v w hm hv
 rw [if_neg h4] at he ⊢
 exact sd_var f hf t ht h2 h3 h4 he v w hm hv
theorem es_var (f : Nat) (hf : f + 1 ≤ bigD) {ty ex st : Nd → Bool} (Q : Qs f ty ex st) (t : Nd) (ht : t.size ≤ f + 1) (hk : t.kind = 5) (v : Value) (w : World) (hm : MaxL w) (hv : NdV none' w t v) :
 Calls Tryz.prog 104 #[v] w (BoolP (varB ty ex t) w) := by
 have CC := hid fun W (X : Ext none' w W) => var_any f hf Q t ht v W (maxL_later hm X) (hv.ext X fun _ _ h => h)
 obtain ⟨q, hq⟩ : ∃ q, varB ty ex t = q := ⟨_, rfl⟩
 rw [hq] at CC ⊢
 obtain ⟨y, rfl, hy⟩ := hv
 obtain ⟨a1, cap1, rfl, _⟩ := hy
 rw [hk] at CC ⊢
 clear hq Q ht hm hf hk
 go_enter Tryz.func104, Tryz.ntmps104
 go_wp2_with fail
 refine (CC.out _ ((Ext.refl _ _).alloc _)).mono ?_
 rintro e w1 ⟨rfl, X1⟩
 have X1 := hid (((Ext.refl none' w).alloc _).trans X1)
 go_wp2_with fail
 go_ret
 exact ⟨rfl, X1.out⟩
theorem es_short (f : Nat) (hf : f + 1 ≤ bigD) {ty ex st : Nd → Bool} (Q : Qs f ty ex st) (t : Nd) (ht : t.size ≤ f + 1) (hk : t.kind = 26) (v : Value) (w : World) (hm : MaxL w) (hv : NdV none' w t v) :
 Calls Tryz.prog 104 #[v] w (BoolP (shB ex t) w) := by
 have CC := hid fun W (X : Ext none' w W) => short_any f hf Q t ht v W (maxL_later hm X) (hv.ext X fun _ _ h => h)
 obtain ⟨q, hq⟩ : ∃ q, shB ex t = q := ⟨_, rfl⟩
 rw [hq] at CC ⊢
 obtain ⟨y, rfl, hy⟩ := hv
 obtain ⟨a1, cap1, rfl, _⟩ := hy
 rw [hk] at CC ⊢
 clear hq Q ht hm hf hk
 go_enter Tryz.func104, Tryz.ntmps104
 go_wp2_with fail
 refine (CC.out _ ((Ext.refl _ _).alloc _)).mono ?_
 rintro e w1 ⟨rfl, X1⟩
 have X1 := hid (((Ext.refl none' w).alloc _).trans X1)
 go_wp2_with fail
 go_ret
 exact ⟨rfl, X1.out⟩
theorem es_set (f : Nat) (hf : f + 1 ≤ bigD) {ty ex st : Nd → Bool} (Q : Qs f ty ex st) (t : Nd) (ht : t.size ≤ f + 1) (hk : t.kind = 27) (v : Value) (w : World) (hm : MaxL w) (hv : NdV none' w t v) :
 Calls Tryz.prog 104 #[v] w (BoolP (setB ex t) w) := by
 have CC := hid fun W (X : Ext none' w W) => set_any f hf Q t ht v W (maxL_later hm X) (hv.ext X fun _ _ h => h)
 obtain ⟨q, hq⟩ : ∃ q, setB ex t = q := ⟨_, rfl⟩
 rw [hq] at CC ⊢
 obtain ⟨y, rfl, hy⟩ := hv
 obtain ⟨a1, cap1, rfl, _⟩ := hy
 rw [hk] at CC ⊢
 clear hq Q ht hm hf hk
 go_enter Tryz.func104, Tryz.ntmps104
 go_wp2_with fail
 refine (CC.out _ ((Ext.refl _ _).alloc _)).mono ?_
 rintro e w1 ⟨rfl, X1⟩
 have X1 := hid (((Ext.refl none' w).alloc _).trans X1)
 go_wp2_with fail
 go_ret
 exact ⟨rfl, X1.out⟩
theorem es_inc (f : Nat) (hf : f + 1 ≤ bigD) {ty ex st : Nd → Bool} (Q : Qs f ty ex st) (t : Nd) (ht : t.size ≤ f + 1) (hk : t.kind = 28) (v : Value) (w : World) (hm : MaxL w) (hv : NdV none' w t v) :
 Calls Tryz.prog 104 #[v] w (BoolP (incrB ex t) w) := by
 have CC := hid fun W (X : Ext none' w W) => inc_any f hf Q t ht v W (maxL_later hm X) (hv.ext X fun _ _ h => h)
 obtain ⟨q, hq⟩ : ∃ q, incrB ex t = q := ⟨_, rfl⟩
 rw [hq] at CC ⊢
 obtain ⟨y, rfl, hy⟩ := hv
 obtain ⟨a1, cap1, rfl, _⟩ := hy
 rw [hk] at CC ⊢
 clear hq Q ht hm hf hk
 go_enter Tryz.func104, Tryz.ntmps104
 go_wp2_with fail
 refine (CC.out _ ((Ext.refl _ _).alloc _)).mono ?_
 rintro e w1 ⟨rfl, X1⟩
 have X1 := hid (((Ext.refl none' w).alloc _).trans X1)
 go_wp2_with fail
 go_ret
 exact ⟨rfl, X1.out⟩
theorem es_call (f : Nat) (hf : f + 1 ≤ bigD) {ty ex st : Nd → Bool} (Q : Qs f ty ex st) (t : Nd) (ht : t.size ≤ f + 1) (hk : t.kind = 29) (v : Value) (w : World) (hm : MaxL w) (hv : NdV none' w t v) :
 Calls Tryz.prog 104 #[v] w (BoolP (callB ex t) w) := by
 have CC := hid fun W (X : Ext none' w W) => call_any f hf Q t ht v W (maxL_later hm X) (hv.ext X fun _ _ h => h)
 obtain ⟨q, hq⟩ : ∃ q, callB ex t = q := ⟨_, rfl⟩
 rw [hq] at CC ⊢
 obtain ⟨y, rfl, hy⟩ := hv
 obtain ⟨a1, cap1, rfl, _⟩ := hy
 rw [hk] at CC ⊢
 clear hq Q ht hm hf hk
 go_enter Tryz.func104, Tryz.ntmps104
 go_wp2_with fail
 refine (CC.out _ ((Ext.refl _ _).alloc _)).mono ?_
 rintro e w1 ⟨rfl, X1⟩
 have X1 := hid (((Ext.refl none' w).alloc _).trans X1)
 go_wp2_with fail
 go_ret
 exact ⟨rfl, X1.out⟩
theorem es_if (f : Nat) (hf : f + 1 ≤ bigD) {ty ex st : Nd → Bool} (Q : Qs f ty ex st) (t : Nd) (ht : t.size ≤ f + 1) (hk : t.kind = 30) (v : Value) (w : World) (hm : MaxL w) (hv : NdV none' w t v) :
 Calls Tryz.prog 104 #[v] w (BoolP (ifsB ex st t) w) := by
 have CC := hid fun W (X : Ext none' w W) => if_any f hf Q t ht v W (maxL_later hm X) (hv.ext X fun _ _ h => h)
 obtain ⟨q, hq⟩ : ∃ q, ifsB ex st t = q := ⟨_, rfl⟩
 rw [hq] at CC ⊢
 obtain ⟨y, rfl, hy⟩ := hv
 obtain ⟨a1, cap1, rfl, _⟩ := hy
 rw [hk] at CC ⊢
 clear hq Q ht hm hf hk
 go_enter Tryz.func104, Tryz.ntmps104
 go_wp2_with fail
 refine (CC.out _ ((Ext.refl _ _).alloc _)).mono ?_
 rintro e w1 ⟨rfl, X1⟩
 have X1 := hid (((Ext.refl none' w).alloc _).trans X1)
 go_wp2_with fail
 go_ret
 exact ⟨rfl, X1.out⟩
theorem es_blk (f : Nat) (hf : f + 1 ≤ bigD) {ty ex st : Nd → Bool} (Q : Qs f ty ex st) (t : Nd) (ht : t.size ≤ f + 1) (n5 : t.kind ≠ 5) (n26 : t.kind ≠ 26) (n27 : t.kind ≠ 27) (n28 : t.kind ≠ 28) (n29 : t.kind ≠ 29) (n30 : t.kind ≠ 30) (n31 : t.kind ≠ 31) (n32 : t.kind ≠ 32) (n33 : t.kind ≠ 33) (n34 : t.kind ≠ 34) (n35 : t.kind ≠ 35) (v : Value) (w : World) (hm : MaxL w) (hv : NdV none' w t v) :
 Calls Tryz.prog 104 #[v] w (BoolP (blkB st t) w) := by
 have CC := hid fun W (X : Ext none' w W) => block_any f hf Q t ht v W (maxL_later hm X) (hv.ext X fun _ _ h => h)
 obtain ⟨q, hq⟩ : ∃ q, blkB st t = q := ⟨_, rfl⟩
 rw [hq] at CC ⊢
 obtain ⟨y, rfl, hy⟩ := hv
 obtain ⟨a1, cap1, rfl, _⟩ := hy
 obtain ⟨tk, htk⟩ : ∃ k, t.kind = k := ⟨_, rfl⟩
 rw [htk] at n5 n26 n27 n28 n29 n30 n31 n32 n33 n34 n35 CC ⊢
 have q5 : (tk == 5) = false := by simpa using n5
 have q26 : (tk == 26) = false := by simpa using n26
 have q27 : (tk == 27) = false := by simpa using n27
 have q28 : (tk == 28) = false := by simpa using n28
 have q29 : (tk == 29) = false := by simpa using n29
 have q30 : (tk == 30) = false := by simpa using n30
 have q31 : (tk == 31) = false := by simpa using n31
 have q32 : (tk == 32) = false := by simpa using n32
 have q33 : (tk == 33) = false := by simpa using n33
 have q34 : (tk == 34) = false := by simpa using n34
 have q35 : (tk == 35) = false := by simpa using n35
 clear hq Q ht hm hf htk n5 n26 n27 n28 n29 n30 n31 n32 n33 n34 n35
 go_enter Tryz.func104, Tryz.ntmps104
 go_wp2_with fail
 refine (CC.out _ ((Ext.refl _ _).alloc _)).mono ?_
 rintro e w1 ⟨rfl, X1⟩
 have X1 := hid (((Ext.refl none' w).alloc _).trans X1)
 go_wp2_with fail
 go_ret
 exact ⟨rfl, X1.out⟩
theorem es_for (f : Nat) (hf : f + 1 ≤ bigD) {ty ex st : Nd → Bool} (Q : Qs f ty ex st) (t : Nd) (ht : t.size ≤ f + 1) (hk : t.kind = 31) (v : Value) (w : World) (hm : MaxL w) (hv : NdV none' w t v) :
 Calls Tryz.prog 104 #[v] w (BoolP (ofB 31 [orB (orB (emptyB) (shB ex)) (orB (setB ex) (incrB ex)), orB (emptyB) (ex), orB (orB (emptyB) (setB ex)) (orB (incrB ex) (callB ex)), blkB st] t) w) := by
 have CO := hid fun W v' u' (hv' : NdV none' W t v') (hu' : AsksV f [orB (orB (emptyB) (shB ex)) (orB (setB ex) (incrB ex)), orB (emptyB) (ex), orB (orB (emptyB) (setB ex)) (orB (incrB ex) (callB ex)), blkB st] W u') => of_any f 31 [orB (orB (emptyB) (shB ex)) (orB (setB ex) (incrB ex)), orB (emptyB) (ex), orB (orB (emptyB) (setB ex)) (orB (incrB ex) (callB ex)), blkB st] t v' u' W (by have := t.kids_len; omega) (by simp) (fun i hi => by have := Nd.size_kid (t := t) (List.getElem_mem hi); omega) hv' hu'
 obtain ⟨q, hq⟩ : ∃ q, ofB 31 [orB (orB (emptyB) (shB ex)) (orB (setB ex) (incrB ex)), orB (emptyB) (ex), orB (orB (emptyB) (setB ex)) (orB (incrB ex) (callB ex)), blkB st] t = q := ⟨_, rfl⟩
 rw [hq] at CO ⊢
 have A_empty := hid fun W (X : Ext none' w W) => (show AskV f (emptyB) W (.func (.func 156) #[] #[]) from empty_ask f W)
 have A_short := hid fun W (X : Ext none' w W) => (show AskV f (shB ex) W (.func (.func 151) #[] #[]) from short_ask hf Q W (maxL_later hm X))
 have A_set := hid fun W (X : Ext none' w W) => (show AskV f (setB ex) W (.func (.func 152) #[] #[]) from set_ask hf Q W (maxL_later hm X))
 have A_inc := hid fun W (X : Ext none' w W) => (show AskV f (incrB ex) W (.func (.func 153) #[] #[]) from inc_ask hf Q W (maxL_later hm X))
 have A_ex := hid fun W (X : Ext none' w W) => (show AskV f (ex) W (.func (.func 103) #[] #[]) from Q.expr W (maxL_later hm X))
 have A_call := hid fun W (X : Ext none' w W) => (show AskV f (callB ex) W (.func (.func 154) #[] #[]) from call_ask hf Q W (maxL_later hm X))
 have A_blk := hid fun W (X : Ext none' w W) => (show AskV f (blkB st) W (.func (.func 139) #[] #[]) from block_ask hf Q W (maxL_later hm X))
 have HV := hid hv
 obtain ⟨y, rfl, hy⟩ := hv
 obtain ⟨a1, cap1, rfl, _⟩ := hy
 rw [hk] at HV ⊢
 clear hq Q ht hm hf hk
 obtain ⟨W0, hW0⟩ : ∃ W0, W0 = w.alloc (.cells #[.int .i64 31, .string ⟨t.text.toArray⟩, .slice a1 t.kids.length cap1, .int .i64 t.pos] 24) := ⟨_, rfl⟩
 have X0 := hid (show Ext none' w W0 by rw [hW0]; exact (Ext.refl _ _).alloc _)
 have G0 := hid (show W0.heap[w.heap.size]? = some (.cells #[.int .i64 31, .string ⟨t.text.toArray⟩, .slice a1 t.kids.length cap1, .int .i64 t.pos] 24 (0, 0)) by rw [hW0]; exact heap_alloc_at rfl _)
 go_enter Tryz.func104, Tryz.ntmps104
 go_upto_region 15 with (fail)
 rw [← hW0]
 clear hW0
 obtain ⟨y0, y1, y2, y3⟩ := cell4L fun t' : LaterF none' W0 => t'.x.heap G0.out fun h => h
 refine region_q none' W0 (.qs [0] (.one 1 true (.one 2 true (.one 3 true (.one 4 true (.one 5 true (.one 6 true (.one 7 true (.one 8 true (.one 9 false (.one 10 false .fin))))))))))) (by kernel_rfl) (by kernel_rfl) (fun dst v c a w h => by cases dst <;> exact h) ?_
 refine ⟨In.of (Ext.refl _ _).drew, ?_⟩
 change wpQuiet _ _ (fun w' => ∃ t : LaterF none' W0, w' = t.w) _ _ _
 simp only [sel, List.getElem?_cons_succ, List.getElem?_cons_zero]
 repeat (go_big_quiet_step (fail))
 refine wpQuiet_nil ?_
 simp only [wpTreeQ, stepT, sel, List.getElem?_cons_succ, List.getElem?_cons_zero]
 have D1 := hid (Ext.refl none' W0).drew
 clear y0 y1 y2 y3
 go_wp2_with fail
 refine (or_any f (emptyB) (shB ex) _ _ _ (A_empty.out _ (X0.out.trans D1.out)) (A_short.out _ (X0.out.trans D1.out))).mono ?_
 rintro e z1 ⟨u1, rfl, hu1, E1⟩
 have U1 := hid (show AskV f (orB (emptyB) (shB ex)) z1 u1 from hu1)
 obtain ⟨fn1, fcaps1, rfl, _⟩ := hu1
 have E1 := hid E1
 have T1 := hid (D1.out.trans E1.out)
 go_wp2_with fail
 refine ⟨In.of T1.out, ?_⟩
 go_wp2_with fail
 refine (or_any f (setB ex) (incrB ex) _ _ _ (A_set.out _ (X0.out.trans T1.out)) (A_inc.out _ (X0.out.trans T1.out))).mono ?_
 rintro e z2 ⟨u2, rfl, hu2, E2⟩
 have U2 := hid (show AskV f (orB (setB ex) (incrB ex)) z2 u2 from hu2)
 obtain ⟨fn2, fcaps2, rfl, _⟩ := hu2
 have E2 := hid E2
 have T2 := hid (T1.out.trans E2.out)
 go_wp2_with fail
 refine ⟨In.of T2.out, ?_⟩
 go_wp2_with fail
 refine (or_any f (orB (emptyB) (shB ex)) (orB (setB ex) (incrB ex)) _ _ _ (U1.out.ext E2.out) (U2.out.ext (Ext.refl _ _))).mono ?_
 rintro e z3 ⟨u3, rfl, hu3, E3⟩
 have U3 := hid (show AskV f (orB (orB (emptyB) (shB ex)) (orB (setB ex) (incrB ex))) z3 u3 from hu3)
 obtain ⟨fn3, fcaps3, rfl, _⟩ := hu3
 have E3 := hid E3
 have T3 := hid (T2.out.trans E3.out)
 go_wp2_with fail
 refine ⟨In.of T3.out, ?_⟩
 go_wp2_with fail
 refine (or_any f (emptyB) (ex) _ _ _ (A_empty.out _ (X0.out.trans T3.out)) (A_ex.out _ (X0.out.trans T3.out))).mono ?_
 rintro e z4 ⟨u4, rfl, hu4, E4⟩
 have U4 := hid (show AskV f (orB (emptyB) (ex)) z4 u4 from hu4)
 obtain ⟨fn4, fcaps4, rfl, _⟩ := hu4
 have E4 := hid E4
 have T4 := hid (T3.out.trans E4.out)
 go_wp2_with fail
 refine ⟨In.of T4.out, ?_⟩
 go_wp2_with fail
 refine (or_any f (emptyB) (setB ex) _ _ _ (A_empty.out _ (X0.out.trans T4.out)) (A_set.out _ (X0.out.trans T4.out))).mono ?_
 rintro e z5 ⟨u5, rfl, hu5, E5⟩
 have U5 := hid (show AskV f (orB (emptyB) (setB ex)) z5 u5 from hu5)
 obtain ⟨fn5, fcaps5, rfl, _⟩ := hu5
 have E5 := hid E5
 have T5 := hid (T4.out.trans E5.out)
 go_wp2_with fail
 refine ⟨In.of T5.out, ?_⟩
 go_wp2_with fail
 refine (or_any f (incrB ex) (callB ex) _ _ _ (A_inc.out _ (X0.out.trans T5.out)) (A_call.out _ (X0.out.trans T5.out))).mono ?_
 rintro e z6 ⟨u6, rfl, hu6, E6⟩
 have U6 := hid (show AskV f (orB (incrB ex) (callB ex)) z6 u6 from hu6)
 obtain ⟨fn6, fcaps6, rfl, _⟩ := hu6
 have E6 := hid E6
 have T6 := hid (T5.out.trans E6.out)
 go_wp2_with fail
 refine ⟨In.of T6.out, ?_⟩
 go_wp2_with fail
 refine (or_any f (orB (emptyB) (setB ex)) (orB (incrB ex) (callB ex)) _ _ _ (U5.out.ext E6.out) (U6.out.ext (Ext.refl _ _))).mono ?_
 rintro e z7 ⟨u7, rfl, hu7, E7⟩
 have U7 := hid (show AskV f (orB (orB (emptyB) (setB ex)) (orB (incrB ex) (callB ex))) z7 u7 from hu7)
 obtain ⟨fn7, fcaps7, rfl, _⟩ := hu7
 have E7 := hid E7
 have T7 := hid (T6.out.trans E7.out)
 go_wp2_with fail
 refine ⟨In.of T7.out, ?_⟩
 go_wp2_with fail
 have Y := hid ((Ext.refl none' z7).alloc (.cells #[.func (.func fn3) #[] fcaps3, .func (.func fn4) #[] fcaps4, .func (.func fn7) #[] fcaps7, .func (.func 139) #[] #[]] 41))
 refine ⟨In.of (T7.out.trans Y.out), ?_⟩
 go_wp2_with fail
 refine (CO.out _ _ _ (HV.out.ext (X0.out.trans (T7.out.trans Y.out)) fun _ _ h => h) (AsksV.lit4 (heap_alloc_at rfl _) (U3.out.ext (E4.out.trans (E5.out.trans (E6.out.trans (E7.out.trans Y.out))))) (U4.out.ext (E5.out.trans (E6.out.trans (E7.out.trans Y.out)))) (U7.out.ext Y.out) (A_blk.out _ (X0.out.trans (T7.out.trans Y.out))))).mono ?_
 rintro e w9 ⟨rfl, X9⟩
 have X9 := hid ((X0.out.trans (T7.out.trans Y.out)).trans X9)
 go_wp2_with fail
 go_ret
 exact ⟨rfl, X9.out⟩
theorem es_range (f : Nat) (hf : f + 1 ≤ bigD) {ty ex st : Nd → Bool} (Q : Qs f ty ex st) (t : Nd) (ht : t.size ≤ f + 1) (hk : t.kind = 32) (v : Value) (w : World) (hm : MaxL w) (hv : NdV none' w t v) :
 Calls Tryz.prog 104 #[v] w (BoolP (namB rngB 32 [ex, blkB st] t) w) := by
 rw [← ofB_named rngB 32 (by omega) [ex, blkB st] t]
 have CN := hid fun W (X : Ext none' w W) => named_any rngB t v _ W (by have := t.size_text; omega) (hv.ext X fun _ _ h => h) (ranged_so (maxL_later hm X))
 have CO := hid fun W v' u' (hv' : NdV none' W (namedP rngB t) v') (hu' : AsksV f [ex, blkB st] W u') => of_any f 32 [ex, blkB st] (namedP rngB t) v' u' W (named_len rngB t (by omega)) (by simp) (fun i hi => named_kids1 ht i hi) hv' hu'
 obtain ⟨q, hq⟩ : ∃ q, ofB 32 [ex, blkB st] (namedP rngB t) = q := ⟨_, rfl⟩
 obtain ⟨r, hr⟩ : ∃ r, namedP rngB t = r := ⟨_, rfl⟩
 rw [hq] at CO ⊢
 rw [hr] at CN CO
 have A_ex := hid fun W (X : Ext none' w W) => (show AskV f (ex) W (.func (.func 103) #[] #[]) from Q.expr W (maxL_later hm X))
 have A_blk := hid fun W (X : Ext none' w W) => (show AskV f (blkB st) W (.func (.func 139) #[] #[]) from block_ask hf Q W (maxL_later hm X))
 obtain ⟨y, rfl, hy⟩ := hv
 obtain ⟨a1, cap1, rfl, _⟩ := hy
 rw [hk] at CN ⊢
 clear hq hr Q ht hm hf hk
 go_enter Tryz.func104, Tryz.ntmps104
 go_wp2_with fail
 refine (CN.out _ ((Ext.refl _ _).alloc _)).mono ?_
 rintro e w1 ⟨v', rfl, hv', X1⟩
 have HV' := hid hv'
 obtain ⟨y', rfl, hy'⟩ := hv'
 obtain ⟨a5, cap5, rfl, _⟩ := hy'
 have X1 := hid (((Ext.refl none' w).alloc _).trans X1)
 have V1 := hid (Ext.refl none' w1)
 go_wp2_with fail
 have Y := hid ((Ext.refl none' w1).alloc (.cells #[.func (.func 103) #[] #[], .func (.func 139) #[] #[]] 41))
 refine (CO.out _ _ _ (HV'.out.ext (V1.out.trans Y.out) fun _ _ h => h) (AsksV.lit2 (heap_alloc_at rfl _) (A_ex.out _ (X1.out.trans (V1.out.trans Y.out))) (A_blk.out _ (X1.out.trans (V1.out.trans Y.out))))).mono ?_
 rintro e w9 ⟨rfl, X9⟩
 have X9 := hid ((X1.out.trans (V1.out.trans Y.out)).trans X9)
 go_wp2_with fail
 go_ret
 exact ⟨rfl, X9.out⟩
theorem es_ret (f : Nat) (hf : f + 1 ≤ bigD) {ty ex st : Nd → Bool} (Q : Qs f ty ex st) (t : Nd) (ht : t.size ≤ f + 1) (hk : t.kind = 33) (v : Value) (w : World) (hm : MaxL w) (hv : NdV none' w t v) :
 Calls Tryz.prog 104 #[v] w (BoolP (ofB 33 [orB (emptyB) (ex)] t) w) := by
 have CO := hid fun W v' u' (hv' : NdV none' W t v') (hu' : AsksV f [orB (emptyB) (ex)] W u') => of_any f 33 [orB (emptyB) (ex)] t v' u' W (by have := t.kids_len; omega) (by simp) (fun i hi => by have := Nd.size_kid (t := t) (List.getElem_mem hi); omega) hv' hu'
 obtain ⟨q, hq⟩ : ∃ q, ofB 33 [orB (emptyB) (ex)] t = q := ⟨_, rfl⟩
 rw [hq] at CO ⊢
 have A_empty := hid fun W (X : Ext none' w W) => (show AskV f (emptyB) W (.func (.func 156) #[] #[]) from empty_ask f W)
 have A_ex := hid fun W (X : Ext none' w W) => (show AskV f (ex) W (.func (.func 103) #[] #[]) from Q.expr W (maxL_later hm X))
 have HV := hid hv
 obtain ⟨y, rfl, hy⟩ := hv
 obtain ⟨a1, cap1, rfl, _⟩ := hy
 rw [hk] at HV ⊢
 clear hq Q ht hm hf hk
 obtain ⟨W0, hW0⟩ : ∃ W0, W0 = w.alloc (.cells #[.int .i64 33, .string ⟨t.text.toArray⟩, .slice a1 t.kids.length cap1, .int .i64 t.pos] 24) := ⟨_, rfl⟩
 have X0 := hid (show Ext none' w W0 by rw [hW0]; exact (Ext.refl _ _).alloc _)
 have G0 := hid (show W0.heap[w.heap.size]? = some (.cells #[.int .i64 33, .string ⟨t.text.toArray⟩, .slice a1 t.kids.length cap1, .int .i64 t.pos] 24 (0, 0)) by rw [hW0]; exact heap_alloc_at rfl _)
 go_enter Tryz.func104, Tryz.ntmps104
 go_upto_region 19 with (fail)
 rw [← hW0]
 clear hW0
 obtain ⟨y0, y1, y2, y3⟩ := cell4L fun t' : LaterF none' W0 => t'.x.heap G0.out fun h => h
 refine region_q none' W0 (.qs [0] (.one 1 true (.one 2 true (.one 3 false (.one 4 false .fin))))) (by kernel_rfl) (by kernel_rfl) (fun dst v c a w h => by cases dst <;> exact h) ?_
 refine ⟨In.of (Ext.refl _ _).drew, ?_⟩
 change wpQuiet _ _ (fun w' => ∃ t : LaterF none' W0, w' = t.w) _ _ _
 simp only [sel, List.getElem?_cons_succ, List.getElem?_cons_zero]
 repeat (go_big_quiet_step (fail))
 refine wpQuiet_nil ?_
 simp only [wpTreeQ, stepT, sel, List.getElem?_cons_succ, List.getElem?_cons_zero]
 have D1 := hid (Ext.refl none' W0).drew
 clear y0 y1 y2 y3
 go_wp2_with fail
 refine (or_any f (emptyB) (ex) _ _ _ (A_empty.out _ (X0.out.trans D1.out)) (A_ex.out _ (X0.out.trans D1.out))).mono ?_
 rintro e z1 ⟨u1, rfl, hu1, E1⟩
 have U1 := hid (show AskV f (orB (emptyB) (ex)) z1 u1 from hu1)
 obtain ⟨fn1, fcaps1, rfl, _⟩ := hu1
 have E1 := hid E1
 have T1 := hid (D1.out.trans E1.out)
 go_wp2_with fail
 refine ⟨In.of T1.out, ?_⟩
 go_wp2_with fail
 have Y := hid ((Ext.refl none' z1).alloc (.cells #[.func (.func fn1) #[] fcaps1] 41))
 refine ⟨In.of (T1.out.trans Y.out), ?_⟩
 go_wp2_with fail
 refine (CO.out _ _ _ (HV.out.ext (X0.out.trans (T1.out.trans Y.out)) fun _ _ h => h) (AsksV.lit1 (heap_alloc_at rfl _) (U1.out.ext Y.out))).mono ?_
 rintro e w9 ⟨rfl, X9⟩
 have X9 := hid ((X0.out.trans (T1.out.trans Y.out)).trans X9)
 go_wp2_with fail
 go_ret
 exact ⟨rfl, X9.out⟩
theorem es_brk (f : Nat) (hf : f + 1 ≤ bigD) {ty ex st : Nd → Bool} (Q : Qs f ty ex st) (t : Nd) (ht : t.size ≤ f + 1) (hk : t.kind = 34) (v : Value) (w : World) (hm : MaxL w) (hv : NdV none' w t v) :
 Calls Tryz.prog 104 #[v] w (BoolP (ofB 34 [] t) w) := by
 have CO := hid fun W v' u' (hv' : NdV none' W t v') (hu' : AsksV f [] W u') => of_any f 34 [] t v' u' W (by have := t.kids_len; omega) (by simp) (fun i hi => by have := Nd.size_kid (t := t) (List.getElem_mem hi); omega) hv' hu'
 obtain ⟨q, hq⟩ : ∃ q, ofB 34 [] t = q := ⟨_, rfl⟩
 rw [hq] at CO ⊢
 have HV := hid hv
 obtain ⟨y, rfl, hy⟩ := hv
 obtain ⟨a1, cap1, rfl, _⟩ := hy
 rw [hk] at HV ⊢
 clear hq Q ht hm hf hk
 obtain ⟨W0, hW0⟩ : ∃ W0, W0 = w.alloc (.cells #[.int .i64 34, .string ⟨t.text.toArray⟩, .slice a1 t.kids.length cap1, .int .i64 t.pos] 24) := ⟨_, rfl⟩
 have XB := hid (show Ext none' w W0 by rw [hW0]; exact (Ext.refl _ _).alloc _)
 have B0 := hid (Ext.refl none' W0)
 have HSZ := hid (show w.heap.size + 1 = W0.heap.size by rw [hW0]; simp)
 go_enter Tryz.func104, Tryz.ntmps104
 go_wp2_with fail
 rw [← hW0]
 clear hW0
 refine (CO.out _ _ _ (HV.out.ext (XB.out.trans B0.out) fun _ _ h => h) AsksV.none).mono ?_
 rintro e w9 ⟨rfl, X9⟩
 have X9 := hid ((XB.out.trans B0.out).trans X9)
 go_wp2_with fail
 go_ret
 exact ⟨rfl, X9.out⟩
theorem es_cnt (f : Nat) (hf : f + 1 ≤ bigD) {ty ex st : Nd → Bool} (Q : Qs f ty ex st) (t : Nd) (ht : t.size ≤ f + 1) (hk : t.kind = 35) (v : Value) (w : World) (hm : MaxL w) (hv : NdV none' w t v) :
 Calls Tryz.prog 104 #[v] w (BoolP (ofB 35 [] t) w) := by
 have CO := hid fun W v' u' (hv' : NdV none' W t v') (hu' : AsksV f [] W u') => of_any f 35 [] t v' u' W (by have := t.kids_len; omega) (by simp) (fun i hi => by have := Nd.size_kid (t := t) (List.getElem_mem hi); omega) hv' hu'
 obtain ⟨q, hq⟩ : ∃ q, ofB 35 [] t = q := ⟨_, rfl⟩
 rw [hq] at CO ⊢
 have HV := hid hv
 obtain ⟨y, rfl, hy⟩ := hv
 obtain ⟨a1, cap1, rfl, _⟩ := hy
 rw [hk] at HV ⊢
 clear hq Q ht hm hf hk
 obtain ⟨W0, hW0⟩ : ∃ W0, W0 = w.alloc (.cells #[.int .i64 35, .string ⟨t.text.toArray⟩, .slice a1 t.kids.length cap1, .int .i64 t.pos] 24) := ⟨_, rfl⟩
 have XB := hid (show Ext none' w W0 by rw [hW0]; exact (Ext.refl _ _).alloc _)
 have B0 := hid (Ext.refl none' W0)
 have HSZ := hid (show w.heap.size + 1 = W0.heap.size by rw [hW0]; simp)
 go_enter Tryz.func104, Tryz.ntmps104
 go_wp2_with fail
 rw [← hW0]
 clear hW0
 refine (CO.out _ _ _ (HV.out.ext (XB.out.trans B0.out) fun _ _ h => h) AsksV.none).mono ?_
 rintro e w9 ⟨rfl, X9⟩
 have X9 := hid ((XB.out.trans B0.out).trans X9)
 go_wp2_with fail
 go_ret
 exact ⟨rfl, X9.out⟩
theorem ed_func (f : Nat) (hf : f + 1 ≤ bigD) {ty ex st : Nd → Bool} (Q : Qs f ty ex st) (t : Nd) (ht : t.size ≤ f + 1) (hk : t.kind = 2) (v : Value) (w : World) (hm : MaxL w) (hv : NdV none' w t v) :
 Calls Tryz.prog 101 #[v] w (BoolP (namB nmB 2 [parsB ty, sigB ty nmB, blkB st] t) w) := by
 rw [← ofB_named nmB 2 (by omega) [parsB ty, sigB ty nmB, blkB st] t]
 have CN := hid fun W (X : Ext none' w W) => named_any nmB t v _ W (by have := t.size_text; omega) (hv.ext X fun _ _ h => h) (tname_so W)
 have CO := hid fun W v' u' (hv' : NdV none' W (namedP nmB t) v') (hu' : AsksV f [parsB ty, sigB ty nmB, blkB st] W u') => of_any f 2 [parsB ty, sigB ty nmB, blkB st] (namedP nmB t) v' u' W (named_len nmB t (by omega)) (by simp) (fun i hi => named_kids1 ht i hi) hv' hu'
 obtain ⟨q, hq⟩ : ∃ q, ofB 2 [parsB ty, sigB ty nmB, blkB st] (namedP nmB t) = q := ⟨_, rfl⟩
 obtain ⟨r, hr⟩ : ∃ r, namedP nmB t = r := ⟨_, rfl⟩
 rw [hq] at CO ⊢
 rw [hr] at CN CO
 have A_params := hid fun W (X : Ext none' w W) => (show AskV f (parsB ty) W (.func (.func 138) #[] #[]) from params_ask hf Q W)
 have A_sig := hid fun W (X : Ext none' w W) => (show AskV f (sigB ty nmB) W (.func (.func 105) #[] #[]) from sign_ask hf Q W)
 have A_blk := hid fun W (X : Ext none' w W) => (show AskV f (blkB st) W (.func (.func 139) #[] #[]) from block_ask hf Q W (maxL_later hm X))
 obtain ⟨y, rfl, hy⟩ := hv
 obtain ⟨a1, cap1, rfl, _⟩ := hy
 rw [hk] at CN ⊢
 clear hq hr Q ht hm hf hk
 go_enter Tryz.func101, Tryz.ntmps101
 go_wp2_with fail
 refine (CN.out _ ((Ext.refl _ _).alloc _)).mono ?_
 rintro e w1 ⟨v', rfl, hv', X1⟩
 have HV' := hid hv'
 obtain ⟨y', rfl, hy'⟩ := hv'
 obtain ⟨a5, cap5, rfl, _⟩ := hy'
 have X1 := hid (((Ext.refl none' w).alloc _).trans X1)
 have V1 := hid (Ext.refl none' w1)
 go_wp2_with fail
 have Y := hid ((Ext.refl none' w1).alloc (.cells #[.func (.func 138) #[] #[], .func (.func 105) #[] #[], .func (.func 139) #[] #[]] 41))
 refine (CO.out _ _ _ (HV'.out.ext (V1.out.trans Y.out) fun _ _ h => h) (AsksV.lit3 (heap_alloc_at rfl _) (A_params.out _ (X1.out.trans (V1.out.trans Y.out))) (A_sig.out _ (X1.out.trans (V1.out.trans Y.out))) (A_blk.out _ (X1.out.trans (V1.out.trans Y.out))))).mono ?_
 rintro e w9 ⟨rfl, X9⟩
 have X9 := hid ((X1.out.trans (V1.out.trans Y.out)).trans X9)
 go_wp2_with fail
 go_ret
 exact ⟨rfl, X9.out⟩
theorem ed_type (f : Nat) (hf : f + 1 ≤ bigD) {ty ex st : Nd → Bool} (Q : Qs f ty ex st) (t : Nd) (ht : t.size ≤ f + 1) (hk : t.kind = 3) (v : Value) (w : World) (hm : MaxL w) (hv : NdV none' w t v) :
 Calls Tryz.prog 101 #[v] w (BoolP (namB nmB 3 [parsB ty, orB (orB (ty) (structB ty)) (interB ty)] t) w) := by
 rw [← ofB_named nmB 3 (by omega) [parsB ty, orB (orB (ty) (structB ty)) (interB ty)] t]
 have CN := hid fun W (X : Ext none' w W) => named_any nmB t v _ W (by have := t.size_text; omega) (hv.ext X fun _ _ h => h) (tname_so W)
 have CO := hid fun W v' u' (hv' : NdV none' W (namedP nmB t) v') (hu' : AsksV f [parsB ty, orB (orB (ty) (structB ty)) (interB ty)] W u') => of_any f 3 [parsB ty, orB (orB (ty) (structB ty)) (interB ty)] (namedP nmB t) v' u' W (named_len nmB t (by omega)) (by simp) (fun i hi => named_kids1 ht i hi) hv' hu'
 obtain ⟨q, hq⟩ : ∃ q, ofB 3 [parsB ty, orB (orB (ty) (structB ty)) (interB ty)] (namedP nmB t) = q := ⟨_, rfl⟩
 obtain ⟨r, hr⟩ : ∃ r, namedP nmB t = r := ⟨_, rfl⟩
 rw [hq] at CO ⊢
 rw [hr] at CN CO
 have A_params := hid fun W (X : Ext none' w W) => (show AskV f (parsB ty) W (.func (.func 138) #[] #[]) from params_ask hf Q W)
 have A_ty := hid fun W (X : Ext none' w W) => (show AskV f (ty) W (.func (.func 102) #[] #[]) from type_ask Q.hty W)
 have A_struct := hid fun W (X : Ext none' w W) => (show AskV f (structB ty) W (.func (.func 141) #[] #[]) from struct_ask hf Q W)
 have A_inter := hid fun W (X : Ext none' w W) => (show AskV f (interB ty) W (.func (.func 142) #[] #[]) from inter_ask hf Q W)
 obtain ⟨y, rfl, hy⟩ := hv
 obtain ⟨a1, cap1, rfl, _⟩ := hy
 rw [hk] at CN ⊢
 clear hq hr Q ht hm hf hk
 go_enter Tryz.func101, Tryz.ntmps101
 go_wp2_with fail
 refine (CN.out _ ((Ext.refl _ _).alloc _)).mono ?_
 rintro e w1 ⟨v', rfl, hv', X1⟩
 have HV' := hid hv'
 obtain ⟨y', rfl, hy'⟩ := hv'
 obtain ⟨a5, cap5, rfl, _⟩ := hy'
 have X1 := hid (((Ext.refl none' w).alloc _).trans X1)
 have V1 := hid (Ext.refl none' w1)
 go_wp2_with fail
 refine (or_any f (ty) (structB ty) _ _ _ (A_ty.out _ (X1.out.trans V1.out)) (A_struct.out _ (X1.out.trans V1.out))).mono ?_
 rintro e z1 ⟨u1, rfl, hu1, E1⟩
 have U1 := hid (show AskV f (orB (ty) (structB ty)) z1 u1 from hu1)
 obtain ⟨fn1, fcaps1, rfl, _⟩ := hu1
 have E1 := hid E1
 have T1 := hid (V1.out.trans E1.out)
 go_wp2_with fail
 refine (or_any f (orB (ty) (structB ty)) (interB ty) _ _ _ (U1.out.ext (Ext.refl _ _)) (A_inter.out _ (X1.out.trans T1.out))).mono ?_
 rintro e z2 ⟨u2, rfl, hu2, E2⟩
 have U2 := hid (show AskV f (orB (orB (ty) (structB ty)) (interB ty)) z2 u2 from hu2)
 obtain ⟨fn2, fcaps2, rfl, _⟩ := hu2
 have E2 := hid E2
 have T2 := hid (T1.out.trans E2.out)
 go_wp2_with fail
 have Y := hid ((Ext.refl none' z2).alloc (.cells #[.func (.func 138) #[] #[], .func (.func fn2) #[] fcaps2] 41))
 refine (CO.out _ _ _ (HV'.out.ext (T2.out.trans Y.out) fun _ _ h => h) (AsksV.lit2 (heap_alloc_at rfl _) (A_params.out _ (X1.out.trans (T2.out.trans Y.out))) (U2.out.ext Y.out))).mono ?_
 rintro e w9 ⟨rfl, X9⟩
 have X9 := hid ((X1.out.trans (T2.out.trans Y.out)).trans X9)
 go_wp2_with fail
 go_ret
 exact ⟨rfl, X9.out⟩
theorem ed_alias (f : Nat) (hf : f + 1 ≤ bigD) {ty ex st : Nd → Bool} (Q : Qs f ty ex st) (t : Nd) (ht : t.size ≤ f + 1) (hk : t.kind = 4) (v : Value) (w : World) (hm : MaxL w) (hv : NdV none' w t v) :
 Calls Tryz.prog 101 #[v] w (BoolP (namB nmB 4 [parsB ty, ty] t) w) := by
 rw [← ofB_named nmB 4 (by omega) [parsB ty, ty] t]
 have CN := hid fun W (X : Ext none' w W) => named_any nmB t v _ W (by have := t.size_text; omega) (hv.ext X fun _ _ h => h) (tname_so W)
 have CO := hid fun W v' u' (hv' : NdV none' W (namedP nmB t) v') (hu' : AsksV f [parsB ty, ty] W u') => of_any f 4 [parsB ty, ty] (namedP nmB t) v' u' W (named_len nmB t (by omega)) (by simp) (fun i hi => named_kids1 ht i hi) hv' hu'
 obtain ⟨q, hq⟩ : ∃ q, ofB 4 [parsB ty, ty] (namedP nmB t) = q := ⟨_, rfl⟩
 obtain ⟨r, hr⟩ : ∃ r, namedP nmB t = r := ⟨_, rfl⟩
 rw [hq] at CO ⊢
 rw [hr] at CN CO
 have A_params := hid fun W (X : Ext none' w W) => (show AskV f (parsB ty) W (.func (.func 138) #[] #[]) from params_ask hf Q W)
 have A_ty := hid fun W (X : Ext none' w W) => (show AskV f (ty) W (.func (.func 102) #[] #[]) from type_ask Q.hty W)
 obtain ⟨y, rfl, hy⟩ := hv
 obtain ⟨a1, cap1, rfl, _⟩ := hy
 rw [hk] at CN ⊢
 clear hq hr Q ht hm hf hk
 go_enter Tryz.func101, Tryz.ntmps101
 go_wp2_with fail
 refine (CN.out _ ((Ext.refl _ _).alloc _)).mono ?_
 rintro e w1 ⟨v', rfl, hv', X1⟩
 have HV' := hid hv'
 obtain ⟨y', rfl, hy'⟩ := hv'
 obtain ⟨a5, cap5, rfl, _⟩ := hy'
 have X1 := hid (((Ext.refl none' w).alloc _).trans X1)
 have V1 := hid (Ext.refl none' w1)
 go_wp2_with fail
 have Y := hid ((Ext.refl none' w1).alloc (.cells #[.func (.func 138) #[] #[], .func (.func 102) #[] #[]] 41))
 refine (CO.out _ _ _ (HV'.out.ext (V1.out.trans Y.out) fun _ _ h => h) (AsksV.lit2 (heap_alloc_at rfl _) (A_params.out _ (X1.out.trans (V1.out.trans Y.out))) (A_ty.out _ (X1.out.trans (V1.out.trans Y.out))))).mono ?_
 rintro e w9 ⟨rfl, X9⟩
 have X9 := hid ((X1.out.trans (V1.out.trans Y.out)).trans X9)
 go_wp2_with fail
 go_ret
 exact ⟨rfl, X9.out⟩
theorem ed_var (f : Nat) (hf : f + 1 ≤ bigD) {ty ex st : Nd → Bool} (Q : Qs f ty ex st) (t : Nd) (ht : t.size ≤ f + 1) (n2 : t.kind ≠ 2) (n3 : t.kind ≠ 3) (n4 : t.kind ≠ 4) (v : Value) (w : World) (hm : MaxL w) (hv : NdV none' w t v) :
 Calls Tryz.prog 101 #[v] w (BoolP (varB ty ex t) w) := by
 have CC := hid fun W (X : Ext none' w W) => var_any f hf Q t ht v W (maxL_later hm X) (hv.ext X fun _ _ h => h)
 obtain ⟨q, hq⟩ : ∃ q, varB ty ex t = q := ⟨_, rfl⟩
 rw [hq] at CC ⊢
 obtain ⟨y, rfl, hy⟩ := hv
 obtain ⟨a1, cap1, rfl, _⟩ := hy
 obtain ⟨tk, htk⟩ : ∃ k, t.kind = k := ⟨_, rfl⟩
 rw [htk] at n2 n3 n4 CC ⊢
 have q2 : (tk == 2) = false := by simpa using n2
 have q3 : (tk == 3) = false := by simpa using n3
 have q4 : (tk == 4) = false := by simpa using n4
 clear hq Q ht hm hf htk n2 n3 n4
 go_enter Tryz.func101, Tryz.ntmps101
 go_wp2_with fail
 refine (CC.out _ ((Ext.refl _ _).alloc _)).mono ?_
 rintro e w1 ⟨rfl, X1⟩
 have X1 := hid (((Ext.refl none' w).alloc _).trans X1)
 go_wp2_with fail
 go_ret
 exact ⟨rfl, X1.out⟩
end Go.Proofs.YthbmjamgidfneaaGreatDoor
