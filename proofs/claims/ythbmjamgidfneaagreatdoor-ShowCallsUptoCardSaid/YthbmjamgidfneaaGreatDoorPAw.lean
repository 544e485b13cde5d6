import Derived.Test.YthbmjamgidfneaaGreatDoorPAb
import Derived.Test.YthbmjamgidfneaaGreatDoorPAe
import Derived.Test.YthbmjamgidfneaaGreatDoorPAq
import Derived.Test.YthbmjamgidfneaaGreatDoorPAv
set_option maxRecDepth 100000
set_option maxHeartbeats 6400000
namespace Go.Proofs.YthbmjamgidfneaaGreatDoor
open Go.RowKit Go.Lib Go.BigFrame
set_option linter.unusedVariables false
set_option linter.unusedSimpArgs false
theorem sd_var (f : Nat) (hf : f + 1 ≤ 1100000) (t : Nd) (ht : t.size ≤ f + 1) (hk2 : t.kind ≠ 2) (hk3 : t.kind ≠ 3) (hk4 : t.kind ≠ 4) (he : varB (tyF nmB f) (exF f) t = true) (v : Value) (w : World) (hm : MaxL w) (hv : NdV none' w t v) :
  Calls Tryz.prog 21 #[v] w (StrPost (varT (typF f) (exT f) 0 t) w) := by
 obtain ⟨H, HS⟩ := sh_all f (by omega)
 obtain ⟨y, rfl, hy⟩ := hv
 have HY := hid hy
 obtain ⟨a1, cap1, rfl, hcap, _⟩ := hy
 have hkl : t.kids.length ≤ 1100000 := by have := t.kids_len; omega
 obtain ⟨B, W0, hB, hW0, X0, G0⟩ := boxed w (.cells #[.int .i64 t.kind, .string ⟨t.text.toArray⟩, .slice a1 t.kids.length cap1, .int .i64 t.pos] 24)
 obtain ⟨rr, hrr⟩ : ∃ r, r = varT (typF f) (exT f) 0 t := ⟨_, rfl⟩
 rw [← hrr]
 have CV := hid fun W (X : Ext none' w W) (hs : IsSl 4 IsNd none' W (.slice a1 t.kids.length cap1) t.kids) => shvar_any f H 0 (by omega) hf t ht he (.agg #[.int .i64 t.kind, .string ⟨t.text.toArray⟩, .slice a1 t.kids.length cap1, .int .i64 t.pos]) W (maxL_later hm X) ⟨_, rfl, hs⟩
 obtain ⟨q0, hq0⟩ : ∃ q, varT (typF f) (exT f) 0 t = q := ⟨_, rfl⟩
 rw [hq0] at CV hrr
 have HR := hid hrr
 have n2 : (t.kind == 2) = false := by simpa using hk2
 have n3 : (t.kind == 3) = false := by simpa using hk3
 have n4 : (t.kind == 4) = false := by simpa using hk4
 clear hrr ht hf he hk2 hk3 hk4 hq0 H HS
 go_enter Tryz.func21, Tryz.ntmps21
 go_upto_region 1 with (fail)
 rw [← hW0, ← hB]
 clear hW0 hB
 obtain ⟨c0, c1, c2, c3⟩ := cell4 ((Ext.refl none' W0).heap G0.out fun h => h)
 go_upto_region 3 with (fail)
 clear c0 c1 c2 c3
 obtain ⟨w1, hw1⟩ : ∃ w1, w1 = (W0.alloc (.cells #[.int .i64 0, .bool false] 50)) := ⟨_, rfl⟩
 have XX := hid (show Ext none' W0 w1 by rw [hw1]; exact (Ext.refl _ _).alloc _)
 have G1 := hid (show w1.heap[W0.heap.size]? = some (.cells #[.int .i64 0, .bool false] 50 (0, 0)) by rw [hw1]; exact heap_alloc_at rfl _)
 rw [← hw1]
 clear hw1
 obtain ⟨C, hC⟩ : ∃ C, C = W0.heap.size := ⟨_, rfl⟩
 rw [← hC] at G1 ⊢
 clear hC
 obtain ⟨c0, c1, c2, c3⟩ := cellx XX.out G0.out
 have x0 := cell_at G1.out 0
 have x1 := cell_at G1.out 1
 simp only [List.getElem?_toArray, List.getElem?_cons_zero, List.getElem?_cons_succ] at x0 x1
 go_wp2_with fail
 refine (CV.out _ (X0.out.trans XX.out) (HY.out.ext isNd_good (X0.out.trans XX.out) fun _ _ h => h)).mono ?_
 rintro e w2 ⟨rfl, X2⟩
 have XX := hid (XX.out.trans X2)
 clear x0 x1 c0 c1 c2 c3
 go_wp2_with fail
 go_ret
 exact ⟨by rw [HR.out]; rfl, X0.out.trans XX.out⟩
theorem sd_type (f : Nat) (hf : f + 1 ≤ 1100000) (t : Nd) (ht : t.size ≤ f + 1) (hk : t.kind = 3) (he : namB nmB 3 [parsB (tyF nmB f), orB (orB (tyF nmB f) (structB (tyF nmB f))) (interB (tyF nmB f))] t = true) (hns : (t.kid 1).kind ≠ 13) (v : Value) (w : World) (hm : MaxL w) (hv : NdV none' w t v) :
  Calls Tryz.prog 21 #[v] w (StrPost (wType ++ t.text ++ parsT (typF f) (t.kid 0) ++ [32] ++ inT (typF f) (t.kid 1)) w) := by
 obtain ⟨H, HS⟩ := sh_all f (by omega)
 obtain ⟨y, rfl, hy⟩ := hv
 have HY := hid hy
 obtain ⟨a1, cap1, rfl, hcap, _⟩ := hy
 have hkl : t.kids.length ≤ 1100000 := by have := t.kids_len; omega
 obtain ⟨B, W0, hB, hW0, X0, G0⟩ := boxed w (.cells #[.int .i64 3, .string ⟨t.text.toArray⟩, .slice a1 t.kids.length cap1, .int .i64 t.pos] 24)
 obtain ⟨rr, hrr⟩ : ∃ r, r = wType ++ t.text ++ parsT (typF f) (t.kid 0) ++ [32] ++ inT (typF f) (t.kid 1) := ⟨_, rfl⟩
 rw [← hrr]
 obtain ⟨hk9, htn, h3⟩ := namB_parts he
 obtain ⟨x, y, hkx, hx1, hy1⟩ := two_kids h3
 obtain ⟨hx0, hy0⟩ := kid_two hkx
 have hsz := size_two hkx
 have hl : t.kids.length = 2 := by rw [hkx]; rfl
 have y0 : (0 : Int) < (t.kids.length : Int) := by omega
 have y1 : (1 : Int) < (t.kids.length : Int) := by omega
 have htl := nmB_len _ htn
 have hpl := (pars_len (by omega) hx1).1
 have l0 : (parsT (typF f) (t.kid 0)).length ≤ 10000000000000 := by rw [hx0]; omega
 have C0 := hid fun W v' (hv' : NdV none' W (t.kid 0) v') => shparams_any f hf (t.kid 0) (by rw [hx0]; omega) (by rw [hx0]; exact hx1) v' W hv'
 obtain ⟨o0, ho0⟩ : ∃ o, parsT (typF f) (t.kid 0) = o := ⟨_, rfl⟩
 rw [ho0] at hrr C0 l0
 have hyD : TyiD f y := ⟨by omega, by
  unfold orB at hy1
  simp only [Bool.or_eq_true] at hy1
  rcases hy1 with (h | h) | h
  · exact .inr ⟨by omega, h⟩
  · exfalso
    unfold structB at h
    simp only [Bool.and_eq_true, beq_iff_eq] at h
    rw [hy0] at hns
    exact hns h.1
  · exact .inl h⟩
 have hl1 := inT_len hyD
 have l1 : (inT (typF f) (t.kid 1)).length ≤ 10000000000000 := by rw [hy0]; omega
 have C1 := hid fun W v' (hv' : NdV none' W (t.kid 1) v') => typi_any f hf (t.kid 1) (by rw [hy0]; exact hyD) v' W hv'
 obtain ⟨o1, ho1⟩ : ∃ o, inT (typF f) (t.kid 1) = o := ⟨_, rfl⟩
 rw [ho1] at hrr C1 l1
 have q13 : ((t.kid 1).kind != 13) = true := by simpa using hns
 have cat1 := str_cat [116, 121, 112, 101, 32] t.text
 have cat2 := str_cat ([116, 121, 112, 101, 32] ++ t.text) o0
 have cat3 := str_cat ([116, 121, 112, 101, 32] ++ (t.text ++ o0)) [32]
 have cat4 := str_cat ([116, 121, 112, 101, 32] ++ (t.text ++ (o0 ++ [32]))) o1
 simp only [List.append_assoc, List.cons_append, List.nil_append] at cat1 cat2 cat3 cat4
 have HR := hid hrr
 rw [hk]
 clear hrr ht hf he hk htn h3 hkx hx1 hy1 hx0 hy0 hsz hl ho0 hpl H HS hk9 ho1 hyD hl1 hns
 go_enter Tryz.func21, Tryz.ntmps21
 go_upto_region 1 with (fail)
 rw [← hW0, ← hB]
 clear hW0 hB
 obtain ⟨b, off, ka0, kc0, rfl, HBW, HZ0, KK0⟩ := kidA (HY.out.ext isNd_good X0.out fun _ _ h => h) (by omega)
 obtain ⟨ka1, kc1, HZ1, KK1⟩ := kidB (HY.out.ext isNd_good X0.out fun _ _ h => h) 1 4 rfl (by omega)
 obtain ⟨c0, c1, c2, c3⟩ := cell4 ((Ext.refl none' W0).heap G0.out fun h => h)
 go_upto_region 3 with (fail)
 clear c0 c1 c2 c3
 obtain ⟨w1, hw1⟩ : ∃ w1, w1 = (W0.alloc (.cells #[.int .i64 0, .bool false] 50)) := ⟨_, rfl⟩
 have XX := hid (show Ext none' W0 w1 by rw [hw1]; exact (Ext.refl _ _).alloc _)
 have G1 := hid (show w1.heap[W0.heap.size]? = some (.cells #[.int .i64 0, .bool false] 50 (0, 0)) by rw [hw1]; exact heap_alloc_at rfl _)
 rw [← hw1]
 clear hw1
 obtain ⟨C, hC⟩ : ∃ C, C = W0.heap.size := ⟨_, rfl⟩
 rw [← hC] at G1 ⊢
 clear hC
 obtain ⟨c0, c1, c2, c3⟩ := cellx XX.out G0.out
 obtain ⟨m10, m11, m12, m13⟩ := kid' XX.out HBW.out KK1.out
 go_upto_region 8 with (fail)
 clear c0 c1 c2 c3 m10 m11 m12 m13
 have c1 := fun t' : LaterF none' w1 => cell_at (((XX.out).trans t'.x).heap G0.out fun h => h) 1
 simp only [List.getElem?_toArray, List.getElem?_cons_zero, List.getElem?_cons_succ] at c1
 obtain ⟨m00, m01, m02, m03⟩ := kidL (w1 := w1) XX.out HBW.out KK0.out
 obtain ⟨m10, m11, m12, m13⟩ := kidL (w1 := w1) XX.out HBW.out KK1.out
 refine region_q none' w1 (.qs [0, 1, 2, 3, 4, 5, 9, 10, 11] (.one 6 true (.qs [7, 8] (.one 12 true (.qs [13, 14] .fin))))) (by kernel_rfl) (by kernel_rfl) (fun dst v c a w h => by cases dst <;> exact h) ?_
 refine ⟨In.of (Ext.refl _ _).drew, ?_⟩
 change wpQuiet _ _ (fun w' => ∃ t : LaterF none' w1, w' = t.w) _ _ _
 simp only [sel, List.getElem?_cons_succ, List.getElem?_cons_zero]
 repeat (go_big_quiet_step (fail))
 refine wpQuiet_nil ?_
 simp only [wpTreeQ, stepT, sel, List.getElem?_cons_succ, List.getElem?_cons_zero]
 have D1 := hid (Ext.refl none' w1).drew
 clear m00 m01 m02 m03 m10 m11 m12 m13 c1
 go_wp2_with fail
 refine (C0.out _ _ ⟨_, rfl, HZ0.out.ext isNd_good (XX.out.trans D1.out) fun _ _ h => h⟩).mono ?_
 rintro e w2 ⟨rfl, X2⟩
 have X9 := hid (D1.out.trans X2)
 clear X2
 go_wp2_with fail
 refine ⟨In.of X9.out, In.of X9.out, ?_⟩
 change wpQuiet _ _ (fun w' => ∃ t : LaterF none' w1, w' = t.w) _ _ _
 repeat (go_big_quiet_step (fail))
 refine wpQuiet_nil ?_
 go_wp2_with fail
 refine (C1.out _ _ ⟨_, rfl, HZ1.out.ext isNd_good (XX.out.trans X9.out) fun _ _ h => h⟩).mono ?_
 rintro e w3 ⟨rfl, X2⟩
 have X9 := hid (X9.out.trans X2)
 clear X2
 go_wp2_with fail
 refine ⟨In.of X9.out, In.of X9.out, ?_⟩
 change wpQuiet _ _ (fun w' => ∃ t : LaterF none' w1, w' = t.w) _ _ _
 repeat (go_big_quiet_step (fail))
 refine wpQuiet_nil ?_
 go_wp2_with fail
 go_ret
 exact ⟨by rw [HR.out]; simp [wType], X0.out.trans (XX.out.trans X9.out)⟩
theorem sd_alias (f : Nat) (hf : f + 1 ≤ 1100000) (t : Nd) (ht : t.size ≤ f + 1) (hk : t.kind = 4) (he : namB nmB 4 [parsB (tyF nmB f), tyF nmB f] t = true) (v : Value) (w : World) (hm : MaxL w) (hv : NdV none' w t v) :
  Calls Tryz.prog 21 #[v] w (StrPost (wType ++ t.text ++ parsT (typF f) (t.kid 0) ++ [32, 61, 32] ++ typF f (t.kid 1)) w) := by
 obtain ⟨H, HS⟩ := sh_all f (by omega)
 obtain ⟨y, rfl, hy⟩ := hv
 have HY := hid hy
 obtain ⟨a1, cap1, rfl, hcap, _⟩ := hy
 have hkl : t.kids.length ≤ 1100000 := by have := t.kids_len; omega
 obtain ⟨B, W0, hB, hW0, X0, G0⟩ := boxed w (.cells #[.int .i64 4, .string ⟨t.text.toArray⟩, .slice a1 t.kids.length cap1, .int .i64 t.pos] 24)
 obtain ⟨rr, hrr⟩ : ∃ r, r = wType ++ t.text ++ parsT (typF f) (t.kid 0) ++ [32, 61, 32] ++ typF f (t.kid 1) := ⟨_, rfl⟩
 rw [← hrr]
 obtain ⟨hk9, htn, h3⟩ := namB_parts he
 obtain ⟨x, y, hkx, hx1, hy1⟩ := two_kids h3
 obtain ⟨hx0, hy0⟩ := kid_two hkx
 have hsz := size_two hkx
 have hl : t.kids.length = 2 := by rw [hkx]; rfl
 have y0 : (0 : Int) < (t.kids.length : Int) := by omega
 have y1 : (1 : Int) < (t.kids.length : Int) := by omega
 have htl := nmB_len _ htn
 have hpl := (pars_len (by omega) hx1).1
 have l0 : (parsT (typF f) (t.kid 0)).length ≤ 10000000000000 := by rw [hx0]; omega
 have C0 := hid fun W v' (hv' : NdV none' W (t.kid 0) v') => shparams_any f hf (t.kid 0) (by rw [hx0]; omega) (by rw [hx0]; exact hx1) v' W hv'
 obtain ⟨o0, ho0⟩ : ∃ o, parsT (typF f) (t.kid 0) = o := ⟨_, rfl⟩
 rw [ho0] at hrr C0 l0
 have hl1 := ty_len hy1 (show y.size ≤ f by omega)
 have l1 : (typF f (t.kid 1)).length ≤ 10000000000000 := by rw [hy0]; omega
 have C1 := hid fun W v' (hv' : NdV none' W (t.kid 1) v') => typ_any f (by unfold bigD; omega) (t.kid 1) (by rw [hy0]; exact ⟨by omega, hy1⟩) v' W hv'
 obtain ⟨o1, ho1⟩ : ∃ o, typF f (t.kid 1) = o := ⟨_, rfl⟩
 rw [ho1] at hrr C1 l1
 have cat1 := str_cat [116, 121, 112, 101, 32] t.text
 have cat2 := str_cat ([116, 121, 112, 101, 32] ++ t.text) o0
 have cat3 := str_cat ([116, 121, 112, 101, 32] ++ (t.text ++ o0)) [32, 61, 32]
 have cat4 := str_cat ([116, 121, 112, 101, 32] ++ (t.text ++ (o0 ++ [32, 61, 32]))) o1
 simp only [List.append_assoc, List.cons_append, List.nil_append] at cat1 cat2 cat3 cat4
 have HR := hid hrr
 rw [hk]
 clear hrr ht hf he hk htn h3 hkx hx1 hy1 hx0 hy0 hsz hl ho0 hpl H HS hk9 ho1 hl1
 go_enter Tryz.func21, Tryz.ntmps21
 go_upto_region 1 with (fail)
 rw [← hW0, ← hB]
 clear hW0 hB
 obtain ⟨b, off, ka0, kc0, rfl, HBW, HZ0, KK0⟩ := kidA (HY.out.ext isNd_good X0.out fun _ _ h => h) (by omega)
 obtain ⟨ka1, kc1, HZ1, KK1⟩ := kidB (HY.out.ext isNd_good X0.out fun _ _ h => h) 1 4 rfl (by omega)
 obtain ⟨c0, c1, c2, c3⟩ := cell4 ((Ext.refl none' W0).heap G0.out fun h => h)
 go_upto_region 3 with (fail)
 clear c0 c1 c2 c3
 obtain ⟨w1, hw1⟩ : ∃ w1, w1 = (W0.alloc (.cells #[.int .i64 0, .bool false] 50)) := ⟨_, rfl⟩
 have XX := hid (show Ext none' W0 w1 by rw [hw1]; exact (Ext.refl _ _).alloc _)
 have G1 := hid (show w1.heap[W0.heap.size]? = some (.cells #[.int .i64 0, .bool false] 50 (0, 0)) by rw [hw1]; exact heap_alloc_at rfl _)
 rw [← hw1]
 clear hw1
 obtain ⟨C, hC⟩ : ∃ C, C = W0.heap.size := ⟨_, rfl⟩
 rw [← hC] at G1 ⊢
 clear hC
 obtain ⟨c0, c1, c2, c3⟩ := cellx XX.out G0.out
 obtain ⟨m10, m11, m12, m13⟩ := kid' XX.out HBW.out KK1.out
 go_upto_region 17 with (fail)
 clear c0 c1 c2 c3 m10 m11 m12 m13
 have c1 := fun t' : LaterF none' w1 => cell_at (((XX.out).trans t'.x).heap G0.out fun h => h) 1
 simp only [List.getElem?_toArray, List.getElem?_cons_zero, List.getElem?_cons_succ] at c1
 obtain ⟨m00, m01, m02, m03⟩ := kidL (w1 := w1) XX.out HBW.out KK0.out
 obtain ⟨m10, m11, m12, m13⟩ := kidL (w1 := w1) XX.out HBW.out KK1.out
 refine region_q none' w1 (.qs [0, 1, 2, 3, 4, 5, 9, 10, 11] (.one 6 true (.qs [7, 8] (.one 12 true (.qs [13, 14] .fin))))) (by kernel_rfl) (by kernel_rfl) (fun dst v c a w h => by cases dst <;> exact h) ?_
 refine ⟨In.of (Ext.refl _ _).drew, ?_⟩
 change wpQuiet _ _ (fun w' => ∃ t : LaterF none' w1, w' = t.w) _ _ _
 simp only [sel, List.getElem?_cons_succ, List.getElem?_cons_zero]
 repeat (go_big_quiet_step (fail))
 refine wpQuiet_nil ?_
 simp only [wpTreeQ, stepT, sel, List.getElem?_cons_succ, List.getElem?_cons_zero]
 have D1 := hid (Ext.refl none' w1).drew
 clear m00 m01 m02 m03 m10 m11 m12 m13 c1
 go_wp2_with fail
 refine (C0.out _ _ ⟨_, rfl, HZ0.out.ext isNd_good (XX.out.trans D1.out) fun _ _ h => h⟩).mono ?_
 rintro e w2 ⟨rfl, X2⟩
 have X9 := hid (D1.out.trans X2)
 clear X2
 go_wp2_with fail
 refine ⟨In.of X9.out, In.of X9.out, ?_⟩
 change wpQuiet _ _ (fun w' => ∃ t : LaterF none' w1, w' = t.w) _ _ _
 repeat (go_big_quiet_step (fail))
 refine wpQuiet_nil ?_
 go_wp2_with fail
 refine (C1.out _ _ ⟨_, rfl, HZ1.out.ext isNd_good (XX.out.trans X9.out) fun _ _ h => h⟩).mono ?_
 rintro e w3 ⟨rfl, X2⟩
 have X9 := hid (X9.out.trans X2)
 clear X2
 go_wp2_with fail
 refine ⟨In.of X9.out, In.of X9.out, ?_⟩
 change wpQuiet _ _ (fun w' => ∃ t : LaterF none' w1, w' = t.w) _ _ _
 repeat (go_big_quiet_step (fail))
 refine wpQuiet_nil ?_
 go_wp2_with fail
 go_ret
 exact ⟨by rw [HR.out]; simp [wType], X0.out.trans (XX.out.trans X9.out)⟩
theorem sd_func (f : Nat) (hf : f + 1 ≤ 1100000) (t : Nd) (ht : t.size ≤ f + 1) (hk : t.kind = 2) (he : namB nmB 2 [parsB (tyF nmB f), sigB (tyF nmB f) nmB, blkB (stF f)] t = true) (v : Value) (w : World) (hm : MaxL w) (hv : NdV none' w t v) :
  Calls Tryz.prog 21 #[v] w (StrPost ([102, 117, 110, 99, 32] ++ t.text ++ parsT (typF f) (t.kid 0) ++ sigT (typF f) (t.kid 1) ++ [32] ++ blT (stT f) 0 (t.kid 2)) w) := by
 obtain ⟨H, HS⟩ := sh_all f (by omega)
 obtain ⟨y, rfl, hy⟩ := hv
 have HY := hid hy
 obtain ⟨a1, cap1, rfl, hcap, _⟩ := hy
 have hkl : t.kids.length ≤ 1100000 := by have := t.kids_len; omega
 obtain ⟨B, W0, hB, hW0, X0, G0⟩ := boxed w (.cells #[.int .i64 2, .string ⟨t.text.toArray⟩, .slice a1 t.kids.length cap1, .int .i64 t.pos] 24)
 obtain ⟨rr, hrr⟩ : ∃ r, r = [102, 117, 110, 99, 32] ++ t.text ++ parsT (typF f) (t.kid 0) ++ sigT (typF f) (t.kid 1) ++ [32] ++ blT (stT f) 0 (t.kid 2) := ⟨_, rfl⟩
 rw [← hrr]
 obtain ⟨hk9, htn, h3⟩ := namB_parts he
 obtain ⟨x, y, z, hkx, hx1, hy1, hz1⟩ := three_kids h3
 obtain ⟨hx0, hy0, hz0⟩ := kid_three hkx
 have hsz := size_three hkx
 have hl : t.kids.length = 3 := by rw [hkx]; rfl
 have y0 : (0 : Int) < (t.kids.length : Int) := by omega
 have y1 : (1 : Int) < (t.kids.length : Int) := by omega
 have y2 : (2 : Int) < (t.kids.length : Int) := by omega
 have htl := nmB_len _ htn
 have hpl := (pars_len (by omega) hx1).1
 have l0 : (parsT (typF f) (t.kid 0)).length ≤ 10000000000000 := by rw [hx0]; omega
 have C0 := hid fun W v' (hv' : NdV none' W (t.kid 0) v') => shparams_any f hf (t.kid 0) (by rw [hx0]; omega) (by rw [hx0]; exact hx1) v' W hv'
 obtain ⟨o0, ho0⟩ : ∃ o, parsT (typF f) (t.kid 0) = o := ⟨_, rfl⟩
 rw [ho0] at hrr C0 l0
 have hsl := sigT_len nmB_len hy1 (show y.size ≤ f + 1 by omega)
 have hbl := blk_len (deep := 0) (st := stT f) (f := f) (by omega) (fun z hm hz => (lens_all f 1 (by omega)).2 z (by have := Nd.size_kid hm; omega) hz) hz1
 have l1 : (sigT (typF f) (t.kid 1)).length ≤ 10000000000000 := by rw [hy0]; omega
 have l2 : (blT (stT f) 0 (t.kid 2)).length ≤ 10000000000000 := by rw [hz0]; omega
 have C1 := hid fun W v' (hv' : NdV none' W (t.kid 1) v') => signature_any f (by unfold bigD; omega) (t.kid 1) (by rw [hy0]; omega) (by rw [hy0]; exact hy1) v' W hv'
 have C2 := hid fun W (X : Ext none' w W) v' (hv' : NdV none' W (t.kid 2) v') => blk_show f HS 0 false (by omega) hf (t.kid 2) (by rw [hz0]; omega) (by rw [hz0]; exact hz1) v' W (maxL_later hm X) hv'
 obtain ⟨o1, ho1⟩ : ∃ o, sigT (typF f) (t.kid 1) = o := ⟨_, rfl⟩
 obtain ⟨o2, ho2⟩ : ∃ o, blT (stT f) 0 (t.kid 2) = o := ⟨_, rfl⟩
 rw [ho1] at hrr C1 l1
 rw [ho2] at hrr C2 l2
 have cat1 := str_cat [102, 117, 110, 99, 32] t.text
 have cat2 := str_cat ([102, 117, 110, 99, 32] ++ t.text) o0
 have cat3 := str_cat ([102, 117, 110, 99, 32] ++ (t.text ++ o0)) o1
 have cat4 := str_cat ([102, 117, 110, 99, 32] ++ (t.text ++ (o0 ++ o1))) [32]
 have cat5 := str_cat ([102, 117, 110, 99, 32] ++ (t.text ++ (o0 ++ (o1 ++ [32])))) o2
 simp only [List.append_assoc, List.cons_append, List.nil_append] at cat1 cat2 cat3 cat4 cat5
 have HR := hid hrr
 rw [hk]
 clear hrr ht hf he hk htn h3 hkx hx1 hy1 hx0 hy0 hsz hl ho0 hpl H HS hk9 hz1 hz0 hsl hbl ho1 ho2
 go_enter Tryz.func21, Tryz.ntmps21
 go_upto_region 1 with (fail)
 rw [← hW0, ← hB]
 clear hW0 hB
 obtain ⟨b, off, ka0, kc0, rfl, HBW, HZ0, KK0⟩ := kidA (HY.out.ext isNd_good X0.out fun _ _ h => h) (by omega)
 obtain ⟨ka1, kc1, HZ1, KK1⟩ := kidB (HY.out.ext isNd_good X0.out fun _ _ h => h) 1 4 rfl (by omega)
 obtain ⟨ka2, kc2, HZ2, KK2⟩ := kidB (HY.out.ext isNd_good X0.out fun _ _ h => h) 2 8 rfl (by omega)
 obtain ⟨c0, c1, c2, c3⟩ := cell4 ((Ext.refl none' W0).heap G0.out fun h => h)
 go_upto_region 3 with (fail)
 clear c0 c1 c2 c3
 obtain ⟨w1, hw1⟩ : ∃ w1, w1 = (W0.alloc (.cells #[.int .i64 0, .bool false] 50)) := ⟨_, rfl⟩
 have XX := hid (show Ext none' W0 w1 by rw [hw1]; exact (Ext.refl _ _).alloc _)
 have G1 := hid (show w1.heap[W0.heap.size]? = some (.cells #[.int .i64 0, .bool false] 50 (0, 0)) by rw [hw1]; exact heap_alloc_at rfl _)
 rw [← hw1]
 clear hw1
 obtain ⟨C, hC⟩ : ∃ C, C = W0.heap.size := ⟨_, rfl⟩
 rw [← hC] at G1 ⊢
 clear hC
 obtain ⟨c0, c1, c2, c3⟩ := cellx XX.out G0.out
 go_upto_region 5 with (fail)
 clear c0 c1 c2 c3
 have c1 := fun t' : LaterF none' w1 => cell_at (((XX.out).trans t'.x).heap G0.out fun h => h) 1
 simp only [List.getElem?_toArray, List.getElem?_cons_zero, List.getElem?_cons_succ] at c1
 have x0 := fun t' : LaterF none' w1 => cell_at ((((Ext.refl none' w1)).trans t'.x).heap G1.out fun h => h) 0
 have x1 := fun t' : LaterF none' w1 => cell_at ((((Ext.refl none' w1)).trans t'.x).heap G1.out fun h => h) 1
 simp only [List.getElem?_toArray, List.getElem?_cons_zero, List.getElem?_cons_succ] at x0 x1
 obtain ⟨m00, m01, m02, m03⟩ := kidL (w1 := w1) XX.out HBW.out KK0.out
 obtain ⟨m10, m11, m12, m13⟩ := kidL (w1 := w1) XX.out HBW.out KK1.out
 obtain ⟨m20, m21, m22, m23⟩ := kidL (w1 := w1) XX.out HBW.out KK2.out
 refine region_q none' w1 (.qs [0, 1, 2, 3, 4, 5, 8, 9, 10, 14, 15, 16, 17] (.one 6 true (.qs [7] (.one 11 true (.qs [12, 13] (.one 18 true (.qs [19, 20] .fin))))))) (by kernel_rfl) (by kernel_rfl) (fun dst v c a w h => by cases dst <;> exact h) ?_
 refine ⟨In.of (Ext.refl _ _).drew, ?_⟩
 change wpQuiet _ _ (fun w' => ∃ t : LaterF none' w1, w' = t.w) _ _ _
 simp only [sel, List.getElem?_cons_succ, List.getElem?_cons_zero]
 repeat (go_big_quiet_step (fail))
 refine wpQuiet_nil ?_
 simp only [wpTreeQ, stepT, sel, List.getElem?_cons_succ, List.getElem?_cons_zero]
 have D1 := hid (Ext.refl none' w1).drew
 clear m00 m01 m02 m03 m10 m11 m12 m13 m20 m21 m22 m23 c1 x0 x1
 go_wp2_with fail
 refine (C0.out _ _ ⟨_, rfl, HZ0.out.ext isNd_good (XX.out.trans D1.out) fun _ _ h => h⟩).mono ?_
 rintro e w2 ⟨rfl, X2⟩
 have X9 := hid (D1.out.trans X2)
 clear X2
 go_wp2_with fail
 refine ⟨In.of X9.out, In.of X9.out, ?_⟩
 change wpQuiet _ _ (fun w' => ∃ t : LaterF none' w1, w' = t.w) _ _ _
 repeat (go_big_quiet_step (fail))
 refine wpQuiet_nil ?_
 go_wp2_with fail
 refine (C1.out _ _ ⟨_, rfl, HZ1.out.ext isNd_good (XX.out.trans X9.out) fun _ _ h => h⟩).mono ?_
 rintro e w3 ⟨rfl, X2⟩
 have X9 := hid (X9.out.trans X2)
 clear X2
 go_wp2_with fail
 refine ⟨In.of X9.out, In.of X9.out, ?_⟩
 change wpQuiet _ _ (fun w' => ∃ t : LaterF none' w1, w' = t.w) _ _ _
 repeat (go_big_quiet_step (fail))
 refine wpQuiet_nil ?_
 go_wp2_with fail
 refine (C2.out _ (X0.out.trans (XX.out.trans X9.out)) _ ⟨_, rfl, HZ2.out.ext isNd_good (XX.out.trans X9.out) fun _ _ h => h⟩).mono ?_
 rintro e w4 ⟨rfl, X2⟩
 have X9 := hid (X9.out.trans X2)
 clear X2
 go_wp2_with fail
 refine ⟨In.of X9.out, In.of X9.out, ?_⟩
 change wpQuiet _ _ (fun w' => ∃ t : LaterF none' w1, w' = t.w) _ _ _
 repeat (go_big_quiet_step (fail))
 refine wpQuiet_nil ?_
 go_wp2_with fail
 go_ret
 exact ⟨by rw [HR.out]; simp, X0.out.trans (XX.out.trans X9.out)⟩
def fldF (ty : Nd → List UInt8) (x : Nd) : List UInt8 := lineT 1 (x.text ++ [32] ++ ty (x.kid 0))
theorem fld_parts {f : Nat} {x : Nd} (h : namB nmB 9 [tyF nmB f] x = true) (hs : x.size ≤ f + 1) : ParD (TyD f) (typF f) x ∨ f + 1 > 1100000 := by
 by_cases hf : f + 1 ≤ 1100000
 · obtain ⟨_, h2, h3⟩ := namB_parts h
   obtain ⟨y, hk, hy⟩ := one_kid h3
   have h5 := size_one hk
   have h6 := nmB_len _ h2
   have h7 := ty_len hy (show y.size ≤ f by omega)
   refine .inl ⟨by rw [hk]; simp, by rw [kid_one hk]; exact ⟨by omega, hy⟩, by rw [kid_one hk]; omega⟩
 · exact .inr (by omega)
theorem fld_text {f : Nat} {x : Nd} (h : namB nmB 9 [tyF nmB f] x = true) : parF (typF f) x = x.text ++ [32] ++ typF f (x.kid 0) := by
 obtain ⟨_, h2, h3⟩ := namB_parts h
 obtain ⟨y, hk, hy⟩ := one_kid h3
 exact parF_text (fun e => by rw [e, nmB_nil'] at h2; cases h2) (by rw [kid_one hk]; exact ty_ne hy)
theorem fld_len {f : Nat} {x : Nd} (h : namB nmB 9 [tyF nmB f] x = true) (hs : x.size ≤ f + 1) : (fldF (typF f) x).length ≤ 4000000 * x.size ∧ (parF (typF f) x).length ≤ 4000000 * x.size := by
 rw [fld_text h]
 obtain ⟨_, h2, h3⟩ := namB_parts h
 obtain ⟨y, hk, hy⟩ := one_kid h3
 have h5 := size_one hk
 have h6 := nmB_len _ h2
 have h7 := ty_len hy (show y.size ≤ f by omega)
 unfold fldF lineT
 rw [kid_one hk]
 simp only [List.length_append, tabsT_len, List.length_cons, List.length_nil]
 omega
theorem sd_struct (f : Nat) (hf : f + 1 ≤ 1100000) (t : Nd) (ht : t.size ≤ f + 1) (hk : t.kind = 3) (he : namB nmB 3 [parsB (tyF nmB f), orB (orB (tyF nmB f) (structB (tyF nmB f))) (interB (tyF nmB f))] t = true) (hst : (t.kid 1).kind = 13) (v : Value) (w : World) (hm : MaxL w) (hv : NdV none' w t v) :
  Calls Tryz.prog 21 #[v] w (StrPost (wType ++ t.text ++ parsT (typF f) (t.kid 0) ++ [32] ++ ([115, 116, 114, 117, 99, 116, 32, 123, 10] ++ ((t.kid 1).kids.map fun x => lineT 1 (x.text ++ [32] ++ typF f (x.kid 0))).flatten ++ [125])) w) := by
 obtain ⟨H, HS⟩ := sh_all f (by omega)
 obtain ⟨y, rfl, hy⟩ := hv
 have HY := hid hy
 obtain ⟨a1, cap1, rfl, hcap, _⟩ := hy
 have hkl : t.kids.length ≤ 1100000 := by have := t.kids_len; omega
 obtain ⟨B, W0, hB, hW0, X0, G0⟩ := boxed w (.cells #[.int .i64 3, .string ⟨t.text.toArray⟩, .slice a1 t.kids.length cap1, .int .i64 t.pos] 24)
 obtain ⟨rr, hrr⟩ : ∃ r, r = wType ++ t.text ++ parsT (typF f) (t.kid 0) ++ [32] ++ ([115, 116, 114, 117, 99, 116, 32, 123, 10] ++ ((t.kid 1).kids.map fun x => lineT 1 (x.text ++ [32] ++ typF f (x.kid 0))).flatten ++ [125]) := ⟨_, rfl⟩
 rw [← hrr]
 obtain ⟨hk9, htn, h3⟩ := namB_parts he
 obtain ⟨x, y, hkx, hx1, hy1⟩ := two_kids h3
 obtain ⟨hx0, hy0⟩ := kid_two hkx
 have hsz := size_two hkx
 have hl : t.kids.length = 2 := by rw [hkx]; rfl
 have y0 : (0 : Int) < (t.kids.length : Int) := by omega
 have y1 : (1 : Int) < (t.kids.length : Int) := by omega
 have htl := nmB_len _ htn
 have hpl := (pars_len (by omega) hx1).1
 have l0 : (parsT (typF f) (t.kid 0)).length ≤ 10000000000000 := by rw [hx0]; omega
 have C0 := hid fun W v' (hv' : NdV none' W (t.kid 0) v') => shparams_any f hf (t.kid 0) (by rw [hx0]; omega) (by rw [hx0]; exact hx1) v' W hv'
 obtain ⟨o0, ho0⟩ : ∃ o, parsT (typF f) (t.kid 0) = o := ⟨_, rfl⟩
 rw [ho0] at hrr C0 l0
 have hys : structB (tyF nmB f) y = true := by
  unfold orB at hy1
  simp only [Bool.or_eq_true] at hy1
  rw [hy0] at hst
  rcases hy1 with (h | h) | h
  · have := tyF_kind h; omega
  · exact h
  · have := (interB_parts h).1; omega
 have hkb : ∀ x ∈ (t.kid 1).kids, namB nmB 9 [tyF nmB f] x = true := by
  rw [hy0]
  unfold structB at hys
  simp only [Bool.and_eq_true, List.all_eq_true] at hys
  exact hys.2.2
 have hyz : (t.kid 1).size ≤ f + 1 := by rw [hy0]; omega
 have hksz : ∀ x ∈ (t.kid 1).kids, x.size ≤ f + 1 := fun x hx => by have := Nd.size_kid hx; omega
 have hkl1 : (t.kid 1).kids.length ≤ 1100000 := by have := (t.kid 1).kids_len; omega
 have hz := size_kids (t.kid 1)
 obtain ⟨g, hg⟩ : ∃ g, g = fldF (typF f) := ⟨_, rfl⟩
 have hgl : ∀ x ∈ (t.kid 1).kids, (g x).length ≤ 4000000 * x.size := fun x hx => by rw [hg]; exact (fld_len (hkb x hx) (hksz x hx)).1
 have cat1 := str_cat [116, 121, 112, 101, 32] t.text
 have cat2 := str_cat ([116, 121, 112, 101, 32] ++ t.text) o0
 have cat3 := str_cat ([116, 121, 112, 101, 32] ++ (t.text ++ o0)) [32, 115, 116, 114, 117, 99, 116, 32, 123, 10]
 simp only [List.append_assoc, List.cons_append, List.nil_append] at cat1 cat2 cat3
 obtain ⟨acc, hacc⟩ : ∃ acc : Nat → List UInt8, acc = fun i => [116, 121, 112, 101, 32] ++ (t.text ++ (o0 ++ [32, 115, 116, 114, 117, 99, 116, 32, 123, 10])) ++ (((t.kid 1).kids.take i).map g).flatten := ⟨_, rfl⟩
 have AL := hid (show ∀ i, (acc i).length ≤ 100000000000000 by
  intro i
  have h1 := flat_len (p := g) (l := (t.kid 1).kids.take i) fun x hx => hgl x (List.mem_of_mem_take hx)
  have h2 : Nd.sizeL ((t.kid 1).kids.take i) ≤ Nd.sizeL (t.kid 1).kids := by
   conv => rhs; rw [← List.take_append_drop i (t.kid 1).kids]
   clear h1
   generalize (t.kid 1).kids.take i = a
   induction a with
   | nil => simp [Nd.sizeL]
   | cons x r ih => simp only [List.cons_append, Nd.sizeL]; omega
  rw [hacc]
  simp only [List.length_append, List.length_cons, List.length_nil]
  omega)
 have A1 := hid (show ∀ i (h : i < (t.kid 1).kids.length), acc (i + 1) = acc i ++ g (t.kid 1).kids[i] by
  intro i h
  rw [hacc]
  show _ ++ (((t.kid 1).kids.take (i + 1)).map g).flatten = _ ++ (((t.kid 1).kids.take i).map g).flatten ++ g (t.kid 1).kids[i]
  rw [List.take_add_one, List.getElem?_eq_getElem h, List.map_append, List.flatten_append]
  simp)
 have A0 := hid (show 116 :: 121 :: 112 :: 101 :: 32 :: (t.text ++ (o0 ++ [32, 115, 116, 114, 117, 99, 116, 32, 123, 10])) = acc 0 by rw [hacc]; simp)
 have HR := hid (show rr = acc (t.kid 1).kids.length ++ [125] by
  have e : fldF (typF f) = fun x => lineT 1 (x.text ++ [32] ++ typF f (x.kid 0)) := rfl
  rw [hrr, hacc, hg, e]
  simp [wType])
 have GL := hid (show ∀ i (h : i < (t.kid 1).kids.length), (g (t.kid 1).kids[i]).length ≤ 10000000000000 by
  intro i h
  have h1 := hgl _ (List.getElem_mem h)
  have h2 := Nd.size_kid (List.getElem_mem h)
  omega)
 have CP := hid fun i (h : i < (t.kid 1).kids.length) W v' (hv' : NdV none' W (t.kid 1).kids[i] v') => (by
  have hm := List.getElem_mem h
  obtain ⟨p1, p2, p3⟩ := (fld_parts (hkb _ hm) (hksz _ hm)).resolve_right (by omega)
  exact param_any (TyD f) (typF f) (typ_any f (by unfold bigD; omega)) _ p1 p2 p3 v' W hv' : Calls Tryz.prog 44 #[v'] W (StrPost (parF (typF f) (t.kid 1).kids[i]) W))
 have CL := hid fun i (h : i < (t.kid 1).kids.length) W => (by
  have hm := List.getElem_mem h
  have h1 := (fld_len (hkb _ hm) (hksz _ hm)).2
  have h2 := Nd.size_kid hm
  have h3 := line_any 1 (by omega) false (parF (typF f) (t.kid 1).kids[i]) (by omega) W
  rw [hg]
  unfold fldF
  rw [← fld_text (hkb _ hm)]
  exact h3 : Calls Tryz.prog 43 #[shV 1 false, .string ⟨(parF (typF f) (t.kid 1).kids[i]).toArray⟩] W (StrPost (g (t.kid 1).kids[i]) W))
 have CI := hid fun W => shin_any 0 (by omega) false W
 have q13 : ((t.kid 1).kind != 13) = false := by simpa using hst
 rw [hk]
 clear hrr ht hf he hk htn h3 hkx hx1 hy1 hx0 hy0 hsz hl ho0 hpl H HS hk9 hst hys hkb hyz hksz hz hg hgl hacc
 go_enter Tryz.func21, Tryz.ntmps21
 go_upto_region 1 with (fail)
 rw [← hW0, ← hB]
 clear hW0 hB
 obtain ⟨b, off, ka0, kc0, rfl, HBW, HZ0, KK0⟩ := kidA (HY.out.ext isNd_good X0.out fun _ _ h => h) (by omega)
 obtain ⟨ka1, kc1, HZ1, KK1⟩ := kidB (HY.out.ext isNd_good X0.out fun _ _ h => h) 1 4 rfl (by omega)
 obtain ⟨c0, c1, c2, c3⟩ := cell4 ((Ext.refl none' W0).heap G0.out fun h => h)
 go_upto_region 3 with (fail)
 clear c0 c1 c2 c3
 obtain ⟨w1, hw1⟩ : ∃ w1, w1 = (W0.alloc (.cells #[.int .i64 0, .bool false] 50)) := ⟨_, rfl⟩
 have XX := hid (show Ext none' W0 w1 by rw [hw1]; exact (Ext.refl _ _).alloc _)
 have G1 := hid (show w1.heap[W0.heap.size]? = some (.cells #[.int .i64 0, .bool false] 50 (0, 0)) by rw [hw1]; exact heap_alloc_at rfl _)
 rw [← hw1]
 clear hw1
 obtain ⟨C, hC⟩ : ∃ C, C = W0.heap.size := ⟨_, rfl⟩
 rw [← hC] at G1 ⊢
 clear hC
 obtain ⟨c0, c1, c2, c3⟩ := cellx XX.out G0.out
 obtain ⟨m10, m11, m12, m13⟩ := kid' XX.out HBW.out KK1.out
 go_upto_region 9 with (fail)
 clear c0 c1 c2 c3 m10 m11 m12 m13
 have c1 := fun t' : LaterF none' w1 => cell_at (((XX.out).trans t'.x).heap G0.out fun h => h) 1
 simp only [List.getElem?_toArray, List.getElem?_cons_zero, List.getElem?_cons_succ] at c1
 obtain ⟨m00, m01, m02, m03⟩ := kidL (w1 := w1) XX.out HBW.out KK0.out
 refine region_q none' w1 (.qs [0, 1, 2, 3, 4, 5] (.one 6 true (.qs [7, 8, 9] .fin))) (by kernel_rfl) (by kernel_rfl) (fun dst v c a w h => by cases dst <;> exact h) ?_
 refine ⟨In.of (Ext.refl _ _).drew, ?_⟩
 change wpQuiet _ _ (fun w' => ∃ t : LaterF none' w1, w' = t.w) _ _ _
 simp only [sel, List.getElem?_cons_succ, List.getElem?_cons_zero]
 repeat (go_big_quiet_step (fail))
 refine wpQuiet_nil ?_
 simp only [wpTreeQ, stepT, sel, List.getElem?_cons_succ, List.getElem?_cons_zero]
 have D1 := hid (Ext.refl none' w1).drew
 clear m00 m01 m02 m03 c1
 go_wp2_with fail
 refine (C0.out _ _ ⟨_, rfl, HZ0.out.ext isNd_good (XX.out.trans D1.out) fun _ _ h => h⟩).mono ?_
 rintro e w2 ⟨rfl, X2⟩
 have X9 := hid (D1.out.trans X2)
 clear X2
 go_wp2_with fail
 refine ⟨In.of X9.out, In.of X9.out, ?_⟩
 change wpQuiet _ _ (fun w' => ∃ t : LaterF none' w1, w' = t.w) _ _ _
 repeat (go_big_quiet_step (fail))
 refine wpQuiet_nil ?_
 have GS := hid (X9.out.heap G1.out fun h => h)
 have XX := hid (XX.out.trans X9.out)
 have hk1 := HZ1.out.ext isNd_good XX.out fun _ _ h => h
 have HK := hid hk1
 clear hk1
 obtain ⟨m10, m11, m12, m13⟩ := kid' XX.out HBW.out KK1.out
 rw [A0.out]
 go_wp2_with fail
 clear m10 m11 m12 m13
 go_loopw [5, 7, 70] (fun o _ z wr => ∃ (i : Nat), z = .int .i64 (i : Nat) ∧ i ≤ (t.kid 1).kids.length ∧ o = .string ⟨(acc i).toArray⟩ ∧ Hid (Ext none' w2 wr)) (fun _ _ z _ => (t.kid 1).kids.length - (RowKit.intOf z).toNat)
 case atStart => exact ⟨0, rfl, by omega, rfl, hid (Ext.refl _ _)⟩
 case round =>
  obtain ⟨i, rfl, hle, rfl, R⟩ := hrel
  by_cases hi : i < (t.kid 1).kids.length
  · obtain ⟨b2, off2, cs, e1, _, hbw2, hcc, hty⟩ := (HK.out.ext isNd_good R.out fun _ _ h => h.elim).at i hi
    subst e1
    obtain ⟨y, rfl, hy⟩ := hty.parts
    have HYI := hid hy
    have c0 := hcc 0 _ rfl
    have c1 := hcc 1 _ rfl
    have c2 := hcc 2 _ rfl
    have c3 := hcc 3 _ rfl
    simp only [Nat.add_zero] at c0
    obtain ⟨a3, cap3, rfl, _⟩ := hy
    have CP := hid (CP.out i hi)
    have CL := hid (CL.out i hi)
    have A1 := hid (A1.out i hi)
    have hal := AL.out i
    have hgl := GL.out i hi
    obtain ⟨t1, ht1⟩ : ∃ t1, (t.kid 1).kids[i] = t1 := ⟨_, rfl⟩
    rw [ht1] at c0 c1 c2 c3 CP CL A1 hgl HYI
    obtain ⟨x1, hx1⟩ : ∃ x1, parF (typF f) t1 = x1 := ⟨_, rfl⟩
    rw [hx1] at CP CL
    obtain ⟨q1, hq1⟩ : ∃ q1, g t1 = q1 := ⟨_, rfl⟩
    rw [hq1] at CL A1 hgl
    obtain ⟨o1, ho1⟩ : ∃ o1, acc i = o1 := ⟨_, rfl⟩
    rw [ho1] at A1 hal ⊢
    have cat := str_cat o1 q1
    obtain ⟨W1, hW1⟩ : ∃ W1, W1 = wr.alloc (.cells #[.int .i64 t1.kind, .string ⟨t1.text.toArray⟩, .slice a3 t1.kids.length cap3, .int .i64 t1.pos] 24) := ⟨_, rfl⟩
    have X1 := hid (show Ext none' wr W1 by rw [hW1]; exact (Ext.refl _ _).alloc _)
    have GB := hid (show W1.heap[wr.heap.size]? = some (.cells #[.int .i64 t1.kind, .string ⟨t1.text.toArray⟩, .slice a3 t1.kids.length cap3, .int .i64 t1.pos] 24 (0, 0)) by rw [hW1]; exact heap_alloc_at rfl _)
    clear ht1 hx1 hq1 ho1 hcc hty
    go_upto_region 13 with (fail)
    rw [← hW1]
    clear hW1 c0 c1 c2 c3
    obtain ⟨BB, hBB⟩ : ∃ BB, BB = wr.heap.size := ⟨_, rfl⟩
    rw [← hBB] at GB ⊢
    clear hBB
    have R := hid (R.out.trans X1.out)
    have x0 := fun t' : LaterF none' W1 => cell_at ((R.out.trans t'.x).heap GS.out fun h => h) 0
    have x1 := fun t' : LaterF none' W1 => cell_at ((R.out.trans t'.x).heap GS.out fun h => h) 1
    have m0 := fun t' : LaterF none' W1 => cell_at (t'.x.heap GB.out fun h => h) 0
    have m1 := fun t' : LaterF none' W1 => cell_at (t'.x.heap GB.out fun h => h) 1
    have m2 := fun t' : LaterF none' W1 => cell_at (t'.x.heap GB.out fun h => h) 2
    have m3 := fun t' : LaterF none' W1 => cell_at (t'.x.heap GB.out fun h => h) 3
    simp only [List.getElem?_toArray, List.getElem?_cons_zero, List.getElem?_cons_succ] at x0 x1 m0 m1 m2 m3
    refine region_q none' W1 (.qs [0, 1, 3] (.one 2 true (.one 4 true (.one 5 true (.one 6 false (.one 7 false .fin)))))) (by kernel_rfl) (by kernel_rfl) (fun dst v c a w h => by cases dst <;> exact h) ?_
    refine ⟨In.of (Ext.refl _ _).drew, ?_⟩
    change wpQuiet _ _ (fun w' => ∃ t : LaterF none' W1, w' = t.w) _ _ _
    simp only [sel, List.getElem?_cons_succ, List.getElem?_cons_zero]
    repeat (go_big_quiet_step (fail))
    refine wpQuiet_nil ?_
    simp only [wpTreeQ, stepT, sel, List.getElem?_cons_succ, List.getElem?_cons_zero]
    have D1 := hid (Ext.refl none' W1).drew
    clear x0 x1 m0 m1 m2 m3
    go_wp2_with fail
    refine (CI.out _).mono ?_
    rintro e w3 ⟨rfl, X2⟩
    have X9 := hid (D1.out.trans X2)
    clear X2
    go_wp2_with fail
    refine ⟨In.of X9.out, ?_⟩
    go_wp2_with fail
    refine (CP.out _ _ ⟨_, rfl, HYI.out.ext isNd_good (X1.out.trans X9.out) fun _ _ h => h⟩).mono ?_
    rintro e w4 ⟨rfl, X2⟩
    have X9 := hid (X9.out.trans X2)
    clear X2
    go_wp2_with fail
    refine ⟨In.of X9.out, ?_⟩
    go_wp2_with fail
    refine (CL.out _).mono ?_
    rintro e w5 ⟨rfl, X2⟩
    have X9 := hid (X9.out.trans X2)
    clear X2
    go_wp2_with fail
    refine ⟨In.of X9.out, ?_⟩
    go_wp2_with fail
    have N := hid (R.out.trans X9.out)
    clear R X9 D1 X1
    go_roundw
    case rel => exact ⟨i + 1, by go_num, by omega, by rw [A1.out], N⟩
    case measure => simp [RowKit.intOf]; omega
  · obtain rfl : i = (t.kid 1).kids.length := by omega
    have hal := AL.out (t.kid 1).kids.length
    obtain ⟨o1, ho1⟩ : ∃ o1, acc (t.kid 1).kids.length = o1 := ⟨_, rfl⟩
    rw [ho1] at HR hal ⊢
    have cat := str_cat o1 [125]
    clear ho1
    go_wp2_with fail
    go_ret
    exact ⟨by rw [HR.out]; rfl, X0.out.trans (XX.out.trans R.out)⟩
theorem shdecl_any (f : Nat) (hf : f + 1 ≤ 1100000) (t : Nd) (ht : t.size ≤ f + 1) (he : declB (tyF nmB f) (exF f) (stF f) t = true) (v : Value) (w : World) (hm : MaxL w) (hv : NdV none' w t v) :
  Calls Tryz.prog 21 #[v] w (StrPost (declT (typF f) (exT f) (stT f) t) w) := by
 unfold declB at he
 unfold declT
 by_cases h2 : t.kind = 2
 · rw [if_pos h2] at he ⊢
   exact sd_func f hf t ht h2 he v w hm hv
 rw [if_neg h2] at he ⊢
 by_cases h3 : t.kind = 3
 · rw [if_pos h3] at he ⊢
   by_cases h13 : (t.kid 1).kind = 13
   · rw [if_pos h13]
     exact sd_struct f hf t ht h3 he h13 v w hm hv
   · rw [if_neg h13]
     exact sd_type f hf t ht h3 he h13 v w hm hv
 rw [if_neg h3] at he ⊢
 by_cases h4 : t.kind = 4
 · rw [if_pos h4] at he ⊢
   exact sd_alias f hf t ht h4 he v w hm hv
 rw [if_neg h4] at he ⊢
 exact sd_var f hf t ht h2 h3 h4 he v w hm hv
end Go.Proofs.YthbmjamgidfneaaGreatDoor
