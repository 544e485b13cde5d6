import Derived.Test.YthbmjamgidfneaaGreatDoorVAb
import Derived.Test.YthbmjamgidfneaaGreatDoorVAf
import Derived.Test.YthbmjamgidfneaaGreatDoorVAq
import Derived.Test.YthbmjamgidfneaaGreatDoorVAl
import Derived.Test.YthbmjamgidfneaaGreatDoorVAv
import Derived.Test.YthbmjamgidfneaaGreatDoorVAw
set_option maxRecDepth 100000
set_option maxHeartbeats 6400000
namespace Go.Proofs.YthbmjamgidfneaaGreatDoor
open Go.RowKit Go.Lib Go.BigFrame
set_option linter.unusedVariables false
set_option linter.unusedSimpArgs false
theorem IsSl.gone {w : World} {b off : Nat} : IsSl 4 IsNd none' w (.slice (some ⟨b, off, none⟩) 0 0) [] :=
 ⟨_, 0, rfl, Nat.le_refl _, (fun h => by cases h), fun h => absurd rfl h⟩
theorem oth_any (f : Nat) (H : ExpH f) (deep : Nat) (hd : deep + (f + 1) ≤ 1200000) (hf : f + 1 ≤ 1100000) (t : Nd) (ht : t.size ≤ f + 1) (h0 : 0 < t.kids.length) (h : ∀ x ∈ t.kids.drop 1, argB (tyF nmB f) (exF f) x = true) (v : Value) (W : World) (hm : MaxL W) (hs : IsSl 4 IsNd none' W v (t.kids.drop 1)) :
  Calls Tryz.prog 47 #[v, .string ⟨sComma.toArray⟩, (.func (.func 51) #[shV deep false] #[])] W (StrPost (othT (typF f) (exT f) deep t) W) := by
 have hin : ∀ x ∈ t.kids.drop 1, x.size ≤ f := fun x hx => by have := Nd.size_kid (List.mem_of_mem_drop hx); omega
 have hl := lens_le (p := partT (typF f) (exT f) deep) (c := 1250000) (l := t.kids.drop 1) fun x hx =>
  partT_len (hin x hx) (fun he => (lens_all f deep (by omega)).1 x (hin x hx) he) (h x hx)
 have hz := size_kids t
 have hc := kids_cons h0
 rw [hc, Nd.sizeL] at hz
 have hn : (t.kids.drop 1).length ≤ t.kids.length := by rw [List.length_drop]; omega
 have hk := t.kids_len
 have hcm : sComma.length = 2 := rfl
 exact each_any (ArgD f) (partT (typF f) (exT f) deep) sComma (t.kids.drop 1) v _ W hs (part_tell f H deep (by omega) (by omega) W hm)
  (fun i hi => ⟨hin _ (List.getElem_mem hi), h _ (List.getElem_mem hi)⟩) (by unfold bigD; omega) (by rw [hcm]; omega)
theorem sx_call (f : Nat) (H : ExpH f) (deep : Nat) (head : Bool) (hd : deep + (f + 1) ≤ 1200000) (hf : f + 1 ≤ 1100000) (t : Nd) (ht : t.size ≤ f + 1) (hk : t.kind = 21) (he : (t.text == [] && (!t.kids.isEmpty && t.kids.all (exF f))) = true) (v : Value) (w : World) (hm : MaxL w) (hv : NdV none' w t v) :
  Calls Tryz.prog 23 #[shV deep head, v] w (StrPost (fstT (exT f) deep head (t.kid 0) ++ [40] ++ othT (typF f) (exT f) deep t ++ [41]) w) := by
 obtain ⟨y, rfl, hy⟩ := hv
 have HY := hid hy
 obtain ⟨a1, cap1, rfl, hcap, _⟩ := hy
 have hkl : t.kids.length ≤ 1100000 := by have := t.kids_len; omega
 obtain ⟨rr, hrr⟩ : ∃ r, r = fstT (exT f) deep head (t.kid 0) ++ [40] ++ othT (typF f) (exT f) deep t ++ [41] := ⟨_, rfl⟩
 rw [← hrr]
 simp only [Bool.and_eq_true, Bool.not_eq_true', List.all_eq_true] at he
 have h3 : 0 < t.kids.length := by
  have := he.2.1
  cases h : t.kids with
  | nil => rw [h] at this; simp at this
  | cons a l => simp
 have hx1 : exF f (t.kid 0) = true := he.2.2 _ (kid_mem' h3)
 have hag : ∀ x ∈ t.kids.drop 1, argB (tyF nmB f) (exF f) x = true := fun x hx => exB_arg (he.2.2 x (List.mem_of_mem_drop hx))
 have hks : (t.kid 0).size ≤ f := by have := Nd.size_kid (kid_mem' (t := t) (i := 0) (by omega)); omega
 have hfl := brT_len (head := head) (yes := ((t.kid 0).kind == 19 || (t.kid 0).kind == 20)) ((lens_all f deep (by omega)).1 _ hks hx1)
 have C0 := hid fun W (X : Ext none' w W) v' (hv' : NdV none' W (t.kid 0) v') => first_any f H deep head (by omega) (by omega) (t.kid 0) hks hx1 v' W (maxL_later hm X) hv'
 have hbl2 : (fstT (exT f) deep head (t.kid 0)).length ≤ 10000000000000 := by unfold fstT; omega
 obtain ⟨q0, hq0⟩ : ∃ q, fstT (exT f) deep head (t.kid 0) = q := ⟨_, rfl⟩
 rw [hq0] at C0 hbl2 hrr
 have hol := othT_len (deep := deep) (ex := exT f) h3 ht (fun x hx he => (lens_all f deep (by omega)).1 x (by have := Nd.size_kid hx; omega) he) hag
 have hol2 : (othT (typF f) (exT f) deep t).length ≤ 10000000000000 := by omega
 have CO := hid fun W (X : Ext none' w W) v' (hs : IsSl 4 IsNd none' W v' (t.kids.drop 1)) => oth_any f H deep (by omega) (by omega) t ht h3 hag v' W (maxL_later hm X) hs
 obtain ⟨q1, hq1⟩ : ∃ q, othT (typF f) (exT f) deep t = q := ⟨_, rfl⟩
 rw [hq1] at CO hol2 hrr
 have y0 : (0 : Int) < (t.kids.length : Int) := by omega
 have y1 : (1 : Int) ≤ (t.kids.length : Int) := by omega
 have y2 : (t.kids.length : Int) ≤ (cap1 : Int) := by omega
 have cat1 := str_cat q0 [40]
 have cat2 := str_cat (q0 ++ [40]) q1
 have cat3 := str_cat (q0 ++ [40] ++ q1) [41]
 simp only [List.append_assoc, List.cons_append, List.nil_append] at cat2 cat3
 have HR := hid hrr
 have HKL := hid h3
 rw [hk]
 have CF := hid fun W => free_any deep head W
 obtain ⟨B, hB⟩ : ∃ B, B = w.heap.size := ⟨_, rfl⟩
 have BX := TwoBox.mk' (deep := deep) (head := head) (cs := #[.int .i64 21, .string ⟨t.text.toArray⟩, .slice a1 t.kids.length cap1, .int .i64 t.pos]) hB
 obtain ⟨W0, hW0⟩ : ∃ W0, W0 = ((w.alloc (.cells #[.int .i64 (deep : Nat), .bool head] 50)).alloc (.cells #[.int .i64 21, .string ⟨t.text.toArray⟩, .slice a1 t.kids.length cap1, .int .i64 t.pos] 24)) := ⟨_, rfl⟩
 rw [← hW0] at BX
 have BX := hid BX
 have hmf := mkf_run
 clear hk he hrr ht hd hf h3 hag hks hol hq0 hq1 H hfl hx1
 go_enter Tryz.func23, Tryz.ntmps23
 go_upto_region 1 with (fail)
 rw [← hW0, ← hB]
 clear hW0 hB
 obtain ⟨x0, x1⟩ := cell2 BX.out.g0
 obtain ⟨c0, c1, c2, c3⟩ := cell4 BX.out.g1
 go_wp2_with fail
 refine (CF.out _).mono ?_
 rintro e w1 ⟨rfl, X1⟩
 have BX := hid (BX.out.ext X1)
 clear x0 x1 c0 c1 c2 c3 X1
 obtain ⟨x0, x1⟩ := cell2 BX.out.g0
 obtain ⟨c0, c1, c2, c3⟩ := cell4 BX.out.g1
 go_upto_region 14 with (fail)
 clear x0 x1 c0 c1 c2 c3
 obtain ⟨b, off, z0, rfl, hbw, k00, k01, k02, k03, hz0⟩ := kid_val (HY.out.ext isNd_good BX.out.x fun _ _ h => h) 0 (HKL.out)
 simp only [Nat.zero_mul, Nat.add_zero] at k00 k01 k02 k03
 have HZ0 := hid hz0
 obtain ⟨a2, cap2, rfl, _⟩ := hz0
 have m00 := fun t' : LaterF none' w1 => (t'.x.cell (p := ⟨b, off, none⟩) hbw (fun h => h)).trans k00
 have m01 := fun t' : LaterF none' w1 => (t'.x.cell (p := ⟨b, off + 1, none⟩) hbw (fun h => h)).trans k01
 have m02 := fun t' : LaterF none' w1 => (t'.x.cell (p := ⟨b, off + 2, none⟩) hbw (fun h => h)).trans k02
 have m03 := fun t' : LaterF none' w1 => (t'.x.cell (p := ⟨b, off + 3, none⟩) hbw (fun h => h)).trans k03
 clear k00 k01 k02 k03
 obtain ⟨x0, x1⟩ := cell2L fun t' : LaterF none' w1 => t'.x.heap BX.out.g0 fun h => h
 obtain ⟨c0, c1, c2, c3⟩ := cell4L fun t' : LaterF none' w1 => t'.x.heap BX.out.g1 fun h => h
 by_cases hc1 : cap1 = 1
 case pos =>
  subst hc1
  have hl1 : Hid (t.kids.drop 1 = []) := hid (List.drop_eq_nil_of_le (by omega))
  refine region_q none' w1 (.qs [0, 1, 2, 3, 6, 7, 8] (.one 4 true (.qs [5] (.one 9 true (.qs [10, 11, 12] .fin))))) (by kernel_rfl) (by kernel_rfl) (fun dst v c a w h => by cases dst <;> exact h) ?_
  refine ⟨In.of (Ext.refl _ _).drew, ?_⟩
  change wpQuiet _ _ (fun w' => ∃ t : LaterF none' w1, w' = t.w) _ _ _
  simp only [sel, List.getElem?_cons_succ, List.getElem?_cons_zero]
  repeat (go_big_quiet_step (fail))
  refine wpQuiet_nil ?_
  simp only [wpTreeQ, stepT, sel, List.getElem?_cons_succ, List.getElem?_cons_zero]
  have D1 := hid (Ext.refl none' w1).drew
  clear x0 x1 c0 c1 c2 c3 m00 m01 m02 m03
  go_wp2_with fail
  refine (C0.out _ (BX.out.x.trans D1.out) _ ⟨_, rfl, HZ0.out.ext isNd_good D1.out fun _ _ h => h⟩).mono ?_
  rintro e w2 ⟨rfl, X2⟩
  have XX := hid (D1.out.trans X2)
  go_wp2_with fail
  refine ⟨In.of XX.out, In.of XX.out, ?_⟩
  change wpQuiet _ _ (fun w' => ∃ t : LaterF none' w1, w' = t.w) _ _ _
  repeat (go_big_quiet_step (fail))
  refine wpQuiet_nil ?_
  go_wp2_with fail
  refine (CO.out _ (BX.out.x.trans XX.out) _ (by rw [hl1.out]; exact IsSl.gone)).mono ?_
  rintro e w3 ⟨rfl, X3⟩
  have XX := hid (XX.out.trans X3)
  go_wp2_with fail
  refine ⟨In.of XX.out, In.of XX.out, ?_⟩
  change wpQuiet _ _ (fun w' => ∃ t : LaterF none' w1, w' = t.w) _ _ _
  repeat (go_big_quiet_step (fail))
  refine wpQuiet_nil ?_
  go_wp2_with fail
  go_ret
  exact ⟨by rw [HR.out]; simp, BX.out.x.trans XX.out⟩
 case neg =>
  refine region_q none' w1 (.qs [0, 1, 2, 3, 6, 7, 8] (.one 4 true (.qs [5] (.one 9 true (.qs [10, 11, 12] .fin))))) (by kernel_rfl) (by kernel_rfl) (fun dst v c a w h => by cases dst <;> exact h) ?_
  refine ⟨In.of (Ext.refl _ _).drew, ?_⟩
  change wpQuiet _ _ (fun w' => ∃ t : LaterF none' w1, w' = t.w) _ _ _
  simp only [sel, List.getElem?_cons_succ, List.getElem?_cons_zero]
  repeat (go_big_quiet_step (fail))
  refine wpQuiet_nil ?_
  simp only [wpTreeQ, stepT, sel, List.getElem?_cons_succ, List.getElem?_cons_zero]
  have D1 := hid (Ext.refl none' w1).drew
  clear x0 x1 c0 c1 c2 c3 m00 m01 m02 m03
  go_wp2_with fail
  refine (C0.out _ (BX.out.x.trans D1.out) _ ⟨_, rfl, HZ0.out.ext isNd_good D1.out fun _ _ h => h⟩).mono ?_
  rintro e w2 ⟨rfl, X2⟩
  have XX := hid (D1.out.trans X2)
  go_wp2_with fail
  refine ⟨In.of XX.out, In.of XX.out, ?_⟩
  change wpQuiet _ _ (fun w' => ∃ t : LaterF none' w1, w' = t.w) _ _ _
  repeat (go_big_quiet_step (fail))
  refine wpQuiet_nil ?_
  go_wp2_with fail
  refine (CO.out _ (BX.out.x.trans XX.out) _ ((HY.out.ext isNd_good (BX.out.x.trans XX.out) fun _ _ h => h).drop1 HKL.out)).mono ?_
  rintro e w3 ⟨rfl, X3⟩
  have XX := hid (XX.out.trans X3)
  go_wp2_with fail
  refine ⟨In.of XX.out, In.of XX.out, ?_⟩
  change wpQuiet _ _ (fun w' => ∃ t : LaterF none' w1, w' = t.w) _ _ _
  repeat (go_big_quiet_step (fail))
  refine wpQuiet_nil ?_
  go_wp2_with fail
  go_ret
  exact ⟨by rw [HR.out]; simp, BX.out.x.trans XX.out⟩
theorem sx_idx (f : Nat) (H : ExpH f) (deep : Nat) (head : Bool) (hd : deep + (f + 1) ≤ 1200000) (hf : f + 1 ≤ 1100000) (t : Nd) (ht : t.size ≤ f + 1) (hk : t.kind = 22) (he : (t.text == [] && (decide (1 < t.kids.length) && (exF f (t.kid 0) && (t.kids.drop 1).all (argB (tyF nmB f) (exF f))))) = true) (v : Value) (w : World) (hm : MaxL w) (hv : NdV none' w t v) :
  Calls Tryz.prog 23 #[shV deep head, v] w (StrPost (fstT (exT f) deep head (t.kid 0) ++ [91] ++ othT (typF f) (exT f) deep t ++ [93]) w) := by
 obtain ⟨y, rfl, hy⟩ := hv
 have HY := hid hy
 obtain ⟨a1, cap1, rfl, hcap, _⟩ := hy
 have hkl : t.kids.length ≤ 1100000 := by have := t.kids_len; omega
 obtain ⟨rr, hrr⟩ : ∃ r, r = fstT (exT f) deep head (t.kid 0) ++ [91] ++ othT (typF f) (exT f) deep t ++ [93] := ⟨_, rfl⟩
 rw [← hrr]
 simp only [Bool.and_eq_true, decide_eq_true_eq, List.all_eq_true] at he
 have h3 : 0 < t.kids.length := by have := he.2.1; omega
 have hx1 : exF f (t.kid 0) = true := he.2.2.1
 have hag : ∀ x ∈ t.kids.drop 1, argB (tyF nmB f) (exF f) x = true := he.2.2.2
 have hks : (t.kid 0).size ≤ f := by have := Nd.size_kid (kid_mem' (t := t) (i := 0) (by omega)); omega
 have hfl := brT_len (head := head) (yes := ((t.kid 0).kind == 19 || (t.kid 0).kind == 20)) ((lens_all f deep (by omega)).1 _ hks hx1)
 have C0 := hid fun W (X : Ext none' w W) v' (hv' : NdV none' W (t.kid 0) v') => first_any f H deep head (by omega) (by omega) (t.kid 0) hks hx1 v' W (maxL_later hm X) hv'
 have hbl2 : (fstT (exT f) deep head (t.kid 0)).length ≤ 10000000000000 := by unfold fstT; omega
 obtain ⟨q0, hq0⟩ : ∃ q, fstT (exT f) deep head (t.kid 0) = q := ⟨_, rfl⟩
 rw [hq0] at C0 hbl2 hrr
 have hol := othT_len (deep := deep) (ex := exT f) h3 ht (fun x hx he => (lens_all f deep (by omega)).1 x (by have := Nd.size_kid hx; omega) he) hag
 have hol2 : (othT (typF f) (exT f) deep t).length ≤ 10000000000000 := by omega
 have CO := hid fun W (X : Ext none' w W) v' (hs : IsSl 4 IsNd none' W v' (t.kids.drop 1)) => oth_any f H deep (by omega) (by omega) t ht h3 hag v' W (maxL_later hm X) hs
 obtain ⟨q1, hq1⟩ : ∃ q, othT (typF f) (exT f) deep t = q := ⟨_, rfl⟩
 rw [hq1] at CO hol2 hrr
 have y0 : (0 : Int) < (t.kids.length : Int) := by omega
 have y1 : (1 : Int) ≤ (t.kids.length : Int) := by omega
 have y2 : (t.kids.length : Int) ≤ (cap1 : Int) := by omega
 have cat1 := str_cat q0 [91]
 have cat2 := str_cat (q0 ++ [91]) q1
 have cat3 := str_cat (q0 ++ [91] ++ q1) [93]
 simp only [List.append_assoc, List.cons_append, List.nil_append] at cat2 cat3
 have HR := hid hrr
 have HKL := hid h3
 rw [hk]
 have CF := hid fun W => free_any deep head W
 obtain ⟨B, hB⟩ : ∃ B, B = w.heap.size := ⟨_, rfl⟩
 have BX := TwoBox.mk' (deep := deep) (head := head) (cs := #[.int .i64 22, .string ⟨t.text.toArray⟩, .slice a1 t.kids.length cap1, .int .i64 t.pos]) hB
 obtain ⟨W0, hW0⟩ : ∃ W0, W0 = ((w.alloc (.cells #[.int .i64 (deep : Nat), .bool head] 50)).alloc (.cells #[.int .i64 22, .string ⟨t.text.toArray⟩, .slice a1 t.kids.length cap1, .int .i64 t.pos] 24)) := ⟨_, rfl⟩
 rw [← hW0] at BX
 have BX := hid BX
 have hmf := mkf_run
 clear hk he hrr ht hd hf h3 hag hks hol hq0 hq1 H hfl hx1
 go_enter Tryz.func23, Tryz.ntmps23
 go_upto_region 1 with (fail)
 rw [← hW0, ← hB]
 clear hW0 hB
 obtain ⟨x0, x1⟩ := cell2 BX.out.g0
 obtain ⟨c0, c1, c2, c3⟩ := cell4 BX.out.g1
 go_wp2_with fail
 refine (CF.out _).mono ?_
 rintro e w1 ⟨rfl, X1⟩
 have BX := hid (BX.out.ext X1)
 clear x0 x1 c0 c1 c2 c3 X1
 obtain ⟨x0, x1⟩ := cell2 BX.out.g0
 obtain ⟨c0, c1, c2, c3⟩ := cell4 BX.out.g1
 go_upto_region 16 with (fail)
 clear x0 x1 c0 c1 c2 c3
 obtain ⟨b, off, z0, rfl, hbw, k00, k01, k02, k03, hz0⟩ := kid_val (HY.out.ext isNd_good BX.out.x fun _ _ h => h) 0 (HKL.out)
 simp only [Nat.zero_mul, Nat.add_zero] at k00 k01 k02 k03
 have HZ0 := hid hz0
 obtain ⟨a2, cap2, rfl, _⟩ := hz0
 have m00 := fun t' : LaterF none' w1 => (t'.x.cell (p := ⟨b, off, none⟩) hbw (fun h => h)).trans k00
 have m01 := fun t' : LaterF none' w1 => (t'.x.cell (p := ⟨b, off + 1, none⟩) hbw (fun h => h)).trans k01
 have m02 := fun t' : LaterF none' w1 => (t'.x.cell (p := ⟨b, off + 2, none⟩) hbw (fun h => h)).trans k02
 have m03 := fun t' : LaterF none' w1 => (t'.x.cell (p := ⟨b, off + 3, none⟩) hbw (fun h => h)).trans k03
 clear k00 k01 k02 k03
 obtain ⟨x0, x1⟩ := cell2L fun t' : LaterF none' w1 => t'.x.heap BX.out.g0 fun h => h
 obtain ⟨c0, c1, c2, c3⟩ := cell4L fun t' : LaterF none' w1 => t'.x.heap BX.out.g1 fun h => h
 by_cases hc1 : cap1 = 1
 case pos =>
  subst hc1
  have hl1 : Hid (t.kids.drop 1 = []) := hid (List.drop_eq_nil_of_le (by omega))
  refine region_q none' w1 (.qs [0, 1, 2, 3, 6, 7, 8] (.one 4 true (.qs [5] (.one 9 true (.qs [10, 11, 12] .fin))))) (by kernel_rfl) (by kernel_rfl) (fun dst v c a w h => by cases dst <;> exact h) ?_
  refine ⟨In.of (Ext.refl _ _).drew, ?_⟩
  change wpQuiet _ _ (fun w' => ∃ t : LaterF none' w1, w' = t.w) _ _ _
  simp only [sel, List.getElem?_cons_succ, List.getElem?_cons_zero]
  repeat (go_big_quiet_step (fail))
  refine wpQuiet_nil ?_
  simp only [wpTreeQ, stepT, sel, List.getElem?_cons_succ, List.getElem?_cons_zero]
  have D1 := hid (Ext.refl none' w1).drew
  clear x0 x1 c0 c1 c2 c3 m00 m01 m02 m03
  go_wp2_with fail
  refine (C0.out _ (BX.out.x.trans D1.out) _ ⟨_, rfl, HZ0.out.ext isNd_good D1.out fun _ _ h => h⟩).mono ?_
  rintro e w2 ⟨rfl, X2⟩
  have XX := hid (D1.out.trans X2)
  go_wp2_with fail
  refine ⟨In.of XX.out, In.of XX.out, ?_⟩
  change wpQuiet _ _ (fun w' => ∃ t : LaterF none' w1, w' = t.w) _ _ _
  repeat (go_big_quiet_step (fail))
  refine wpQuiet_nil ?_
  go_wp2_with fail
  refine (CO.out _ (BX.out.x.trans XX.out) _ (by rw [hl1.out]; exact IsSl.gone)).mono ?_
  rintro e w3 ⟨rfl, X3⟩
  have XX := hid (XX.out.trans X3)
  go_wp2_with fail
  refine ⟨In.of XX.out, In.of XX.out, ?_⟩
  change wpQuiet _ _ (fun w' => ∃ t : LaterF none' w1, w' = t.w) _ _ _
  repeat (go_big_quiet_step (fail))
  refine wpQuiet_nil ?_
  go_wp2_with fail
  go_ret
  exact ⟨by rw [HR.out]; simp, BX.out.x.trans XX.out⟩
 case neg =>
  refine region_q none' w1 (.qs [0, 1, 2, 3, 6, 7, 8] (.one 4 true (.qs [5] (.one 9 true (.qs [10, 11, 12] .fin))))) (by kernel_rfl) (by kernel_rfl) (fun dst v c a w h => by cases dst <;> exact h) ?_
  refine ⟨In.of (Ext.refl _ _).drew, ?_⟩
  change wpQuiet _ _ (fun w' => ∃ t : LaterF none' w1, w' = t.w) _ _ _
  simp only [sel, List.getElem?_cons_succ, List.getElem?_cons_zero]
  repeat (go_big_quiet_step (fail))
  refine wpQuiet_nil ?_
  simp only [wpTreeQ, stepT, sel, List.getElem?_cons_succ, List.getElem?_cons_zero]
  have D1 := hid (Ext.refl none' w1).drew
  clear x0 x1 c0 c1 c2 c3 m00 m01 m02 m03
  go_wp2_with fail
  refine (C0.out _ (BX.out.x.trans D1.out) _ ⟨_, rfl, HZ0.out.ext isNd_good D1.out fun _ _ h => h⟩).mono ?_
  rintro e w2 ⟨rfl, X2⟩
  have XX := hid (D1.out.trans X2)
  go_wp2_with fail
  refine ⟨In.of XX.out, In.of XX.out, ?_⟩
  change wpQuiet _ _ (fun w' => ∃ t : LaterF none' w1, w' = t.w) _ _ _
  repeat (go_big_quiet_step (fail))
  refine wpQuiet_nil ?_
  go_wp2_with fail
  refine (CO.out _ (BX.out.x.trans XX.out) _ ((HY.out.ext isNd_good (BX.out.x.trans XX.out) fun _ _ h => h).drop1 HKL.out)).mono ?_
  rintro e w3 ⟨rfl, X3⟩
  have XX := hid (XX.out.trans X3)
  go_wp2_with fail
  refine ⟨In.of XX.out, In.of XX.out, ?_⟩
  change wpQuiet _ _ (fun w' => ∃ t : LaterF none' w1, w' = t.w) _ _ _
  repeat (go_big_quiet_step (fail))
  refine wpQuiet_nil ?_
  go_wp2_with fail
  go_ret
  exact ⟨by rw [HR.out]; simp, BX.out.x.trans XX.out⟩
theorem lit_if {k : Int} {head b : Bool} {r x y : List UInt8} (hb : (k == 10) = b) (h : r = (if head ∧ k = 10 then x else y)) : r = if head && b then x else y := by
 subst hb
 rw [h]
 cases head <;> simp
theorem sx_lit (f : Nat) (H : ExpH f) (deep : Nat) (head : Bool) (hd : deep + (f + 1) ≤ 1200000) (hf : f + 1 ≤ 1100000) (t : Nd) (ht : t.size ≤ f + 1) (hk : t.kind = 24) (he : (t.text == [] && (!t.kids.isEmpty && ((t.kid 0).kind != 12 && (tyF nmB f (t.kid 0) && (t.kids.drop 1).all (exF f))))) = true) (v : Value) (w : World) (hm : MaxL w) (hv : NdV none' w t v) :
  Calls Tryz.prog 23 #[shV deep head, v] w (StrPost ((if head ∧ (t.kid 0).kind = 10 then [40] ++ (typF f (t.kid 0) ++ [123] ++ othT (typF f) (exT f) deep t ++ [125]) ++ [41] else typF f (t.kid 0) ++ [123] ++ othT (typF f) (exT f) deep t ++ [125])) w) := by
 obtain ⟨y, rfl, hy⟩ := hv
 have HY := hid hy
 obtain ⟨a1, cap1, rfl, hcap, _⟩ := hy
 have hkl : t.kids.length ≤ 1100000 := by have := t.kids_len; omega
 obtain ⟨rr, hrr⟩ : ∃ r, r = (if head ∧ (t.kid 0).kind = 10 then [40] ++ (typF f (t.kid 0) ++ [123] ++ othT (typF f) (exT f) deep t ++ [125]) ++ [41] else typF f (t.kid 0) ++ [123] ++ othT (typF f) (exT f) deep t ++ [125]) := ⟨_, rfl⟩
 rw [← hrr]
 simp only [Bool.and_eq_true, Bool.not_eq_true', List.all_eq_true] at he
 have h3 : 0 < t.kids.length := by
  have := he.2.1
  cases h : t.kids with
  | nil => rw [h] at this; simp at this
  | cons a l => simp
 have hx1 : tyF nmB f (t.kid 0) = true := he.2.2.2.1
 have hag : ∀ x ∈ t.kids.drop 1, argB (tyF nmB f) (exF f) x = true := fun x hx => exB_arg (he.2.2.2.2 x hx)
 have hks : (t.kid 0).size ≤ f := by have := Nd.size_kid (kid_mem' (t := t) (i := 0) (by omega)); omega
 have hfl := ty_len hx1 hks
 have C0 := hid fun W (X : Ext none' w W) v' (hv' : NdV none' W (t.kid 0) v') => typ_any f (by unfold bigD; omega) (t.kid 0) ⟨hks, hx1⟩ v' W hv'
 have hbl2 : (typF f (t.kid 0)).length ≤ 10000000000000 := by omega
 obtain ⟨q0, hq0⟩ : ∃ q, typF f (t.kid 0) = q := ⟨_, rfl⟩
 rw [hq0] at C0 hbl2 hrr
 obtain ⟨e1, he1⟩ : ∃ b, ((t.kid 0).kind == 10) = b := ⟨_, rfl⟩
 replace hrr := lit_if he1 hrr
 have hol := othT_len (deep := deep) (ex := exT f) h3 ht (fun x hx he => (lens_all f deep (by omega)).1 x (by have := Nd.size_kid hx; omega) he) hag
 have hol2 : (othT (typF f) (exT f) deep t).length ≤ 10000000000000 := by omega
 have CO := hid fun W (X : Ext none' w W) v' (hs : IsSl 4 IsNd none' W v' (t.kids.drop 1)) => oth_any f H deep (by omega) (by omega) t ht h3 hag v' W (maxL_later hm X) hs
 obtain ⟨q1, hq1⟩ : ∃ q, othT (typF f) (exT f) deep t = q := ⟨_, rfl⟩
 rw [hq1] at CO hol2 hrr
 have y0 : (0 : Int) < (t.kids.length : Int) := by omega
 have y1 : (1 : Int) ≤ (t.kids.length : Int) := by omega
 have y2 : (t.kids.length : Int) ≤ (cap1 : Int) := by omega
 have cat1 := str_cat q0 [123]
 have cat2 := str_cat (q0 ++ [123]) q1
 have cat3 := str_cat (q0 ++ [123] ++ q1) [125]
 simp only [List.append_assoc, List.cons_append, List.nil_append] at cat2 cat3
 have cat4 := str_cat [40] (q0 ++ [123] ++ q1 ++ [125])
 have cat5 := str_cat (40 :: (q0 ++ [123] ++ q1 ++ [125])) [41]
 simp only [List.append_assoc, List.cons_append, List.nil_append] at cat4 cat5
 have HR := hid hrr
 have HKL := hid h3
 rw [hk]
 have CF := hid fun W => free_any deep head W
 obtain ⟨B, hB⟩ : ∃ B, B = w.heap.size := ⟨_, rfl⟩
 have BX := TwoBox.mk' (deep := deep) (head := head) (cs := #[.int .i64 24, .string ⟨t.text.toArray⟩, .slice a1 t.kids.length cap1, .int .i64 t.pos]) hB
 obtain ⟨W0, hW0⟩ : ∃ W0, W0 = ((w.alloc (.cells #[.int .i64 (deep : Nat), .bool head] 50)).alloc (.cells #[.int .i64 24, .string ⟨t.text.toArray⟩, .slice a1 t.kids.length cap1, .int .i64 t.pos] 24)) := ⟨_, rfl⟩
 rw [← hW0] at BX
 have BX := hid BX
 have hmf := mkf_run
 clear hk he hrr ht hd hf h3 hag hks hol hq0 hq1 H hfl hx1
 go_enter Tryz.func23, Tryz.ntmps23
 go_upto_region 1 with (fail)
 rw [← hW0, ← hB]
 clear hW0 hB
 obtain ⟨x0, x1⟩ := cell2 BX.out.g0
 obtain ⟨c0, c1, c2, c3⟩ := cell4 BX.out.g1
 go_wp2_with fail
 refine (CF.out _).mono ?_
 rintro e w1 ⟨rfl, X1⟩
 have BX := hid (BX.out.ext X1)
 clear x0 x1 c0 c1 c2 c3 X1
 obtain ⟨x0, x1⟩ := cell2 BX.out.g0
 obtain ⟨c0, c1, c2, c3⟩ := cell4 BX.out.g1
 go_upto_region 20 with (fail)
 clear x0 x1 c0 c1 c2 c3
 obtain ⟨b, off, z0, rfl, hbw, k00, k01, k02, k03, hz0⟩ := kid_val (HY.out.ext isNd_good BX.out.x fun _ _ h => h) 0 (HKL.out)
 simp only [Nat.zero_mul, Nat.add_zero] at k00 k01 k02 k03
 have HZ0 := hid hz0
 obtain ⟨a2, cap2, rfl, _⟩ := hz0
 have m00 := fun t' : LaterF none' w1 => (t'.x.cell (p := ⟨b, off, none⟩) hbw (fun h => h)).trans k00
 have m01 := fun t' : LaterF none' w1 => (t'.x.cell (p := ⟨b, off + 1, none⟩) hbw (fun h => h)).trans k01
 have m02 := fun t' : LaterF none' w1 => (t'.x.cell (p := ⟨b, off + 2, none⟩) hbw (fun h => h)).trans k02
 have m03 := fun t' : LaterF none' w1 => (t'.x.cell (p := ⟨b, off + 3, none⟩) hbw (fun h => h)).trans k03
 clear k00 k01 k02 k03
 obtain ⟨x0, x1⟩ := cell2L fun t' : LaterF none' w1 => t'.x.heap BX.out.g0 fun h => h
 obtain ⟨c0, c1, c2, c3⟩ := cell4L fun t' : LaterF none' w1 => t'.x.heap BX.out.g1 fun h => h
 by_cases hc1 : cap1 = 1
 case pos =>
  subst hc1
  have hl1 : Hid (t.kids.drop 1 = []) := hid (List.drop_eq_nil_of_le (by omega))
  refine region_q none' w1 (.qs [0, 1, 2, 5, 6, 7] (.one 3 true (.qs [4] (.one 8 true (.qs [9, 10, 11] .fin))))) (by kernel_rfl) (by kernel_rfl) (fun dst v c a w h => by cases dst <;> exact h) ?_
  refine ⟨In.of (Ext.refl _ _).drew, ?_⟩
  change wpQuiet _ _ (fun w' => ∃ t : LaterF none' w1, w' = t.w) _ _ _
  simp only [sel, List.getElem?_cons_succ, List.getElem?_cons_zero]
  repeat (go_big_quiet_step (fail))
  refine wpQuiet_nil ?_
  simp only [wpTreeQ, stepT, sel, List.getElem?_cons_succ, List.getElem?_cons_zero]
  have D1 := hid (Ext.refl none' w1).drew
  clear x0 x1 c0 c1 c2 c3 m00 m01 m02 m03
  go_wp2_with fail
  refine (C0.out _ (BX.out.x.trans D1.out) _ ⟨_, rfl, HZ0.out.ext isNd_good D1.out fun _ _ h => h⟩).mono ?_
  rintro e w2 ⟨rfl, X2⟩
  have XX := hid (D1.out.trans X2)
  go_wp2_with fail
  refine ⟨In.of XX.out, In.of XX.out, ?_⟩
  change wpQuiet _ _ (fun w' => ∃ t : LaterF none' w1, w' = t.w) _ _ _
  repeat (go_big_quiet_step (fail))
  refine wpQuiet_nil ?_
  go_wp2_with fail
  refine (CO.out _ (BX.out.x.trans XX.out) _ (by rw [hl1.out]; exact IsSl.gone)).mono ?_
  rintro e w3 ⟨rfl, X3⟩
  have XX := hid (XX.out.trans X3)
  go_wp2_with fail
  refine ⟨In.of XX.out, In.of XX.out, ?_⟩
  change wpQuiet _ _ (fun w' => ∃ t : LaterF none' w1, w' = t.w) _ _ _
  repeat (go_big_quiet_step (fail))
  refine wpQuiet_nil ?_
  have BX := hid (BX.out.ext XX.out)
  clear XX HZ0 hbw
  go_upto_region 21 with (fail)
  obtain ⟨x0, x1⟩ := cell2 BX.out.g0
  obtain ⟨c0, c1, c2, c3⟩ := cell4 BX.out.g1
  obtain ⟨b', off', z0, e2, hbw, k00, k01, k02, k03, hz0⟩ := kid_val (HY.out.ext isNd_good BX.out.x fun _ _ h => h) 0 (HKL.out)
  injection e2 with e2
  injection e2 with e2 e3 _
  subst e2 e3
  simp only [Nat.zero_mul, Nat.add_zero] at k00 k01 k02 k03
  have HZ0 := hid hz0
  obtain ⟨a2, cap2, rfl, _⟩ := hz0
  cases head <;> cases e1
  all_goals
   go_wp2_with fail
   go_ret
   exact ⟨by rw [HR.out]; simp, BX.out.x⟩
 case neg =>
  refine region_q none' w1 (.qs [0, 1, 2, 5, 6, 7] (.one 3 true (.qs [4] (.one 8 true (.qs [9, 10, 11] .fin))))) (by kernel_rfl) (by kernel_rfl) (fun dst v c a w h => by cases dst <;> exact h) ?_
  refine ⟨In.of (Ext.refl _ _).drew, ?_⟩
  change wpQuiet _ _ (fun w' => ∃ t : LaterF none' w1, w' = t.w) _ _ _
  simp only [sel, List.getElem?_cons_succ, List.getElem?_cons_zero]
  repeat (go_big_quiet_step (fail))
  refine wpQuiet_nil ?_
  simp only [wpTreeQ, stepT, sel, List.getElem?_cons_succ, List.getElem?_cons_zero]
  have D1 := hid (Ext.refl none' w1).drew
  clear x0 x1 c0 c1 c2 c3 m00 m01 m02 m03
  go_wp2_with fail
  refine (C0.out _ (BX.out.x.trans D1.out) _ ⟨_, rfl, HZ0.out.ext isNd_good D1.out fun _ _ h => h⟩).mono ?_
  rintro e w2 ⟨rfl, X2⟩
  have XX := hid (D1.out.trans X2)
  go_wp2_with fail
  refine ⟨In.of XX.out, In.of XX.out, ?_⟩
  change wpQuiet _ _ (fun w' => ∃ t : LaterF none' w1, w' = t.w) _ _ _
  repeat (go_big_quiet_step (fail))
  refine wpQuiet_nil ?_
  go_wp2_with fail
  refine (CO.out _ (BX.out.x.trans XX.out) _ ((HY.out.ext isNd_good (BX.out.x.trans XX.out) fun _ _ h => h).drop1 HKL.out)).mono ?_
  rintro e w3 ⟨rfl, X3⟩
  have XX := hid (XX.out.trans X3)
  go_wp2_with fail
  refine ⟨In.of XX.out, In.of XX.out, ?_⟩
  change wpQuiet _ _ (fun w' => ∃ t : LaterF none' w1, w' = t.w) _ _ _
  repeat (go_big_quiet_step (fail))
  refine wpQuiet_nil ?_
  have BX := hid (BX.out.ext XX.out)
  clear XX HZ0 hbw
  go_upto_region 21 with (fail)
  obtain ⟨x0, x1⟩ := cell2 BX.out.g0
  obtain ⟨c0, c1, c2, c3⟩ := cell4 BX.out.g1
  obtain ⟨b', off', z0, e2, hbw, k00, k01, k02, k03, hz0⟩ := kid_val (HY.out.ext isNd_good BX.out.x fun _ _ h => h) 0 (HKL.out)
  injection e2 with e2
  injection e2 with e2 e3 _
  subst e2 e3
  simp only [Nat.zero_mul, Nat.add_zero] at k00 k01 k02 k03
  have HZ0 := hid hz0
  obtain ⟨a2, cap2, rfl, _⟩ := hz0
  cases head <;> cases e1
  all_goals
   go_wp2_with fail
   go_ret
   exact ⟨by rw [HR.out]; simp, BX.out.x⟩
theorem sx_func (f : Nat) (H : ExpH f) (HS : StmH f) (deep : Nat) (head : Bool) (hd : deep + (f + 1) ≤ 1200000) (hf : f + 1 ≤ 1100000) (t : Nd) (ht : t.size ≤ f + 1) (hk : t.kind = 25) (he : ofB 25 [sigB (tyF nmB f) nmB, blkB (stF f)] t = true) (v : Value) (w : World) (hm : MaxL w) (hv : NdV none' w t v) :
  Calls Tryz.prog 23 #[shV deep head, v] w (StrPost (wFunc ++ sigT (typF f) (t.kid 0) ++ [32] ++ blT (stT f) deep (t.kid 1)) w) := by
 obtain ⟨y, rfl, hy⟩ := hv
 have HY := hid hy
 obtain ⟨a1, cap1, rfl, hcap, _⟩ := hy
 have hkl : t.kids.length ≤ 1100000 := by have := t.kids_len; omega
 obtain ⟨rr, hrr⟩ : ∃ r, r = wFunc ++ sigT (typF f) (t.kid 0) ++ [32] ++ blT (stT f) deep (t.kid 1) := ⟨_, rfl⟩
 rw [← hrr]
 obtain ⟨_, htx, h3⟩ := ofB_parts he
 obtain ⟨x, y, hkx, hx1, hy1⟩ := two_kids h3
 obtain ⟨hx0, hy0⟩ := kid_two hkx
 have hsz := size_two hkx
 have hl : t.kids.length = 2 := by rw [hkx]; rfl
 have hsl := sigT_len nmB_len hx1 (show x.size ≤ f + 1 by omega)
 have hbl := blk_len (deep := deep) (st := stT f) (f := f) (by omega) (fun z hm hz => (lens_all f (deep + 1) (by omega)).2 z (by have := Nd.size_kid hm; omega) hz) hy1
 have C0 := hid fun W (X : Ext none' w W) v' (hv' : NdV none' W (t.kid 0) v') => signature_any f (by unfold bigD; omega) (t.kid 0) (by rw [hx0]; omega) (by rw [hx0]; exact hx1) v' W hv'
 have C1 := hid fun W (X : Ext none' w W) v' (hv' : NdV none' W (t.kid 1) v') => blk_show f HS deep head (by omega) (by omega) (t.kid 1) (by rw [hy0]; omega) (by rw [hy0]; exact hy1) v' W (maxL_later hm X) hv'
 have hbm0 : (sigT (typF f) (t.kid 0)).length ≤ 10000000000000 := by rw [hx0]; omega
 have hbm1 : (blT (stT f) deep (t.kid 1)).length ≤ 10000000000000 := by rw [hy0]; omega
 obtain ⟨q0, hq0⟩ : ∃ q, sigT (typF f) (t.kid 0) = q := ⟨_, rfl⟩
 obtain ⟨q1, hq1⟩ : ∃ q, blT (stT f) deep (t.kid 1) = q := ⟨_, rfl⟩
 rw [hq0] at C0 hbm0 hrr
 rw [hq1] at C1 hbm1 hrr
 have y0 : (0 : Int) < (t.kids.length : Int) := by omega
 have y1 : (1 : Int) < (t.kids.length : Int) := by omega
 have cat1 := str_cat [102, 117, 110, 99] q0
 have cat2 := str_cat ([102, 117, 110, 99] ++ q0) [32]
 have cat3 := str_cat ([102, 117, 110, 99] ++ (q0 ++ [32])) q1
 simp only [List.append_assoc, List.cons_append, List.nil_append] at cat1 cat2 cat3
 have HR := hid hrr
 rw [hk]
 have CF := hid fun W => free_any deep head W
 obtain ⟨B, hB⟩ : ∃ B, B = w.heap.size := ⟨_, rfl⟩
 have BX := TwoBox.mk' (deep := deep) (head := head) (cs := #[.int .i64 25, .string ⟨t.text.toArray⟩, .slice a1 t.kids.length cap1, .int .i64 t.pos]) hB
 obtain ⟨W0, hW0⟩ : ∃ W0, W0 = ((w.alloc (.cells #[.int .i64 (deep : Nat), .bool head] 50)).alloc (.cells #[.int .i64 25, .string ⟨t.text.toArray⟩, .slice a1 t.kids.length cap1, .int .i64 t.pos] 24)) := ⟨_, rfl⟩
 rw [← hW0] at BX
 have BX := hid BX
 have hmf := mkf_run
 clear hk he hrr ht hd hf htx hsz h3 hkx hx1 hy1 hx0 hy0 H HS hl hsl hbl hq0 hq1
 go_enter Tryz.func23, Tryz.ntmps23
 go_upto_region 1 with (fail)
 rw [← hW0, ← hB]
 clear hW0 hB
 obtain ⟨x0, x1⟩ := cell2 BX.out.g0
 obtain ⟨c0, c1, c2, c3⟩ := cell4 BX.out.g1
 go_wp2_with fail
 refine (CF.out _).mono ?_
 rintro e w1 ⟨rfl, X1⟩
 have BX := hid (BX.out.ext X1)
 clear x0 x1 c0 c1 c2 c3 X1
 obtain ⟨x0, x1⟩ := cell2 BX.out.g0
 obtain ⟨c0, c1, c2, c3⟩ := cell4 BX.out.g1
 go_upto_region 25 with (fail)
 clear x0 x1 c0 c1 c2 c3
 obtain ⟨b, off, z0, rfl, hbw, k00, k01, k02, k03, hz0⟩ := kid_val (HY.out.ext isNd_good BX.out.x fun _ _ h => h) 0 (by omega)
 obtain ⟨b', off', z1, e1, hbw1, k10, k11, k12, k13, hz1⟩ := kid_val (HY.out.ext isNd_good BX.out.x fun _ _ h => h) 1 (by omega)
 injection e1 with e1
 injection e1 with e1 e2 _
 subst e1 e2
 simp only [Nat.zero_mul, Nat.one_mul, Nat.add_zero] at k00 k01 k02 k03 k10 k11 k12 k13
 have HZ0 := hid hz0
 obtain ⟨a2, cap2, rfl, _⟩ := hz0
 have HZ1 := hid hz1
 obtain ⟨a3, cap3, rfl, _⟩ := hz1
 have m00 := fun t' : LaterF none' w1 => (t'.x.cell (p := ⟨b, off, none⟩) hbw (fun h => h)).trans k00
 have m01 := fun t' : LaterF none' w1 => (t'.x.cell (p := ⟨b, off + 1, none⟩) hbw (fun h => h)).trans k01
 have m02 := fun t' : LaterF none' w1 => (t'.x.cell (p := ⟨b, off + 2, none⟩) hbw (fun h => h)).trans k02
 have m03 := fun t' : LaterF none' w1 => (t'.x.cell (p := ⟨b, off + 3, none⟩) hbw (fun h => h)).trans k03
 have m10 := fun t' : LaterF none' w1 => (t'.x.cell (p := ⟨b, off + 4, none⟩) hbw (fun h => h)).trans k10
 have m11 := fun t' : LaterF none' w1 => (t'.x.cell (p := ⟨b, off + 4 + 1, none⟩) hbw (fun h => h)).trans k11
 have m12 := fun t' : LaterF none' w1 => (t'.x.cell (p := ⟨b, off + 4 + 2, none⟩) hbw (fun h => h)).trans k12
 have m13 := fun t' : LaterF none' w1 => (t'.x.cell (p := ⟨b, off + 4 + 3, none⟩) hbw (fun h => h)).trans k13
 clear k00 k01 k02 k03 k10 k11 k12 k13
 obtain ⟨x0, x1⟩ := cell2L fun t' : LaterF none' w1 => t'.x.heap BX.out.g0 fun h => h
 obtain ⟨c0, c1, c2, c3⟩ := cell4L fun t' : LaterF none' w1 => t'.x.heap BX.out.g1 fun h => h
 refine region_q none' w1 (.qs [0, 1, 2, 6, 7, 8, 9] (.one 3 true (.qs [4, 5] (.one 10 true (.qs [11, 12] .fin))))) (by kernel_rfl) (by kernel_rfl) (fun dst v c a w h => by cases dst <;> exact h) ?_
 refine ⟨In.of (Ext.refl _ _).drew, ?_⟩
 change wpQuiet _ _ (fun w' => ∃ t : LaterF none' w1, w' = t.w) _ _ _
 simp only [sel, List.getElem?_cons_succ, List.getElem?_cons_zero]
 repeat (go_big_quiet_step (fail))
 refine wpQuiet_nil ?_
 simp only [wpTreeQ, stepT, sel, List.getElem?_cons_succ, List.getElem?_cons_zero]
 have D1 := hid (Ext.refl none' w1).drew
 clear x0 x1 c0 c1 c2 c3 m00 m01 m02 m03 m10 m11 m12 m13
 go_wp2_with fail
 refine (C0.out _ (BX.out.x.trans D1.out) _ ⟨_, rfl, HZ0.out.ext isNd_good D1.out fun _ _ h => h⟩).mono ?_
 rintro e w2 ⟨rfl, X2⟩
 have XX := hid (D1.out.trans X2)
 go_wp2_with fail
 refine ⟨In.of XX.out, In.of XX.out, ?_⟩
 change wpQuiet _ _ (fun w' => ∃ t : LaterF none' w1, w' = t.w) _ _ _
 repeat (go_big_quiet_step (fail))
 refine wpQuiet_nil ?_
 go_wp2_with fail
 refine (C1.out _ (BX.out.x.trans XX.out) _ ⟨_, rfl, HZ1.out.ext isNd_good XX.out fun _ _ h => h⟩).mono ?_
 rintro e w3 ⟨rfl, X3⟩
 have XX := hid (XX.out.trans X3)
 go_wp2_with fail
 refine ⟨In.of XX.out, In.of XX.out, ?_⟩
 change wpQuiet _ _ (fun w' => ∃ t : LaterF none' w1, w' = t.w) _ _ _
 repeat (go_big_quiet_step (fail))
 refine wpQuiet_nil ?_
 go_wp2_with fail
 go_ret
 exact ⟨by rw [HR.out]; simp [wFunc], BX.out.x.trans XX.out⟩
theorem ex_show_step (f : Nat) (hf : f + 1 ≤ 1100000) (H : ExpH f) (HS : StmH f) : ExpH (f + 1) := by
 intro deep head hd t ht he v w hm hv
 rw [exF_succ] at he
 rw [exT_succ]
 unfold exB at he
 unfold exT1
 by_cases h16 : t.kind = 16
 · rw [if_pos h16] at he
   rw [if_neg (by omega), if_neg (by omega), if_neg (by omega), if_neg (by omega), if_neg (by omega), if_neg (by omega), if_neg (by omega), if_neg (by omega)]
   exact sx_int f H deep head hd hf t ht h16 he v w hm hv
 rw [if_neg h16] at he
 by_cases h17 : t.kind = 17
 · rw [if_pos h17] at he ⊢
   exact sx_str f H deep head hd hf t ht h17 he v w hm hv
 rw [if_neg h17] at he ⊢
 by_cases h18 : t.kind = 18
 · rw [if_pos h18] at he
   rw [if_neg (by omega), if_neg (by omega), if_neg (by omega), if_neg (by omega), if_neg (by omega), if_neg (by omega), if_neg (by omega)]
   exact sx_name f H deep head hd hf t ht h18 he v w hm hv
 rw [if_neg h18] at he
 by_cases h19 : t.kind = 19
 · rw [if_pos h19] at he ⊢
   exact sx_un f H deep head hd hf t ht h19 he v w hm hv
 rw [if_neg h19] at he ⊢
 by_cases h20 : t.kind = 20
 · rw [if_pos h20] at he ⊢
   exact sx_bin f H deep head hd hf t ht h20 he v w hm hv
 rw [if_neg h20] at he ⊢
 by_cases h21 : t.kind = 21
 · rw [if_pos h21] at he ⊢
   exact sx_call f H deep head hd hf t ht h21 he v w hm hv
 rw [if_neg h21] at he ⊢
 by_cases h22 : t.kind = 22
 · rw [if_pos h22] at he ⊢
   exact sx_idx f H deep head hd hf t ht h22 he v w hm hv
 rw [if_neg h22] at he ⊢
 by_cases h23 : t.kind = 23
 · rw [if_pos h23] at he ⊢
   exact sx_field f H deep head hd hf t ht h23 he v w hm hv
 rw [if_neg h23] at he ⊢
 by_cases h24 : t.kind = 24
 · rw [if_pos h24] at he ⊢
   exact sx_lit f H deep head hd hf t ht h24 he v w hm hv
 rw [if_neg h24] at he ⊢
 have h25 := (ofB_parts he).1
 rw [if_pos h25]
 exact sx_func f H HS deep head hd hf t ht h25 he v w hm hv
end Go.Proofs.YthbmjamgidfneaaGreatDoor
