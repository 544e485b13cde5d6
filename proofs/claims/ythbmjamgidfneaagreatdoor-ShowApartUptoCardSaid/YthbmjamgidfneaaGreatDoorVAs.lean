import Derived.Test.YthbmjamgidfneaaGreatDoorVAb
import Derived.Test.YthbmjamgidfneaaGreatDoorVAf
import Derived.Test.YthbmjamgidfneaaGreatDoorVAr
set_option maxRecDepth 100000
set_option maxHeartbeats 6400000
namespace Go.Proofs.YthbmjamgidfneaaGreatDoor
open Go.RowKit Go.Lib Go.BigFrame
set_option linter.unusedVariables false
set_option linter.unusedSimpArgs false
theorem simT_ne {f deep : Nat} {head : Bool} {t : Nd} (h : SimD f t) : simT (exT f) deep head t ≠ [] := by
 obtain ⟨_, h⟩ := h
 unfold simT
 rcases h with h | h | h | h
 · rw [if_pos (namB_parts h).1]; simp
 · have := (ofB_parts h).1
   rw [if_neg (by omega), if_pos this]; simp
 · obtain ⟨h1, h2, h3⟩ := namB_parts h
   rw [if_neg (by omega), if_neg (by omega), if_pos h1]
   unfold incB at h2
   simp only [Bool.or_eq_true, beq_iff_eq] at h2
   rcases h2 with e | e <;> rw [e] <;> simp
 · obtain ⟨h1, h2, h3⟩ := ofB_parts h
   obtain ⟨x, hk, hx1⟩ := one_kid h3
   unfold isCallB at hx1
   simp only [Bool.and_eq_true] at hx1
   rw [if_neg (by omega), if_neg (by omega), if_neg (by omega), kid_one hk]
   exact exT_ne hx1.2
def loopC (ex : ExT) (deep : Nat) (t : Nd) : List UInt8 :=
 if (t.kid 0).kind ≠ 0 ∨ (t.kid 2).kind ≠ 0 then betw [32] [optT (simT ex deep true) (t.kid 0) ++ [59], optT (ex deep true) (t.kid 1) ++ [59], optT (simT ex deep true) (t.kid 2)] else optT (ex deep true) (t.kid 1)
theorem blT_ne {st : StT} {deep : Nat} {t : Nd} : blT st deep t ≠ [] := by unfold blT; simp
theorem loop_text {deep : Nat} {ex : ExT} {st : StT} {t : Nd} (h2 : (t.kid 2).kind ≠ 0 → simT ex deep true (t.kid 2) ≠ []) (h1 : (t.kid 1).kind ≠ 0 → ex deep true (t.kid 1) ≠ []) :
  loopT ex st deep t = betw [32] [wFor, loopC ex deep t, blT st deep (t.kid 3)] := by
 rw [betw_flat _ _ _ (by unfold wFor; simp)]
 simp only [List.map_cons, List.map_nil, List.flatten_cons, List.flatten_nil, List.append_nil]
 rw [optP_ne blT_ne]
 unfold loopT loopC
 by_cases hc : (t.kid 0).kind ≠ 0 ∨ (t.kid 2).kind ≠ 0
 · rw [if_pos hc, if_pos hc, betw_flat _ _ _ (by simp)]
   simp only [List.map_cons, List.map_nil, List.flatten_cons, List.flatten_nil, List.append_nil]
   rw [optP_opt h2, optP_ne (by simp), optP_ne (by simp)]
   unfold optT
   by_cases h : (t.kid 2).kind = 0
   · rw [if_pos h, if_pos h]; simp
   · rw [if_neg h, if_neg h]; simp
 · rw [if_neg hc, if_neg hc, optP_opt h1]
   by_cases h : (t.kid 1).kind = 0
   · rw [if_pos h, if_pos h]; simp
   · rw [if_neg h, if_neg h]; simp
theorem opt_len {p : Nd → List UInt8} {t : Nd} {n : Nat} (h : t.kind ≠ 0 → (p t).length ≤ n) : (optT p t).length ≤ n := by
 unfold optT
 split
 · simp
 · rename_i h0; exact h h0
theorem shloop_any (f : Nat) (H : ExpH f) (HS : StmH f) (deep : Nat) (hd : deep + (f + 1) ≤ 1200000) (hf : f + 1 ≤ 1100000) (t : Nd) (ht : t.size ≤ f + 1) (he : ofB 31 [orB (orB emptyB (shB (exF f))) (orB (setB (exF f)) (incrB (exF f))), orB emptyB (exF f), orB (orB emptyB (setB (exF f))) (orB (incrB (exF f)) (callB (exF f))), blkB (stF f)] t = true) (v : Value) (w : World) (hm : MaxL w) (hv : NdV none' w t v) :
  Calls Tryz.prog 58 #[shV deep false, v] w (StrPost (loopT (exT f) (stT f) deep t) w) := by
 obtain ⟨y, rfl, hy⟩ := hv
 have HY := hid hy
 obtain ⟨a1, cap1, rfl, hcap, _⟩ := hy
 have hkl : t.kids.length ≤ 1100000 := by have := t.kids_len; omega
 obtain ⟨B, hB⟩ : ∃ B, B = w.heap.size := ⟨_, rfl⟩
 have BX := TwoBox.mk' (deep := deep) (head := false) (cs := #[.int .i64 t.kind, .string ⟨t.text.toArray⟩, .slice a1 t.kids.length cap1, .int .i64 t.pos]) hB
 obtain ⟨W0, hW0⟩ : ∃ W0, W0 = ((w.alloc (.cells #[.int .i64 (deep : Nat), .bool false] 50)).alloc (.cells #[.int .i64 t.kind, .string ⟨t.text.toArray⟩, .slice a1 t.kids.length cap1, .int .i64 t.pos] 24)) := ⟨_, rfl⟩
 rw [← hW0] at BX
 have BX := hid BX
 obtain ⟨rr, hrr⟩ : ∃ r, r = loopT (exT f) (stT f) deep t := ⟨_, rfl⟩
 rw [← hrr]
 obtain ⟨hk31, htx, h3⟩ := ofB_parts he
 obtain ⟨x, y, z, u, hkx, hx1, hy1, hz1, hu1⟩ := four_kids h3
 have hsz := size_four hkx
 obtain ⟨hx0, hy0, hz0, hu0⟩ := kid_four hkx
 have hl : t.kids.length = 4 := by rw [hkx]; rfl
 have hxD : x.kind ≠ 0 → SimD f x := fun h0 => by
  unfold orB at hx1
  simp only [Bool.or_eq_true] at hx1
  refine ⟨by omega, ?_⟩
  rcases hx1 with (h | h) | (h | h)
  · exact absurd (emptyB_kind h) h0
  · exact .inl h
  · exact .inr (.inl h)
  · exact .inr (.inr (.inl h))
 have hzD : z.kind ≠ 0 → SimD f z := fun h0 => by
  unfold orB at hz1
  simp only [Bool.or_eq_true] at hz1
  refine ⟨by omega, ?_⟩
  rcases hz1 with (h | h) | (h | h)
  · exact absurd (emptyB_kind h) h0
  · exact .inr (.inl h)
  · exact .inr (.inr (.inl h))
  · exact .inr (.inr (.inr h))
 have hyD : y.kind ≠ 0 → ExD f y := fun h0 => by
  unfold orB at hy1
  simp only [Bool.or_eq_true] at hy1
  exact ⟨by omega, hy1.resolve_left fun h => h0 (emptyB_kind h)⟩
 have HL := fun x hx => (lens_all f deep (by omega)).1 x hx
 have ls : ∀ {x : Nd}, x.size ≤ f → SimD f x → (simT (exT f) deep true x).length ≤ 10000000000000 := fun {x} hs h => by
  have := simT_len (head := true) (fun z hm hz => HL z (by have := Nd.size_kid hm; omega) hz) h.2
  omega
 have hbl := blk_len (deep := deep) (st := stT f) (f := f) (by omega) (fun z hm hz => (lens_all f (deep + 1) (by omega)).2 z (by have := Nd.size_kid hm; omega) hz) hu1
 have l0 : (optT (simT (exT f) deep true) (t.kid 0)).length ≤ 10000000000000 := opt_len fun h => by rw [hx0] at h ⊢; exact ls (by omega) (hxD h)
 have l2 : (optT (simT (exT f) deep true) (t.kid 2)).length ≤ 10000000000000 := opt_len fun h => by rw [hz0] at h ⊢; exact ls (by omega) (hzD h)
 have l1 : (optT (exT f deep true) (t.kid 1)).length ≤ 10000000000000 := opt_len fun h => by rw [hy0] at h ⊢; have := HL y (by omega) (hyD h).2 true; omega
 have l3 : (blT (stT f) deep (t.kid 3)).length ≤ 10000000000000 := by rw [hu0]; omega
 have hcl : (loopC (exT f) deep t).length ≤ 100000000000000 := by
  unfold loopC
  split
  · have := betw_len [32] [optT (simT (exT f) deep true) (t.kid 0) ++ [59], optT (exT f deep true) (t.kid 1) ++ [59], optT (simT (exT f) deep true) (t.kid 2)]
    simp only [Lib.lens, List.length_cons, List.length_nil, List.map_cons, List.map_nil, List.sum_cons, List.sum_nil, List.length_append] at this
    omega
  · omega
 have htxt := loop_text (deep := deep) (ex := exT f) (st := stT f) (t := t) (by rw [hz0]; exact fun h => simT_ne (hzD h)) (by rw [hy0]; exact fun h => exT_ne (hyD h).2)
 have C1 := hid fun W (X : Ext none' W0 W) v' (hv' : NdV none' W (t.kid 1) v') => optional_any (ExD f) (exT f deep true) (t.kid 1) v' _ W hv' (ex_tell f H deep true (by omega) W (maxL_later hm (BX.out.x.trans X))) (by rw [hy0]; exact hyD)
 have C0 := hid fun W (X : Ext none' W0 W) v' (hv' : NdV none' W (t.kid 0) v') => optional_any (SimD f) (simT (exT f) deep true) (t.kid 0) v' _ W hv' (sim_tell f H deep true hd hf W (maxL_later hm (BX.out.x.trans X))) (by rw [hx0]; exact hxD)
 have C2 := hid fun W (X : Ext none' W0 W) v' (hv' : NdV none' W (t.kid 2) v') => optional_any (SimD f) (simT (exT f) deep true) (t.kid 2) v' _ W hv' (sim_tell f H deep true hd hf W (maxL_later hm (BX.out.x.trans X))) (by rw [hz0]; exact hzD)
 have C3 := hid fun W (X : Ext none' W0 W) v' (hv' : NdV none' W (t.kid 3) v') => blk_show f HS deep false hd hf (t.kid 3) (by rw [hu0]; omega) (by rw [hu0]; exact hu1) v' W (maxL_later hm (BX.out.x.trans X)) hv'
 have hcc : loopC (exT f) deep t = if (t.kid 0).kind ≠ 0 ∨ (t.kid 2).kind ≠ 0 then betw [32] [optT (simT (exT f) deep true) (t.kid 0) ++ [59], optT (exT f deep true) (t.kid 1) ++ [59], optT (simT (exT f) deep true) (t.kid 2)] else optT (exT f deep true) (t.kid 1) := rfl
 obtain ⟨o0, ho0⟩ : ∃ o, optT (simT (exT f) deep true) (t.kid 0) = o := ⟨_, rfl⟩
 obtain ⟨o1, ho1⟩ : ∃ o, optT (exT f deep true) (t.kid 1) = o := ⟨_, rfl⟩
 obtain ⟨o2, ho2⟩ : ∃ o, optT (simT (exT f) deep true) (t.kid 2) = o := ⟨_, rfl⟩
 obtain ⟨o3, ho3⟩ : ∃ o, blT (stT f) deep (t.kid 3) = o := ⟨_, rfl⟩
 obtain ⟨cc, hcc'⟩ : ∃ o, loopC (exT f) deep t = o := ⟨_, rfl⟩
 rw [hcc', ho0, ho1, ho2] at hcc
 rw [hcc'] at hcl
 rw [hcc', ho3] at htxt
 rw [ho0] at C0 l0
 rw [ho1] at C1 l1
 rw [ho2] at C2 l2
 rw [ho3] at C3 l3
 obtain ⟨e0, he0⟩ : ∃ b, ((t.kid 0).kind != 0) = b := ⟨_, rfl⟩
 obtain ⟨e2, he2⟩ : ∃ b, ((t.kid 2).kind != 0) = b := ⟨_, rfl⟩
 have HC := hid (show cc = if e0 || e2 then betw [32] [o0 ++ [59], o1 ++ [59], o2] else o1 by
  rw [hcc, ← he0, ← he2]
  by_cases h0 : (t.kid 0).kind = 0 <;> by_cases h2 : (t.kid 2).kind = 0 <;> simp [h0, h2])
 rw [htxt] at hrr
 have CB := hid fun W u (hu : IsStrs none' W u [wFor, cc, o3]) => between_any [32] _ u W hu (by simp) (by simp only [Lib.lens, List.length_cons, List.length_nil, List.map_cons, List.map_nil, List.sum_cons, List.sum_nil, wFor]; omega)
 rw [← hrr] at CB
 have CB2 := hid fun W u (hu : IsStrs none' W u [o0 ++ [59], o1 ++ [59], o2]) => between_any [32] _ u W hu (by simp) (by simp only [Lib.lens, List.length_cons, List.length_nil, List.map_cons, List.map_nil, List.sum_cons, List.sum_nil, List.length_append]; omega)
 unfold wFor at CB
 have y0 : (0 : Int) < (t.kids.length : Int) := by omega
 have y1 : (1 : Int) < (t.kids.length : Int) := by omega
 have y2 : (2 : Int) < (t.kids.length : Int) := by omega
 have y3 : (3 : Int) < (t.kids.length : Int) := by omega
 have cat1 := str_cat o0 [59]
 have cat2 := str_cat o1 [59]
 have hmf := mkf_run
 clear hrr ht hd hf hk31 htx h3 hkx hx1 hy1 hz1 hu1 hsz hx0 hy0 hz0 hu0 hl hxD hzD hyD HL ls hbl htxt hcc ho0 ho1 ho2 ho3 hcc' H HS he
 go_enter Tryz.func58, Tryz.ntmps58
 go_upto_region 1 with (fail)
 rw [← hW0, ← hB]
 clear hW0 hB
 obtain ⟨b, off, ka0, kc0, rfl, HBW, HZ0, KK0⟩ := kidA (HY.out.ext isNd_good BX.out.x fun _ _ h => h) (by omega)
 obtain ⟨ka1, kc1, HZ1, KK1⟩ := kidB (HY.out.ext isNd_good BX.out.x fun _ _ h => h) 1 4 rfl (by omega)
 obtain ⟨ka2, kc2, HZ2, KK2⟩ := kidB (HY.out.ext isNd_good BX.out.x fun _ _ h => h) 2 8 rfl (by omega)
 obtain ⟨ka3, kc3, HZ3, KK3⟩ := kidB (HY.out.ext isNd_good BX.out.x fun _ _ h => h) 3 12 rfl (by omega)
 obtain ⟨x0, x1⟩ := cell2 BX.out.g0
 obtain ⟨c0, c1, c2, c3⟩ := cell4 BX.out.g1
 go_upto_region 3 with (fail)
 clear x0 x1 c0 c1 c2 c3
 obtain ⟨w1, hw1⟩ : ∃ w1, w1 = (W0.alloc (.cells #[.int .i64 (deep : Nat), .bool true] 50)) := ⟨_, rfl⟩
 have XX := hid (show Ext none' W0 w1 by rw [hw1]; exact (Ext.refl _ _).alloc _)
 have G2 := hid (show w1.heap[W0.heap.size]? = some (.cells #[.int .i64 (deep : Nat), .bool true] 50 (0, 0)) by rw [hw1]; exact heap_alloc_at rfl _)
 rw [← hw1]
 clear hw1
 obtain ⟨C, hC⟩ : ∃ C, C = W0.heap.size := ⟨_, rfl⟩
 rw [← hC] at G2 ⊢
 clear hC
 obtain ⟨m10, m11, m12, m13⟩ := kidL (w1 := w1) XX.out HBW.out KK1.out
 have h0 := fun t' : LaterF none' w1 => cell_at ((((Ext.refl none' w1)).trans t'.x).heap G2.out fun h => h) 0
 have h1 := fun t' : LaterF none' w1 => cell_at ((((Ext.refl none' w1)).trans t'.x).heap G2.out fun h => h) 1
 simp only [List.getElem?_toArray, List.getElem?_cons_zero, List.getElem?_cons_succ] at h0 h1
 refine region_q none' w1 (.qs [0, 1, 2, 3, 4] (.one 5 true (.one 6 false .fin))) (by kernel_rfl) (by kernel_rfl) (fun dst v c a w h => by cases dst <;> exact h) ?_
 refine ⟨In.of (Ext.refl _ _).drew, ?_⟩
 change wpQuiet _ _ (fun w' => ∃ t : LaterF none' w1, w' = t.w) _ _ _
 simp only [sel, List.getElem?_cons_succ, List.getElem?_cons_zero]
 repeat (go_big_quiet_step (fail))
 refine wpQuiet_nil ?_
 simp only [wpTreeQ, stepT, sel, List.getElem?_cons_succ, List.getElem?_cons_zero]
 have D1 := hid (XX.out.trans (Ext.refl none' w1).drew)
 clear m10 m11 m12 m13 h0 h1
 go_wp2_with fail
 refine (C1.out _ D1.out _ ⟨_, rfl, HZ1.out.ext isNd_good (D1.out) fun _ _ h => h⟩).mono ?_
 rintro e w2 ⟨rfl, X2⟩
 have Y2 := hid (show Ext none' w1 w2 from (Ext.refl none' w1).drew.trans X2)
 have XX := hid (XX.out.trans Y2.out)
 clear X2
 go_wp2_with fail
 refine ⟨In.of Y2.out, ?_⟩
 cases e0
 case true =>
  go_upto_region 4 with (fail)
  obtain ⟨m00, m01, m02, m03⟩ := kid' XX.out HBW.out KK0.out
  obtain ⟨rfl⟩ : Hid (cc = betw [32] [o0 ++ [59], o1 ++ [59], o2]) := hid (by rw [HC.out]; rfl)
  go_upto_region 5 with (fail)
  clear m00 m01 m02 m03
  go_upto_region 5 with (fail)
  obtain ⟨m00, m01, m02, m03⟩ := kidL (w1 := w2) XX.out HBW.out KK0.out
  obtain ⟨m20, m21, m22, m23⟩ := kidL (w1 := w2) XX.out HBW.out KK2.out
  have h0 := fun t' : LaterF none' w2 => cell_at (((Y2.out).trans t'.x).heap G2.out fun h => h) 0
  have h1 := fun t' : LaterF none' w2 => cell_at (((Y2.out).trans t'.x).heap G2.out fun h => h) 1
  simp only [List.getElem?_toArray, List.getElem?_cons_zero, List.getElem?_cons_succ] at h0 h1
  refine region_q none' w2 (.qs [0, 1, 2, 3, 4, 7, 8, 9, 10, 11, 12, 13] (.one 5 true (.qs [6] (.one 14 true (.one 15 false (.one 16 false (.one 17 false .fin))))))) (by kernel_rfl) (by kernel_rfl) (fun dst v c a w h => by cases dst <;> exact h) ?_
  refine ⟨In.of (Ext.refl _ _).drew, ?_⟩
  change wpQuiet _ _ (fun w' => ∃ t : LaterF none' w2, w' = t.w) _ _ _
  simp only [sel, List.getElem?_cons_succ, List.getElem?_cons_zero]
  repeat (go_big_quiet_step (fail))
  refine wpQuiet_nil ?_
  simp only [wpTreeQ, stepT, sel, List.getElem?_cons_succ, List.getElem?_cons_zero]
  have D1 := hid (Ext.refl none' w2).drew
  clear m00 m01 m02 m03 m20 m21 m22 m23 h0 h1
  go_wp2_with fail
  refine (C0.out _ (XX.out.trans D1.out) _ ⟨_, rfl, HZ0.out.ext isNd_good (XX.out.trans D1.out) fun _ _ h => h⟩).mono ?_
  rintro e w3 ⟨rfl, X2⟩
  have X9 := hid (D1.out.trans X2)
  clear X2
  go_wp2_with fail
  refine ⟨In.of X9.out, In.of X9.out, ?_⟩
  change wpQuiet _ _ (fun w' => ∃ t : LaterF none' w2, w' = t.w) _ _ _
  repeat (go_big_quiet_step (fail))
  refine wpQuiet_nil ?_
  go_wp2_with fail
  refine (C2.out _ (XX.out.trans X9.out) _ ⟨_, rfl, HZ2.out.ext isNd_good (XX.out.trans X9.out) fun _ _ h => h⟩).mono ?_
  rintro e w4 ⟨rfl, X2⟩
  have X9 := hid (X9.out.trans X2)
  clear X2
  go_wp2_with fail
  refine ⟨In.of X9.out, ?_⟩
  go_wp2_with fail
  have Y := hid ((Ext.refl none' w4).alloc (.cells #[.string ⟨(o0 ++ [59]).toArray⟩, .string ⟨(o1 ++ [59]).toArray⟩, .string ⟨o2.toArray⟩] 9))
  refine (CB2.out _ _ (isStrs_lit (heap_alloc_at rfl _) rfl)).mono ?_
  rintro e wz ⟨rfl, X3⟩
  have XX := hid (XX.out.trans (X9.out.trans (Y.out.trans X3)))
  clear Y2 X9 Y X3
  obtain ⟨cc, hcc⟩ : ∃ c, betw [32] [o0 ++ [59], o1 ++ [59], o2] = c := ⟨_, rfl⟩
  rw [hcc] at CB CB2 ⊢
  clear hcc CB2 HC
  go_upto_region 6 with (fail)
  obtain ⟨x0, x1⟩ := cell2L fun t' : LaterF none' wz => ((XX.out).trans t'.x).heap BX.out.g0 fun h => h
  obtain ⟨m30, m31, m32, m33⟩ := kidL (w1 := wz) XX.out HBW.out KK3.out
  refine region_q none' wz (.qs [0, 1, 2, 3, 4] (.one 5 true (.one 6 false (.one 7 false (.one 8 false .fin))))) (by kernel_rfl) (by kernel_rfl) (fun dst v c a w h => by cases dst <;> exact h) ?_
  refine ⟨In.of (Ext.refl _ _).drew, ?_⟩
  change wpQuiet _ _ (fun w' => ∃ t : LaterF none' wz, w' = t.w) _ _ _
  simp only [sel, List.getElem?_cons_succ, List.getElem?_cons_zero]
  repeat (go_big_quiet_step (fail))
  refine wpQuiet_nil ?_
  simp only [wpTreeQ, stepT, sel, List.getElem?_cons_succ, List.getElem?_cons_zero]
  have D1 := hid (Ext.refl none' wz).drew
  clear m30 m31 m32 m33 x0 x1
  go_wp2_with fail
  refine (C3.out _ (XX.out.trans D1.out) _ ⟨_, rfl, HZ3.out.ext isNd_good (XX.out.trans D1.out) fun _ _ h => h⟩).mono ?_
  rintro e wy ⟨rfl, X2⟩
  have X9 := hid (D1.out.trans X2)
  clear X2
  go_wp2_with fail
  refine ⟨In.of X9.out, ?_⟩
  go_wp2_with fail
  have Y := hid ((Ext.refl none' wy).alloc (.cells #[.string ⟨#[102, 111, 114]⟩, .string ⟨cc.toArray⟩, .string ⟨o3.toArray⟩] 9))
  refine (CB.out _ _ (isStrs_lit (heap_alloc_at rfl _) rfl)).mono ?_
  rintro e wx ⟨rfl, X3⟩
  have XX := hid (XX.out.trans (X9.out.trans (Y.out.trans X3)))
  go_wp2_with fail
  go_ret
  exact ⟨rfl, BX.out.x.trans XX.out⟩
 cases e2
 case false.true =>
  go_upto_region 4 with (fail)
  obtain ⟨m00, m01, m02, m03⟩ := kid' XX.out HBW.out KK0.out
  obtain ⟨m20, m21, m22, m23⟩ := kid' XX.out HBW.out KK2.out
  obtain ⟨rfl⟩ : Hid (cc = betw [32] [o0 ++ [59], o1 ++ [59], o2]) := hid (by rw [HC.out]; rfl)
  go_upto_region 5 with (fail)
  clear m00 m01 m02 m03 m20 m21 m22 m23
  go_upto_region 5 with (fail)
  obtain ⟨m00, m01, m02, m03⟩ := kidL (w1 := w2) XX.out HBW.out KK0.out
  obtain ⟨m20, m21, m22, m23⟩ := kidL (w1 := w2) XX.out HBW.out KK2.out
  have h0 := fun t' : LaterF none' w2 => cell_at (((Y2.out).trans t'.x).heap G2.out fun h => h) 0
  have h1 := fun t' : LaterF none' w2 => cell_at (((Y2.out).trans t'.x).heap G2.out fun h => h) 1
  simp only [List.getElem?_toArray, List.getElem?_cons_zero, List.getElem?_cons_succ] at h0 h1
  refine region_q none' w2 (.qs [0, 1, 2, 3, 4, 7, 8, 9, 10, 11, 12, 13] (.one 5 true (.qs [6] (.one 14 true (.one 15 false (.one 16 false (.one 17 false .fin))))))) (by kernel_rfl) (by kernel_rfl) (fun dst v c a w h => by cases dst <;> exact h) ?_
  refine ⟨In.of (Ext.refl _ _).drew, ?_⟩
  change wpQuiet _ _ (fun w' => ∃ t : LaterF none' w2, w' = t.w) _ _ _
  simp only [sel, List.getElem?_cons_succ, List.getElem?_cons_zero]
  repeat (go_big_quiet_step (fail))
  refine wpQuiet_nil ?_
  simp only [wpTreeQ, stepT, sel, List.getElem?_cons_succ, List.getElem?_cons_zero]
  have D1 := hid (Ext.refl none' w2).drew
  clear m00 m01 m02 m03 m20 m21 m22 m23 h0 h1
  go_wp2_with fail
  refine (C0.out _ (XX.out.trans D1.out) _ ⟨_, rfl, HZ0.out.ext isNd_good (XX.out.trans D1.out) fun _ _ h => h⟩).mono ?_
  rintro e w3 ⟨rfl, X2⟩
  have X9 := hid (D1.out.trans X2)
  clear X2
  go_wp2_with fail
  refine ⟨In.of X9.out, In.of X9.out, ?_⟩
  change wpQuiet _ _ (fun w' => ∃ t : LaterF none' w2, w' = t.w) _ _ _
  repeat (go_big_quiet_step (fail))
  refine wpQuiet_nil ?_
  go_wp2_with fail
  refine (C2.out _ (XX.out.trans X9.out) _ ⟨_, rfl, HZ2.out.ext isNd_good (XX.out.trans X9.out) fun _ _ h => h⟩).mono ?_
  rintro e w4 ⟨rfl, X2⟩
  have X9 := hid (X9.out.trans X2)
  clear X2
  go_wp2_with fail
  refine ⟨In.of X9.out, ?_⟩
  go_wp2_with fail
  have Y := hid ((Ext.refl none' w4).alloc (.cells #[.string ⟨(o0 ++ [59]).toArray⟩, .string ⟨(o1 ++ [59]).toArray⟩, .string ⟨o2.toArray⟩] 9))
  refine (CB2.out _ _ (isStrs_lit (heap_alloc_at rfl _) rfl)).mono ?_
  rintro e wz ⟨rfl, X3⟩
  have XX := hid (XX.out.trans (X9.out.trans (Y.out.trans X3)))
  clear Y2 X9 Y X3
  obtain ⟨cc, hcc⟩ : ∃ c, betw [32] [o0 ++ [59], o1 ++ [59], o2] = c := ⟨_, rfl⟩
  rw [hcc] at CB CB2 ⊢
  clear hcc CB2 HC
  go_upto_region 6 with (fail)
  obtain ⟨x0, x1⟩ := cell2L fun t' : LaterF none' wz => ((XX.out).trans t'.x).heap BX.out.g0 fun h => h
  obtain ⟨m30, m31, m32, m33⟩ := kidL (w1 := wz) XX.out HBW.out KK3.out
  refine region_q none' wz (.qs [0, 1, 2, 3, 4] (.one 5 true (.one 6 false (.one 7 false (.one 8 false .fin))))) (by kernel_rfl) (by kernel_rfl) (fun dst v c a w h => by cases dst <;> exact h) ?_
  refine ⟨In.of (Ext.refl _ _).drew, ?_⟩
  change wpQuiet _ _ (fun w' => ∃ t : LaterF none' wz, w' = t.w) _ _ _
  simp only [sel, List.getElem?_cons_succ, List.getElem?_cons_zero]
  repeat (go_big_quiet_step (fail))
  refine wpQuiet_nil ?_
  simp only [wpTreeQ, stepT, sel, List.getElem?_cons_succ, List.getElem?_cons_zero]
  have D1 := hid (Ext.refl none' wz).drew
  clear m30 m31 m32 m33 x0 x1
  go_wp2_with fail
  refine (C3.out _ (XX.out.trans D1.out) _ ⟨_, rfl, HZ3.out.ext isNd_good (XX.out.trans D1.out) fun _ _ h => h⟩).mono ?_
  rintro e wy ⟨rfl, X2⟩
  have X9 := hid (D1.out.trans X2)
  clear X2
  go_wp2_with fail
  refine ⟨In.of X9.out, ?_⟩
  go_wp2_with fail
  have Y := hid ((Ext.refl none' wy).alloc (.cells #[.string ⟨#[102, 111, 114]⟩, .string ⟨cc.toArray⟩, .string ⟨o3.toArray⟩] 9))
  refine (CB.out _ _ (isStrs_lit (heap_alloc_at rfl _) rfl)).mono ?_
  rintro e wx ⟨rfl, X3⟩
  have XX := hid (XX.out.trans (X9.out.trans (Y.out.trans X3)))
  go_wp2_with fail
  go_ret
  exact ⟨rfl, BX.out.x.trans XX.out⟩
 case false.false =>
  go_upto_region 4 with (fail)
  obtain ⟨m00, m01, m02, m03⟩ := kid' XX.out HBW.out KK0.out
  obtain ⟨m20, m21, m22, m23⟩ := kid' XX.out HBW.out KK2.out
  obtain ⟨rfl⟩ : Hid (cc = o1) := hid (by rw [HC.out]; rfl)
  clear HC CB2
  go_upto_region 6 with (fail)
  clear m00 m01 m02 m03 m20 m21 m22 m23
  go_upto_region 6 with (fail)
  obtain ⟨x0, x1⟩ := cell2L fun t' : LaterF none' w2 => ((XX.out).trans t'.x).heap BX.out.g0 fun h => h
  obtain ⟨m30, m31, m32, m33⟩ := kidL (w1 := w2) XX.out HBW.out KK3.out
  refine region_q none' w2 (.qs [0, 1, 2, 3, 4] (.one 5 true (.one 6 false (.one 7 false (.one 8 false .fin))))) (by kernel_rfl) (by kernel_rfl) (fun dst v c a w h => by cases dst <;> exact h) ?_
  refine ⟨In.of (Ext.refl _ _).drew, ?_⟩
  change wpQuiet _ _ (fun w' => ∃ t : LaterF none' w2, w' = t.w) _ _ _
  simp only [sel, List.getElem?_cons_succ, List.getElem?_cons_zero]
  repeat (go_big_quiet_step (fail))
  refine wpQuiet_nil ?_
  simp only [wpTreeQ, stepT, sel, List.getElem?_cons_succ, List.getElem?_cons_zero]
  have D1 := hid (Ext.refl none' w2).drew
  clear m30 m31 m32 m33 x0 x1
  go_wp2_with fail
  refine (C3.out _ (XX.out.trans D1.out) _ ⟨_, rfl, HZ3.out.ext isNd_good (XX.out.trans D1.out) fun _ _ h => h⟩).mono ?_
  rintro e wy ⟨rfl, X2⟩
  have X9 := hid (D1.out.trans X2)
  clear X2
  go_wp2_with fail
  refine ⟨In.of X9.out, ?_⟩
  go_wp2_with fail
  have Y := hid ((Ext.refl none' wy).alloc (.cells #[.string ⟨#[102, 111, 114]⟩, .string ⟨o1.toArray⟩, .string ⟨o3.toArray⟩] 9))
  refine (CB.out _ _ (isStrs_lit (heap_alloc_at rfl _) rfl)).mono ?_
  rintro e wx ⟨rfl, X3⟩
  have XX := hid (XX.out.trans (X9.out.trans (Y.out.trans X3)))
  go_wp2_with fail
  go_ret
  exact ⟨rfl, BX.out.x.trans XX.out⟩
end Go.Proofs.YthbmjamgidfneaaGreatDoor
