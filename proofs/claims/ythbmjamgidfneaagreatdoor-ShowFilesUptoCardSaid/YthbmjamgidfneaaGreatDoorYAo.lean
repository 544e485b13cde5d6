import Derived.Test.YthbmjamgidfneaaGreatDoorYAa
import Derived.Test.YthbmjamgidfneaaGreatDoorYAd
import Derived.Test.YthbmjamgidfneaaGreatDoorYAn
set_option maxRecDepth 100000
set_option maxHeartbeats 6400000
namespace Go.Proofs.YthbmjamgidfneaaGreatDoor
open Go.RowKit Go.Lib Go.BigFrame
set_option linter.unusedVariables false
set_option linter.unusedSimpArgs false
def intT (ty : Nd → List UInt8) (x : Nd) : List UInt8 := x.text ++ ty (x.kid 0)
def parT (ty : Nd → List UInt8) (x : Nd) : List UInt8 := x.text ++ [32] ++ inT ty (x.kid 0)
def sBar : List UInt8 := [32, 124, 32]
theorem inter_kids {f : Nat} {t : Nd} (h : interB (tyF nmB f) t = true) : t.kind = 14 ∧ t.text = [] ∧ ∀ x ∈ t.kids, x.text.length ≤ 100 ∧ x.kids.length = 1 ∧ tyF nmB f (x.kid 0) = true := by
 unfold interB at h
 simp only [Bool.and_eq_true, List.all_eq_true, beq_iff_eq] at h
 refine ⟨h.1, h.2.1, fun x hx => ?_⟩
 obtain ⟨_, h2, h3⟩ := namB_parts (h.2.2.2 x hx)
 obtain ⟨y, hy, hty⟩ := one_kid h3
 refine ⟨?_, by rw [hy]; rfl, by rw [kid_one hy]; exact hty⟩
 unfold tldB at h2
 simp only [Bool.or_eq_true, beq_iff_eq] at h2
 rcases h2 with h2 | h2 <;> rw [h2] <;> simp
theorem pars_kids {f : Nat} {t : Nd} (h : parsB (tyF nmB f) t = true) : ∀ x ∈ t.kids, x.text ≠ [] ∧ x.text.length ≤ 100 ∧ x.kids.length = 1 ∧ (interB (tyF nmB f) (x.kid 0) = true ∨ tyF nmB f (x.kid 0) = true) := fun x hx => by
 unfold parsB at h
 obtain ⟨_, _, h⟩ := listB_parts h
 have := h x hx
 unfold parB at this
 obtain ⟨_, h2, h3⟩ := namB_parts this
 obtain ⟨y, hy, hty⟩ := one_kid h3
 refine ⟨fun e => ?_, nmB_len _ h2, by rw [hy]; rfl, ?_⟩
 · rw [e] at h2; exact absurd h2 (by decide)
 rw [kid_one hy]
 unfold orB nam1B at hty
 simp only [Bool.or_eq_true, Bool.and_eq_true] at hty
 rcases hty with h | h
 · exact .inr h.2
 · exact .inl h
abbrev RInH (f : Nat) : Prop := ∀ (t : Nd), t.size ≤ f + 1 → (interB (tyF nmB f) t = true ∨ (t.size ≤ f ∧ tyF nmB f t = true)) → ∀ (v : Value) (w : World), NdV none' w t v → Calls Tryz.prog 27 #[v] w (StrPost (inT (typF f) t) w)
theorem rt_inter (f : Nat) (hf : f + 1 ≤ 1100000) (H : RTxH f) (t : Nd) (ht : t.size ≤ f + 1) (hk : t.kind = 14) (he : interB (tyF nmB f) t = true) (v : Value) (w : World) (hv : NdV none' w t v) :
 Calls Tryz.prog 27 #[v] w (StrPost (inT (typF f) t) w) := by
 obtain ⟨a1, cap1, rfl, hcap, HV, HY⟩ := nd_open hv
 have hkl : t.kids.length ≤ 1100000 := by have := t.kids_len; omega
 obtain ⟨r, hr⟩ : ∃ r, r = (inT (typF f) t) := ⟨_, rfl⟩
 rw [← hr]
 have HT := hid ht
 have HF := hid hf
 obtain ⟨_, _, hps⟩ := inter_kids he
 have hsz := size_kids t
 have HPS := hid hps
 have HH := hid H
 have hty : ∀ x ∈ t.kids, (intT (typF f) x).length + 10 ≤ 4000000 * x.size := fun x hx' => by
  have h2 := kid_size (t := x) (i := 0) (by have := (hps x hx').2.1; omega)
  have h1 := ty_len (hps x hx').2.2 (by have := Nd.size_kid hx'; omega)
  have h3 := (hps x hx').1
  unfold intT
  rw [List.length_append]
  omega
 obtain ⟨J, hJ⟩ : ∃ J, J = jn (intT (typF f)) sBar (t.kids) := ⟨_, rfl⟩
 have JZ := hid (show J 0 = [] by rw [hJ]; rfl)
 have J1 := hid (show ∀ h : 0 < (t.kids).length, J 1 = (intT (typF f)) (t.kids)[0] by rw [hJ]; exact fun h => jn_one _ _ _ h)
 have JN := hid (show ∀ i (h : i < (t.kids).length), 0 < i → J (i + 1) = J i ++ (sBar ++ (intT (typF f)) (t.kids)[i]) by rw [hJ]; exact fun i h h0 => jn_next _ _ _ i h h0)
 have JL := hid (show ∀ i, (J i).length ≤ 10000000000000 by
  intro i
  rw [hJ]
  have := jn_len (p := intT (typF f)) (sep := sBar) (l := t.kids) (by decide) hty i
  skip
  omega)
 have QL := hid (show ∀ x ∈ (t.kids), ((intT (typF f)) x).length ≤ 10000000000000 by
  intro x hx
  have := hty x hx
  have := Nd.size_kid hx
  omega)
 have hr : r = 105 :: 110 :: 116 :: 101 :: 114 :: 102 :: 97 :: 99 :: 101 :: 123 :: 32 :: (J t.kids.length ++ [32, 125]) := by
  rw [hr, hJ]
  unfold inT
  rw [if_pos hk, jn_all]
  simp only [List.append_assoc, List.cons_append, List.nil_append]
  rfl
 have HR := hid hr
 clear hps hsz hty hJ
 have HK := hid hk
 rw [hk] at HV ⊢
 obtain ⟨tx, htx⟩ : ∃ k, t.text = k := ⟨_, rfl⟩
 have HTX := hid htx
 rw [htx] at HV ⊢
 obtain ⟨B, W0, hB, hW0, X0, G0⟩ := boxed w (.cells #[.int .i64 14, .string ⟨tx.toArray⟩, .slice a1 t.kids.length cap1, .int .i64 t.pos] 24)
 have XX := hid (Ext.refl none' W0)
 clear hr htx ht hf hk he H
 go_enter Tryz.func27, Tryz.ntmps27
 go_upto_region 1 with (fail)
 rw [← hW0, ← hB]
 clear hW0 hB
 obtain ⟨c0, c1, c2, c3⟩ := cellx XX.out G0.out
 go_wp2_with fail
 clear c0 c1 c2 c3
 go_loopw [3, 4] (fun o z wr => ∃ (i : Nat), z = .int .i64 (i : Nat) ∧ i ≤ t.kids.length ∧ o = .string ⟨(J i).toArray⟩ ∧ Hid (Ext none' W0 wr)) (fun _ z _ => t.kids.length - (RowKit.intOf z).toNat)
 case atStart => exact ⟨0, rfl, by omega, by rw [JZ.out], XX⟩
 case round =>
  obtain ⟨i, rfl, hle, rfl, RR⟩ := hrel
  have c2 := cell_at (RR.out.heap G0.out fun h => h) 2
  simp only [List.getElem?_toArray, List.getElem?_cons_zero, List.getElem?_cons_succ] at c2
  by_cases hi : i < t.kids.length
  · obtain ⟨b5, off5, cs5, rfl, _, hw5, hcc5, ht5⟩ := (HY.out.ext isNd_good (X0.out.trans RR.out) fun _ _ h => h).at i hi
    obtain ⟨x5, rfl, hx5⟩ := ht5.parts
    have d0 := hcc5 0 _ rfl
    have d1 := hcc5 1 _ rfl
    have d2 := hcc5 2 _ rfl
    have d3 := hcc5 3 _ rfl
    simp only [Nat.add_zero] at d0
    have hmem := List.getElem_mem hi
    have HX5 := hid hx5
    obtain ⟨a6, cap6, rfl, _⟩ := hx5
    have hal := JL.out i
    have hpl := QL.out _ hmem
    have HPX := hid (HPS.out _ hmem)
    have hptl := HPX.out.1
    have hl0 : 0 < (t.kids[i]).kids.length := by have := HPX.out.2.1; omega
    have hsz7 : (t.kids[i].kid 0).size ≤ f := by have := Nd.size_kid hmem; have := kid_size hl0; have := HT.out; omega
    obtain ⟨b7, off7, z7, ez7, hbw7, k0, k1, k2, k3, hz7⟩ := kid_val HX5.out 0 hl0
    subst ez7
    simp only [Nat.zero_mul, Nat.add_zero] at k0 k1 k2 k3
    have HZ7 := hid hz7
    obtain ⟨a8, cap8, rfl, _⟩ := hz7
    have CQ := hid fun W (X : Ext none' wr W) => HH.out (t.kids[i].kid 0) hsz7 HPX.out.2.2 (.agg #[.int .i64 (t.kids[i].kid 0).kind, .string ⟨(t.kids[i].kid 0).text.toArray⟩, .slice a8 (t.kids[i].kid 0).kids.length cap8, .int .i64 (t.kids[i].kid 0).pos]) W ⟨_, rfl, HZ7.out.ext isNd_good X fun _ _ h => h⟩
    have HNN := hid (JN.out i hi)
    have z0 : (0 : Int) < ((t.kids[i]).kids.length : Int) := by omega
    have H01 := hid fun (h : i = 0) => (show J (i + 1) = intT (typF f) (t.kids[i]) by subst h; rw [J1.out hi])
    obtain ⟨p, hp⟩ : ∃ p, t.kids[i] = p := ⟨_, rfl⟩
    rw [hp] at d0 d1 d3 CQ hpl HNN H01 k0 k1 k3 hptl z0 hl0
    simp only [hp] at d2 k2
    obtain ⟨q1, hq1⟩ : ∃ q, typF f (p.kid 0) = q := ⟨_, rfl⟩
    obtain ⟨px, hpx⟩ : ∃ q, p.text = q := ⟨_, rfl⟩
    have hpe : intT (typF f) p = px ++ q1 := by rw [← hpx, ← hq1]; rfl
    rw [hpe] at hpl HNN H01
    have hql1 : q1.length ≤ 10000000000000 := by
     simp only [List.length_append] at hpl; omega
    rw [hq1] at CQ
    rw [hpx] at d1 hptl
    have HW5 := hid hw5
    have HW7 := hid hbw7
    clear hcc5 ht5 hmem hp HX5 hq1 hpx hsz7 hpe hw5 hbw7 HPX
    by_cases h0 : i = 0
    case pos =>
     have z1 : ¬ 0 < i := by omega
     have z2 : ¬ (0 : Int) < (i : Int) := by omega
     have z3 : decide ((0 : Int) < (i : Int)) = false := by rw [decide_eq_false_iff_not]; omega
     rw [show J i = [] by rw [h0]; exact JZ.out]
     have N := hid (H01.out h0)
     clear h0
     have cat11 := str_cat (px) (q1)
     have cat12 := str_cat ([]) (px ++ q1)
     simp only [List.append_assoc, List.cons_append, List.nil_append] at cat11 cat12
     go_upto_region 13 with (fail)
     clear c2
     have c2 := fun t' : LaterF none' wr => cell_at ((RR.out.trans t'.x).heap G0.out fun h => h) 2
     simp only [List.getElem?_toArray, List.getElem?_cons_zero, List.getElem?_cons_succ] at c2
     have e1 := fun t' : LaterF none' wr => (t'.x.cell (p := ⟨b5, off5 + i * 4 + 1, none⟩) HW5.out (fun h => h)).trans d1
     have e2 := fun t' : LaterF none' wr => (t'.x.cell (p := ⟨b5, off5 + i * 4 + 2, none⟩) HW5.out (fun h => h)).trans d2
     have m0 := fun t' : LaterF none' wr => (t'.x.cell (p := ⟨b7, off7, none⟩) HW7.out (fun h => h)).trans k0
     have m1 := fun t' : LaterF none' wr => (t'.x.cell (p := ⟨b7, off7 + 1, none⟩) HW7.out (fun h => h)).trans k1
     have m2 := fun t' : LaterF none' wr => (t'.x.cell (p := ⟨b7, off7 + 2, none⟩) HW7.out (fun h => h)).trans k2
     have m3 := fun t' : LaterF none' wr => (t'.x.cell (p := ⟨b7, off7 + 3, none⟩) HW7.out (fun h => h)).trans k3
     refine region_q none' wr (.qs [0, 1, 2, 3, 4, 5, 6, 7, 8, 9, 10, 11, 12, 13, 14] (.one 15 true (.qs [16, 17, 18] .fin))) (by kernel_rfl) (by kernel_rfl) (fun dst v c a w h => by cases dst <;> exact h) ?_
     refine ⟨In.of (Ext.refl _ _).drew, ?_⟩
     change wpQuiet _ _ (fun w' => ∃ t : LaterF none' wr, w' = t.w) _ _ _
     simp only [sel, List.getElem?_cons_succ, List.getElem?_cons_zero]
     repeat (go_big_quiet_step (fail))
     refine wpQuiet_nil ?_
     simp only [wpTreeQ, stepT, sel, List.getElem?_cons_succ, List.getElem?_cons_zero]
     have D1 := hid (Ext.refl none' wr).drew
     clear c2 e1 e2 m0 m1 m2 m3
     go_wp2_with fail
     refine (CQ.out _ D1.out).mono ?_
     rintro e W5 ⟨rfl, X5⟩
     have X5 := hid (D1.out.trans X5)
     go_wp2_with fail
     refine ⟨In.of X5.out, In.of X5.out, ?_⟩
     change wpQuiet _ _ (fun w' => ∃ t : LaterF none' wr, w' = t.w) _ _ _
     repeat (go_big_quiet_step (fail))
     refine wpQuiet_nil ?_
     have XN := hid (RR.out.trans X5.out)
     clear d0 d1 d2 d3 k0 k1 k2 k3 X5 D1
     go_wp2_with fail
     go_roundw
     case rel => exact ⟨i + 1, by go_num, by omega, by first | (rw [N.out]; done) | (rw [N.out]; simp [sComma, sBar]), XN⟩
     case measure => simp [RowKit.intOf]; omega
    have z1 : 0 < i := by omega
    have z2 : (0 : Int) < (i : Int) := by omega
    have z3 : decide ((0 : Int) < (i : Int)) = true := by rw [decide_eq_true_iff]; omega
    have N := hid (HNN.out (by omega))
    obtain ⟨o1, ho1⟩ : ∃ o, J i = o := ⟨_, rfl⟩
    rw [ho1] at N hal ⊢
    clear ho1 h0
    have cat13 := str_cat (o1) ([32, 124, 32])
    have cat14 := str_cat (px) (q1)
    have cat15 := str_cat (o1 ++ [32, 124, 32]) (px ++ q1)
    simp only [List.append_assoc, List.cons_append, List.nil_append] at cat13 cat14 cat15
    go_upto_region 13 with (fail)
    clear c2
    have c2 := fun t' : LaterF none' wr => cell_at ((RR.out.trans t'.x).heap G0.out fun h => h) 2
    simp only [List.getElem?_toArray, List.getElem?_cons_zero, List.getElem?_cons_succ] at c2
    have e1 := fun t' : LaterF none' wr => (t'.x.cell (p := ⟨b5, off5 + i * 4 + 1, none⟩) HW5.out (fun h => h)).trans d1
    have e2 := fun t' : LaterF none' wr => (t'.x.cell (p := ⟨b5, off5 + i * 4 + 2, none⟩) HW5.out (fun h => h)).trans d2
    have m0 := fun t' : LaterF none' wr => (t'.x.cell (p := ⟨b7, off7, none⟩) HW7.out (fun h => h)).trans k0
    have m1 := fun t' : LaterF none' wr => (t'.x.cell (p := ⟨b7, off7 + 1, none⟩) HW7.out (fun h => h)).trans k1
    have m2 := fun t' : LaterF none' wr => (t'.x.cell (p := ⟨b7, off7 + 2, none⟩) HW7.out (fun h => h)).trans k2
    have m3 := fun t' : LaterF none' wr => (t'.x.cell (p := ⟨b7, off7 + 3, none⟩) HW7.out (fun h => h)).trans k3
    refine region_q none' wr (.qs [0, 1, 2, 3, 4, 5, 6, 7, 8, 9, 10, 11, 12, 13, 14] (.one 15 true (.qs [16, 17, 18] .fin))) (by kernel_rfl) (by kernel_rfl) (fun dst v c a w h => by cases dst <;> exact h) ?_
    refine ⟨In.of (Ext.refl _ _).drew, ?_⟩
    change wpQuiet _ _ (fun w' => ∃ t : LaterF none' wr, w' = t.w) _ _ _
    simp only [sel, List.getElem?_cons_succ, List.getElem?_cons_zero]
    repeat (go_big_quiet_step (fail))
    refine wpQuiet_nil ?_
    simp only [wpTreeQ, stepT, sel, List.getElem?_cons_succ, List.getElem?_cons_zero]
    have D1 := hid (Ext.refl none' wr).drew
    clear c2 e1 e2 m0 m1 m2 m3
    go_wp2_with fail
    refine (CQ.out _ D1.out).mono ?_
    rintro e W5 ⟨rfl, X5⟩
    have X5 := hid (D1.out.trans X5)
    go_wp2_with fail
    refine ⟨In.of X5.out, In.of X5.out, ?_⟩
    change wpQuiet _ _ (fun w' => ∃ t : LaterF none' wr, w' = t.w) _ _ _
    repeat (go_big_quiet_step (fail))
    refine wpQuiet_nil ?_
    have XN := hid (RR.out.trans X5.out)
    clear d0 d1 d2 d3 k0 k1 k2 k3 X5 D1
    go_wp2_with fail
    go_roundw
    case rel => exact ⟨i + 1, by go_num, by omega, by first | (rw [N.out]; done) | (rw [N.out]; simp [sComma, sBar]), XN⟩
    case measure => simp [RowKit.intOf]; omega
  · obtain rfl : i = t.kids.length := by omega
    have hal := JL.out t.kids.length
    obtain ⟨o1, ho1⟩ : ∃ o, J t.kids.length = o := ⟨_, rfl⟩
    rw [ho1] at HR hal ⊢
    clear ho1
    have cat1 := str_cat [105, 110, 116, 101, 114, 102, 97, 99, 101, 123, 32] o1
    have cat2 := str_cat ([105, 110, 116, 101, 114, 102, 97, 99, 101, 123, 32] ++ o1) [32, 125]
    simp only [List.append_assoc, List.cons_append, List.nil_append] at cat1 cat2
    go_wp2_with fail
    go_ret
    exact ⟨by rw [HR.out]; rfl, X0.out.trans RR.out⟩
theorem rin_any (f : Nat) (hf : f + 1 ≤ 1100000) : RInH f := by
 intro t ht he v w hv
 rcases he with he | ⟨hs, he⟩
 · exact rt_inter f hf (rtx_any f (by omega)) t ht (inter_kids he).1 he v w hv
 · have := rtx_any f (by omega) t hs he v w hv
   unfold inT
   rw [if_neg (by have := tyF_kind he; omega)]
   exact this
theorem inT_len' {f : Nat} {t : Nd} (ht : t.size ≤ f) (h : interB (tyF nmB f) t = true ∨ tyF nmB f t = true) : (inT (typF f) t).length + 500 ≤ 4000000 * t.size := by
 rcases h with h | h
 · have hi := inter_kids h
   unfold inT
   rw [if_pos hi.1]
   have hsz := size_kids t
   have hty : ∀ x ∈ t.kids, (intT (typF f) x).length + 10 ≤ 4000000 * x.size := fun x hx' => by
    have h2 := kid_size (t := x) (i := 0) (by have := (hi.2.2 x hx').2.1; omega)
    have h1 := ty_len (hi.2.2 x hx').2.2 (by have := Nd.size_kid hx'; omega)
    have h3 := (hi.2.2 x hx').1
    unfold intT
    rw [List.length_append]
    omega
   have h4 := jn_len (p := intT (typF f)) (sep := sBar) (l := t.kids) (by decide) hty t.kids.length
   rw [jn_all] at h4
   have h5 : (Lib.join (t.kids.map fun x => x.text ++ typF f (x.kid 0)) [32, 124, 32]).length ≤ 4000000 * Nd.sizeL t.kids := h4
   simp only [List.length_append, List.length_cons, List.length_nil]
   omega
 · unfold inT
   rw [if_neg (by have := tyF_kind h; omega)]
   have := ty_len h ht
   omega
theorem rparst_any (f : Nat) (hf : f + 1 ≤ 1100000) (t : Nd) (ht : t.size ≤ f + 1) (he : parsB (tyF nmB f) t = true) (v : Value) (w : World) (hv : NdV none' w t v) :
 Calls Tryz.prog 63 #[v] w (StrPost (parsT (typF f) t) w) := by
 obtain ⟨a1, cap1, rfl, hcap, HV, HY⟩ := nd_open hv
 have hkl : t.kids.length ≤ 1100000 := by have := t.kids_len; omega
 obtain ⟨r, hr⟩ : ∃ r, r = (parsT (typF f) t) := ⟨_, rfl⟩
 rw [← hr]
 have HT := hid ht
 have HF := hid hf
 have hps := pars_kids he
 have hsz := size_kids t
 have HPS := hid hps
 have HH := hid (rin_any f hf)
 have hty : ∀ x ∈ t.kids, (parT (typF f) x).length + 10 ≤ 4000000 * x.size := fun x hx' => by
  have h2 := kid_size (t := x) (i := 0) (by have := (hps x hx').2.2.1; omega)
  have h1 := inT_len' (f := f) (t := x.kid 0) (by have := Nd.size_kid hx'; omega) (hps x hx').2.2.2
  have h3 := (hps x hx').2.1
  unfold parT
  simp only [List.length_append, List.length_cons, List.length_nil]
  omega
 obtain ⟨J, hJ⟩ : ∃ J, J = jn (parT (typF f)) sComma (t.kids) := ⟨_, rfl⟩
 have JZ := hid (show J 0 = [] by rw [hJ]; rfl)
 have J1 := hid (show ∀ h : 0 < (t.kids).length, J 1 = (parT (typF f)) (t.kids)[0] by rw [hJ]; exact fun h => jn_one _ _ _ h)
 have JN := hid (show ∀ i (h : i < (t.kids).length), 0 < i → J (i + 1) = J i ++ (sComma ++ (parT (typF f)) (t.kids)[i]) by rw [hJ]; exact fun i h h0 => jn_next _ _ _ i h h0)
 have JL := hid (show ∀ i, (J i).length ≤ 10000000000000 by
  intro i
  rw [hJ]
  have := jn_len (p := parT (typF f)) (sep := sComma) (l := t.kids) (by decide) hty i
  skip
  omega)
 have QL := hid (show ∀ x ∈ (t.kids), ((parT (typF f)) x).length ≤ 10000000000000 by
  intro x hx
  have := hty x hx
  have := Nd.size_kid hx
  omega)
 have hne : J t.kids.length = [] ↔ t.kids = [] := by
  rw [hJ, jn_all]
  exact jn_ne fun x hx e => (hps x hx).1 (by
   unfold parT at e
   simp at e)
 have hr : r = if J t.kids.length = [] then [] else 91 :: (J t.kids.length ++ [93]) := by
  rw [hr]
  unfold parsT
  by_cases hk : t.kids = []
  · rw [if_pos hk, if_pos (hne.2 hk)]
  · rw [if_neg hk, if_neg fun e => hk (hne.1 e), hJ, jn_all]
    show [91] ++ Lib.join (t.kids.map (parT (typF f))) sComma ++ [93] = _
    simp only [List.append_assoc, List.cons_append, List.nil_append]
 have HR := hid hr
 clear hps hsz hty hJ hne
 obtain ⟨tk, htk⟩ : ∃ k, t.kind = k := ⟨_, rfl⟩
 have HTK := hid htk
 rw [htk] at HV ⊢
 obtain ⟨tx, htx⟩ : ∃ k, t.text = k := ⟨_, rfl⟩
 have HTX := hid htx
 rw [htx] at HV ⊢
 obtain ⟨B, W0, hB, hW0, X0, G0⟩ := boxed w (.cells #[.int .i64 tk, .string ⟨tx.toArray⟩, .slice a1 t.kids.length cap1, .int .i64 t.pos] 24)
 have XX := hid (Ext.refl none' W0)
 clear hr htx ht hf htk he
 go_enter Tryz.func63, Tryz.ntmps63
 go_upto_region 1 with (fail)
 rw [← hW0, ← hB]
 clear hW0 hB
 obtain ⟨c0, c1, c2, c3⟩ := cellx XX.out G0.out
 go_wp2_with fail
 clear c0 c1 c2 c3
 go_loopw [3, 4] (fun o z wr => ∃ (i : Nat), z = .int .i64 (i : Nat) ∧ i ≤ t.kids.length ∧ o = .string ⟨(J i).toArray⟩ ∧ Hid (Ext none' W0 wr)) (fun _ z _ => t.kids.length - (RowKit.intOf z).toNat)
 case atStart => exact ⟨0, rfl, by omega, by rw [JZ.out], XX⟩
 case round =>
  obtain ⟨i, rfl, hle, rfl, RR⟩ := hrel
  have c2 := cell_at (RR.out.heap G0.out fun h => h) 2
  simp only [List.getElem?_toArray, List.getElem?_cons_zero, List.getElem?_cons_succ] at c2
  by_cases hi : i < t.kids.length
  · obtain ⟨b5, off5, cs5, rfl, _, hw5, hcc5, ht5⟩ := (HY.out.ext isNd_good (X0.out.trans RR.out) fun _ _ h => h).at i hi
    obtain ⟨x5, rfl, hx5⟩ := ht5.parts
    have d0 := hcc5 0 _ rfl
    have d1 := hcc5 1 _ rfl
    have d2 := hcc5 2 _ rfl
    have d3 := hcc5 3 _ rfl
    simp only [Nat.add_zero] at d0
    have hmem := List.getElem_mem hi
    have HX5 := hid hx5
    obtain ⟨a6, cap6, rfl, _⟩ := hx5
    have hal := JL.out i
    have hpl := QL.out _ hmem
    have HPX := hid (HPS.out _ hmem)
    have hptl := HPX.out.2.1
    have hl0 : 0 < (t.kids[i]).kids.length := by have := HPX.out.2.2.1; omega
    have hsz7 : (t.kids[i].kid 0).size ≤ f := by have := Nd.size_kid hmem; have := kid_size hl0; have := HT.out; omega
    obtain ⟨b7, off7, z7, ez7, hbw7, k0, k1, k2, k3, hz7⟩ := kid_val HX5.out 0 hl0
    subst ez7
    simp only [Nat.zero_mul, Nat.add_zero] at k0 k1 k2 k3
    have HZ7 := hid hz7
    obtain ⟨a8, cap8, rfl, _⟩ := hz7
    have CQ := hid fun W (X : Ext none' wr W) => HH.out (t.kids[i].kid 0) (by omega) (HPX.out.2.2.2.imp id fun h => ⟨hsz7, h⟩) (.agg #[.int .i64 (t.kids[i].kid 0).kind, .string ⟨(t.kids[i].kid 0).text.toArray⟩, .slice a8 (t.kids[i].kid 0).kids.length cap8, .int .i64 (t.kids[i].kid 0).pos]) W ⟨_, rfl, HZ7.out.ext isNd_good X fun _ _ h => h⟩
    have HNN := hid (JN.out i hi)
    have z0 : (0 : Int) < ((t.kids[i]).kids.length : Int) := by omega
    have H01 := hid fun (h : i = 0) => (show J (i + 1) = parT (typF f) (t.kids[i]) by subst h; rw [J1.out hi])
    obtain ⟨p, hp⟩ : ∃ p, t.kids[i] = p := ⟨_, rfl⟩
    rw [hp] at d0 d1 d3 CQ hpl HNN H01 k0 k1 k3 hptl z0 hl0
    simp only [hp] at d2 k2
    obtain ⟨q1, hq1⟩ : ∃ q, inT (typF f) (p.kid 0) = q := ⟨_, rfl⟩
    obtain ⟨px, hpx⟩ : ∃ q, p.text = q := ⟨_, rfl⟩
    have hpe : parT (typF f) p = px ++ [32] ++ q1 := by rw [← hpx, ← hq1]; rfl
    rw [hpe] at hpl HNN H01
    have hql1 : q1.length ≤ 10000000000000 := by
     simp only [List.length_append] at hpl; omega
    rw [hq1] at CQ
    rw [hpx] at d1 hptl
    have HW5 := hid hw5
    have HW7 := hid hbw7
    clear hcc5 ht5 hmem hp HX5 hq1 hpx hsz7 hpe hw5 hbw7 HPX
    by_cases h0 : i = 0
    case pos =>
     have z1 : ¬ 0 < i := by omega
     have z2 : ¬ (0 : Int) < (i : Int) := by omega
     have z3 : decide ((0 : Int) < (i : Int)) = false := by rw [decide_eq_false_iff_not]; omega
     rw [show J i = [] by rw [h0]; exact JZ.out]
     have N := hid (H01.out h0)
     clear h0
     have cat16 := str_cat (px) ([32])
     have cat17 := str_cat (px ++ [32]) (q1)
     have cat18 := str_cat ([]) (px ++ [32] ++ q1)
     simp only [List.append_assoc, List.cons_append, List.nil_append] at cat16 cat17 cat18
     go_upto_region 7 with (fail)
     clear c2
     have c2 := fun t' : LaterF none' wr => cell_at ((RR.out.trans t'.x).heap G0.out fun h => h) 2
     simp only [List.getElem?_toArray, List.getElem?_cons_zero, List.getElem?_cons_succ] at c2
     have e1 := fun t' : LaterF none' wr => (t'.x.cell (p := ⟨b5, off5 + i * 4 + 1, none⟩) HW5.out (fun h => h)).trans d1
     have e2 := fun t' : LaterF none' wr => (t'.x.cell (p := ⟨b5, off5 + i * 4 + 2, none⟩) HW5.out (fun h => h)).trans d2
     have m0 := fun t' : LaterF none' wr => (t'.x.cell (p := ⟨b7, off7, none⟩) HW7.out (fun h => h)).trans k0
     have m1 := fun t' : LaterF none' wr => (t'.x.cell (p := ⟨b7, off7 + 1, none⟩) HW7.out (fun h => h)).trans k1
     have m2 := fun t' : LaterF none' wr => (t'.x.cell (p := ⟨b7, off7 + 2, none⟩) HW7.out (fun h => h)).trans k2
     have m3 := fun t' : LaterF none' wr => (t'.x.cell (p := ⟨b7, off7 + 3, none⟩) HW7.out (fun h => h)).trans k3
     refine region_q none' wr (.qs [0, 1, 2, 3, 4, 5, 6, 7, 8, 9, 10, 11, 12, 13, 14, 15] (.one 16 true (.qs [17, 18, 19] .fin))) (by kernel_rfl) (by kernel_rfl) (fun dst v c a w h => by cases dst <;> exact h) ?_
     refine ⟨In.of (Ext.refl _ _).drew, ?_⟩
     change wpQuiet _ _ (fun w' => ∃ t : LaterF none' wr, w' = t.w) _ _ _
     simp only [sel, List.getElem?_cons_succ, List.getElem?_cons_zero]
     repeat (go_big_quiet_step (fail))
     refine wpQuiet_nil ?_
     simp only [wpTreeQ, stepT, sel, List.getElem?_cons_succ, List.getElem?_cons_zero]
     have D1 := hid (Ext.refl none' wr).drew
     clear c2 e1 e2 m0 m1 m2 m3
     go_wp2_with fail
     refine (CQ.out _ D1.out).mono ?_
     rintro e W5 ⟨rfl, X5⟩
     have X5 := hid (D1.out.trans X5)
     go_wp2_with fail
     refine ⟨In.of X5.out, In.of X5.out, ?_⟩
     change wpQuiet _ _ (fun w' => ∃ t : LaterF none' wr, w' = t.w) _ _ _
     repeat (go_big_quiet_step (fail))
     refine wpQuiet_nil ?_
     have XN := hid (RR.out.trans X5.out)
     clear d0 d1 d2 d3 k0 k1 k2 k3 X5 D1
     go_wp2_with fail
     go_roundw
     case rel => exact ⟨i + 1, by go_num, by omega, by first | (rw [N.out]; done) | (rw [N.out]; simp [sComma, sBar]), XN⟩
     case measure => simp [RowKit.intOf]; omega
    have z1 : 0 < i := by omega
    have z2 : (0 : Int) < (i : Int) := by omega
    have z3 : decide ((0 : Int) < (i : Int)) = true := by rw [decide_eq_true_iff]; omega
    have N := hid (HNN.out (by omega))
    obtain ⟨o1, ho1⟩ : ∃ o, J i = o := ⟨_, rfl⟩
    rw [ho1] at N hal ⊢
    clear ho1 h0
    have cat19 := str_cat (o1) ([44, 32])
    have cat20 := str_cat (px) ([32])
    have cat21 := str_cat (px ++ [32]) (q1)
    have cat22 := str_cat (o1 ++ [44, 32]) (px ++ [32] ++ q1)
    simp only [List.append_assoc, List.cons_append, List.nil_append] at cat19 cat20 cat21 cat22
    go_upto_region 7 with (fail)
    clear c2
    have c2 := fun t' : LaterF none' wr => cell_at ((RR.out.trans t'.x).heap G0.out fun h => h) 2
    simp only [List.getElem?_toArray, List.getElem?_cons_zero, List.getElem?_cons_succ] at c2
    have e1 := fun t' : LaterF none' wr => (t'.x.cell (p := ⟨b5, off5 + i * 4 + 1, none⟩) HW5.out (fun h => h)).trans d1
    have e2 := fun t' : LaterF none' wr => (t'.x.cell (p := ⟨b5, off5 + i * 4 + 2, none⟩) HW5.out (fun h => h)).trans d2
    have m0 := fun t' : LaterF none' wr => (t'.x.cell (p := ⟨b7, off7, none⟩) HW7.out (fun h => h)).trans k0
    have m1 := fun t' : LaterF none' wr => (t'.x.cell (p := ⟨b7, off7 + 1, none⟩) HW7.out (fun h => h)).trans k1
    have m2 := fun t' : LaterF none' wr => (t'.x.cell (p := ⟨b7, off7 + 2, none⟩) HW7.out (fun h => h)).trans k2
    have m3 := fun t' : LaterF none' wr => (t'.x.cell (p := ⟨b7, off7 + 3, none⟩) HW7.out (fun h => h)).trans k3
    refine region_q none' wr (.qs [0, 1, 2, 3, 4, 5, 6, 7, 8, 9, 10, 11, 12, 13, 14, 15] (.one 16 true (.qs [17, 18, 19] .fin))) (by kernel_rfl) (by kernel_rfl) (fun dst v c a w h => by cases dst <;> exact h) ?_
    refine ⟨In.of (Ext.refl _ _).drew, ?_⟩
    change wpQuiet _ _ (fun w' => ∃ t : LaterF none' wr, w' = t.w) _ _ _
    simp only [sel, List.getElem?_cons_succ, List.getElem?_cons_zero]
    repeat (go_big_quiet_step (fail))
    refine wpQuiet_nil ?_
    simp only [wpTreeQ, stepT, sel, List.getElem?_cons_succ, List.getElem?_cons_zero]
    have D1 := hid (Ext.refl none' wr).drew
    clear c2 e1 e2 m0 m1 m2 m3
    go_wp2_with fail
    refine (CQ.out _ D1.out).mono ?_
    rintro e W5 ⟨rfl, X5⟩
    have X5 := hid (D1.out.trans X5)
    go_wp2_with fail
    refine ⟨In.of X5.out, In.of X5.out, ?_⟩
    change wpQuiet _ _ (fun w' => ∃ t : LaterF none' wr, w' = t.w) _ _ _
    repeat (go_big_quiet_step (fail))
    refine wpQuiet_nil ?_
    have XN := hid (RR.out.trans X5.out)
    clear d0 d1 d2 d3 k0 k1 k2 k3 X5 D1
    go_wp2_with fail
    go_roundw
    case rel => exact ⟨i + 1, by go_num, by omega, by first | (rw [N.out]; done) | (rw [N.out]; simp [sComma, sBar]), XN⟩
    case measure => simp [RowKit.intOf]; omega
  · obtain rfl : i = t.kids.length := by omega
    have hal := JL.out t.kids.length
    obtain ⟨o1, ho1⟩ : ∃ o, J t.kids.length = o := ⟨_, rfl⟩
    rw [ho1] at HR hal ⊢
    clear ho1
    by_cases h0 : o1 = []
    case pos =>
     have HR := hid (show r = [] by rw [HR.out, if_pos h0])
     have n1 : (o1 == []) = true := by simpa using h0
     have n2 : (o1 != []) = false := by simp [h0]
     have n3 : o1.isEmpty = true := by simpa using h0
     clear h0
     go_wp2_with fail
     go_ret
     exact ⟨by rw [HR.out]; rfl, X0.out.trans RR.out⟩
    have HR := hid (show r = 91 :: (o1 ++ [93]) by rw [HR.out, if_neg h0])
    have n1 : (o1 == []) = false := by simpa using h0
    have n2 : (o1 != []) = true := by simpa using h0
    have n3 : o1.isEmpty = false := by simpa using h0
    have cat1 := str_cat [91] o1
    have cat2 := str_cat ([91] ++ o1) [93]
    simp only [List.append_assoc, List.cons_append, List.nil_append] at cat1 cat2
    clear h0
    go_wp2_with fail
    go_ret
    exact ⟨by rw [HR.out]; rfl, X0.out.trans RR.out⟩
abbrev REx7 (f : Nat) : Prop := ∀ (deep : Nat) (head : Bool), deep + f ≤ 1200000 → ∀ (t : Nd), t.size ≤ f → exF f t = true → ∀ (v : Value) (w : World), NdV none' w t v → Calls Tryz.prog 28 #[v, .int .i64 (deep : Nat), .bool head] w (StrPost (exT f deep head t) w)
abbrev RSt7 (f : Nat) : Prop := ∀ (deep : Nat), deep + f ≤ 1200000 → ∀ (t : Nd), t.size ≤ f → stF f t = true → ∀ (v : Value) (w : World), NdV none' w t v → Calls Tryz.prog 29 #[v, .int .i64 (deep : Nat), .bool false] w (StrPost (stT f deep t) w)
theorem level_any (s : List UInt8) (w : World) : Calls Tryz.prog 69 #[.string ⟨s.toArray⟩] w (IntP (tightN s : Nat) w) := by
 obtain ⟨r, hr⟩ : ∃ r, r = tightN s := ⟨_, rfl⟩
 rw [← hr]
 unfold tightN at hr
 have HR := hid hr
 clear hr
 by_cases h0 : s = [124, 124]
 case pos =>
  have q1_0 : (s == [124, 124]) = true := by simpa using h0
  have E := hid (show r = 1 by rw [HR.out, h0]; rfl)
  have HX := hid h0
  clear h0
  go_enter Tryz.func69, Tryz.ntmps69
  go_wp2_with fail
  go_ret
  exact ⟨by rw [E.out]; rfl, Ext.refl _ _⟩
 have q1_0 : (s == [124, 124]) = false := by simpa using h0
 by_cases h1 : s = [38, 38]
 case pos =>
  have q1_1 : (s == [38, 38]) = true := by simpa using h1
  have E := hid (show r = 2 by rw [HR.out, h1]; rfl)
  have HX := hid h1
  clear h1
  go_enter Tryz.func69, Tryz.ntmps69
  go_wp2_with fail
  go_ret
  exact ⟨by rw [E.out]; rfl, Ext.refl _ _⟩
 have q1_1 : (s == [38, 38]) = false := by simpa using h1
 by_cases h2 : s = [43]
 case pos =>
  have q1_2 : (s == [43]) = true := by simpa using h2
  have E := hid (show r = 4 by rw [HR.out, h2]; rfl)
  have HX := hid h2
  clear h2
  go_enter Tryz.func69, Tryz.ntmps69
  go_wp2_with fail
  go_ret
  exact ⟨by rw [E.out]; rfl, Ext.refl _ _⟩
 have q1_2 : (s == [43]) = false := by simpa using h2
 by_cases h3 : s = [45]
 case pos =>
  have q1_3 : (s == [45]) = true := by simpa using h3
  have E := hid (show r = 4 by rw [HR.out, h3]; rfl)
  have HX := hid h3
  clear h3
  go_enter Tryz.func69, Tryz.ntmps69
  go_wp2_with fail
  go_ret
  exact ⟨by rw [E.out]; rfl, Ext.refl _ _⟩
 have q1_3 : (s == [45]) = false := by simpa using h3
 by_cases h4 : s = [42]
 case pos =>
  have q1_4 : (s == [42]) = true := by simpa using h4
  have E := hid (show r = 5 by rw [HR.out, h4]; rfl)
  have HX := hid h4
  clear h4
  go_enter Tryz.func69, Tryz.ntmps69
  go_wp2_with fail
  go_ret
  exact ⟨by rw [E.out]; rfl, Ext.refl _ _⟩
 have q1_4 : (s == [42]) = false := by simpa using h4
 by_cases h5 : s = [47]
 case pos =>
  have q1_5 : (s == [47]) = true := by simpa using h5
  have E := hid (show r = 5 by rw [HR.out, h5]; rfl)
  have HX := hid h5
  clear h5
  go_enter Tryz.func69, Tryz.ntmps69
  go_wp2_with fail
  go_ret
  exact ⟨by rw [E.out]; rfl, Ext.refl _ _⟩
 have q1_5 : (s == [47]) = false := by simpa using h5
 by_cases h6 : s = [37]
 case pos =>
  have q1_6 : (s == [37]) = true := by simpa using h6
  have E := hid (show r = 5 by rw [HR.out, h6]; rfl)
  have HX := hid h6
  clear h6
  go_enter Tryz.func69, Tryz.ntmps69
  go_wp2_with fail
  go_ret
  exact ⟨by rw [E.out]; rfl, Ext.refl _ _⟩
 have q1_6 : (s == [37]) = false := by simpa using h6
 have E := hid (show r = 3 by rw [HR.out]; simp [h0, h1, h2, h3, h4, h5, h6])
 go_enter Tryz.func69, Tryz.ntmps69
 go_wp2_with fail
 go_ret
 exact ⟨by rw [E.out]; rfl, Ext.refl _ _⟩
theorem tabsT_succ (i : Nat) : tabsT (i + 1) = tabsT i ++ [9] := by unfold tabsT; rw [List.replicate_succ']
theorem tabs_any (n : Nat) (hn : n ≤ 100000000) (w : World) : Calls Tryz.prog 107 #[.int .i64 (n : Nat)] w (StrPost (tabsT n) w) := by
 obtain ⟨T, hT⟩ : ∃ T, T = tabsT := ⟨_, rfl⟩
 rw [← hT]
 have TZ := hid (show T 0 = [] by rw [hT]; rfl)
 have TS := hid (show ∀ i, T (i + 1) = T i ++ [9] by rw [hT]; exact tabsT_succ)
 have TL := hid (show ∀ i, (T i).length = i by rw [hT]; exact tabsT_len)
 clear hT
 go_enter Tryz.func107, Tryz.ntmps107
 go_wp2_with fail
 go_loopw [3, 4] (fun o z wr => ∃ (i : Nat), z = .int .i64 (i : Nat) ∧ i ≤ n ∧ o = .string ⟨(T i).toArray⟩ ∧ Hid (Ext none' w wr)) (fun _ z _ => n - (RowKit.intOf z).toNat)
 case atStart => exact ⟨0, rfl, by omega, by rw [TZ.out], hid (Ext.refl _ _)⟩
 case round =>
  obtain ⟨i, rfl, hle, rfl, RR⟩ := hrel
  by_cases hi : i < n
  · have N := hid (TS.out i)
    have hl := TL.out i
    obtain ⟨o1, ho1⟩ : ∃ o, T i = o := ⟨_, rfl⟩
    rw [ho1] at N hl ⊢
    have hl : o1.length ≤ 100000000 := by omega
    have cat1 := str_cat o1 [9]
    clear ho1
    go_wp2_with fail
    go_roundw
    case rel => exact ⟨i + 1, by go_num, by omega, by rw [N.out], RR⟩
    case measure => simp [RowKit.intOf]; omega
  · obtain rfl : i = n := by omega
    go_wp2_with fail
    go_ret
    exact ⟨rfl, RR.out⟩
theorem exlen7 {f deep : Nat} {t : Nd} (he : exF f t = true) (hs : t.size ≤ f) (hd : deep + f ≤ 1200000) (hf : f ≤ 1100000) (head : Bool) : (exT f deep head t).length ≤ 9000000000000 := by
 have := (lens_all f deep hd).1 t hs he head
 omega
theorem round_any (f : Nat) (hf : f ≤ 1100000) (H : REx7 f) (deep : Nat) (head yes : Bool) (hd : deep + f ≤ 1200000) (t : Nd) (ht : t.size ≤ f) (he : exF f t = true) (v : Value) (w : World) (hv : NdV none' w t v) :
 Calls Tryz.prog 68 #[v, .bool yes, .int .i64 (deep : Nat), .bool head] w (StrPost (brT (exT f) deep head yes t) w) := by
 have hql := exlen7 he ht hd hf
 have C0 := hid fun h W (X : Ext none' w W) => H deep h hd t ht he v W (hv.ext X fun _ _ h => h)
 obtain ⟨y, rfl, hy⟩ := hv
 obtain ⟨a1, cap1, rfl, hcap, hxx⟩ := hy
 clear hxx
 have G0 := hid (heap_alloc_at (w := w) rfl (.cells #[.int .i64 t.kind, .string ⟨t.text.toArray⟩, .slice a1 t.kids.length cap1, .int .i64 t.pos] 24))
 cases yes
 case false =>
  obtain ⟨q, hq⟩ : ∃ q, exT f deep head t = q := ⟨_, rfl⟩
  have C0 := hid (C0.out head)
  have HR := hid (show brT (exT f) deep head false t = q from hq)
  rw [hq] at C0
  rw [HR.out]
  clear hq hql he ht hd hf H
  go_enter Tryz.func68, Tryz.ntmps68
  go_wp2_with fail
  refine (C0.out _ ((Ext.refl _ _).alloc _)).mono ?_
  rintro e w1 ⟨rfl, X⟩
  have X := hid (((Ext.refl none' w).alloc _).trans X)
  go_wp2_with fail
  go_ret
  exact ⟨rfl, X.out⟩
 have hql := hql false
 obtain ⟨q, hq⟩ : ∃ q, exT f deep false t = q := ⟨_, rfl⟩
 have C0 := hid (C0.out false)
 have HR := hid (show brT (exT f) deep head true t = 40 :: (q ++ [41]) by rw [← hq]; rfl)
 rw [hq] at C0 hql
 rw [HR.out]
 clear hq he ht hd hf H
 have cat1 := str_cat [40] q
 have cat2 := str_cat ([40] ++ q) [41]
 simp only [List.append_assoc, List.cons_append, List.nil_append] at cat1 cat2
 go_enter Tryz.func68, Tryz.ntmps68
 go_wp2_with fail
 refine (C0.out _ ((Ext.refl _ _).alloc _)).mono ?_
 rintro e w1 ⟨rfl, X⟩
 have X := hid (((Ext.refl none' w).alloc _).trans X)
 go_wp2_with fail
 go_ret
 exact ⟨rfl, X.out⟩
theorem drop1_get {l : List Nd} {i : Nat} (h : i < l.length) (h1 : 1 ≤ i) : ∃ (h2 : i - 1 < (l.drop 1).length), (l.drop 1)[i - 1] = l[i] := by
 refine ⟨by rw [List.length_drop]; omega, ?_⟩
 rw [List.getElem_drop]
 congr 1
 omega
theorem others_any (f : Nat) (hf : f + 1 ≤ 1100000) (H : REx7 f) (deep : Nat) (hd : deep + f ≤ 1200000) (t : Nd) (ht : t.size ≤ f + 1) (h0 : 0 < t.kids.length) (hag : ∀ x ∈ t.kids.drop 1, argB (tyF nmB f) (exF f) x = true) (v : Value) (w : World) (hv : NdV none' w t v) :
 Calls Tryz.prog 70 #[v, .int .i64 (deep : Nat)] w (StrPost (othT (typF f) (exT f) deep t) w) := by
 obtain ⟨a1, cap1, rfl, hcap, HV, HY⟩ := nd_open hv
 have hkl : t.kids.length ≤ 1100000 := by have := t.kids_len; omega
 obtain ⟨r, hr⟩ : ∃ r, r = (othT (typF f) (exT f) deep t) := ⟨_, rfl⟩
 rw [← hr]
 have HT := hid ht
 have HF := hid hf
 have HH := hid H
 have HD := hid hd
 have HA := hid hag
 have hsz := size_kids t
 have hin : ∀ x ∈ t.kids.drop 1, x.size ≤ f := fun x hx => by have := Nd.size_kid (List.mem_of_mem_drop hx); omega
 have hty : ∀ x ∈ t.kids.drop 1, (partT (typF f) (exT f) deep x).length + 10 ≤ 4000000 * x.size := fun x hx' => by
  have h1 := hag x hx'
  unfold argB at h1
  simp only [Bool.or_eq_true, Bool.and_eq_true] at h1
  unfold partT
  split
  · rcases h1 with h | h
    · have := exF_kind h; omega
    · have := ty_len h.2 (hin x hx'); omega
  · rcases h1 with h | h
    · have := (lens_all f deep hd).1 x (hin x hx') h false; omega
    · have := tyF_kind h.2
      have h3 : x.kind ≠ 10 := by simpa using h.1
      omega
 have hszd : Nd.sizeL (t.kids.drop 1) ≤ Nd.sizeL t.kids := by cases t.kids with
  | nil => simp
  | cons a r => simp [Nd.sizeL]
 obtain ⟨J, hJ⟩ : ∃ J, J = jn (partT (typF f) (exT f) deep) sComma (t.kids.drop 1) := ⟨_, rfl⟩
 have JZ := hid (show J 0 = [] by rw [hJ]; rfl)
 have J1 := hid (show ∀ h : 0 < (t.kids.drop 1).length, J 1 = (partT (typF f) (exT f) deep) (t.kids.drop 1)[0] by rw [hJ]; exact fun h => jn_one _ _ _ h)
 have JN := hid (show ∀ i (h : i < (t.kids.drop 1).length), 0 < i → J (i + 1) = J i ++ (sComma ++ (partT (typF f) (exT f) deep) (t.kids.drop 1)[i]) by rw [hJ]; exact fun i h h0 => jn_next _ _ _ i h h0)
 have JL := hid (show ∀ i, (J i).length ≤ 10000000000000 by
  intro i
  rw [hJ]
  have := jn_len (p := partT (typF f) (exT f) deep) (sep := sComma) (l := t.kids.drop 1) (by decide) hty i
  skip
  omega)
 have QL := hid (show ∀ x ∈ (t.kids.drop 1), ((partT (typF f) (exT f) deep) x).length ≤ 10000000000000 by
  intro x hx
  have := hty x hx
  have := hin x hx
  omega)
 have HR := hid (show r = J (t.kids.length - 1) by
  rw [hr, hJ]
  have e : t.kids.length - 1 = (t.kids.drop 1).length := by rw [List.length_drop]
  rw [e, jn_all]
  rfl)
 have HLen := hid (show (t.kids.drop 1).length = t.kids.length - 1 by rw [List.length_drop])
 have hJl : ∀ h : 1 ≤ t.kids.length, True := fun _ => trivial
 clear hJl
 clear hsz hin hty hszd hJ hag
 obtain ⟨tk, htk⟩ : ∃ k, t.kind = k := ⟨_, rfl⟩
 have HTK := hid htk
 rw [htk] at HV ⊢
 obtain ⟨tx, htx⟩ : ∃ k, t.text = k := ⟨_, rfl⟩
 have HTX := hid htx
 rw [htx] at HV ⊢
 obtain ⟨B, W0, hB, hW0, X0, G0⟩ := boxed w (.cells #[.int .i64 tk, .string ⟨tx.toArray⟩, .slice a1 t.kids.length cap1, .int .i64 t.pos] 24)
 have XX := hid (Ext.refl none' W0)
 clear hr htx ht hf htk H hd
 go_enter Tryz.func70, Tryz.ntmps70
 go_upto_region 1 with (fail)
 rw [← hW0, ← hB]
 clear hW0 hB
 obtain ⟨c0, c1, c2, c3⟩ := cellx XX.out G0.out
 have H0 := hid h0
 clear h0
 go_wp2_with fail
 clear c0 c1 c2 c3
 go_loopw [5, 6, 7] (fun o z _ wr => ∃ (i : Nat), z = .int .i64 (i : Nat) ∧ 1 ≤ i ∧ i ≤ t.kids.length ∧ o = .string ⟨(J (i - 1)).toArray⟩ ∧ Hid (Ext none' W0 wr)) (fun _ z _ _ => t.kids.length - (RowKit.intOf z).toNat)
 case atStart => exact ⟨1, rfl, by omega, by have := H0.out; omega, by rw [show 1 - 1 = 0 from rfl, JZ.out], XX⟩
 case round =>
  obtain ⟨i, rfl, hge, hle, rfl, RR⟩ := hrel
  have c2 := cell_at (RR.out.heap G0.out fun h => h) 2
  simp only [List.getElem?_toArray, List.getElem?_cons_zero, List.getElem?_cons_succ] at c2
  by_cases hi : i < t.kids.length
  · obtain ⟨b5, off5, cs5, rfl, _, hw5, hcc5, ht5⟩ := (HY.out.ext isNd_good (X0.out.trans RR.out) fun _ _ h => h).at i hi
    obtain ⟨x5, rfl, hx5⟩ := ht5.parts
    have d0 := hcc5 0 _ rfl
    have d1 := hcc5 1 _ rfl
    have d2 := hcc5 2 _ rfl
    have d3 := hcc5 3 _ rfl
    simp only [Nat.add_zero] at d0
    have hmem := List.getElem_mem hi
    have HX5 := hid hx5
    obtain ⟨a6, cap6, rfl, _⟩ := hx5
    obtain ⟨hi2, hge2⟩ := drop1_get hi hge
    have hmem2 : t.kids[i] ∈ t.kids.drop 1 := by rw [← hge2]; exact List.getElem_mem hi2
    have hal := JL.out (i - 1)
    have hpl := QL.out _ hmem2
    have HNN := hid (show 0 < i - 1 → J i = J (i - 1) ++ (sComma ++ partT (typF f) (exT f) deep t.kids[i]) from fun h => by
     have := JN.out (i - 1) hi2 h
     rw [hge2, show i - 1 + 1 = i by omega] at this
     exact this)
    have H01 := hid fun (h : i - 1 = 0) => (show J i = partT (typF f) (exT f) deep t.kids[i] by
     have h1 : i = 1 := by omega
     have h2 := J1.out (by omega)
     subst h1
     rw [h2]
     exact congrArg _ hge2)
    have hps : t.kids[i].size ≤ f := by have := Nd.size_kid hmem; have := HT.out; omega
    obtain ⟨W1, hW1⟩ : ∃ W1, W1 = wr.alloc (.cells #[.int .i64 t.kids[i].kind, .string ⟨t.kids[i].text.toArray⟩, .slice a6 t.kids[i].kids.length cap6, .int .i64 t.kids[i].pos] 24) := ⟨_, rfl⟩
    have X1 := hid (show Ext none' wr W1 by rw [hW1]; exact (Ext.refl _ _).alloc _)
    have GB := hid (show W1.heap[wr.heap.size]? = some (.cells #[.int .i64 t.kids[i].kind, .string ⟨t.kids[i].text.toArray⟩, .slice a6 t.kids[i].kids.length cap6, .int .i64 t.kids[i].pos] 24 (0, 0)) by rw [hW1]; exact heap_alloc_at rfl _)
    have hag := HA.out _ hmem2
    have V5 := hid fun W (X : Ext none' wr W) => (show NdV none' W t.kids[i] (.agg #[.int .i64 t.kids[i].kind, .string ⟨t.kids[i].text.toArray⟩, .slice a6 t.kids[i].kids.length cap6, .int .i64 t.kids[i].pos]) from ⟨_, rfl, HX5.out.ext isNd_good X fun _ _ h => h⟩)
    obtain ⟨p, hp⟩ : ∃ p, t.kids[i] = p := ⟨_, rfl⟩
    rw [hp] at d0 d1 d3 hW1 GB V5 hpl HNN H01 hag hps
    simp only [hp] at d2
    obtain ⟨pk, hpk⟩ : ∃ k, p.kind = k := ⟨_, rfl⟩
    obtain ⟨q1, hq1⟩ : ∃ q, partT (typF f) (exT f) deep p = q := ⟨_, rfl⟩
    rw [hq1] at hpl HNN H01
    rw [hpk] at d0 hW1 GB V5
    clear hcc5 ht5 hmem hmem2 hp HX5 hi2 hge2 hw5
    by_cases hk11 : pk = 11
    case pos =>
     have CQ := hid fun W (X : Ext none' wr W) => (show Calls Tryz.prog 27 #[.agg #[.int .i64 pk, .string ⟨p.text.toArray⟩, .slice a6 p.kids.length cap6, .int .i64 p.pos]] W (StrPost q1 W) from by
      have h1 : partT (typF f) (exT f) deep p = typF f p := by unfold partT; rw [if_pos (by rw [hpk]; omega)]
      rw [← hq1, h1]
      refine rtx_any f (by have := HF.out; omega) p hps ?_ _ W (V5.out W X)
      unfold argB at hag
      simp only [Bool.or_eq_true, Bool.and_eq_true] at hag
      rcases hag with h | h
      · have := exF_kind h; omega
      · exact h.2)
     have e11 : (pk == 11) = true := by simpa using hk11
     have HK11 := hid hk11
     clear hk11
     clear hag hps hq1 hpk V5
     by_cases h0 : i - 1 = 0
     case neg =>
      have z1 : 1 < i := by omega
      have z2 : (1 : Int) < (i : Int) := by omega
      have z3 : decide ((1 : Int) < (i : Int)) = true := by rw [decide_eq_true_iff]; omega
      have N := hid (HNN.out (by omega))
      obtain ⟨o1, ho1⟩ : ∃ o, J (i - 1) = o := ⟨_, rfl⟩
      rw [ho1] at N hal ⊢
      clear ho1 h0
      have cat11 := str_cat (o1) ([44, 32])
      have cat12 := str_cat (o1 ++ [44, 32]) (q1)
      simp only [List.append_assoc, List.cons_append, List.nil_append] at cat11 cat12
      go_upto_region 7 with (fail)
      go_upto_region 8 with (fail)
      rw [← hW1]
      clear hW1 d0 d1 d2 d3 c2
      obtain ⟨BB, hBB⟩ : ∃ BB, BB = wr.heap.size := ⟨_, rfl⟩
      rw [← hBB] at GB ⊢
      clear hBB
      obtain ⟨g0, g1, g2, g3⟩ := cell4 GB.out
      go_wp2_with fail
      refine (CQ.out _ X1.out).mono ?_
      rintro e W5 ⟨rfl, X5⟩
      have XN := hid (RR.out.trans (X1.out.trans X5))
      clear g0 g1 g2 g3 X5
      go_wp2_with fail
      go_roundw
      case rel => exact ⟨i + 1, by go_num, by omega, by omega, by rw [show i + 1 - 1 = i from rfl]; first | (rw [N.out]; done) | (rw [N.out]; simp [sComma]), XN⟩
      case measure => simp [RowKit.intOf]; omega
     have z1 : ¬ 1 < i := by omega
     have z2 : ¬ (1 : Int) < (i : Int) := by omega
     have z3 : decide ((1 : Int) < (i : Int)) = false := by rw [decide_eq_false_iff_not]; omega
     rw [show J (i - 1) = [] by rw [h0]; exact JZ.out]
     have N := hid (H01.out h0)
     clear h0
     have cat13 := str_cat ([]) (q1)
     simp only [List.append_assoc, List.cons_append, List.nil_append] at cat13
     go_upto_region 7 with (fail)
     go_upto_region 8 with (fail)
     rw [← hW1]
     clear hW1 d0 d1 d2 d3 c2
     obtain ⟨BB, hBB⟩ : ∃ BB, BB = wr.heap.size := ⟨_, rfl⟩
     rw [← hBB] at GB ⊢
     clear hBB
     obtain ⟨g0, g1, g2, g3⟩ := cell4 GB.out
     go_wp2_with fail
     refine (CQ.out _ X1.out).mono ?_
     rintro e W5 ⟨rfl, X5⟩
     have XN := hid (RR.out.trans (X1.out.trans X5))
     clear g0 g1 g2 g3 X5
     go_wp2_with fail
     go_roundw
     case rel => exact ⟨i + 1, by go_num, by omega, by omega, by rw [show i + 1 - 1 = i from rfl]; first | (rw [N.out]; done) | (rw [N.out]; simp [sComma]), XN⟩
     case measure => simp [RowKit.intOf]; omega
    by_cases hk12 : pk = 12
    case pos =>
     have CQ := hid fun W (X : Ext none' wr W) => (show Calls Tryz.prog 27 #[.agg #[.int .i64 pk, .string ⟨p.text.toArray⟩, .slice a6 p.kids.length cap6, .int .i64 p.pos]] W (StrPost q1 W) from by
      have h1 : partT (typF f) (exT f) deep p = typF f p := by unfold partT; rw [if_pos (by rw [hpk]; omega)]
      rw [← hq1, h1]
      refine rtx_any f (by have := HF.out; omega) p hps ?_ _ W (V5.out W X)
      unfold argB at hag
      simp only [Bool.or_eq_true, Bool.and_eq_true] at hag
      rcases hag with h | h
      · have := exF_kind h; omega
      · exact h.2)
     have e11 : (pk == 11) = false := by simpa using hk11
     have e12 : (pk == 12) = true := by simpa using hk12
     have HK12 := hid hk12
     clear hk11 hk12
     clear hag hps hq1 hpk V5
     by_cases h0 : i - 1 = 0
     case neg =>
      have z1 : 1 < i := by omega
      have z2 : (1 : Int) < (i : Int) := by omega
      have z3 : decide ((1 : Int) < (i : Int)) = true := by rw [decide_eq_true_iff]; omega
      have N := hid (HNN.out (by omega))
      obtain ⟨o1, ho1⟩ : ∃ o, J (i - 1) = o := ⟨_, rfl⟩
      rw [ho1] at N hal ⊢
      clear ho1 h0
      have cat14 := str_cat (o1) ([44, 32])
      have cat15 := str_cat (o1 ++ [44, 32]) (q1)
      simp only [List.append_assoc, List.cons_append, List.nil_append] at cat14 cat15
      go_upto_region 7 with (fail)
      go_upto_region 8 with (fail)
      rw [← hW1]
      clear hW1 d0 d1 d2 d3 c2
      obtain ⟨BB, hBB⟩ : ∃ BB, BB = wr.heap.size := ⟨_, rfl⟩
      rw [← hBB] at GB ⊢
      clear hBB
      obtain ⟨g0, g1, g2, g3⟩ := cell4 GB.out
      go_wp2_with fail
      refine (CQ.out _ X1.out).mono ?_
      rintro e W5 ⟨rfl, X5⟩
      have XN := hid (RR.out.trans (X1.out.trans X5))
      clear g0 g1 g2 g3 X5
      go_wp2_with fail
      go_roundw
      case rel => exact ⟨i + 1, by go_num, by omega, by omega, by rw [show i + 1 - 1 = i from rfl]; first | (rw [N.out]; done) | (rw [N.out]; simp [sComma]), XN⟩
      case measure => simp [RowKit.intOf]; omega
     have z1 : ¬ 1 < i := by omega
     have z2 : ¬ (1 : Int) < (i : Int) := by omega
     have z3 : decide ((1 : Int) < (i : Int)) = false := by rw [decide_eq_false_iff_not]; omega
     rw [show J (i - 1) = [] by rw [h0]; exact JZ.out]
     have N := hid (H01.out h0)
     clear h0
     have cat16 := str_cat ([]) (q1)
     simp only [List.append_assoc, List.cons_append, List.nil_append] at cat16
     go_upto_region 7 with (fail)
     go_upto_region 8 with (fail)
     rw [← hW1]
     clear hW1 d0 d1 d2 d3 c2
     obtain ⟨BB, hBB⟩ : ∃ BB, BB = wr.heap.size := ⟨_, rfl⟩
     rw [← hBB] at GB ⊢
     clear hBB
     obtain ⟨g0, g1, g2, g3⟩ := cell4 GB.out
     go_wp2_with fail
     refine (CQ.out _ X1.out).mono ?_
     rintro e W5 ⟨rfl, X5⟩
     have XN := hid (RR.out.trans (X1.out.trans X5))
     clear g0 g1 g2 g3 X5
     go_wp2_with fail
     go_roundw
     case rel => exact ⟨i + 1, by go_num, by omega, by omega, by rw [show i + 1 - 1 = i from rfl]; first | (rw [N.out]; done) | (rw [N.out]; simp [sComma]), XN⟩
     case measure => simp [RowKit.intOf]; omega
    have CQ := hid fun W (X : Ext none' wr W) => (show Calls Tryz.prog 28 #[.agg #[.int .i64 pk, .string ⟨p.text.toArray⟩, .slice a6 p.kids.length cap6, .int .i64 p.pos], .int .i64 (deep : Nat), .bool false] W (StrPost q1 W) from by
     have h1 : partT (typF f) (exT f) deep p = exT f deep false p := by unfold partT; rw [if_neg (by rw [hpk]; omega)]
     rw [← hq1, h1]
     refine HH.out deep false HD.out p hps ?_ _ W (V5.out W X)
     unfold argB at hag
     simp only [Bool.or_eq_true, Bool.and_eq_true] at hag
     rcases hag with h | h
     · exact h
     · have := tyF_kind h.2
       have h3 : p.kind ≠ 10 := by simpa using h.1
       omega)
    have e11 : (pk == 11) = false := by simpa using hk11
    have e12 : (pk == 12) = false := by simpa using hk12
    clear hk11 hk12
    clear hag hps hq1 hpk V5
    by_cases h0 : i - 1 = 0
    case neg =>
     have z1 : 1 < i := by omega
     have z2 : (1 : Int) < (i : Int) := by omega
     have z3 : decide ((1 : Int) < (i : Int)) = true := by rw [decide_eq_true_iff]; omega
     have N := hid (HNN.out (by omega))
     obtain ⟨o1, ho1⟩ : ∃ o, J (i - 1) = o := ⟨_, rfl⟩
     rw [ho1] at N hal ⊢
     clear ho1 h0
     have cat17 := str_cat (o1) ([44, 32])
     have cat18 := str_cat (o1 ++ [44, 32]) (q1)
     simp only [List.append_assoc, List.cons_append, List.nil_append] at cat17 cat18
     go_upto_region 7 with (fail)
     go_upto_region 8 with (fail)
     rw [← hW1]
     clear hW1 d0 d1 d2 d3 c2
     obtain ⟨BB, hBB⟩ : ∃ BB, BB = wr.heap.size := ⟨_, rfl⟩
     rw [← hBB] at GB ⊢
     clear hBB
     obtain ⟨g0, g1, g2, g3⟩ := cell4 GB.out
     go_wp2_with fail
     refine (CQ.out _ X1.out).mono ?_
     rintro e W5 ⟨rfl, X5⟩
     have XN := hid (RR.out.trans (X1.out.trans X5))
     clear g0 g1 g2 g3 X5
     go_wp2_with fail
     go_roundw
     case rel => exact ⟨i + 1, by go_num, by omega, by omega, by rw [show i + 1 - 1 = i from rfl]; first | (rw [N.out]; done) | (rw [N.out]; simp [sComma]), XN⟩
     case measure => simp [RowKit.intOf]; omega
    have z1 : ¬ 1 < i := by omega
    have z2 : ¬ (1 : Int) < (i : Int) := by omega
    have z3 : decide ((1 : Int) < (i : Int)) = false := by rw [decide_eq_false_iff_not]; omega
    rw [show J (i - 1) = [] by rw [h0]; exact JZ.out]
    have N := hid (H01.out h0)
    clear h0
    have cat19 := str_cat ([]) (q1)
    simp only [List.append_assoc, List.cons_append, List.nil_append] at cat19
    go_upto_region 7 with (fail)
    go_upto_region 8 with (fail)
    rw [← hW1]
    clear hW1 d0 d1 d2 d3 c2
    obtain ⟨BB, hBB⟩ : ∃ BB, BB = wr.heap.size := ⟨_, rfl⟩
    rw [← hBB] at GB ⊢
    clear hBB
    obtain ⟨g0, g1, g2, g3⟩ := cell4 GB.out
    go_wp2_with fail
    refine (CQ.out _ X1.out).mono ?_
    rintro e W5 ⟨rfl, X5⟩
    have XN := hid (RR.out.trans (X1.out.trans X5))
    clear g0 g1 g2 g3 X5
    go_wp2_with fail
    go_roundw
    case rel => exact ⟨i + 1, by go_num, by omega, by omega, by rw [show i + 1 - 1 = i from rfl]; first | (rw [N.out]; done) | (rw [N.out]; simp [sComma]), XN⟩
    case measure => simp [RowKit.intOf]; omega
  · obtain rfl : i = t.kids.length := by omega
    have E := hid HR.out
    obtain ⟨o1, ho1⟩ : ∃ o, J (t.kids.length - 1) = o := ⟨_, rfl⟩
    rw [ho1] at E ⊢
    clear ho1
    go_wp2_with fail
    go_ret
    exact ⟨by rw [E.out]; rfl, X0.out.trans RR.out⟩
theorem rblockt_any (f : Nat) (hf : f + 1 ≤ 1100000) (H : RSt7 f) (deep : Nat) (hd : deep + (f + 1) ≤ 1200000) (t : Nd) (ht : t.size ≤ f + 1) (he : blkB (stF f) t = true) (v : Value) (w : World) (hv : NdV none' w t v) :
 Calls Tryz.prog 65 #[v, .int .i64 (deep : Nat)] w (StrPost (blT (stT f) deep t) w) := by
 obtain ⟨a1, cap1, rfl, hcap, HV, HY⟩ := nd_open hv
 have hkl : t.kids.length ≤ 1100000 := by have := t.kids_len; omega
 obtain ⟨r, hr⟩ : ∃ r, r = (blT (stT f) deep t) := ⟨_, rfl⟩
 rw [← hr]
 have HT := hid ht
 have HF := hid hf
 have HH := hid H
 have HD := hid hd
 have hsz := size_kids t
 have hps : ∀ x ∈ t.kids, stF f x = true := by
  unfold blkB at he
  simp only [Bool.and_eq_true, List.all_eq_true] at he
  exact he.2.2
 have hin : ∀ x ∈ t.kids, x.size ≤ f := fun x hx => by have := Nd.size_kid hx; omega
 have HPS := hid hps
 have HIN := hid hin
 obtain ⟨g, hg⟩ : ∃ g, g = fun x => tabsT (deep + 1) ++ (stT f (deep + 1) x ++ [10]) := ⟨_, rfl⟩
 have hgl : ∀ x ∈ t.kids, (g x).length ≤ 4000000 * x.size := fun x hx => by
  have h1 := (lens_all f (deep + 1) (by omega)).2 x (hin x hx) (hps x hx)
  rw [hg]
  simp only [List.length_append, List.length_cons, List.length_nil, tabsT_len]
  omega
 obtain ⟨acc, hacc⟩ : ∃ acc : Nat → List UInt8, acc = fun i => 123 :: 10 :: ((t.kids.take i).map g).flatten := ⟨_, rfl⟩
 have AL := hid (show ∀ i, (acc i).length ≤ 10000000000000 by
  intro i
  have h1 := flat_len (p := g) (l := t.kids.take i) fun x hx => hgl x (List.mem_of_mem_take hx)
  have h2 := sizeL_take t.kids i
  rw [hacc]
  simp only [List.length_cons]
  omega)
 have A1 := hid (show ∀ i (h : i < t.kids.length), acc (i + 1) = acc i ++ g t.kids[i] by
  intro i h
  rw [hacc]
  show 123 :: 10 :: ((t.kids.take (i + 1)).map g).flatten = 123 :: 10 :: ((t.kids.take i).map g).flatten ++ g t.kids[i]
  rw [List.take_add_one, List.getElem?_eq_getElem h, List.map_append, List.flatten_append]
  simp)
 have A0 := hid (show acc 0 = [123, 10] by rw [hacc]; rfl)
 have GE := hid (show ∀ x, g x = tabsT (deep + 1) ++ (stT f (deep + 1) x ++ [10]) by intro x; rw [hg])
 have GL := hid (show ∀ x ∈ t.kids, (stT f (deep + 1) x).length ≤ 10000000000000 from fun x hx => by have := (lens_all f (deep + 1) (by omega)).2 x (hin x hx) (hps x hx); have := hin x hx; omega)
 have HR := hid (show r = acc t.kids.length ++ (tabsT deep ++ [125]) by
  rw [hr, hacc]
  show _ = 123 :: 10 :: ((t.kids.take t.kids.length).map g).flatten ++ (tabsT deep ++ [125])
  rw [List.take_length, hg]
  unfold blT lineT
  simp)
 have CT := hid fun W => (show Calls Tryz.prog 107 #[.int .i64 ((deep : Int) + 1)] W (StrPost (tabsT (deep + 1)) W) from tabs_any (deep + 1) (by omega) W)
 have CT0 := hid fun W => tabs_any deep (by omega) W
 have hdl : deep ≤ 1200000 := by omega
 have htl := tabsT_len (deep + 1)
 have htl0 := tabsT_len deep
 obtain ⟨T1, hT1⟩ : ∃ T, tabsT (deep + 1) = T := ⟨_, rfl⟩
 obtain ⟨T0, hT0⟩ : ∃ T, tabsT deep = T := ⟨_, rfl⟩
 rw [hT1] at CT htl GE
 rw [hT0] at CT0 HR htl0
 have htl1 : T1.length ≤ 100000000 := by omega
 have htl2 : T0.length ≤ 100000000 := by omega
 clear hsz hps hin hg hgl hacc hT1 hT0 htl htl0
 obtain ⟨tk, htk⟩ : ∃ k, t.kind = k := ⟨_, rfl⟩
 have HTK := hid htk
 rw [htk] at HV ⊢
 obtain ⟨tx, htx⟩ : ∃ k, t.text = k := ⟨_, rfl⟩
 have HTX := hid htx
 rw [htx] at HV ⊢
 obtain ⟨B, W0, hB, hW0, X0, G0⟩ := boxed w (.cells #[.int .i64 tk, .string ⟨tx.toArray⟩, .slice a1 t.kids.length cap1, .int .i64 t.pos] 24)
 have XX := hid (Ext.refl none' W0)
 clear hr htx ht hf htk he H hd
 go_enter Tryz.func65, Tryz.ntmps65
 go_upto_region 1 with (fail)
 rw [← hW0, ← hB]
 clear hW0 hB
 obtain ⟨c0, c1, c2, c3⟩ := cellx XX.out G0.out
 go_wp2_with fail
 clear c0 c1 c2 c3
 go_loopw [5, 6] (fun o z wr => ∃ (i : Nat), z = .int .i64 (i : Nat) ∧ i ≤ t.kids.length ∧ o = .string ⟨(acc i).toArray⟩ ∧ Hid (Ext none' W0 wr)) (fun _ z _ => t.kids.length - (RowKit.intOf z).toNat)
 case atStart => exact ⟨0, rfl, by omega, by rw [A0.out], XX⟩
 case round =>
  obtain ⟨i, rfl, hle, rfl, RR⟩ := hrel
  have c2 := cell_at (RR.out.heap G0.out fun h => h) 2
  simp only [List.getElem?_toArray, List.getElem?_cons_zero, List.getElem?_cons_succ] at c2
  by_cases hi : i < t.kids.length
  · obtain ⟨b5, off5, cs5, rfl, _, hw5, hcc5, ht5⟩ := (HY.out.ext isNd_good (X0.out.trans RR.out) fun _ _ h => h).at i hi
    obtain ⟨x5, rfl, hx5⟩ := ht5.parts
    have d0 := hcc5 0 _ rfl
    have d1 := hcc5 1 _ rfl
    have d2 := hcc5 2 _ rfl
    have d3 := hcc5 3 _ rfl
    simp only [Nat.add_zero] at d0
    have hmem := List.getElem_mem hi
    have HX5 := hid hx5
    obtain ⟨a6, cap6, rfl, _⟩ := hx5
    have hal := AL.out i
    have N := hid (A1.out i hi)
    have hpl := GL.out _ hmem
    have hps := HIN.out _ hmem
    have CQ := hid fun W (X : Ext none' wr W) => (show Calls Tryz.prog 29 #[.agg #[.int .i64 t.kids[i].kind, .string ⟨t.kids[i].text.toArray⟩, .slice a6 t.kids[i].kids.length cap6, .int .i64 t.kids[i].pos], .int .i64 ((deep : Int) + 1), .bool false] W (StrPost (stT f (deep + 1) t.kids[i]) W) from HH.out (deep + 1) (by have := HD.out; omega) t.kids[i] hps (HPS.out _ hmem) _ W ⟨_, rfl, HX5.out.ext isNd_good X fun _ _ h => h⟩)
    have GE := hid (GE.out t.kids[i])
    obtain ⟨p, hp⟩ : ∃ p, t.kids[i] = p := ⟨_, rfl⟩
    rw [hp] at d0 d1 d3 CQ N hpl GE
    simp only [hp] at d2
    obtain ⟨q1, hq1⟩ : ∃ q, stT f (deep + 1) p = q := ⟨_, rfl⟩
    rw [hq1] at CQ hpl GE
    obtain ⟨o1, ho1⟩ : ∃ o, acc i = o := ⟨_, rfl⟩
    rw [ho1] at N hal ⊢
    have N := hid (N.out.trans (congrArg _ GE.out))
    have HW5 := hid hw5
    clear hcc5 ht5 hmem hp HX5 hq1 hps hw5 ho1 GE
    have cat23 := str_cat (T1) (q1)
    have cat24 := str_cat (T1 ++ q1) ([10])
    have cat25 := str_cat (o1) (T1 ++ q1 ++ [10])
    simp only [List.append_assoc, List.cons_append, List.nil_append] at cat23 cat24 cat25
    go_upto_region 5 with (fail)
    clear c2
    have c2 := fun t' : LaterF none' wr => cell_at ((RR.out.trans t'.x).heap G0.out fun h => h) 2
    simp only [List.getElem?_toArray, List.getElem?_cons_zero, List.getElem?_cons_succ] at c2
    have e0 := fun t' : LaterF none' wr => (t'.x.cell (p := ⟨b5, off5 + i * 4, none⟩) HW5.out (fun h => h)).trans d0
    have e1 := fun t' : LaterF none' wr => (t'.x.cell (p := ⟨b5, off5 + i * 4 + 1, none⟩) HW5.out (fun h => h)).trans d1
    have e2 := fun t' : LaterF none' wr => (t'.x.cell (p := ⟨b5, off5 + i * 4 + 2, none⟩) HW5.out (fun h => h)).trans d2
    have e3 := fun t' : LaterF none' wr => (t'.x.cell (p := ⟨b5, off5 + i * 4 + 3, none⟩) HW5.out (fun h => h)).trans d3
    refine region_q none' wr (.qs [0, 1, 2, 4, 5, 6, 7, 8, 9, 10] (.one 3 true (.one 11 true (.qs [12, 13, 14, 15] .fin)))) (by kernel_rfl) (by kernel_rfl) (fun dst v c a w h => by cases dst <;> exact h) ?_
    refine ⟨In.of (Ext.refl _ _).drew, ?_⟩
    change wpQuiet _ _ (fun w' => ∃ t : LaterF none' wr, w' = t.w) _ _ _
    simp only [sel, List.getElem?_cons_succ, List.getElem?_cons_zero]
    repeat (go_big_quiet_step (fail))
    refine wpQuiet_nil ?_
    simp only [wpTreeQ, stepT, sel, List.getElem?_cons_succ, List.getElem?_cons_zero]
    have D1 := hid (Ext.refl none' wr).drew
    clear c2 e0 e1 e2 e3
    go_wp2_with fail
    refine (CT.out _).mono ?_
    rintro e W4 ⟨rfl, X4⟩
    have X4 := hid (D1.out.trans X4)
    go_wp2_with fail
    refine ⟨In.of X4.out, ?_⟩
    go_wp2_with fail
    refine (CQ.out _ X4.out).mono ?_
    rintro e W5 ⟨rfl, X5⟩
    have X5 := hid (X4.out.trans X5)
    go_wp2_with fail
    refine ⟨In.of X5.out, In.of X5.out, ?_⟩
    change wpQuiet _ _ (fun w' => ∃ t : LaterF none' wr, w' = t.w) _ _ _
    repeat (go_big_quiet_step (fail))
    refine wpQuiet_nil ?_
    have XN := hid (RR.out.trans X5.out)
    clear d0 d1 d2 d3 X5 X4 D1
    go_wp2_with fail
    go_roundw
    case rel => exact ⟨i + 1, by go_num, by omega, by first | (rw [N.out]; done) | (rw [N.out]; simp), XN⟩
    case measure => simp [RowKit.intOf]; omega
  · obtain rfl : i = t.kids.length := by omega
    have hal := AL.out t.kids.length
    obtain ⟨o1, ho1⟩ : ∃ o, acc t.kids.length = o := ⟨_, rfl⟩
    rw [ho1] at HR hal ⊢
    clear ho1
    have cat26 := str_cat (o1) (T0)
    have cat27 := str_cat (o1 ++ T0) ([125])
    simp only [List.append_assoc, List.cons_append, List.nil_append] at cat26 cat27
    go_wp2_with fail
    refine (CT0.out _).mono ?_
    rintro e W4 ⟨rfl, X4⟩
    have XN := hid (RR.out.trans X4)
    go_wp2_with fail
    go_ret
    exact ⟨by rw [HR.out]; simp, X0.out.trans XN.out⟩
theorem var_parts7 {f : Nat} {t : Nd} (h : varB (tyF nmB f) (exF f) t = true) : nmB t.text = true ∧ t.kids.length = 2 ∧ ((t.kid 0).kind = 0 ∨ tyF nmB f (t.kid 0) = true) ∧ ((t.kid 1).kind = 0 ∨ exF f (t.kid 1) = true) := by
 rw [varB_chain] at h
 simp only [Bool.and_eq_true, Bool.or_eq_true, beq_iff_eq] at h
 obtain ⟨_, h1, h2, ⟨h3, h4⟩, _⟩ := h
 exact ⟨h1, h2, h3.imp emptyB_kind id, h4.imp emptyB_kind id⟩
theorem rvart_any (f : Nat) (hf : f + 1 ≤ 1100000) (H : REx7 f) (deep : Nat) (hd : deep + (f + 1) ≤ 1200000) (t : Nd) (ht : t.size ≤ f + 1) (he : varB (tyF nmB f) (exF f) t = true) (v : Value) (w : World) (hv : NdV none' w t v) :
 Calls Tryz.prog 66 #[v, .int .i64 (deep : Nat)] w (StrPost (varT (typF f) (exT f) deep t) w) := by
 obtain ⟨a1, cap1, rfl, hcap, HV, HY⟩ := nd_open hv
 have hkl : t.kids.length ≤ 1100000 := by have := t.kids_len; omega
 obtain ⟨r, hr⟩ : ∃ r, r = (varT (typF f) (exT f) deep t) := ⟨_, rfl⟩
 rw [← hr]
 have HT := hid ht
 have HF := hid hf
 obtain ⟨hn, hl2, hty, hex⟩ := var_parts7 he
 have HH := hid H
 have HD := hid hd
 have hl0 : 0 < t.kids.length := by omega
 have hl1 : 1 < t.kids.length := by omega
 have hks0 : (t.kid 0).size ≤ f := by have := kid_size hl0; omega
 have hks1 : (t.kid 1).size ≤ f := by have := kid_size hl1; omega
 have C0 := hid fun (h : (t.kid 0).kind ≠ 0) W v' (hv' : NdV none' W (t.kid 0) v') => rtx_any f (by omega) (t.kid 0) hks0 (hty.resolve_left h) v' W hv'
 have C1 := hid fun (h : (t.kid 1).kind ≠ 0) W v' (hv' : NdV none' W (t.kid 1) v') => H deep false (by omega) (t.kid 1) hks1 (hex.resolve_left h) v' W hv'
 have Q0 := hid fun (h : (t.kid 0).kind ≠ 0) => (show (typF f (t.kid 0)).length ≤ 10000000000000 by have := ty_len (hty.resolve_left h) hks0; omega)
 have Q1 := hid fun (h : (t.kid 1).kind ≠ 0) => (show (exT f deep false (t.kid 1)).length ≤ 10000000000000 by have := exlen7 (hex.resolve_left h) hks1 (deep := deep) (by omega) (by omega) false; omega)
 unfold varT wVar at hr
 have htl : t.text.length ≤ 100 := nmB_len _ hn
 have zz0 : (0 : Int) < (t.kids.length : Int) := by omega
 have zz1 : (1 : Int) < (t.kids.length : Int) := by omega
 have HR := hid hr
 clear hn hl2 hty hex hks0 hks1
 obtain ⟨tk, htk⟩ : ∃ k, t.kind = k := ⟨_, rfl⟩
 have HTK := hid htk
 rw [htk] at HV ⊢
 obtain ⟨tx, htx⟩ : ∃ k, t.text = k := ⟨_, rfl⟩
 have HTX := hid htx
 rw [htx] at HV HR htl ⊢
 obtain ⟨B, W0, hB, hW0, X0, G0⟩ := boxed w (.cells #[.int .i64 tk, .string ⟨tx.toArray⟩, .slice a1 t.kids.length cap1, .int .i64 t.pos] 24)
 have XX := hid (Ext.refl none' W0)
 clear hr htx ht hf htk he H hd
 go_enter Tryz.func66, Tryz.ntmps66
 go_upto_region 1 with (fail)
 rw [← hW0, ← hB]
 clear hW0 hB
 obtain ⟨c0, c1, c2, c3⟩ := cellx XX.out G0.out
 obtain ⟨b, off, ka0, kc0, rfl, HBW, HZ0, KK0⟩ := kidA (HY.out.ext isNd_good X0.out fun _ _ h => h) (by omega)
 obtain ⟨ka1, kc1, HZ1, KK1⟩ := kidB (HY.out.ext isNd_good X0.out fun _ _ h => h) 1 4 rfl (by omega)
 obtain ⟨m00, m01, m02, m03⟩ := kid' XX.out HBW.out KK0.out
 obtain ⟨m10, m11, m12, m13⟩ := kid' XX.out HBW.out KK1.out
 by_cases h0 : (t.kid 0).kind = 0
 case pos =>
  have n01 : ((t.kid 0).kind == 0) = true := by simpa using h0
  have n02 : ((t.kid 0).kind != 0) = false := by simp [h0]
  by_cases h1 : (t.kid 1).kind = 0
  case pos =>
   have n11 : ((t.kid 1).kind == 0) = true := by simpa using h1
   have n12 : ((t.kid 1).kind != 0) = false := by simp [h1]
   have HR := hid (show r = _ from HR.out.trans (by rw [if_pos h0, if_pos h1]))
   clear h0 h1
   have cat28 := str_cat ([118, 97, 114, 32]) (tx)
   simp only [List.append_assoc, List.cons_append, List.nil_append] at cat28
   go_wp2_with fail
   go_ret
   exact ⟨by rw [HR.out]; simp, X0.out.trans XX.out⟩
  have n11 : ((t.kid 1).kind == 0) = false := by simpa using h1
  have n12 : ((t.kid 1).kind != 0) = true := by simpa using h1
  have HR := hid (show r = _ from HR.out.trans (by rw [if_pos h0, if_neg h1]))
  have C1 := hid (C1.out h1)
  have hq1l := Q1.out h1
  obtain ⟨q1, hq1⟩ : ∃ q, exT f deep false (t.kid 1) = q := ⟨_, rfl⟩
  rw [hq1] at C1 hq1l HR
  clear hq1
  clear h0 h1
  have cat29 := str_cat ([118, 97, 114, 32]) (tx)
  have cat30 := str_cat ([32, 61, 32]) (q1)
  have cat31 := str_cat ([118, 97, 114, 32] ++ tx) ([32, 61, 32] ++ q1)
  simp only [List.append_assoc, List.cons_append, List.nil_append] at cat29 cat30 cat31
  go_wp2_with fail
  refine (C1.out _ (.agg #[.int .i64 (t.kid 1).kind, .string ⟨(t.kid 1).text.toArray⟩, .slice ka1 (t.kid 1).kids.length kc1, .int .i64 (t.kid 1).pos]) ⟨_, rfl, HZ1.out.ext isNd_good XX.out fun _ _ h => h⟩).mono ?_
  rintro e w1 ⟨rfl, X⟩
  have XX := hid (XX.out.trans X)
  clear X c0 c1 c2 c3 m00 m01 m02 m03 m10 m11 m12 m13
  obtain ⟨c0, c1, c2, c3⟩ := cellx XX.out G0.out
  obtain ⟨m00, m01, m02, m03⟩ := kid' XX.out HBW.out KK0.out
  obtain ⟨m10, m11, m12, m13⟩ := kid' XX.out HBW.out KK1.out
  go_wp2_with fail
  go_ret
  exact ⟨by rw [HR.out]; simp, X0.out.trans XX.out⟩
 have n01 : ((t.kid 0).kind == 0) = false := by simpa using h0
 have n02 : ((t.kid 0).kind != 0) = true := by simpa using h0
 by_cases h1 : (t.kid 1).kind = 0
 case pos =>
  have n11 : ((t.kid 1).kind == 0) = true := by simpa using h1
  have n12 : ((t.kid 1).kind != 0) = false := by simp [h1]
  have HR := hid (show r = _ from HR.out.trans (by rw [if_neg h0, if_pos h1]))
  have C0 := hid (C0.out h0)
  have hq0l := Q0.out h0
  obtain ⟨q0, hq0⟩ : ∃ q, typF f (t.kid 0) = q := ⟨_, rfl⟩
  rw [hq0] at C0 hq0l HR
  clear hq0
  clear h0 h1
  have cat32 := str_cat ([118, 97, 114, 32]) (tx)
  have cat33 := str_cat ([32]) (q0)
  have cat34 := str_cat ([118, 97, 114, 32] ++ tx) ([32] ++ q0)
  simp only [List.append_assoc, List.cons_append, List.nil_append] at cat32 cat33 cat34
  go_wp2_with fail
  refine (C0.out _ (.agg #[.int .i64 (t.kid 0).kind, .string ⟨(t.kid 0).text.toArray⟩, .slice ka0 (t.kid 0).kids.length kc0, .int .i64 (t.kid 0).pos]) ⟨_, rfl, HZ0.out.ext isNd_good XX.out fun _ _ h => h⟩).mono ?_
  rintro e w0 ⟨rfl, X⟩
  have XX := hid (XX.out.trans X)
  clear X c0 c1 c2 c3 m00 m01 m02 m03 m10 m11 m12 m13
  obtain ⟨c0, c1, c2, c3⟩ := cellx XX.out G0.out
  obtain ⟨m00, m01, m02, m03⟩ := kid' XX.out HBW.out KK0.out
  obtain ⟨m10, m11, m12, m13⟩ := kid' XX.out HBW.out KK1.out
  go_wp2_with fail
  go_ret
  exact ⟨by rw [HR.out]; simp, X0.out.trans XX.out⟩
 have n11 : ((t.kid 1).kind == 0) = false := by simpa using h1
 have n12 : ((t.kid 1).kind != 0) = true := by simpa using h1
 have HR := hid (show r = _ from HR.out.trans (by rw [if_neg h0, if_neg h1]))
 have C0 := hid (C0.out h0)
 have hq0l := Q0.out h0
 obtain ⟨q0, hq0⟩ : ∃ q, typF f (t.kid 0) = q := ⟨_, rfl⟩
 rw [hq0] at C0 hq0l HR
 clear hq0
 have C1 := hid (C1.out h1)
 have hq1l := Q1.out h1
 obtain ⟨q1, hq1⟩ : ∃ q, exT f deep false (t.kid 1) = q := ⟨_, rfl⟩
 rw [hq1] at C1 hq1l HR
 clear hq1
 clear h0 h1
 have cat35 := str_cat ([118, 97, 114, 32]) (tx)
 have cat36 := str_cat ([32]) (q0)
 have cat37 := str_cat ([118, 97, 114, 32] ++ tx) ([32] ++ q0)
 have cat38 := str_cat ([32, 61, 32]) (q1)
 have cat39 := str_cat ([118, 97, 114, 32] ++ tx ++ ([32] ++ q0)) ([32, 61, 32] ++ q1)
 simp only [List.append_assoc, List.cons_append, List.nil_append] at cat35 cat36 cat37 cat38 cat39
 go_wp2_with fail
 refine (C0.out _ (.agg #[.int .i64 (t.kid 0).kind, .string ⟨(t.kid 0).text.toArray⟩, .slice ka0 (t.kid 0).kids.length kc0, .int .i64 (t.kid 0).pos]) ⟨_, rfl, HZ0.out.ext isNd_good XX.out fun _ _ h => h⟩).mono ?_
 rintro e w0 ⟨rfl, X⟩
 have XX := hid (XX.out.trans X)
 clear X c0 c1 c2 c3 m00 m01 m02 m03 m10 m11 m12 m13
 obtain ⟨c0, c1, c2, c3⟩ := cellx XX.out G0.out
 obtain ⟨m00, m01, m02, m03⟩ := kid' XX.out HBW.out KK0.out
 obtain ⟨m10, m11, m12, m13⟩ := kid' XX.out HBW.out KK1.out
 go_wp2_with fail
 refine (C1.out _ (.agg #[.int .i64 (t.kid 1).kind, .string ⟨(t.kid 1).text.toArray⟩, .slice ka1 (t.kid 1).kids.length kc1, .int .i64 (t.kid 1).pos]) ⟨_, rfl, HZ1.out.ext isNd_good XX.out fun _ _ h => h⟩).mono ?_
 rintro e w1 ⟨rfl, X⟩
 have XX := hid (XX.out.trans X)
 clear X c0 c1 c2 c3 m00 m01 m02 m03 m10 m11 m12 m13
 obtain ⟨c0, c1, c2, c3⟩ := cellx XX.out G0.out
 obtain ⟨m00, m01, m02, m03⟩ := kid' XX.out HBW.out KK0.out
 obtain ⟨m10, m11, m12, m13⟩ := kid' XX.out HBW.out KK1.out
 go_wp2_with fail
 go_ret
 exact ⟨by rw [HR.out]; simp, X0.out.trans XX.out⟩
end Go.Proofs.YthbmjamgidfneaaGreatDoor
