import Derived.Test.YthbmjamgidfneaaGreatDoorYAa
import Derived.Test.YthbmjamgidfneaaGreatDoorYAd
import Derived.Test.YthbmjamgidfneaaGreatDoorYAf
import Derived.Test.YthbmjamgidfneaaGreatDoorYAe
import Derived.Lib.IndexMore
set_option maxRecDepth 100000
set_option maxHeartbeats 6400000
namespace Go.Proofs.YthbmjamgidfneaaGreatDoor
open Go.RowKit Go.Lib Go.BigFrame
theorem rtype_any : ∀ (f : Nat), f ≤ bigD → RTyH f (tyF nmB f) := by
 intro f
 induction f with
 | zero => intro _ t ht; have := t.size_pos; omega
 | succ f ih =>
  intro hf t ht v w hv
  have H := ih (by omega)
  have CS := hid fun W v' (hv' : NdV none' W t v') => rsig_any f hf (tyF nmB f) H false t ht v' W hv'
  have CM := hid fun W => rnm_any t.text W
  have HV := hid hv
  obtain ⟨x, rfl, hx⟩ := hv
  have HX := hid hx
  obtain ⟨a1, cap1, rfl, _⟩ := hx
  obtain ⟨r, hr⟩ : ∃ r, r = tyF nmB (f + 1) t := ⟨_, rfl⟩
  rw [← hr]
  rw [tyF, ← soB_false] at hr
  have HR := hid hr
  have HT := hid ht
  have HH := hid H
  have hkb : t.kids.length ≤ 20000000000 := by have := t.kids_len; unfold bigD at hf; omega
  obtain ⟨qn, hqn⟩ : ∃ q, nmB t.text = q := ⟨_, rfl⟩
  rw [hqn] at CM HR
  obtain ⟨qs, hqs⟩ : ∃ q, sigB (tyF nmB f) (soB false) t = q := ⟨_, rfl⟩
  rw [hqs] at CS HR
  obtain ⟨tk, htk⟩ : ∃ k, t.kind = k := ⟨_, rfl⟩
  rw [htk] at HR HV ⊢
  have HTK := hid htk
  obtain ⟨B, W1, hB, hW1, X1, G0⟩ := boxed w (.cells #[.int .i64 tk, .string ⟨t.text.toArray⟩, .slice a1 t.kids.length cap1, .int .i64 t.pos] 24)
  clear hr ht H hqn hqs htk ih
  go_enter Tryz.func33, Tryz.ntmps33
  go_upto_region 1 with (fail)
  rw [← hW1, ← hB]
  clear hW1 hB
  obtain ⟨c0, c1, c2, c3⟩ := cell4 G0.out
  have HV1 := hid (HV.out.ext X1.out fun _ _ h => h)
  by_cases h10 : tk = 10
  · have q10 : (tk == 10) = true := by simpa using h10
    have HR1 := hid (show r = (qn && t.kids.all (tyF nmB f)) by rw [HR.out, if_pos h10])
    clear h10
    go_wp2_with fail
    refine (CM.out _).mono ?_
    rintro e W2 ⟨rfl, X2⟩
    have X2 := hid X2
    clear c0 c1 c2 c3
    cases qn
    case false =>
     have E := hid (show r = false by rw [HR1.out]; rfl)
     go_wp2_with fail
     go_ret
     exact ⟨by rw [E.out]; rfl, X1.out.trans X2.out⟩
    go_wp2_with fail
    go_loopw [3] (fun z wr => ∃ (i : Nat), z = .int .i64 (i : Nat) ∧ i ≤ t.kids.length ∧ Hid (Ext none' W1 wr ∧ ∀ j (h : j < t.kids.length), j < i → tyF nmB f t.kids[j] = true)) (fun z _ => t.kids.length - (RowKit.intOf z).toNat)
    case atStart => exact ⟨0, rfl, by omega, hid ⟨X2.out, fun j _ h => by omega⟩⟩
    case round =>
     obtain ⟨i, rfl, hle, RR⟩ := hrel
     have c2 := cell_at (RR.out.1.heap G0.out fun h => h) 2
     simp only [List.getElem?_toArray, List.getElem?_cons_zero, List.getElem?_cons_succ] at c2
     have XR := hid (X1.out.trans RR.out.1)
     by_cases hi : i < t.kids.length
     · obtain ⟨b5, off5, cs5, rfl, _, hw5, hcc5, ht5⟩ := (HX.out.ext isNd_good XR.out fun _ _ h => h).at i hi
       obtain ⟨x5, rfl, hx5⟩ := ht5.parts
       have d0 := hcc5 0 _ rfl
       have d1 := hcc5 1 _ rfl
       have d2 := hcc5 2 _ rfl
       have d3 := hcc5 3 _ rfl
       simp only [Nat.add_zero] at d0
       have hmem := List.getElem_mem hi
       have HX5 := hid hx5
       obtain ⟨a6, cap6, rfl, _⟩ := hx5
       have CQ := hid (HH.out t.kids[i] (by have := Nd.size_kid hmem; have := HT.out; omega) (.agg #[.int .i64 t.kids[i].kind, .string ⟨t.kids[i].text.toArray⟩, .slice a6 t.kids[i].kids.length cap6, .int .i64 t.kids[i].pos]) wr ⟨_, rfl, HX5.out⟩)
       obtain ⟨q, hq⟩ : ∃ q, tyF nmB f t.kids[i] = q := ⟨_, rfl⟩
       rw [hq] at CQ
       have HQ := hid hq
       have HM := hid hmem
       obtain ⟨p, hp⟩ : ∃ p, t.kids[i] = p := ⟨_, rfl⟩
       rw [hp] at d0 d1 d2 d3 CQ
       clear hcc5 ht5 hq hmem hp HX5
       go_wp2_with fail
       refine CQ.out.mono ?_
       rintro e W5 ⟨rfl, X5⟩
       have X5' := hid (RR.out.1.trans X5)
       clear c2 d0 d1 d2 d3 X5
       cases q
       case false =>
        have E : Hid (r = false) := hid (by rw [HR1.out, Bool.true_and, List.all_eq_false]; exact ⟨_, HM.out, by rw [HQ.out]; simp⟩)
        go_wp2_with fail
        go_ret
        exact ⟨by rw [E.out]; rfl, X1.out.trans X5'.out⟩
       have N : Hid (Ext none' W1 W5 ∧ ∀ j (h : j < t.kids.length), j < i + 1 → tyF nmB f t.kids[j] = true) := hid ⟨X5'.out, fun j h hj => by
        by_cases e : j = i
        · subst e; exact HQ.out
        · exact RR.out.2 j h (by omega)⟩
       go_wp2_with fail
       go_roundw
       case rel => exact ⟨i + 1, by go_num, by omega, N⟩
       case measure => simp [RowKit.intOf]; omega
     · have E : Hid (r = true) := hid (by
        rw [HR1.out, Bool.true_and, List.all_eq_true]
        intro y hy
        obtain ⟨j, hj, rfl⟩ := List.mem_iff_getElem.1 hy
        exact RR.out.2 j hj (by omega))
       obtain rfl : i = t.kids.length := by omega
       go_wp2_with fail
       go_ret
       exact ⟨by rw [E.out]; rfl, XR.out⟩
  · have q10 : (tk == 10) = false := by simpa using h10
    by_cases h11 : tk = 11
    · have q11 : (tk == 11) = true := by simpa using h11
      have HR1 := hid (show r = ofB 11 [tyF nmB f] t by rw [HR.out, if_neg h10, if_pos h11])
      have HK := hid (show (t.kind == 11) = true by rw [HTK.out]; exact q11)
      clear h10 h11
      obtain ⟨tx, htx⟩ : ∃ k, t.text = k := ⟨_, rfl⟩
      rw [htx] at c1 ⊢
      have HTX := hid htx
      clear htx
      by_cases hx0 : tx = []
      case neg =>
       have q : tx.isEmpty = false := by simpa using hx0
       have E : Hid (r = false) := hid (by
        rw [HR1.out]; unfold ofB
        have : (t.text == []) = false := by rw [HTX.out]; simpa using hx0
        rw [this]; simp)
       clear hx0
       go_wp2_with fail
       go_ret
       exact ⟨by rw [E.out]; rfl, X1.out⟩
      have qx : tx.isEmpty = true := by simpa using hx0
      by_cases hl : t.kids.length = 1
      case neg =>
       have q : ((t.kids.length : Int) == 1) = false := by simp only [beq_eq_false_iff_ne]; omega
       have E : Hid (r = false) := hid (by rw [HR1.out]; unfold ofB; rw [kidsB_no (by simpa using hl), Bool.and_false])
       clear hx0 hl
       go_wp2_with fail
       go_ret
       exact ⟨by rw [E.out]; rfl, X1.out⟩
      have ql : ((t.kids.length : Int) == 1) = true := by simp only [beq_iff_eq]; omega
      have y0 : (0 : Int) < (t.kids.length : Int) := by omega
      obtain ⟨b, off, x0, rfl, hbw, k0, k1, k2, k3, hx0'⟩ := kid_val (HX.out.ext isNd_good X1.out fun _ _ h => h) 0 (by omega)
      simp only [Nat.zero_mul, Nat.add_zero] at k0 k1 k2 k3
      have HX0 := hid hx0'
      obtain ⟨a2, cap2, rfl, _⟩ := hx0'
      have CQ := hid (HH.out (t.kid 0) (by have := Nd.size_kid (kid_mem (t := t) (i := 0) (by omega)); have := HT.out; omega) (.agg #[.int .i64 (t.kid 0).kind, .string ⟨(t.kid 0).text.toArray⟩, .slice a2 (t.kid 0).kids.length cap2, .int .i64 (t.kid 0).pos]) W1 ⟨_, rfl, HX0.out⟩)
      have HR2 := hid (show r = tyF nmB f (t.kid 0) by
       have := namB_one (so := noT) (ty := tyF nmB f) (k := 11) hl
       rw [HR1.out, show ofB 11 [tyF nmB f] t = namB noT 11 [tyF nmB f] t from rfl, this, HK.out]
       unfold noT
       rw [HTX.out, hx0]; rfl)
      obtain ⟨q, hq⟩ : ∃ q, tyF nmB f (t.kid 0) = q := ⟨_, rfl⟩
      rw [hq] at CQ HR2
      obtain ⟨p, hp⟩ : ∃ p, t.kid 0 = p := ⟨_, rfl⟩
      rw [hp] at k0 k1 k2 k3 CQ
      clear hx0 hl hq hp
      go_wp2_with fail
      refine CQ.out.mono ?_
      rintro e W2 ⟨rfl, X2⟩
      have X2 := hid X2
      clear c0 c1 c2 c3 k0 k1 k2 k3
      go_wp2_with fail
      go_ret
      exact ⟨by rw [HR2.out]; rfl, X1.out.trans X2.out⟩
    · have q11 : (tk == 11) = false := by simpa using h11
      by_cases h12 : tk = 12
      · have q12 : (tk == 12) = true := by simpa using h12
        have HR1 := hid (show r = qs by rw [HR.out, if_neg h10, if_neg h11, if_pos h12])
        clear h10 h11 h12
        go_wp2_with fail
        refine (CS.out _ _ HV1.out).mono ?_
        rintro e W2 ⟨rfl, X2⟩
        have X2 := hid X2
        clear c0 c1 c2 c3
        go_wp2_with fail
        go_ret
        exact ⟨by rw [HR1.out]; rfl, X1.out.trans X2.out⟩
      · have q12 : (tk == 12) = false := by simpa using h12
        have E := hid (show r = false by rw [HR.out, if_neg h10, if_neg h11, if_neg h12])
        clear h10 h11 h12
        go_wp2_with fail
        go_ret
        exact ⟨by rw [E.out]; rfl, X1.out⟩
end Go.Proofs.YthbmjamgidfneaaGreatDoor
namespace Go.Proofs.YthbmjamgidfneaaGreatDoor
open Go.RowKit Go.Lib Go.BigFrame
set_option linter.unusedVariables false
set_option linter.unusedSimpArgs false
abbrev RExH (f : Nat) (ex : Nd → Bool) : Prop := ∀ (t : Nd), t.size ≤ f → ∀ (v : Value) (w : World), NdV none' w t v → Calls Tryz.prog 34 #[v] w (BoolP (ex t) w)
abbrev RStH (f : Nat) (st : Nd → Bool) : Prop := ∀ (t : Nd), t.size ≤ f → ∀ (v : Value) (w : World), NdV none' w t v → Calls Tryz.prog 35 #[v] w (BoolP (st t) w)
theorem rbound_any (s : List UInt8) (w : World) : Calls Tryz.prog 79 #[.string ⟨s.toArray⟩] w (BoolP (bndB s) w) := by
 have CN := hid fun W => rnm_any s W
 obtain ⟨r, hr⟩ : ∃ r, r = bndB s := ⟨_, rfl⟩
 rw [← hr]
 unfold bndB at hr
 obtain ⟨b, hb⟩ : ∃ b, nmB s = b := ⟨_, rfl⟩
 rw [hb] at CN hr
 obtain ⟨c, hc⟩ : ∃ c, (s == [95]) = c := ⟨_, rfl⟩
 rw [show (s != [95]) = !c by rw [← hc]; rfl] at hr
 have HR := hid hr
 clear hr hb
 go_enter Tryz.func79, Tryz.ntmps79
 go_wp2_with fail
 refine (CN.out _).mono ?_
 rintro e w1 ⟨rfl, X1⟩
 have X1 := hid X1
 cases b <;> cases c
 all_goals
  go_wp2_with fail
  go_ret
  exact ⟨by rw [HR.out]; rfl, X1.out⟩
theorem rexprs_any (f : Nat) (ex : Nd → Bool) (H : RExH f ex) (xs : List Nd) (hxs : ∀ x ∈ xs, x.size ≤ f) (hl : xs.length ≤ 4000000000) (v : Value) (w : World) (hv : IsSl 4 IsNd none' w v xs) :
 Calls Tryz.prog 78 #[v] w (BoolP (xs.all ex) w) := by
 have HV := hid hv
 obtain ⟨a1, cap1, rfl, hcap, hxx⟩ := hv
 clear hxx
 obtain ⟨r, hr⟩ : ∃ r, r = xs.all ex := ⟨_, rfl⟩
 rw [← hr]
 have HR := hid hr
 have HH := hid H
 have HS := hid hxs
 clear hr H hxs
 go_enter Tryz.func78, Tryz.ntmps78
 go_wp2_with fail
 go_loopw [3] (fun z wr => ∃ (i : Nat), z = .int .i64 (i : Nat) ∧ i ≤ xs.length ∧ Hid (Ext none' w wr ∧ ∀ j (h : j < xs.length), j < i → ex xs[j] = true)) (fun z _ => xs.length - (RowKit.intOf z).toNat)
 case atStart => exact ⟨0, rfl, by omega, hid ⟨Ext.refl _ _, fun j _ h => by omega⟩⟩
 case round =>
  obtain ⟨i, rfl, hle, RR⟩ := hrel
  by_cases hi : i < xs.length
  · obtain ⟨b5, off5, cs5, rfl, _, hw5, hcc5, ht5⟩ := (HV.out.ext isNd_good RR.out.1 fun _ _ h => h).at i hi
    obtain ⟨x5, rfl, hx5⟩ := ht5.parts
    have d0 := hcc5 0 _ rfl
    have d1 := hcc5 1 _ rfl
    have d2 := hcc5 2 _ rfl
    have d3 := hcc5 3 _ rfl
    simp only [Nat.add_zero] at d0
    have hmem := List.getElem_mem hi
    have HX5 := hid hx5
    obtain ⟨a6, cap6, rfl, _⟩ := hx5
    have CQ := hid (HH.out xs[i] (HS.out _ hmem) (.agg #[.int .i64 xs[i].kind, .string ⟨xs[i].text.toArray⟩, .slice a6 xs[i].kids.length cap6, .int .i64 xs[i].pos]) wr ⟨_, rfl, HX5.out⟩)
    obtain ⟨q, hq⟩ : ∃ q, ex xs[i] = q := ⟨_, rfl⟩
    rw [hq] at CQ
    have HQ := hid hq
    have HM := hid hmem
    obtain ⟨p, hp⟩ : ∃ p, xs[i] = p := ⟨_, rfl⟩
    rw [hp] at d0 d1 d2 d3 CQ
    clear hcc5 ht5 hq hmem hp HX5
    go_wp2_with fail
    refine CQ.out.mono ?_
    rintro e W5 ⟨rfl, X5⟩
    have X5' := hid (RR.out.1.trans X5)
    clear d0 d1 d2 d3 X5
    cases q
    case false =>
     have E : Hid (r = false) := hid (by rw [HR.out, List.all_eq_false]; exact ⟨_, HM.out, by rw [HQ.out]; simp⟩)
     go_wp2_with fail
     go_ret
     exact ⟨by rw [E.out]; rfl, X5'.out⟩
    have N : Hid (Ext none' w W5 ∧ ∀ j (h : j < xs.length), j < i + 1 → ex xs[j] = true) := hid ⟨X5'.out, fun j h hj => by
     by_cases e : j = i
     · subst e; exact HQ.out
     · exact RR.out.2 j h (by omega)⟩
    go_wp2_with fail
    go_roundw
    case rel => exact ⟨i + 1, by go_num, by omega, N⟩
    case measure => simp [RowKit.intOf]; omega
  · have E : Hid (r = true) := hid (by
     rw [HR.out, List.all_eq_true]
     intro y hy
     obtain ⟨j, hj, rfl⟩ := List.mem_iff_getElem.1 hy
     exact RR.out.2 j hj (by omega))
    obtain rfl : i = xs.length := by omega
    go_wp2_with fail
    go_ret
    exact ⟨by rw [E.out]; rfl, RR.out.1⟩
theorem rblock_any (f : Nat) (hf : f + 1 ≤ bigD) (st : Nd → Bool) (H : RStH f st) (t : Nd) (ht : t.size ≤ f + 1) (v : Value) (w : World) (hv : NdV none' w t v) :
 Calls Tryz.prog 74 #[v] w (BoolP (blkB st t) w) := by
 obtain ⟨a1, cap1, rfl, hcap, HV, HY⟩ := nd_open hv
 have hkl : t.kids.length ≤ 4000000000 := by have := t.kids_len; unfold bigD at hf; omega
 obtain ⟨r, hr⟩ : ∃ r, r = blkB st t := ⟨_, rfl⟩
 rw [← hr]
 unfold blkB at hr
 have HH := hid H
 replace hr := hr.trans (rfl)
 obtain ⟨tk, htk⟩ : ∃ k, t.kind = k := ⟨_, rfl⟩
 obtain ⟨tx, htx⟩ : ∃ k, t.text = k := ⟨_, rfl⟩
 rw [htk, htx] at HV
 rw [htk, htx]
 try rw [htk] at hr
 try rw [htx] at hr
 have HR := hid hr
 have HTK := hid htk
 have HTX := hid htx
 have HT := hid ht
 have HF := hid hf
 obtain ⟨B, W0, hB, hW0, X0, G0⟩ := boxed w (.cells #[.int .i64 tk, .string ⟨tx.toArray⟩, .slice a1 t.kids.length cap1, .int .i64 t.pos] 24)
 have XX := hid (Ext.refl none' W0)
 clear hr htk htx ht hf H
 go_enter Tryz.func74, Tryz.ntmps74
 go_upto_region 1 with (fail)
 rw [← hW0, ← hB]
 clear hW0 hB
 obtain ⟨c0, c1, c2, c3⟩ := cellx XX.out G0.out
 by_cases hk : tk = 36
 case neg =>
  have q1k : (tk == 36) = false := by simpa using hk
  have q2k : (tk != 36) = true := by simpa using hk
  have E : Hid (r = false) := hid (by rw [HR.out, q1k]; rfl)
  clear hk
  go_wp2_with fail
  go_ret
  exact ⟨by rw [E.out]; rfl, X0.out.trans XX.out⟩
 have q1k : (tk == 36) = true := by simpa using hk
 have q2k : (tk != 36) = false := by simp [hk]
 by_cases hx : tx = []
 case neg =>
  have q1x : (tx == []) = false := by simpa using hx
  have q2x : (tx != []) = true := by simpa using hx
  have q3x : tx.isEmpty = false := by simpa using hx
  have E : Hid (r = false) := hid (by rw [HR.out, q1k, q1x]; rfl)
  clear hk hx
  go_wp2_with fail
  go_ret
  exact ⟨by rw [E.out]; rfl, X0.out.trans XX.out⟩
 have q1x : (tx == []) = true := by simpa using hx
 have q2x : (tx != []) = false := by simp [hx]
 have q3x : tx.isEmpty = true := by simpa using hx
 have HR := hid (show r = t.kids.all st by rw [HR.out, q1k, q1x]; rfl)
 clear hk hx
 go_wp2_with fail
 clear c0 c1 c2 c3
 go_loopw [3] (fun z wr => ∃ (i : Nat), z = .int .i64 (i : Nat) ∧ i ≤ t.kids.length ∧ Hid (Ext none' W0 wr ∧ ∀ j (h : j < t.kids.length), j < i → st t.kids[j] = true)) (fun z _ => t.kids.length - (RowKit.intOf z).toNat)
 case atStart => exact ⟨0, rfl, by omega, hid ⟨Ext.refl _ _, fun j _ h => by omega⟩⟩
 case round =>
  obtain ⟨i, rfl, hle, RR⟩ := hrel
  have c2 := cell_at (RR.out.1.heap G0.out fun h => h) 2
  simp only [List.getElem?_toArray, List.getElem?_cons_zero, List.getElem?_cons_succ] at c2
  by_cases hi : i < t.kids.length
  · obtain ⟨b5, off5, cs5, rfl, _, hw5, hcc5, ht5⟩ := (HY.out.ext isNd_good (X0.out.trans RR.out.1) fun _ _ h => h).at i hi
    obtain ⟨x5, rfl, hx5⟩ := ht5.parts
    have d0 := hcc5 0 _ rfl
    have d1 := hcc5 1 _ rfl
    have d2 := hcc5 2 _ rfl
    have d3 := hcc5 3 _ rfl
    simp only [Nat.add_zero] at d0
    have hmem := List.getElem_mem hi
    have HX5 := hid hx5
    obtain ⟨a6, cap6, rfl, _⟩ := hx5
    have CQ := hid (HH.out t.kids[i] (by have := Nd.size_kid hmem; have := HT.out; omega) (.agg #[.int .i64 t.kids[i].kind, .string ⟨t.kids[i].text.toArray⟩, .slice a6 t.kids[i].kids.length cap6, .int .i64 t.kids[i].pos]) wr ⟨_, rfl, HX5.out⟩)
    obtain ⟨q, hq⟩ : ∃ q, st t.kids[i] = q := ⟨_, rfl⟩
    rw [hq] at CQ
    have HQ := hid hq
    have HM := hid hmem
    obtain ⟨p, hp⟩ : ∃ p, t.kids[i] = p := ⟨_, rfl⟩
    rw [hp] at d0 d1 d2 d3 CQ
    clear hcc5 ht5 hq hmem hp HX5
    go_wp2_with fail
    refine CQ.out.mono ?_
    rintro e W5 ⟨rfl, X5⟩
    have X5' := hid (RR.out.1.trans X5)
    clear c2 d0 d1 d2 d3 X5
    cases q
    case false =>
     have E : Hid (r = false) := hid (by rw [HR.out, List.all_eq_false]; exact ⟨_, HM.out, by rw [HQ.out]; simp⟩)
     go_wp2_with fail
     go_ret
     exact ⟨by rw [E.out]; rfl, X0.out.trans X5'.out⟩
    have N : Hid (Ext none' W0 W5 ∧ ∀ j (h : j < t.kids.length), j < i + 1 → st t.kids[j] = true) := hid ⟨X5'.out, fun j h hj => by
     by_cases e : j = i
     · subst e; exact HQ.out
     · exact RR.out.2 j h (by omega)⟩
    go_wp2_with fail
    go_roundw
    case rel => exact ⟨i + 1, by go_num, by omega, N⟩
    case measure => simp [RowKit.intOf]; omega
  · have E : Hid (r = true) := hid (by
     rw [HR.out, List.all_eq_true]
     intro y hy
     obtain ⟨j, hj, rfl⟩ := List.mem_iff_getElem.1 hy
     exact RR.out.2 j hj (by omega))
    obtain rfl : i = t.kids.length := by omega
    go_wp2_with fail
    go_ret
    exact ⟨by rw [E.out]; rfl, X0.out.trans RR.out.1⟩
theorem rng_at {s : List UInt8} {i : Nat} (hi : i < s.length) (hc : s[i] = 44) (h : ∀ j (h : j < s.length), j < i → s[j] ≠ 44) : rngB s = (nmB (s.take i) && bndB (s.drop (i + 1))) := by
 have hd : s = s.take i ++ 44 :: s.drop (i + 1) := by
  conv => lhs; rw [← List.take_append_drop i s, List.drop_eq_getElem_cons hi, hc]
 have hcon : s.contains 44 = true := by rw [List.contains_iff_mem]; rw [hd]; simp
 have ht : ∀ x ∈ s.take i, (x != 44) = true := by
  intro x hx
  obtain ⟨j, hj, rfl⟩ := List.mem_iff_getElem.1 hx
  rw [List.length_take] at hj
  rw [List.getElem_take]
  simpa using h j (by omega) (by omega)
 unfold rngB
 rw [if_pos hcon]
 have e1 : s.takeWhile (· != 44) = s.take i := by
  conv => lhs; rw [hd]
  rw [List.takeWhile_append_of_pos ht, List.takeWhile_cons_of_neg (by simp)]
  simp
 have e2 : s.dropWhile (· != 44) = 44 :: s.drop (i + 1) := by
  conv => lhs; rw [hd]
  rw [List.dropWhile_append_of_pos ht, List.dropWhile_cons_of_neg (by simp)]
 rw [e1, e2]; rfl
theorem rng_none {s : List UInt8} (h : ∀ j (h : j < s.length), s[j] ≠ 44) : rngB s = (s == [] || bndB s) := by
 have hcon : ¬ s.contains 44 = true := by
  rw [List.contains_iff_mem]
  intro hm
  obtain ⟨j, hj, e⟩ := List.mem_iff_getElem.1 hm
  exact h j hj e
 unfold rngB
 rw [if_neg hcon]
theorem slc_h (s : List UInt8) (i : Nat) (hi : i ≤ s.length) (W : World) : (Instr.slice 9 (.string ⟨s.toArray⟩) none (some (.int .i64 (i : Nat))) none).run Tryz.prog W = .ok (.string ⟨(s.take i).toArray⟩) W := by
 rw [run_slice_string_h W _ _ Tryz.underlying9 _ _ (by omega) (by rw [bsize]; omega), Int.toNat_natCast, extract_eq]
 simp
theorem slc_l (s : List UInt8) (i : Nat) (hi : i ≤ s.length) (W : World) : (Instr.slice 9 (.string ⟨s.toArray⟩) (some (.int .i64 (i : Nat))) none none).run Tryz.prog W = .ok (.string ⟨(s.drop i).toArray⟩) W := by
 rw [run_slice_string_l W _ _ Tryz.underlying9 _ _ (by omega) (by rw [bsize]; omega), Int.toNat_natCast, extract_eq, bsize]
 simp [List.take_of_length_le]
theorem rranged_any (s : List UInt8) (hs : s.length ≤ 4000000000) (w : World) : Calls Tryz.prog 82 #[.string ⟨s.toArray⟩] w (BoolP (rngB s) w) := by
 obtain ⟨r, hr⟩ : ∃ r, r = rngB s := ⟨_, rfl⟩
 rw [← hr]
 have HR := hid hr
 clear hr
 go_enter Tryz.func82, Tryz.ntmps82
 go_wp2_with fail
 go_loopw [3] (fun z wr => ∃ (i : Nat), z = .int .i64 (i : Nat) ∧ i ≤ s.length ∧ Hid (Ext none' w wr ∧ ∀ j (h : j < s.length), j < i → s[j] ≠ 44)) (fun z _ => s.length - (RowKit.intOf z).toNat)
 case atStart => exact ⟨0, rfl, by omega, hid ⟨Ext.refl _ _, fun j _ h => by omega⟩⟩
 case round =>
  obtain ⟨i, rfl, hle, RR⟩ := hrel
  by_cases hi : i < s.length
  · have hix := fun W => idx_run s i hi W
    by_cases hc : s[i] = 44
    · have qc : ((s[i].toNat : Int) == 44) = true := by rw [hc]; rfl
      have hsl := fun W => slc_h s i (by omega) W
      have hsr := fun W => slc_l s (i + 1) (by omega) W
      rw [show ((i + 1 : Nat) : Int) = (i : Int) + 1 by omega] at hsr
      have CN := hid fun W => rnm_any (s.take i) W
      have CB := hid fun W => rbound_any (s.drop (i + 1)) W
      have HR2 := hid (show r = (nmB (s.take i) && bndB (s.drop (i + 1))) by rw [HR.out]; exact rng_at hi hc fun j h hj => RR.out.2 j h hj)
      obtain ⟨b1, hb1⟩ : ∃ b, nmB (s.take i) = b := ⟨_, rfl⟩
      obtain ⟨b2, hb2⟩ : ∃ b, bndB (s.drop (i + 1)) = b := ⟨_, rfl⟩
      rw [hb1] at CN HR2
      rw [hb2] at CB HR2
      obtain ⟨c, hcc⟩ : ∃ c, s[i] = c := ⟨_, rfl⟩
      rw [hcc] at hix qc
      clear hb1 hb2 hc hcc
      go_wp2_with fail
      refine (CN.out _).mono ?_
      rintro e w1 ⟨rfl, X1⟩
      have X1 := hid (RR.out.1.trans X1)
      cases b1
      · go_wp2_with fail
        go_ret
        exact ⟨by rw [HR2.out]; rfl, X1.out⟩
      · go_wp2_with fail
        refine (CB.out _).mono ?_
        rintro e w2 ⟨rfl, X2⟩
        have X2 := hid (X1.out.trans X2)
        go_wp2_with fail
        go_ret
        exact ⟨by rw [HR2.out]; rfl, X2.out⟩
    · have qc : ((s[i].toNat : Int) == 44) = false := by
       rw [beq_eq_false_iff_ne]
       intro e
       exact hc (UInt8.toNat_inj.1 (by have : s[i].toNat = 44 := by omega
                                       rw [this]; rfl))
      have N : Hid (Ext none' w wr ∧ ∀ j (h : j < s.length), j < i + 1 → s[j] ≠ 44) := hid ⟨RR.out.1, fun j h hj => by
       by_cases e : j = i
       · subst e; exact hc
       · exact RR.out.2 j h (by omega)⟩
      obtain ⟨c, hcc⟩ : ∃ c, s[i] = c := ⟨_, rfl⟩
      rw [hcc] at hix qc
      clear hc hcc
      go_wp2_with fail
      go_roundw
      case rel => exact ⟨i + 1, by go_num, by omega, N⟩
      case measure => simp [RowKit.intOf]; omega
  · obtain rfl : i = s.length := by omega
    have HR2 := hid (show r = (s == [] || bndB s) by rw [HR.out]; exact rng_none fun j h => RR.out.2 j h h)
    have CB := hid fun W => rbound_any s W
    obtain ⟨b2, hb2⟩ : ∃ b, bndB s = b := ⟨_, rfl⟩
    rw [hb2] at CB HR2
    clear hb2
    by_cases h0 : s = []
    · have q1 : (s == []) = true := by simpa using h0
      have q2 : s.isEmpty = true := by simpa using h0
      have E := hid (show r = true by rw [HR2.out, q1]; rfl)
      clear h0
      go_wp2_with fail
      go_ret
      exact ⟨by rw [E.out]; rfl, RR.out.1⟩
    · have q1 : (s == []) = false := by simpa using h0
      have q2 : s.isEmpty = false := by simpa using h0
      have E := hid (show r = b2 by rw [HR2.out, q1]; rfl)
      clear h0
      go_wp2_with fail
      refine (CB.out _).mono ?_
      rintro e w2 ⟨rfl, X2⟩
      have X2 := hid (RR.out.1.trans X2)
      go_wp2_with fail
      go_ret
      exact ⟨by rw [E.out]; rfl, X2.out⟩
theorem rkind_any (f : Nat) (hf : f ≤ bigD) (st : Nd → Bool) (H : RStH f st) (t : Nd) (ht : t.size ≤ f) (ks : List Int) (hks : ks.length ≤ 1000) (v : Value) (w : World) (hv : NdV none' w t v) (K : Nat) (ty : TypeId) (fz : Nat × Nat) (hb : w.heap[K]? = some (.cells (ks.map fun k => Value.int .i64 k).toArray ty fz)) (n : Nat) (hn : n = ks.length) :
 Calls Tryz.prog 81 #[v, .slice (some ⟨K, 0, none⟩) n n] w (BoolP (ks.contains t.kind && st t) w) := by
 subst hn
 have CS := hid fun W (X : Ext none' w W) => H t ht v W (hv.ext X fun _ _ h => h)
 obtain ⟨r, hr⟩ : ∃ r, r = (ks.contains t.kind && st t) := ⟨_, rfl⟩
 rw [← hr]
 obtain ⟨q, hq⟩ : ∃ q, st t = q := ⟨_, rfl⟩
 rw [hq] at CS hr
 obtain ⟨y, rfl, hy⟩ := hv
 obtain ⟨a1, cap1, rfl, _⟩ := hy
 obtain ⟨tk, htk⟩ : ∃ k, t.kind = k := ⟨_, rfl⟩
 rw [htk] at CS hr ⊢
 have HR := hid hr
 obtain ⟨B, W0, hB, hW0, X0, G0⟩ := boxed w (.cells #[.int .i64 tk, .string ⟨t.text.toArray⟩, .slice a1 t.kids.length cap1, .int .i64 t.pos] 24)
 have GK := hid (X0.out.heap hb fun h => h)
 clear hr hq htk ht hf H hb
 go_enter Tryz.func81, Tryz.ntmps81
 go_upto_region 1 with (fail)
 rw [← hW0, ← hB]
 clear hW0 hB
 have c0 := fun t' : LaterF none' W0 => cell_at (t'.x.heap G0.out fun h => h) 0
 simp only [List.getElem?_toArray, List.getElem?_cons_zero] at c0
 go_wp2_with fail
 go_loopw [5] (fun z wr => ∃ (i : Nat), z = .int .i64 (i : Nat) ∧ i ≤ ks.length ∧ Hid (Ext none' W0 wr ∧ ∀ j (h : j < ks.length), j < i → ks[j] ≠ tk)) (fun z _ => ks.length - (RowKit.intOf z).toNat)
 case atStart => exact ⟨0, rfl, by omega, hid ⟨Ext.refl _ _, fun j _ h => by omega⟩⟩
 case round =>
  obtain ⟨i, rfl, hle, RR⟩ := hrel
  by_cases hi : i < ks.length
  · have d0 := fun t' : LaterF none' wr => cell_at ((RR.out.1.trans t'.x).heap G0.out fun h => h) 0
    have k0 := fun t' : LaterF none' wr => cell_at ((RR.out.1.trans t'.x).heap GK.out fun h => h) i
    simp only [List.getElem?_toArray, List.getElem?_cons_zero, List.getElem?_map, List.getElem?_eq_getElem hi, Option.map_some] at d0 k0
    obtain ⟨ki, hki⟩ : ∃ k, ks[i] = k := ⟨_, rfl⟩
    rw [hki] at k0
    have HKI := hid hki
    clear hki c0
    by_cases hk : tk = ki
    · have q1 : (tk == ki) = true := by simpa using hk
      have E := hid (show r = q by
       have : ks.contains tk = true := by rw [List.contains_iff_mem, hk, ← HKI.out]; exact List.getElem_mem hi
       rw [HR.out, this]; rfl)
      clear hk
      go_upto_region 4 with (fail)
      refine region_q none' wr (.qs [0, 1, 2, 3, 4, 5, 6] .fin) (by kernel_rfl) (by kernel_rfl) (fun dst v c a w h => by cases dst <;> exact h) ?_
      refine ⟨In.of (Ext.refl _ _).drew, ?_⟩
      change wpQuiet _ _ (fun w' => ∃ t : LaterF none' wr, w' = t.w) _ _ _
      simp only [sel, List.getElem?_cons_succ, List.getElem?_cons_zero]
      repeat (go_big_quiet_step (fail))
      refine wpQuiet_nil ?_
      simp only [wpTreeQ, stepT, sel, List.getElem?_cons_succ, List.getElem?_cons_zero]
      have D1 := hid (RR.out.1.trans (Ext.refl none' wr).drew)
      clear d0 k0
      obtain ⟨c0, c1, c2, c3⟩ := cell4 (D1.out.heap G0.out fun h => h)
      go_wp2_with fail
      refine (CS.out _ (X0.out.trans D1.out)).mono ?_
      rintro e w2 ⟨rfl, X2⟩
      have X2 := hid (D1.out.trans X2)
      clear c0 c1 c2 c3
      go_wp2_with fail
      go_ret
      exact ⟨by rw [E.out]; rfl, X0.out.trans X2.out⟩
    · have q1 : (tk == ki) = false := by simpa using hk
      have N : Hid (Ext none' W0 wr.drew ∧ ∀ j (h : j < ks.length), j < i + 1 → ks[j] ≠ tk) := hid ⟨RR.out.1.trans (Ext.refl none' wr).drew, fun j h hj => by
       by_cases e : j = i
       · subst e; rw [HKI.out]; exact fun e => hk e.symm
       · exact RR.out.2 j h (by omega)⟩
      clear hk
      go_upto_region 4 with (fail)
      refine region_q none' wr (.qs [0, 1, 2, 3, 4, 5, 6] .fin) (by kernel_rfl) (by kernel_rfl) (fun dst v c a w h => by cases dst <;> exact h) ?_
      refine ⟨In.of (Ext.refl _ _).drew, ?_⟩
      change wpQuiet _ _ (fun w' => ∃ t : LaterF none' wr, w' = t.w) _ _ _
      simp only [sel, List.getElem?_cons_succ, List.getElem?_cons_zero]
      repeat (go_big_quiet_step (fail))
      refine wpQuiet_nil ?_
      simp only [wpTreeQ, stepT, sel, List.getElem?_cons_succ, List.getElem?_cons_zero]
      clear d0 k0
      go_wp2_with fail
      go_roundw
      case rel => exact ⟨i + 1, by go_num, by omega, N⟩
      case measure => simp [RowKit.intOf]; omega
  · have E := hid (show r = false by
     have : ks.contains tk = false := by
      rw [Bool.eq_false_iff]
      intro hc
      rw [List.contains_iff_mem] at hc
      obtain ⟨j, hj, e⟩ := List.mem_iff_getElem.1 hc
      exact RR.out.2 j hj (by omega) e
     rw [HR.out, this]; rfl)
    obtain rfl : i = ks.length := by omega
    clear c0
    go_wp2_with fail
    go_ret
    exact ⟨by rw [E.out]; rfl, X0.out.trans RR.out.1⟩
end Go.Proofs.YthbmjamgidfneaaGreatDoor
namespace Go.Proofs.YthbmjamgidfneaaGreatDoor
open Go.RowKit Go.Lib Go.BigFrame
def opsL : List UInt8 := [32, 43, 32, 45, 32, 42, 32, 47, 32, 37, 32, 61, 61, 32, 33, 61, 32, 60, 32, 60, 61, 32, 62, 32, 62, 61, 32, 38, 38, 32, 124, 124, 32]
theorem ops_at : ∀ i, i < 34 → (opsL.drop i).head? = some 32 → ((opsL.drop (i + 1)).takeWhile (· != 32) = [] ∨ binS.contains ((opsL.drop (i + 1)).takeWhile (· != 32)) = true) := by decide
theorem takeWhile_stop {s t : List UInt8} (h : ∀ c ∈ s, c ≠ 32) : (s ++ 32 :: t).takeWhile (· != 32) = s := by
 induction s with
 | nil => simp
 | cons a r ih =>
  have ha : (a != 32) = true := by simpa using h a (by simp)
  rw [List.cons_append, List.takeWhile_cons, ha, if_pos rfl, ih fun c hc => h c (by simp [hc])]
theorem no_space {s : List UInt8} (h : indexByte s 32 = -1) : ∀ c ∈ s, c ≠ 32 := fun c hc e => by
 subst e
 obtain ⟨k, hk, e⟩ := List.mem_iff_getElem.1 hc
 exact indexByte_none h k (by rw [List.getElem?_eq_getElem hk, e])
theorem index_neg (s : List UInt8) (c : UInt8) : decide (0 ≤ indexByte s c) = !(indexByte s c == -1) := by
 have := indexByte_ge s c
 by_cases h : indexByte s c = -1
 · rw [h]; rfl
 · have h1 : 0 ≤ indexByte s c := by omega
   have h2 : (indexByte s c == -1) = false := by simpa using h
   rw [decide_eq_true h1, h2]; rfl
theorem binB_eq (s : List UInt8) : binB s = (s != [] && (!(decide (0 ≤ indexByte s 32)) && contains opsL ((32 :: s) ++ [32]))) := by
 by_cases hb : binB s = true
 · rw [hb]
   unfold binB binS at hb
   simp only [List.contains_cons, List.contains_nil, Bool.or_false, Bool.or_eq_true, beq_iff_eq] at hb
   rcases hb with rfl | rfl | rfl | rfl | rfl | rfl | rfl | rfl | rfl | rfl | rfl | rfl | rfl <;> decide
 · have hb' : binB s = false := by simpa using hb
   rw [hb']
   by_cases h0 : s = []
   · subst h0; rfl
   · have q0 : (s != []) = true := by simpa using h0
     rw [q0, index_neg]
     by_cases hi : indexByte s 32 = -1
     · have q1 : (indexByte s 32 == -1) = true := by simpa using hi
       rw [q1]
       simp only [Bool.not_true, Bool.not_false, Bool.true_and]
       have hns := no_space hi
       unfold contains
       rcases index_spec opsL ((32 :: s) ++ [32]) with ⟨h1, _⟩ | ⟨i, h1, h2, h3, _⟩
       · rw [h1]; rfl
       · exfalso
         unfold occAt at h3
         obtain ⟨t, ht⟩ := List.isPrefixOf_iff_prefix.1 h3
         have hh : (opsL.drop i).head? = some 32 := by rw [← ht]; rfl
         have h2' : i < 34 := by have : opsL.length = 33 := rfl; omega
         have hd : opsL.drop (i + 1) = s ++ 32 :: t := by
          have : opsL.drop (i + 1) = (opsL.drop i).drop 1 := by rw [List.drop_drop]
          rw [this, ← ht]
          simp
         have := ops_at i h2' hh
         rw [hd, takeWhile_stop hns] at this
         rcases this with h | h
         · exact h0 h
         · exact hb h
     · have q1 : (indexByte s 32 == -1) = false := by simpa using hi
       rw [q1]; rfl
theorem index_comma (s : List UInt8) : index s [44] = if s.contains 44 then ((s.takeWhile (· != 44)).length : Int) else -1 := by
 induction s with
 | nil => rfl
 | cons b l ih =>
  unfold index
  by_cases hb : b = 44
  · subst hb
    simp
  · have h0 : ((44 : UInt8) == b) = false := by simpa using fun e => hb (Eq.symm e)
    have h1 : ([44] : List UInt8).isPrefixOf (b :: l) = false := by show (((44 : UInt8) == b) && _) = false; rw [h0]; rfl
    rw [h1, ih, List.contains_cons]
    have h2 : ((44 : UInt8) == b) = false := by simpa using fun e => hb (Eq.symm e)
    have h3 : (b != 44) = true := by simpa using hb
    rw [h2, Bool.false_or, List.takeWhile_cons, h3]
    by_cases hc : l.contains 44 = true
    · rw [if_pos hc, if_pos hc]
      have : (((l.takeWhile (· != 44)).length : Int) == -1) = false := by rw [beq_eq_false_iff_ne]; omega
      simp [this]
    · rw [if_neg hc, if_neg hc]; rfl
theorem cut_comma (s : List UInt8) : cut s [44] = if s.contains 44 then (s.takeWhile (· != 44), (s.dropWhile (· != 44)).drop 1, true) else (s, [], false) := by
 unfold cut
 rw [index_comma]
 by_cases hc : s.contains 44 = true
 · rw [if_pos hc, if_pos hc, if_pos (by omega)]
   have h3 : s = s.takeWhile (· != 44) ++ s.dropWhile (· != 44) := (List.takeWhile_append_dropWhile ..).symm
   simp only [Int.toNat_natCast, List.length_cons, List.length_nil]
   refine congr (congrArg _ ?_) (congr (congrArg _ ?_) rfl)
   · conv => lhs; arg 2; rw [h3]
     rw [List.take_left']
     rfl
   · conv => lhs; arg 2; rw [h3]
     rw [List.drop_append]
     simp
 · rw [if_neg hc, if_neg hc, if_neg (by omega)]
theorem binary_any (s : List UInt8) (w : World) (hs : s.length ≤ 4000000000) (hm : MaxL w) : Calls Tryz.prog 149 #[.string ⟨s.toArray⟩] w (BoolP (binB s) w) := by
 obtain ⟨r, hr⟩ : ∃ r, r = binB s := ⟨_, rfl⟩
 rw [← hr]
 rw [binB_eq] at hr
 have HR := hid hr
 clear hr
 by_cases h0 : s = []
 · have E : Hid (r = false) := hid (by rw [HR.out, h0]; rfl)
   subst h0
   go_enter Tryz.func149, Tryz.ntmps149
   go_wp2_with fail
   go_ret
   exact ⟨by rw [E.out]; rfl, Ext.refl _ _⟩
 · have q0 : (s != []) = true := by simpa using h0
   have q0' : s.isEmpty = false := by simpa using h0
   rw [q0, Bool.true_and] at HR
   obtain ⟨_, m, hm0⟩ := hm
   have C1 := hid (Tryz.strings_Contains_one ⟨s.toArray⟩ 32 w)
   have C2 := hid (Tryz.strings_Contains ⟨opsL.toArray⟩ ⟨((32 :: s) ++ [32]).toArray⟩ m w (by rw [bsize]; decide) hm0)
   have D1 : (⟨s.toArray⟩ : ByteArray).data.toList = s := rfl
   have D2 : (⟨opsL.toArray⟩ : ByteArray).data.toList = opsL := rfl
   have D3 : (⟨((32 :: s) ++ [32]).toArray⟩ : ByteArray).data.toList = (32 :: s) ++ [32] := rfl
   rw [D1] at C1
   rw [D2, D3] at C2
   obtain ⟨b1, hb1⟩ : ∃ b, decide (0 ≤ indexByte s 32) = b := ⟨_, rfl⟩
   obtain ⟨b2, hb2⟩ : ∃ b, contains opsL ((32 :: s) ++ [32]) = b := ⟨_, rfl⟩
   rw [hb1] at C1 HR
   rw [hb2] at C2 HR
   have cat1 := str_cat [32] s
   have cat2 := str_cat (32 :: s) [32]
   clear h0 hb1 hb2 D1 D2 D3 hm0
   go_enter Tryz.func149, Tryz.ntmps149
   go_wp2_with fail
   refine C1.out.mono ?_
   rintro e w1 ⟨rfl, rfl⟩
   cases b1
   · go_wp2_with fail
     refine C2.out.mono ?_
     rintro e w2 ⟨rfl, rfl⟩
     go_wp2_with fail
     go_ret
     exact ⟨by rw [HR.out]; rfl, Ext.refl _ _⟩
   · go_wp2_with fail
     go_ret
     exact ⟨by rw [HR.out]; rfl, Ext.refl _ _⟩
theorem Ext.drewN {w : World} (n : Nat) : Ext none' w (w.drewN n) := ⟨rfl, rfl, rfl, Nat.le_refl _, fun _ _ _ => rfl⟩
theorem ranged_any (s : List UInt8) (w : World) (hs : s.length ≤ 4000000000) (hm : MaxL w) : Calls Tryz.prog 157 #[.string ⟨s.toArray⟩] w (BoolP (rngB s) w) := by
 obtain ⟨r, hr⟩ : ∃ r, r = rngB s := ⟨_, rfl⟩
 rw [← hr]
 unfold rngB at hr
 have HR := hid hr
 obtain ⟨_, m, hm0⟩ := hm
 have C1 := hid (Tryz.strings_Cut ⟨s.toArray⟩ ⟨([44] : List UInt8).toArray⟩ m w (by rw [bsize]; omega) hm0)
 have D1 : (⟨s.toArray⟩ : ByteArray).data.toList = s := rfl
 have D2 : (⟨([44] : List UInt8).toArray⟩ : ByteArray).data.toList = [44] := rfl
 rw [D1, D2, cut_comma] at C1
 clear hr D1 D2 hm0
 by_cases hc : s.contains 44 = true
 · rw [if_pos hc] at C1 HR
   obtain ⟨a, ha⟩ : ∃ a, s.takeWhile (· != 44) = a := ⟨_, rfl⟩
   obtain ⟨b, hb⟩ : ∃ b, (s.dropWhile (· != 44)).drop 1 = b := ⟨_, rfl⟩
   rw [ha, hb] at C1 HR
   have hs0 : s ≠ [] := by intro e; rw [e] at hc; simp at hc
   have q0 : (s == []) = false := by simpa using hs0
   have q0' : s.isEmpty = false := by simpa using hs0
   have CN := hid fun W => tname_any a W
   have CB := hid fun W => bound_any b W
   obtain ⟨b1, hb1⟩ : ∃ x, nmB a = x := ⟨_, rfl⟩
   obtain ⟨b2, hb2⟩ : ∃ x, bndB b = x := ⟨_, rfl⟩
   rw [hb1] at CN HR
   rw [hb2] at CB HR
   clear hc ha hb hs0 hb1 hb2
   go_enter Tryz.func157, Tryz.ntmps157
   go_wp2_with fail
   refine C1.out.mono ?_
   rintro e w1 ⟨rfl, n, rfl⟩
   go_wp2_with fail
   refine (CN.out _).mono ?_
   rintro e w2 ⟨rfl, X2⟩
   have X2 := hid ((Ext.drewN (w := w) n).trans X2)
   cases b1
   · go_wp2_with fail
     go_ret
     exact ⟨by rw [HR.out]; rfl, X2.out⟩
   · go_wp2_with fail
     refine (CB.out _).mono ?_
     rintro e w3 ⟨rfl, X3⟩
     have X3 := hid (X2.out.trans X3)
     cases b2
     all_goals
      go_wp2_with fail
      go_ret
      exact ⟨by rw [HR.out]; rfl, X3.out⟩
 · rw [if_neg hc] at C1 HR
   have CB := hid fun W => bound_any s W
   by_cases hs0 : s = []
   · have E : Hid (r = true) := hid (by rw [HR.out, hs0]; rfl)
     subst hs0
     clear hc
     go_enter Tryz.func157, Tryz.ntmps157
     go_wp2_with fail
     refine C1.out.mono ?_
     rintro e w1 ⟨rfl, n, rfl⟩
     go_wp2_with fail
     go_ret
     exact ⟨by rw [E.out]; rfl, Ext.drewN n⟩
   · have q0 : (s == []) = false := by simpa using hs0
     have q0' : s.isEmpty = false := by simpa using hs0
     rw [q0, Bool.false_or] at HR
     obtain ⟨b2, hb2⟩ : ∃ x, bndB s = x := ⟨_, rfl⟩
     rw [hb2] at CB HR
     clear hc hs0 hb2
     go_enter Tryz.func157, Tryz.ntmps157
     go_wp2_with fail
     refine C1.out.mono ?_
     rintro e w1 ⟨rfl, n, rfl⟩
     go_wp2_with fail
     refine (CB.out _).mono ?_
     rintro e w3 ⟨rfl, X3⟩
     have X3 := hid ((Ext.drewN (w := w) n).trans X3)
     go_wp2_with fail
     go_ret
     exact ⟨by rw [HR.out]; rfl, X3.out⟩
theorem binary_so {w : World} (hm : MaxL w) : SoV binB w (.func (.func 149) #[] #[]) :=
 ⟨_, _, rfl, Go.Proofs.enters_of Tryz.func149 (by kernel_rfl) rfl, fun s W hs X => binary_any s W (by unfold bigD at hs; exact hs) (maxL_later hm X)⟩
theorem ranged_so {w : World} (hm : MaxL w) : SoV rngB w (.func (.func 157) #[] #[]) :=
 ⟨_, _, rfl, Go.Proofs.enters_of Tryz.func157 (by kernel_rfl) rfl, fun s W hs X => ranged_any s W (by unfold bigD at hs; exact hs) (maxL_later hm X)⟩
end Go.Proofs.YthbmjamgidfneaaGreatDoor
namespace Go.Proofs.YthbmjamgidfneaaGreatDoor
open Go.RowKit Go.Lib Go.BigFrame
set_option linter.unusedVariables false
set_option linter.unusedSimpArgs false
abbrev ExH (f : Nat) (ex : Nd → Bool) : Prop := ∀ (t : Nd), t.size ≤ f → ∀ (v : Value) (w : World), MaxL w → NdV none' w t v → Calls Tryz.prog 103 #[v] w (BoolP (ex t) w)
abbrev StH (f : Nat) (st : Nd → Bool) : Prop := ∀ (t : Nd), t.size ≤ f → ∀ (v : Value) (w : World), MaxL w → NdV none' w t v → Calls Tryz.prog 104 #[v] w (BoolP (st t) w)
abbrev IfH (f : Nat) (st : Nd → Bool) : Prop := ∀ (t : Nd), t.size ≤ f → ∀ (v : Value) (w : World), MaxL w → NdV none' w t v → Calls Tryz.prog 155 #[v] w (BoolP (ifB st t) w)
structure Qs (f : Nat) (ty ex st : Nd → Bool) : Prop where
 hty : TyH f ty
 hex : ExH f ex
 hst : StH f st
 hif : IfH f st
theorem Qs.expr {f : Nat} {ty ex st : Nd → Bool} (Q : Qs f ty ex st) (w : World) (hm : MaxL w) : AskV f ex w (.func (.func 103) #[] #[]) :=
 ⟨_, _, rfl, Go.Proofs.enters_of Tryz.func103 (by kernel_rfl) rfl, fun t ht W x X hx => Q.hex t ht x W (maxL_later hm X) hx⟩
theorem Qs.stmt {f : Nat} {ty ex st : Nd → Bool} (Q : Qs f ty ex st) (w : World) (hm : MaxL w) : AskV f st w (.func (.func 104) #[] #[]) :=
 ⟨_, _, rfl, Go.Proofs.enters_of Tryz.func104 (by kernel_rfl) rfl, fun t ht W x X hx => Q.hst t ht x W (maxL_later hm X) hx⟩
theorem Qs.ifs {f : Nat} {ty ex st : Nd → Bool} (Q : Qs f ty ex st) (w : World) (hm : MaxL w) : AskV f (ifB st) w (.func (.func 155) #[] #[]) :=
 ⟨_, _, rfl, Go.Proofs.enters_of Tryz.func155 (by kernel_rfl) rfl, fun t ht W x X hx => Q.hif t ht x W (maxL_later hm X) hx⟩
theorem named_kids1 {so : List UInt8 → Bool} {t : Nd} {f : Nat} (h : t.size ≤ f + 1) (i : Nat) (hi : i < (namedP so t).kids.length) : (namedP so t).kids[i].size ≤ f := by
 have hm := List.getElem_mem hi
 have : ∀ x ∈ (namedP so t).kids, x.size ≤ f := fun x hx => by
  unfold namedP at hx
  split at hx
  · have := Nd.size_kid (t := t) hx; omega
  · cases hx
 exact this _ hm
theorem AsksV.lit3 {f : Nat} {p q r : Nd → Bool} {w : World} {B : Nat} {u v x : Value} {t : TypeId} {fz : Nat × Nat} (h : w.heap[B]? = some (.cells #[u, v, x] t fz)) (hu : AskV f p w u) (hv : AskV f q w v) (hx : AskV f r w x) : AsksV f [p, q, r] w (.slice (some ⟨B, 0, Option.none⟩) 3 3) :=
 ⟨_, 3, rfl, fun i hi => by
  have : i < 3 := hi
  have hi : i = 0 ∨ i = 1 ∨ i = 2 := by omega
  rcases hi with rfl | rfl | rfl
  · exact ⟨B, 0, u, rfl, heap_lt h, cell_at h 0, hu⟩
  · exact ⟨B, 0, v, rfl, heap_lt h, cell_at h 1, hv⟩
  · exact ⟨B, 0, x, rfl, heap_lt h, cell_at h 2, hx⟩⟩
theorem AsksV.lit4 {f : Nat} {p q r s : Nd → Bool} {w : World} {B : Nat} {u v x y : Value} {t : TypeId} {fz : Nat × Nat} (h : w.heap[B]? = some (.cells #[u, v, x, y] t fz)) (hu : AskV f p w u) (hv : AskV f q w v) (hx : AskV f r w x) (hy : AskV f s w y) : AsksV f [p, q, r, s] w (.slice (some ⟨B, 0, Option.none⟩) 4 4) :=
 ⟨_, 4, rfl, fun i hi => by
  have : i < 4 := hi
  have hi : i = 0 ∨ i = 1 ∨ i = 2 ∨ i = 3 := by omega
  rcases hi with rfl | rfl | rfl | rfl
  · exact ⟨B, 0, u, rfl, heap_lt h, cell_at h 0, hu⟩
  · exact ⟨B, 0, v, rfl, heap_lt h, cell_at h 1, hv⟩
  · exact ⟨B, 0, x, rfl, heap_lt h, cell_at h 2, hx⟩
  · exact ⟨B, 0, y, rfl, heap_lt h, cell_at h 3, hy⟩⟩
theorem sign_any (f : Nat) (hf : f + 1 ≤ bigD) {ty ex st : Nd → Bool} (Q : Qs f ty ex st) (t : Nd) (ht : t.size ≤ f + 1) (v : Value) (w : World) (hv : NdV none' w t v) :
 Calls Tryz.prog 105 #[v] w (BoolP (sigB ty nmB t) w) := by
 have CC := hid fun W (X : Ext none' w W) => sig_any f hf ty Q.hty nmB t ht v _ W (hv.ext X fun _ _ h => h) (tname_so W)
 obtain ⟨q, hq⟩ : ∃ q, sigB ty nmB t = q := ⟨_, rfl⟩
 rw [hq] at CC ⊢
 obtain ⟨y, rfl, hy⟩ := hv
 obtain ⟨a1, cap1, rfl, _⟩ := hy
 clear hq Q ht hf
 go_enter Tryz.func105, Tryz.ntmps105
 go_wp2_with fail
 refine (CC.out _ ((Ext.refl _ _).alloc _)).mono ?_
 rintro e w1 ⟨rfl, X1⟩
 have X1 := hid (((Ext.refl none' w).alloc _).trans X1)
 go_wp2_with fail
 go_ret
 exact ⟨rfl, X1.out⟩
theorem sign_ask {f : Nat} (hf : f + 1 ≤ bigD) {ty ex st : Nd → Bool} (Q : Qs f ty ex st) (w : World) : AskV f (sigB ty nmB) w (.func (.func 105) #[] #[]) :=
 ⟨_, _, rfl, Go.Proofs.enters_of Tryz.func105 (by kernel_rfl) rfl, fun t ht W x _ hx => sign_any f hf Q t (by omega) x W hx⟩
theorem block_any (f : Nat) (hf : f + 1 ≤ bigD) {ty ex st : Nd → Bool} (Q : Qs f ty ex st) (t : Nd) (ht : t.size ≤ f + 1) (v : Value) (w : World) (hm : MaxL w) (hv : NdV none' w t v) :
 Calls Tryz.prog 139 #[v] w (BoolP (blkB st t) w) := by
 obtain ⟨y, rfl, hy⟩ := hv
 have CA := hid fun W (X : Ext none' w W) => all_any st t.kids f y _ W (by have := t.kids_len; omega) (hy.ext isNd_good X fun _ _ h => h) (fun i hi => by have := Nd.size_kid (t := t) (List.getElem_mem hi); omega) (Q.stmt W (maxL_later hm X))
 unfold blkB
 obtain ⟨a1, cap1, rfl, _⟩ := hy
 obtain ⟨qa, hqa⟩ : ∃ q, t.kids.all st = q := ⟨_, rfl⟩
 rw [hqa] at CA ⊢
 obtain ⟨tk, htk⟩ : ∃ k, t.kind = k := ⟨_, rfl⟩
 obtain ⟨tx, htx⟩ : ∃ k, t.text = k := ⟨_, rfl⟩
 rw [htk, htx]
 clear hqa htk htx Q hm ht hf
 by_cases h1 : tk = 36
 · have q1 : (tk == 36) = true := by simpa using h1
   rw [q1]
   by_cases h2 : tx = []
   · have q2 : (tx == []) = true := by simpa using h2
     have q2' : tx.isEmpty = true := by simpa using h2
     rw [q2]
     clear h1 h2
     go_enter Tryz.func139, Tryz.ntmps139
     go_wp2_with fail
     refine (CA.out _ ((Ext.refl _ _).alloc _)).mono ?_
     rintro e w1 ⟨rfl, X1⟩
     have X1 := hid (((Ext.refl none' w).alloc _).trans X1)
     go_wp2_with fail
     go_ret
     exact ⟨by simp, X1.out⟩
   · have q2 : (tx == []) = false := by simpa using h2
     have q2' : tx.isEmpty = false := by simpa using h2
     rw [q2]
     clear h1 h2
     go_enter Tryz.func139, Tryz.ntmps139
     go_wp2_with fail
     go_ret
     exact ⟨by simp, (Ext.refl _ _).alloc _⟩
 · have q1 : (tk == 36) = false := by simpa using h1
   rw [q1]
   clear h1
   go_enter Tryz.func139, Tryz.ntmps139
   go_wp2_with fail
   go_ret
   exact ⟨by simp, (Ext.refl _ _).alloc _⟩
theorem block_ask {f : Nat} (hf : f + 1 ≤ bigD) {ty ex st : Nd → Bool} (Q : Qs f ty ex st) (w : World) (hm : MaxL w) : AskV f (blkB st) w (.func (.func 139) #[] #[]) :=
 ⟨_, _, rfl, Go.Proofs.enters_of Tryz.func139 (by kernel_rfl) rfl, fun t ht W x X hx => block_any f hf Q t (by omega) x W (maxL_later hm X) hx⟩
theorem short_any (f : Nat) (hf : f + 1 ≤ bigD) {ty ex st : Nd → Bool} (Q : Qs f ty ex st) (t : Nd) (ht : t.size ≤ f + 1) (v : Value) (w : World) (hm : MaxL w) (hv : NdV none' w t v) :
 Calls Tryz.prog 151 #[v] w (BoolP (shB ex t) w) := by
 show Calls Tryz.prog 151 #[v] w (BoolP (namB bndB 26 [ex] t) w)
 rw [← ofB_named bndB 26 (by omega) [ex] t]
 have CN := hid fun W (X : Ext none' w W) => named_any bndB t v _ W (by have := t.size_text; omega) (hv.ext X fun _ _ h => h) (bound_so W)
 have CO := hid fun W v' u' (hv' : NdV none' W (namedP bndB t) v') (hu' : AsksV f [ex] W u') => of_any f 26 [ex] (namedP bndB t) v' u' W (named_len bndB t (by omega)) (by simp) (fun i hi => named_kids1 ht i hi) hv' hu'
 obtain ⟨q, hq⟩ : ∃ q, ofB 26 [ex] (namedP bndB t) = q := ⟨_, rfl⟩
 obtain ⟨r, hr⟩ : ∃ r, namedP bndB t = r := ⟨_, rfl⟩
 rw [hq] at CO ⊢
 rw [hr] at CN CO
 have A_ex := hid fun W (X : Ext none' w W) => (show AskV f (ex) W (.func (.func 103) #[] #[]) from Q.expr W (maxL_later hm X))
 obtain ⟨y, rfl, hy⟩ := hv
 obtain ⟨a1, cap1, rfl, _⟩ := hy
 clear hq hr Q ht hm hf
 go_enter Tryz.func151, Tryz.ntmps151
 go_wp2_with fail
 refine (CN.out _ ((Ext.refl _ _).alloc _)).mono ?_
 rintro e w1 ⟨v', rfl, hv', X1⟩
 have HV' := hid hv'
 obtain ⟨y', rfl, hy'⟩ := hv'
 obtain ⟨a5, cap5, rfl, _⟩ := hy'
 have X1 := hid (((Ext.refl none' w).alloc _).trans X1)
 have V1 := hid (Ext.refl none' w1)
 go_wp2_with fail
 have Y := hid ((Ext.refl none' w1).alloc (.cells #[.func (.func 103) #[] #[]] 41))
 refine (CO.out _ _ _ (HV'.out.ext (V1.out.trans Y.out) fun _ _ h => h) (AsksV.lit1 (heap_alloc_at rfl _) (A_ex.out _ (X1.out.trans (V1.out.trans Y.out))))).mono ?_
 rintro e w9 ⟨rfl, X9⟩
 have X9 := hid ((X1.out.trans (V1.out.trans Y.out)).trans X9)
 go_wp2_with fail
 go_ret
 exact ⟨rfl, X9.out⟩
theorem short_ask {f : Nat} (hf : f + 1 ≤ bigD) {ty ex st : Nd → Bool} (Q : Qs f ty ex st) (w : World) (hm : MaxL w) : AskV f (shB ex) w (.func (.func 151) #[] #[]) :=
 ⟨_, _, rfl, Go.Proofs.enters_of Tryz.func151 (by kernel_rfl) rfl, fun t ht W x X hx => short_any f hf Q t (by omega) x W (maxL_later hm X) hx⟩
theorem set_any (f : Nat) (hf : f + 1 ≤ bigD) {ty ex st : Nd → Bool} (Q : Qs f ty ex st) (t : Nd) (ht : t.size ≤ f + 1) (v : Value) (w : World) (hm : MaxL w) (hv : NdV none' w t v) :
 Calls Tryz.prog 152 #[v] w (BoolP (setB ex t) w) := by
 show Calls Tryz.prog 152 #[v] w (BoolP (ofB 27 [ex, ex] t) w)
 have CO := hid fun W v' u' (hv' : NdV none' W t v') (hu' : AsksV f [ex, ex] W u') => of_any f 27 [ex, ex] t v' u' W (by have := t.kids_len; omega) (by simp) (fun i hi => by have := Nd.size_kid (t := t) (List.getElem_mem hi); omega) hv' hu'
 obtain ⟨q, hq⟩ : ∃ q, ofB 27 [ex, ex] t = q := ⟨_, rfl⟩
 rw [hq] at CO ⊢
 have A_ex := hid fun W (X : Ext none' w W) => (show AskV f (ex) W (.func (.func 103) #[] #[]) from Q.expr W (maxL_later hm X))
 have HV := hid hv
 obtain ⟨y, rfl, hy⟩ := hv
 obtain ⟨a1, cap1, rfl, _⟩ := hy
 clear hq Q ht hm hf
 obtain ⟨W0, hW0⟩ : ∃ W0, W0 = w.alloc (.cells #[.int .i64 t.kind, .string ⟨t.text.toArray⟩, .slice a1 t.kids.length cap1, .int .i64 t.pos] 24) := ⟨_, rfl⟩
 have XB := hid (show Ext none' w W0 by rw [hW0]; exact (Ext.refl _ _).alloc _)
 have B0 := hid (Ext.refl none' W0)
 have HSZ := hid (show w.heap.size + 1 = W0.heap.size by rw [hW0]; simp)
 go_enter Tryz.func152, Tryz.ntmps152
 go_wp2_with fail
 rw [← hW0]
 clear hW0
 have Y := hid ((Ext.refl none' W0).alloc (.cells #[.func (.func 103) #[] #[], .func (.func 103) #[] #[]] 41))
 refine (CO.out _ _ _ (HV.out.ext (XB.out.trans (B0.out.trans Y.out)) fun _ _ h => h) (AsksV.lit2 (heap_alloc_at HSZ.out _) (A_ex.out _ (XB.out.trans (B0.out.trans Y.out))) (A_ex.out _ (XB.out.trans (B0.out.trans Y.out))))).mono ?_
 rintro e w9 ⟨rfl, X9⟩
 have X9 := hid ((XB.out.trans (B0.out.trans Y.out)).trans X9)
 go_wp2_with fail
 go_ret
 exact ⟨rfl, X9.out⟩
theorem set_ask {f : Nat} (hf : f + 1 ≤ bigD) {ty ex st : Nd → Bool} (Q : Qs f ty ex st) (w : World) (hm : MaxL w) : AskV f (setB ex) w (.func (.func 152) #[] #[]) :=
 ⟨_, _, rfl, Go.Proofs.enters_of Tryz.func152 (by kernel_rfl) rfl, fun t ht W x X hx => set_any f hf Q t (by omega) x W (maxL_later hm X) hx⟩
theorem inc_any (f : Nat) (hf : f + 1 ≤ bigD) {ty ex st : Nd → Bool} (Q : Qs f ty ex st) (t : Nd) (ht : t.size ≤ f + 1) (v : Value) (w : World) (hm : MaxL w) (hv : NdV none' w t v) :
 Calls Tryz.prog 153 #[v] w (BoolP (incrB ex t) w) := by
 show Calls Tryz.prog 153 #[v] w (BoolP (namB incB 28 [ex] t) w)
 rw [← ofB_named incB 28 (by omega) [ex] t]
 have CN := hid fun W (X : Ext none' w W) => named_any incB t v _ W (by have := t.size_text; omega) (hv.ext X fun _ _ h => h) (inc1_so W)
 have CO := hid fun W v' u' (hv' : NdV none' W (namedP incB t) v') (hu' : AsksV f [ex] W u') => of_any f 28 [ex] (namedP incB t) v' u' W (named_len incB t (by omega)) (by simp) (fun i hi => named_kids1 ht i hi) hv' hu'
 obtain ⟨q, hq⟩ : ∃ q, ofB 28 [ex] (namedP incB t) = q := ⟨_, rfl⟩
 obtain ⟨r, hr⟩ : ∃ r, namedP incB t = r := ⟨_, rfl⟩
 rw [hq] at CO ⊢
 rw [hr] at CN CO
 have A_ex := hid fun W (X : Ext none' w W) => (show AskV f (ex) W (.func (.func 103) #[] #[]) from Q.expr W (maxL_later hm X))
 obtain ⟨y, rfl, hy⟩ := hv
 obtain ⟨a1, cap1, rfl, _⟩ := hy
 clear hq hr Q ht hm hf
 go_enter Tryz.func153, Tryz.ntmps153
 go_wp2_with fail
 refine (CN.out _ ((Ext.refl _ _).alloc _)).mono ?_
 rintro e w1 ⟨v', rfl, hv', X1⟩
 have HV' := hid hv'
 obtain ⟨y', rfl, hy'⟩ := hv'
 obtain ⟨a5, cap5, rfl, _⟩ := hy'
 have X1 := hid (((Ext.refl none' w).alloc _).trans X1)
 have V1 := hid (Ext.refl none' w1)
 go_wp2_with fail
 have Y := hid ((Ext.refl none' w1).alloc (.cells #[.func (.func 103) #[] #[]] 41))
 refine (CO.out _ _ _ (HV'.out.ext (V1.out.trans Y.out) fun _ _ h => h) (AsksV.lit1 (heap_alloc_at rfl _) (A_ex.out _ (X1.out.trans (V1.out.trans Y.out))))).mono ?_
 rintro e w9 ⟨rfl, X9⟩
 have X9 := hid ((X1.out.trans (V1.out.trans Y.out)).trans X9)
 go_wp2_with fail
 go_ret
 exact ⟨rfl, X9.out⟩
theorem inc_ask {f : Nat} (hf : f + 1 ≤ bigD) {ty ex st : Nd → Bool} (Q : Qs f ty ex st) (w : World) (hm : MaxL w) : AskV f (incrB ex) w (.func (.func 153) #[] #[]) :=
 ⟨_, _, rfl, Go.Proofs.enters_of Tryz.func153 (by kernel_rfl) rfl, fun t ht W x X hx => inc_any f hf Q t (by omega) x W (maxL_later hm X) hx⟩
theorem call1_any (f : Nat) (hf : f + 1 ≤ bigD) {ty ex st : Nd → Bool} (Q : Qs f ty ex st) (t : Nd) (ht : t.size ≤ f) (v : Value) (w : World) (hm : MaxL w) (hv : NdV none' w t v) :
 Calls Tryz.prog 187 #[v] w (BoolP (isCallB ex t) w) := by
 have CC := hid fun W (X : Ext none' w W) => Q.hex t ht v W (maxL_later hm X) (hv.ext X fun _ _ h => h)
 show Calls _ _ _ _ (BoolP (t.kind == 21 && ex t) w)
 obtain ⟨q, hq⟩ : ∃ q, ex t = q := ⟨_, rfl⟩
 rw [hq] at CC ⊢
 obtain ⟨y, rfl, hy⟩ := hv
 obtain ⟨a1, cap1, rfl, _⟩ := hy
 obtain ⟨tk, htk⟩ : ∃ k, t.kind = k := ⟨_, rfl⟩
 rw [htk] at CC ⊢
 clear hq htk Q ht hf
 by_cases h1 : tk = 21
 · have q1 : (tk == 21) = true := by simpa using h1
   rw [q1]
   clear h1
   go_enter Tryz.func187, Tryz.ntmps187
   go_wp2_with fail
   refine (CC.out _ ((Ext.refl _ _).alloc _)).mono ?_
   rintro e w1 ⟨rfl, X1⟩
   have X1 := hid (((Ext.refl none' w).alloc _).trans X1)
   go_wp2_with fail
   go_ret
   exact ⟨by simp, X1.out⟩
 · have q1 : (tk == 21) = false := by simpa using h1
   rw [q1]
   clear h1
   go_enter Tryz.func187, Tryz.ntmps187
   go_wp2_with fail
   go_ret
   exact ⟨by simp, (Ext.refl _ _).alloc _⟩
theorem call1_ask {f : Nat} (hf : f + 1 ≤ bigD) {ty ex st : Nd → Bool} (Q : Qs f ty ex st) (w : World) (hm : MaxL w) : AskV f (isCallB ex) w (.func (.func 187) #[] #[]) :=
 ⟨_, _, rfl, Go.Proofs.enters_of Tryz.func187 (by kernel_rfl) rfl, fun t ht W x X hx => call1_any f hf Q t ht x W (maxL_later hm X) hx⟩
theorem call_any (f : Nat) (hf : f + 1 ≤ bigD) {ty ex st : Nd → Bool} (Q : Qs f ty ex st) (t : Nd) (ht : t.size ≤ f + 1) (v : Value) (w : World) (hm : MaxL w) (hv : NdV none' w t v) :
 Calls Tryz.prog 154 #[v] w (BoolP (callB ex t) w) := by
 show Calls Tryz.prog 154 #[v] w (BoolP (ofB 29 [isCallB ex] t) w)
 have CO := hid fun W v' u' (hv' : NdV none' W t v') (hu' : AsksV f [isCallB ex] W u') => of_any f 29 [isCallB ex] t v' u' W (by have := t.kids_len; omega) (by simp) (fun i hi => by have := Nd.size_kid (t := t) (List.getElem_mem hi); omega) hv' hu'
 obtain ⟨q, hq⟩ : ∃ q, ofB 29 [isCallB ex] t = q := ⟨_, rfl⟩
 rw [hq] at CO ⊢
 have A_call1 := hid fun W (X : Ext none' w W) => (show AskV f (isCallB ex) W (.func (.func 187) #[] #[]) from call1_ask hf Q W (maxL_later hm X))
 have HV := hid hv
 obtain ⟨y, rfl, hy⟩ := hv
 obtain ⟨a1, cap1, rfl, _⟩ := hy
 clear hq Q ht hm hf
 obtain ⟨W0, hW0⟩ : ∃ W0, W0 = w.alloc (.cells #[.int .i64 t.kind, .string ⟨t.text.toArray⟩, .slice a1 t.kids.length cap1, .int .i64 t.pos] 24) := ⟨_, rfl⟩
 have XB := hid (show Ext none' w W0 by rw [hW0]; exact (Ext.refl _ _).alloc _)
 have B0 := hid (Ext.refl none' W0)
 have HSZ := hid (show w.heap.size + 1 = W0.heap.size by rw [hW0]; simp)
 go_enter Tryz.func154, Tryz.ntmps154
 go_wp2_with fail
 rw [← hW0]
 clear hW0
 have Y := hid ((Ext.refl none' W0).alloc (.cells #[.func (.func 187) #[] #[]] 41))
 refine (CO.out _ _ _ (HV.out.ext (XB.out.trans (B0.out.trans Y.out)) fun _ _ h => h) (AsksV.lit1 (heap_alloc_at HSZ.out _) (A_call1.out _ (XB.out.trans (B0.out.trans Y.out))))).mono ?_
 rintro e w9 ⟨rfl, X9⟩
 have X9 := hid ((XB.out.trans (B0.out.trans Y.out)).trans X9)
 go_wp2_with fail
 go_ret
 exact ⟨rfl, X9.out⟩
theorem call_ask {f : Nat} (hf : f + 1 ≤ bigD) {ty ex st : Nd → Bool} (Q : Qs f ty ex st) (w : World) (hm : MaxL w) : AskV f (callB ex) w (.func (.func 154) #[] #[]) :=
 ⟨_, _, rfl, Go.Proofs.enters_of Tryz.func154 (by kernel_rfl) rfl, fun t ht W x X hx => call_any f hf Q t (by omega) x W (maxL_later hm X) hx⟩
theorem if_any (f : Nat) (hf : f + 1 ≤ bigD) {ty ex st : Nd → Bool} (Q : Qs f ty ex st) (t : Nd) (ht : t.size ≤ f + 1) (v : Value) (w : World) (hm : MaxL w) (hv : NdV none' w t v) :
 Calls Tryz.prog 155 #[v] w (BoolP (ifsB ex st t) w) := by
 show Calls Tryz.prog 155 #[v] w (BoolP (ofB 30 [ex, blkB st, orB (orB (emptyB) (blkB st)) (ifB st)] t) w)
 have CO := hid fun W v' u' (hv' : NdV none' W t v') (hu' : AsksV f [ex, blkB st, orB (orB (emptyB) (blkB st)) (ifB st)] W u') => of_any f 30 [ex, blkB st, orB (orB (emptyB) (blkB st)) (ifB st)] t v' u' W (by have := t.kids_len; omega) (by simp) (fun i hi => by have := Nd.size_kid (t := t) (List.getElem_mem hi); omega) hv' hu'
 obtain ⟨q, hq⟩ : ∃ q, ofB 30 [ex, blkB st, orB (orB (emptyB) (blkB st)) (ifB st)] t = q := ⟨_, rfl⟩
 rw [hq] at CO ⊢
 have A_ex := hid fun W (X : Ext none' w W) => (show AskV f (ex) W (.func (.func 103) #[] #[]) from Q.expr W (maxL_later hm X))
 have A_blk := hid fun W (X : Ext none' w W) => (show AskV f (blkB st) W (.func (.func 139) #[] #[]) from block_ask hf Q W (maxL_later hm X))
 have A_empty := hid fun W (X : Ext none' w W) => (show AskV f (emptyB) W (.func (.func 156) #[] #[]) from empty_ask f W)
 have A_if := hid fun W (X : Ext none' w W) => (show AskV f (ifB st) W (.func (.func 155) #[] #[]) from Q.ifs W (maxL_later hm X))
 have HV := hid hv
 obtain ⟨y, rfl, hy⟩ := hv
 obtain ⟨a1, cap1, rfl, _⟩ := hy
 clear hq Q ht hm hf
 obtain ⟨W0, hW0⟩ : ∃ W0, W0 = w.alloc (.cells #[.int .i64 t.kind, .string ⟨t.text.toArray⟩, .slice a1 t.kids.length cap1, .int .i64 t.pos] 24) := ⟨_, rfl⟩
 have X0 := hid (show Ext none' w W0 by rw [hW0]; exact (Ext.refl _ _).alloc _)
 have G0 := hid (show W0.heap[w.heap.size]? = some (.cells #[.int .i64 t.kind, .string ⟨t.text.toArray⟩, .slice a1 t.kids.length cap1, .int .i64 t.pos] 24 (0, 0)) by rw [hW0]; exact heap_alloc_at rfl _)
 go_enter Tryz.func155, Tryz.ntmps155
 go_upto_region 1 with (fail)
 rw [← hW0]
 clear hW0
 obtain ⟨y0, y1, y2, y3⟩ := cell4L fun t' : LaterF none' W0 => t'.x.heap G0.out fun h => h
 refine region_q none' W0 (.qs [0] (.one 1 true (.one 2 true (.one 3 true (.one 4 false (.one 5 false .fin)))))) (by kernel_rfl) (by kernel_rfl) (fun dst v c a w h => by cases dst <;> exact h) ?_
 refine ⟨In.of (Ext.refl _ _).drew, ?_⟩
 change wpQuiet _ _ (fun w' => ∃ t : LaterF none' W0, w' = t.w) _ _ _
 simp only [sel, List.getElem?_cons_succ, List.getElem?_cons_zero]
 repeat (go_big_quiet_step (fail))
 refine wpQuiet_nil ?_
 simp only [wpTreeQ, stepT, sel, List.getElem?_cons_succ, List.getElem?_cons_zero]
 have D1 := hid (Ext.refl none' W0).drew
 clear y0 y1 y2 y3
 go_wp2_with fail
 refine (or_any f (emptyB) (blkB st) _ _ _ (A_empty.out _ (X0.out.trans D1.out)) (A_blk.out _ (X0.out.trans D1.out))).mono ?_
 rintro e z1 ⟨u1, rfl, hu1, E1⟩
 have U1 := hid (show AskV f (orB (emptyB) (blkB st)) z1 u1 from hu1)
 obtain ⟨fn1, fcaps1, rfl, _⟩ := hu1
 have E1 := hid E1
 have T1 := hid (D1.out.trans E1.out)
 go_wp2_with fail
 refine ⟨In.of T1.out, ?_⟩
 go_wp2_with fail
 refine (or_any f (orB (emptyB) (blkB st)) (ifB st) _ _ _ (U1.out.ext (Ext.refl _ _)) (A_if.out _ (X0.out.trans T1.out))).mono ?_
 rintro e z2 ⟨u2, rfl, hu2, E2⟩
 have U2 := hid (show AskV f (orB (orB (emptyB) (blkB st)) (ifB st)) z2 u2 from hu2)
 obtain ⟨fn2, fcaps2, rfl, _⟩ := hu2
 have E2 := hid E2
 have T2 := hid (T1.out.trans E2.out)
 go_wp2_with fail
 refine ⟨In.of T2.out, ?_⟩
 go_wp2_with fail
 have Y := hid ((Ext.refl none' z2).alloc (.cells #[.func (.func 103) #[] #[], .func (.func 139) #[] #[], .func (.func fn2) #[] fcaps2] 41))
 refine ⟨In.of (T2.out.trans Y.out), ?_⟩
 go_wp2_with fail
 refine (CO.out _ _ _ (HV.out.ext (X0.out.trans (T2.out.trans Y.out)) fun _ _ h => h) (AsksV.lit3 (heap_alloc_at rfl _) (A_ex.out _ (X0.out.trans (T2.out.trans Y.out))) (A_blk.out _ (X0.out.trans (T2.out.trans Y.out))) (U2.out.ext Y.out))).mono ?_
 rintro e w9 ⟨rfl, X9⟩
 have X9 := hid ((X0.out.trans (T2.out.trans Y.out)).trans X9)
 go_wp2_with fail
 go_ret
 exact ⟨rfl, X9.out⟩
end Go.Proofs.YthbmjamgidfneaaGreatDoor
