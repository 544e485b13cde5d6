import Derived.Test.YthbmjamgidfneaaGreatDoorYAa
import Derived.Test.YthbmjamgidfneaaGreatDoorYAd
import Derived.Test.YthbmjamgidfneaaGreatDoorYAk
set_option maxRecDepth 100000
set_option maxHeartbeats 6400000
namespace Go.Proofs.YthbmjamgidfneaaGreatDoor
open Go.RowKit Go.Lib Go.BigFrame
set_option linter.unusedVariables false
set_option linter.unusedSimpArgs false
theorem re_lit (f : Nat) (hf : f + 1 ≤ bigD) (ty ex st : Nd → Bool) (H : RTyH f ty) (HE : RExH f ex) (HS : RStH f st) (HTY : ∀ t, ty t = true → t.kind = 10 ∨ t.kind = 11 ∨ t.kind = 12) (t : Nd) (ht : t.size ≤ f + 1) (hk : t.kind = 24) (v : Value) (w : World) (hv : NdV none' w t v) :
 Calls Tryz.prog 34 #[v] w (BoolP (t.text == [] && (!t.kids.isEmpty && ((t.kid 0).kind != 12 && (ty (t.kid 0) && (t.kids.drop 1).all ex)))) w) := by
 obtain ⟨a1, cap1, rfl, hcap, HV, HY⟩ := nd_open hv
 have hkl : t.kids.length ≤ 4000000000 := by have := t.kids_len; unfold bigD at hf; omega
 obtain ⟨r, hr⟩ : ∃ r, r = (t.text == [] && (!t.kids.isEmpty && ((t.kid 0).kind != 12 && (ty (t.kid 0) && (t.kids.drop 1).all ex)))) := ⟨_, rfl⟩
 rw [← hr]
 have HH := hid H
 have HHE := hid HE
 have HHS := hid HS
 replace hr := hr.trans (rfl)
 obtain ⟨tx, htx⟩ : ∃ k, t.text = k := ⟨_, rfl⟩
 rw [hk, htx] at HV
 rw [hk, htx]
 try rw [htx] at hr
 rw [some_kids] at hr
 have HR := hid hr
 have HTX := hid htx
 have HT := hid ht
 have HF := hid hf
 obtain ⟨B, W0, hB, hW0, X0, G0⟩ := boxed w (.cells #[.int .i64 24, .string ⟨tx.toArray⟩, .slice a1 t.kids.length cap1, .int .i64 t.pos] 24)
 have XX := hid (Ext.refl none' W0)
 clear hr htx ht hf hk H HE HS
 go_enter Tryz.func34, Tryz.ntmps34
 go_upto_region 1 with (fail)
 rw [← hW0, ← hB]
 clear hW0 hB
 obtain ⟨c0, c1, c2, c3⟩ := cellx XX.out G0.out
 by_cases h501 : tx = []
 case neg =>
  have q1501 : (tx == []) = false := by simpa using h501
  have q2501 : (tx != []) = true := by simpa using h501
  have q3501 : tx.isEmpty = false := by simpa using h501
  have E : Hid (r = false) := hid (by first | exact HR.out | (rw [HR.out]; simp [h501]))
  go_wp2_with fail
  go_ret
  exact ⟨by rw [E.out]; rfl, X0.out.trans XX.out⟩
 have q1501 : (tx == []) = true := by simpa using h501
 have q2501 : (tx != []) = false := by simp [h501]
 have q3501 : tx.isEmpty = true := by simpa using h501
 by_cases h502 : 0 < t.kids.length
 case neg =>
  have y1502 : ¬ 0 < t.kids.length := by omega
  have y2502 : ¬ 0 < ((t.kids.length : Nat) : Int) := by omega
  have y3502 : decide (0 < ((t.kids.length : Nat) : Int)) = false := by rw [decide_eq_false_iff_not]; omega
  have E : Hid (r = false) := hid (by first | exact HR.out | (rw [HR.out]; simp [h501, h502]))
  go_wp2_with fail
  go_ret
  exact ⟨by rw [E.out]; rfl, X0.out.trans XX.out⟩
 have y1502 : 0 < t.kids.length := by omega
 have y2502 : 0 < ((t.kids.length : Nat) : Int) := by omega
 have y3502 : decide (0 < ((t.kids.length : Nat) : Int)) = true := by rw [decide_eq_true_iff]; omega
 obtain ⟨b, off, ka0, kc0, rfl, HBW, HZ0, KK0⟩ := kidA (HY.out.ext isNd_good X0.out fun _ _ h => h) (by omega)
 have C0 := hid fun W (X : Ext none' W0 W) => HH.out (t.kid 0) (show (t.kid 0).size ≤ f from by have := kid_size (t := t) (i := 0) (by omega); have := HT.out; omega) _ W (ndvx HZ0.out X)
 obtain ⟨b0, hb0⟩ : ∃ b, ty (t.kid 0) = b := ⟨_, rfl⟩
 rw [hb0] at C0 HR
 obtain ⟨m00, m01, m02, m03⟩ := kid' XX.out HBW.out KK0.out
 have HB0 := hid hb0
 have CO := hid fun W (X : Ext none' W0 W) v' (hs : IsSl 4 IsNd none' W v' (t.kids.drop 1)) => rexprs_any f ex HHE.out (t.kids.drop 1) (fun x hx => by have := Nd.size_kid (List.mem_of_mem_drop hx); have := HT.out; omega) (by rw [List.length_drop]; omega) v' W hs
 obtain ⟨bo, hbo⟩ : ∃ b, (t.kids.drop 1).all ex = b := ⟨_, rfl⟩
 rw [hbo] at CO HR
 clear hbo
 by_cases h503 : (t.kid 0).kind = 10
 case neg =>
  have q1503 : ((t.kid 0).kind == 10) = false := by simpa using h503
  have q2503 : ((t.kid 0).kind != 10) = true := by simpa using h503
  by_cases h504 : (t.kid 0).kind = 11
  case neg =>
   have q1504 : ((t.kid 0).kind == 11) = false := by simpa using h504
   have q2504 : ((t.kid 0).kind != 11) = true := by simpa using h504
   have E : Hid (r = false) := hid (by
    rw [HR.out]
    by_cases h12 : (t.kid 0).kind = 12
    · simp [h12]
    · cases b0 with
      | false => simp
      | true => exact absurd (HTY _ HB0.out) (by omega))
   go_wp2_with fail
   go_ret
   exact ⟨by rw [E.out]; rfl, X0.out.trans XX.out⟩
  have q1504 : ((t.kid 0).kind == 11) = true := by simpa using h504
  have q2504 : ((t.kid 0).kind != 11) = false := by simp [h504]
  have H504 := hid h504
  clear h504
  go_wp2_with fail
  refine (C0.out _ XX.out).mono ?_
  rintro e w505 ⟨rfl, X⟩
  have XX := hid (XX.out.trans X)
  clear X c0 c1 c2 c3 m00 m01 m02 m03
  cases b0
  case false =>
   obtain ⟨c0, c1, c2, c3⟩ := cellx XX.out G0.out
   obtain ⟨m00, m01, m02, m03⟩ := kid' XX.out HBW.out KK0.out
   have E : Hid (r = false) := hid (by first | exact HR.out | (rw [HR.out]; simp [h501, h502, h503, H504.out]))
   go_wp2_with fail
   go_ret
   exact ⟨by rw [E.out]; rfl, X0.out.trans XX.out⟩
  obtain ⟨c0, c1, c2, c3⟩ := cellx XX.out G0.out
  obtain ⟨m00, m01, m02, m03⟩ := kid' XX.out HBW.out KK0.out
  by_cases hc1 : cap1 = 1
  case pos =>
   subst hc1
   have hl1 : Hid (t.kids.drop 1 = []) := hid (List.drop_eq_nil_of_le (by omega))
   go_wp2_with fail
   refine (CO.out _ XX.out _ (by rw [hl1.out]; exact IsSl.gone')).mono ?_
   rintro e w99 ⟨rfl, X⟩
   have XX := hid (XX.out.trans X)
   clear X c0 c1 c2 c3 m00 m01 m02 m03
   have E : Hid (r = bo) := hid (by rw [HR.out]; simp [h501, h502, H504.out])
   go_wp2_with fail
   go_ret
   exact ⟨by rw [E.out]; rfl, X0.out.trans XX.out⟩
  case neg =>
   go_wp2_with fail
   refine (CO.out _ XX.out _ ((HY.out.ext isNd_good (X0.out.trans XX.out) fun _ _ h => h).drop1 (by omega))).mono ?_
   rintro e w99 ⟨rfl, X⟩
   have XX := hid (XX.out.trans X)
   clear X c0 c1 c2 c3 m00 m01 m02 m03
   have E : Hid (r = bo) := hid (by rw [HR.out]; simp [h501, h502, H504.out])
   go_wp2_with fail
   go_ret
   exact ⟨by rw [E.out]; rfl, X0.out.trans XX.out⟩
 have q1503 : ((t.kid 0).kind == 10) = true := by simpa using h503
 have q2503 : ((t.kid 0).kind != 10) = false := by simp [h503]
 have H503 := hid h503
 clear h503
 go_wp2_with fail
 refine (C0.out _ XX.out).mono ?_
 rintro e w506 ⟨rfl, X⟩
 have XX := hid (XX.out.trans X)
 clear X c0 c1 c2 c3 m00 m01 m02 m03
 cases b0
 case false =>
  obtain ⟨c0, c1, c2, c3⟩ := cellx XX.out G0.out
  obtain ⟨m00, m01, m02, m03⟩ := kid' XX.out HBW.out KK0.out
  have E : Hid (r = false) := hid (by first | exact HR.out | (rw [HR.out]; simp [h501, h502, H503.out]))
  go_wp2_with fail
  go_ret
  exact ⟨by rw [E.out]; rfl, X0.out.trans XX.out⟩
 obtain ⟨c0, c1, c2, c3⟩ := cellx XX.out G0.out
 obtain ⟨m00, m01, m02, m03⟩ := kid' XX.out HBW.out KK0.out
 by_cases hc1 : cap1 = 1
 case pos =>
  subst hc1
  have hl1 : Hid (t.kids.drop 1 = []) := hid (List.drop_eq_nil_of_le (by omega))
  go_wp2_with fail
  refine (CO.out _ XX.out _ (by rw [hl1.out]; exact IsSl.gone')).mono ?_
  rintro e w99 ⟨rfl, X⟩
  have XX := hid (XX.out.trans X)
  clear X c0 c1 c2 c3 m00 m01 m02 m03
  have E : Hid (r = bo) := hid (by rw [HR.out]; simp [h501, h502, H503.out])
  go_wp2_with fail
  go_ret
  exact ⟨by rw [E.out]; rfl, X0.out.trans XX.out⟩
 case neg =>
  go_wp2_with fail
  refine (CO.out _ XX.out _ ((HY.out.ext isNd_good (X0.out.trans XX.out) fun _ _ h => h).drop1 (by omega))).mono ?_
  rintro e w99 ⟨rfl, X⟩
  have XX := hid (XX.out.trans X)
  clear X c0 c1 c2 c3 m00 m01 m02 m03
  have E : Hid (r = bo) := hid (by rw [HR.out]; simp [h501, h502, H503.out])
  go_wp2_with fail
  go_ret
  exact ⟨by rw [E.out]; rfl, X0.out.trans XX.out⟩
theorem re_idx (f : Nat) (hf : f + 1 ≤ bigD) (ty ex st : Nd → Bool) (H : RTyH f ty) (HE : RExH f ex) (HS : RStH f st) (t : Nd) (ht : t.size ≤ f + 1) (hk : t.kind = 22) (v : Value) (w : World) (hv : NdV none' w t v) :
 Calls Tryz.prog 34 #[v] w (BoolP (t.text == [] && (decide (1 < t.kids.length) && (ex (t.kid 0) && (t.kids.drop 1).all (argB ty ex)))) w) := by
 obtain ⟨a1, cap1, rfl, hcap, HV, HY⟩ := nd_open hv
 have hkl : t.kids.length ≤ 4000000000 := by have := t.kids_len; unfold bigD at hf; omega
 obtain ⟨r, hr⟩ : ∃ r, r = (t.text == [] && (decide (1 < t.kids.length) && (ex (t.kid 0) && (t.kids.drop 1).all (argB ty ex)))) := ⟨_, rfl⟩
 rw [← hr]
 have HH := hid H
 have HHE := hid HE
 have HHS := hid HS
 replace hr := hr.trans (rfl)
 obtain ⟨tx, htx⟩ : ∃ k, t.text = k := ⟨_, rfl⟩
 rw [hk, htx] at HV
 rw [hk, htx]
 try rw [htx] at hr
 have HR := hid hr
 have HTX := hid htx
 have HT := hid ht
 have HF := hid hf
 obtain ⟨B, W0, hB, hW0, X0, G0⟩ := boxed w (.cells #[.int .i64 22, .string ⟨tx.toArray⟩, .slice a1 t.kids.length cap1, .int .i64 t.pos] 24)
 have XX := hid (Ext.refl none' W0)
 clear hr htx ht hf hk H HE HS
 go_enter Tryz.func34, Tryz.ntmps34
 go_upto_region 1 with (fail)
 rw [← hW0, ← hB]
 clear hW0 hB
 obtain ⟨c0, c1, c2, c3⟩ := cellx XX.out G0.out
 by_cases h601 : tx = []
 case neg =>
  have q1601 : (tx == []) = false := by simpa using h601
  have q2601 : (tx != []) = true := by simpa using h601
  have q3601 : tx.isEmpty = false := by simpa using h601
  have E : Hid (r = false) := hid (by first | exact HR.out | (rw [HR.out]; simp [h601]))
  go_wp2_with fail
  go_ret
  exact ⟨by rw [E.out]; rfl, X0.out.trans XX.out⟩
 have q1601 : (tx == []) = true := by simpa using h601
 have q2601 : (tx != []) = false := by simp [h601]
 have q3601 : tx.isEmpty = true := by simpa using h601
 by_cases h602 : 1 < t.kids.length
 case neg =>
  have y1602 : ¬ 1 < t.kids.length := by omega
  have y2602 : ¬ 1 < ((t.kids.length : Nat) : Int) := by omega
  have y3602 : decide (1 < ((t.kids.length : Nat) : Int)) = false := by rw [decide_eq_false_iff_not]; omega
  have y1b : t.kids.length < 2 := by omega
  have y2b : ((t.kids.length : Nat) : Int) < 2 := by omega
  have y3b : decide (((t.kids.length : Nat) : Int) < 2) = true := by rw [decide_eq_true_iff]; omega
  have E : Hid (r = false) := hid (by first | exact HR.out | (rw [HR.out]; simp [h601, h602]))
  go_wp2_with fail
  go_ret
  exact ⟨by rw [E.out]; rfl, X0.out.trans XX.out⟩
 have y1602 : 1 < t.kids.length := by omega
 have y2602 : 1 < ((t.kids.length : Nat) : Int) := by omega
 have y3602 : decide (1 < ((t.kids.length : Nat) : Int)) = true := by rw [decide_eq_true_iff]; omega
 have y1b : ¬ t.kids.length < 2 := by omega
 have y2b : ¬ ((t.kids.length : Nat) : Int) < 2 := by omega
 have y3b : decide (((t.kids.length : Nat) : Int) < 2) = false := by rw [decide_eq_false_iff_not]; omega
 obtain ⟨b, off, ka0, kc0, rfl, HBW, HZ0, KK0⟩ := kidA (HY.out.ext isNd_good X0.out fun _ _ h => h) (by omega)
 have C0 := hid fun W (X : Ext none' W0 W) => HHE.out (t.kid 0) (show (t.kid 0).size ≤ f from by have := kid_size (t := t) (i := 0) (by omega); have := HT.out; omega) _ W (ndvx HZ0.out X)
 obtain ⟨b0, hb0⟩ : ∃ b, ex (t.kid 0) = b := ⟨_, rfl⟩
 rw [hb0] at C0 HR
 clear hb0
 obtain ⟨m00, m01, m02, m03⟩ := kid' XX.out HBW.out KK0.out
 go_wp2_with fail
 refine (C0.out _ XX.out).mono ?_
 rintro e w603 ⟨rfl, X⟩
 have XX := hid (XX.out.trans X)
 clear X c0 c1 c2 c3 m00 m01 m02 m03
 cases b0
 case false =>
  obtain ⟨c0, c1, c2, c3⟩ := cellx XX.out G0.out
  obtain ⟨m00, m01, m02, m03⟩ := kid' XX.out HBW.out KK0.out
  have E : Hid (r = false) := hid (by first | exact HR.out | (rw [HR.out]; simp [h601, h602]))
  go_wp2_with fail
  go_ret
  exact ⟨by rw [E.out]; rfl, X0.out.trans XX.out⟩
 obtain ⟨c0, c1, c2, c3⟩ := cellx XX.out G0.out
 obtain ⟨m00, m01, m02, m03⟩ := kid' XX.out HBW.out KK0.out
 have hx0 := hid h601
 have HR := hid (show r = (t.kids.drop 1).all (argB ty ex) by rw [HR.out]; simp [h601, h602])
 have HL1 := hid h602
 clear h601 h602
 go_wp2_with fail
 clear c0 c1 c2 c3 m00 m01 m02 m03
 go_loopw [4] (fun z wr => ∃ (i : Nat), z = .int .i64 (i : Nat) ∧ 1 ≤ i ∧ i ≤ t.kids.length ∧ Hid (Ext none' W0 wr ∧ ∀ j (h : j < t.kids.length), 1 ≤ j → j < i → argB ty ex t.kids[j] = true)) (fun z _ => t.kids.length - (RowKit.intOf z).toNat)
 case atStart => exact ⟨1, rfl, by omega, by have := HL1.out; omega, hid ⟨XX.out, fun j _ h1 h => by omega⟩⟩
 case round =>
  obtain ⟨i, rfl, hge, hle, RR⟩ := hrel
  by_cases hi : i < t.kids.length
  · obtain ⟨b5, off5, cs5, e5, _, hw5, hcc5, ht5⟩ := (HY.out.ext isNd_good (X0.out.trans RR.out.1) fun _ _ h => h).at i hi
    injection e5 with e5
    injection e5 with e5 e6 _
    subst e5 e6
    obtain ⟨x5, rfl, hx5⟩ := ht5.parts
    have d0 := hcc5 0 _ rfl
    have d1 := hcc5 1 _ rfl
    have d2 := hcc5 2 _ rfl
    have d3 := hcc5 3 _ rfl
    simp only [Nat.add_zero] at d0
    have hmem := List.getElem_mem hi
    have hps : t.kids[i].size ≤ f := by have := Nd.size_kid hmem; have := HT.out; omega
    have HX5 := hid hx5
    obtain ⟨a6, cap6, rfl, _⟩ := hx5
    have CQ := hid (HHE.out t.kids[i] hps (.agg #[.int .i64 t.kids[i].kind, .string ⟨t.kids[i].text.toArray⟩, .slice a6 t.kids[i].kids.length cap6, .int .i64 t.kids[i].pos]) wr ⟨_, rfl, HX5.out⟩)
    have CT := hid fun W (X : Ext none' wr W) => HH.out t.kids[i] hps (.agg #[.int .i64 t.kids[i].kind, .string ⟨t.kids[i].text.toArray⟩, .slice a6 t.kids[i].kids.length cap6, .int .i64 t.kids[i].pos]) W ⟨_, rfl, HX5.out.ext isNd_good X fun _ _ h => h⟩
    obtain ⟨q, hq⟩ : ∃ q, ex t.kids[i] = q := ⟨_, rfl⟩
    obtain ⟨qt, hqt⟩ : ∃ q, ty t.kids[i] = q := ⟨_, rfl⟩
    obtain ⟨pk, hpk⟩ : ∃ q, t.kids[i].kind = q := ⟨_, rfl⟩
    rw [hq] at CQ
    rw [hqt] at CT
    have HA := hid (show argB ty ex t.kids[i] = (q || (pk != 10 && qt)) by unfold argB; rw [hq, hqt, hpk])
    rw [hpk] at CQ CT d0
    have HDR := hid (show argB ty ex t.kids[i] = false → r = false from fun h => by
     rw [HR.out, List.all_eq_false]
     refine ⟨t.kids[i], ?_, by rw [h]; simp⟩
     rw [List.mem_iff_getElem]
     exact ⟨i - 1, by rw [List.length_drop]; omega, by rw [List.getElem_drop]; congr 1; omega⟩)
    have HGO := hid (show argB ty ex t.kids[i] = true → ∀ j (h : j < t.kids.length), 1 ≤ j → j < i + 1 → argB ty ex t.kids[j] = true from fun hh j h h1 hj => by
     by_cases e : j = i
     · subst e; exact hh
     · exact RR.out.2 j h h1 (by omega))
    obtain ⟨p, hp⟩ : ∃ p, t.kids[i] = p := ⟨_, rfl⟩
    rw [hp] at d1 d2 d3 CQ CT HA HDR HGO
    have HW5 := hid hw5
    have D0 := hid d0
    clear hcc5 ht5 hq hqt hpk hmem hp HX5 hps hw5
    go_wp2_with fail
    refine CQ.out.mono ?_
    rintro e W5 ⟨rfl, X5⟩
    have XR := hid (RR.out.1.trans X5)
    have X5 := hid X5
    have k0 := (X5.out.cell (p := ⟨b, off + i * 4, none⟩) HW5.out (fun h => h)).trans d0
    have k1 := (X5.out.cell (p := ⟨b, off + i * 4 + 1, none⟩) HW5.out (fun h => h)).trans d1
    have k2 := (X5.out.cell (p := ⟨b, off + i * 4 + 2, none⟩) HW5.out (fun h => h)).trans d2
    have k3 := (X5.out.cell (p := ⟨b, off + i * 4 + 3, none⟩) HW5.out (fun h => h)).trans d3
    clear d0 d1 d2 d3
    cases q
    case true =>
     have N : Hid (Ext none' W0 W5 ∧ ∀ j (h : j < t.kids.length), 1 ≤ j → j < i + 1 → argB ty ex t.kids[j] = true) := hid ⟨XR.out, HGO.out (by rw [HA.out]; rfl)⟩
     go_wp2_with fail
     go_roundw
     case rel => exact ⟨i + 1, by go_num, by omega, by omega, N⟩
     case measure => simp [RowKit.intOf]; omega
    by_cases h10 : pk = 10
    case pos =>
     have q1 : (pk == 10) = true := by simpa using h10
     have q2 : (pk != 10) = false := by simp [h10]
     have E : Hid (r = false) := hid (HDR.out (by rw [HA.out, q2]; rfl))
     clear h10
     go_wp2_with fail
     go_ret
     exact ⟨by rw [E.out]; rfl, X0.out.trans XR.out⟩
    have q1 : (pk == 10) = false := by simpa using h10
    have q2 : (pk != 10) = true := by simpa using h10
    clear h10
    go_wp2_with fail
    refine (CT.out _ X5.out).mono ?_
    rintro e W6 ⟨rfl, X6⟩
    have XR := hid (XR.out.trans X6)
    clear k0 k1 k2 k3 X6
    cases qt
    case false =>
     have E : Hid (r = false) := hid (HDR.out (by rw [HA.out, q2]; rfl))
     go_wp2_with fail
     go_ret
     exact ⟨by rw [E.out]; rfl, X0.out.trans XR.out⟩
    have N : Hid (Ext none' W0 W6 ∧ ∀ j (h : j < t.kids.length), 1 ≤ j → j < i + 1 → argB ty ex t.kids[j] = true) := hid ⟨XR.out, HGO.out (by rw [HA.out, q2]; rfl)⟩
    go_wp2_with fail
    go_roundw
    case rel => exact ⟨i + 1, by go_num, by omega, by omega, N⟩
    case measure => simp [RowKit.intOf]; omega
  · have E : Hid (r = true) := hid (by
     rw [HR.out, List.all_eq_true]
     intro y hy
     obtain ⟨j, hj, rfl⟩ := List.mem_iff_getElem.1 hy
     rw [List.length_drop] at hj
     rw [List.getElem_drop]
     exact RR.out.2 (1 + j) (by omega) (by omega) (by omega))
    obtain rfl : i = t.kids.length := by omega
    go_wp2_with fail
    go_ret
    exact ⟨by rw [E.out]; rfl, X0.out.trans RR.out.1⟩
theorem re_none (f : Nat) (hf : f + 1 ≤ bigD) (ty ex st : Nd → Bool) (H : RTyH f ty) (HE : RExH f ex) (HS : RStH f st)  (t : Nd) (h16 : t.kind ≠ 16) (h17 : t.kind ≠ 17) (h18 : t.kind ≠ 18) (h19 : t.kind ≠ 19) (h20 : t.kind ≠ 20) (h21 : t.kind ≠ 21) (h22 : t.kind ≠ 22) (h23 : t.kind ≠ 23) (h24 : t.kind ≠ 24) (h25 : t.kind ≠ 25) (ht : t.size ≤ f + 1) (v : Value) (w : World) (hv : NdV none' w t v) :
 Calls Tryz.prog 34 #[v] w (BoolP (false) w) := by
 obtain ⟨a1, cap1, rfl, hcap, HV, HY⟩ := nd_open hv
 have hkl : t.kids.length ≤ 4000000000 := by have := t.kids_len; unfold bigD at hf; omega
 obtain ⟨r, hr⟩ : ∃ r, r = false := ⟨_, rfl⟩
 rw [← hr]
 have HH := hid H
 have HHE := hid HE
 have HHS := hid HS
 obtain ⟨tk, htk⟩ : ∃ k, t.kind = k := ⟨_, rfl⟩
 obtain ⟨tx, htx⟩ : ∃ k, t.text = k := ⟨_, rfl⟩
 rw [htk, htx] at HV
 rw [htk, htx]
 try rw [htk] at hr
 try rw [htx] at hr
 rw [htk] at h16 h17 h18 h19 h20 h21 h22 h23 h24 h25
 have q1_16 : (tk == 16) = false := by simpa using h16
 have q2_16 : (tk != 16) = true := by simpa using h16
 have q1_17 : (tk == 17) = false := by simpa using h17
 have q2_17 : (tk != 17) = true := by simpa using h17
 have q1_18 : (tk == 18) = false := by simpa using h18
 have q2_18 : (tk != 18) = true := by simpa using h18
 have q1_19 : (tk == 19) = false := by simpa using h19
 have q2_19 : (tk != 19) = true := by simpa using h19
 have q1_20 : (tk == 20) = false := by simpa using h20
 have q2_20 : (tk != 20) = true := by simpa using h20
 have q1_21 : (tk == 21) = false := by simpa using h21
 have q2_21 : (tk != 21) = true := by simpa using h21
 have q1_22 : (tk == 22) = false := by simpa using h22
 have q2_22 : (tk != 22) = true := by simpa using h22
 have q1_23 : (tk == 23) = false := by simpa using h23
 have q2_23 : (tk != 23) = true := by simpa using h23
 have q1_24 : (tk == 24) = false := by simpa using h24
 have q2_24 : (tk != 24) = true := by simpa using h24
 have q1_25 : (tk == 25) = false := by simpa using h25
 have q2_25 : (tk != 25) = true := by simpa using h25
 have HR := hid hr
 have HTK := hid htk
 have HTX := hid htx
 have HT := hid ht
 have HF := hid hf
 obtain ⟨B, W0, hB, hW0, X0, G0⟩ := boxed w (.cells #[.int .i64 tk, .string ⟨tx.toArray⟩, .slice a1 t.kids.length cap1, .int .i64 t.pos] 24)
 have XX := hid (Ext.refl none' W0)
 clear hr htk htx ht hf H HE HS h16 h17 h18 h19 h20 h21 h22 h23 h24 h25
 go_enter Tryz.func34, Tryz.ntmps34
 go_upto_region 1 with (fail)
 rw [← hW0, ← hB]
 clear hW0 hB
 obtain ⟨c0, c1, c2, c3⟩ := cellx XX.out G0.out
 have E : Hid (r = false) := hid (by first | exact HR.out | (rw [HR.out]; simp []))
 go_wp2_with fail
 go_ret
 exact ⟨by rw [E.out]; rfl, X0.out.trans XX.out⟩
theorem ofB_not {k : Int} {ps : List (Nd → Bool)} {t : Nd} (h : t.kind ≠ k) : ofB k ps t = false := by
 unfold ofB
 rw [show (t.kind == k) = false by simpa using h]
 rfl
theorem rexpr_step (f : Nat) (hf : f + 1 ≤ bigD) (ty ex st : Nd → Bool) (H : RTyH f ty) (HE : RExH f ex) (HS : RStH f st) (HTY : ∀ t, ty t = true → t.kind = 10 ∨ t.kind = 11 ∨ t.kind = 12) : RExH (f + 1) (exB ty ex st) := by
 intro t ht v w hv
 unfold exB
 by_cases h16 : t.kind = 16; · rw [if_pos h16]; exact re_int f hf ty ex st H HE HS t ht h16 v w hv
 rw [if_neg h16]
 by_cases h17 : t.kind = 17; · rw [if_pos h17]; exact re_str f hf ty ex st H HE HS t ht h17 v w hv
 rw [if_neg h17]
 by_cases h18 : t.kind = 18; · rw [if_pos h18]; exact re_name f hf ty ex st H HE HS t ht h18 v w hv
 rw [if_neg h18]
 by_cases h19 : t.kind = 19; · rw [if_pos h19]; exact re_unary f hf ty ex st H HE HS t ht h19 v w hv
 rw [if_neg h19]
 by_cases h20 : t.kind = 20; · rw [if_pos h20]; exact re_binary f hf ty ex st H HE HS t ht h20 v w hv
 rw [if_neg h20]
 by_cases h21 : t.kind = 21; · rw [if_pos h21]; exact re_call f hf ty ex st H HE HS t ht h21 v w hv
 rw [if_neg h21]
 by_cases h22 : t.kind = 22; · rw [if_pos h22]; exact re_idx f hf ty ex st H HE HS t ht h22 v w hv
 rw [if_neg h22]
 by_cases h23 : t.kind = 23; · rw [if_pos h23]; exact re_field f hf ty ex st H HE HS t ht h23 v w hv
 rw [if_neg h23]
 by_cases h24 : t.kind = 24; · rw [if_pos h24]; exact re_lit f hf ty ex st H HE HS HTY t ht h24 v w hv
 rw [if_neg h24]
 by_cases h25 : t.kind = 25; · exact re_func f hf ty ex st H HE HS t ht h25 v w hv
 rw [ofB_not h25]
 exact re_none f hf ty ex st H HE HS t h16 h17 h18 h19 h20 h21 h22 h23 h24 h25 ht v w hv
end Go.Proofs.YthbmjamgidfneaaGreatDoor
