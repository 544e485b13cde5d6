import Derived.Test.YthbmjamgidfneaaGreatDoorYAa
import Derived.Test.YthbmjamgidfneaaGreatDoorYAd
import Derived.Test.YthbmjamgidfneaaGreatDoorYAj
set_option maxRecDepth 100000
set_option maxHeartbeats 6400000
namespace Go.Proofs.YthbmjamgidfneaaGreatDoor
open Go.RowKit Go.Lib Go.BigFrame
set_option linter.unusedVariables false
set_option linter.unusedSimpArgs false
theorem IsSl.gone' {α : Type} {sz : Nat} {R : Lay α} {A : Nat → Prop} {w : World} {a : Addr} : IsSl sz R A w (.slice (some a) 0 0) [] := ⟨_, 0, rfl, Nat.le_refl _, (fun h => by cases h), fun h => absurd rfl h⟩
theorem two_all {p : Nd → Bool} {t : Nd} : (t.kids.length == 2 && (p (t.kid 0) && p (t.kid 1))) = (t.kids.length == 2 && t.kids.all p) := by
 unfold Nd.kid
 match t.kids with
 | [] => rfl
 | [x] => rfl
 | [x, y] => simp
 | x :: y :: z :: r => simp
theorem some_kids {t : Nd} : (!t.kids.isEmpty) = decide (0 < t.kids.length) := by cases t.kids <;> simp
theorem re_int (f : Nat) (hf : f + 1 ≤ bigD) (ty ex st : Nd → Bool) (H : RTyH f ty) (HE : RExH f ex) (HS : RStH f st) (t : Nd) (ht : t.size ≤ f + 1) (hk : t.kind = 16) (v : Value) (w : World) (hv : NdV none' w t v) :
 Calls Tryz.prog 34 #[v] w (BoolP (namB plainP 16 [] t) w) := by
 obtain ⟨a1, cap1, rfl, hcap, HV, HY⟩ := nd_open hv
 have hkl : t.kids.length ≤ 4000000000 := by have := t.kids_len; unfold bigD at hf; omega
 obtain ⟨r, hr⟩ : ∃ r, r = (namB plainP 16 [] t) := ⟨_, rfl⟩
 rw [← hr]
 have HH := hid H
 have HHE := hid HE
 have HHS := hid HS
 replace hr := hr.trans ((nam_chain hk).trans (congrArg _ kids0_chain))
 obtain ⟨tx, htx⟩ : ∃ k, t.text = k := ⟨_, rfl⟩
 rw [hk, htx] at HV
 rw [hk, htx]
 try rw [htx] at hr
 have HR := hid hr
 have HTX := hid htx
 have HT := hid ht
 have HF := hid hf
 obtain ⟨B, W0, hB, hW0, X0, G0⟩ := boxed w (.cells #[.int .i64 16, .string ⟨tx.toArray⟩, .slice a1 t.kids.length cap1, .int .i64 t.pos] 24)
 have XX := hid (Ext.refl none' W0)
 clear hr htx ht hf hk H HE HS
 go_enter Tryz.func34, Tryz.ntmps34
 go_upto_region 1 with (fail)
 rw [← hW0, ← hB]
 clear hW0 hB
 obtain ⟨c0, c1, c2, c3⟩ := cellx XX.out G0.out
 have CP := hid fun W (X : Ext none' W0 W) => (show Calls Tryz.prog 77 #[.string ⟨tx.toArray⟩] W (BoolP (plainP tx) W) from (rplain_any tx W (by rw [← HTX.out]; have := t.size_text; have := HT.out; have := HF.out; unfold bigD at this; omega)).mono fun e w' h => ⟨h.1, by rw [h.2]; exact Ext.refl _ _⟩)
 obtain ⟨qp, hqp⟩ : ∃ b, plainP tx = b := ⟨_, rfl⟩
 rw [hqp] at CP HR
 clear hqp
 by_cases h1 : t.kids.length = 0
 case neg =>
  have q11 : ((t.kids.length : Int) == 0) = false := by rw [beq_eq_false_iff_ne]; omega
  have q21 : ((t.kids.length : Int) != 0) = true := by rw [bne_iff_ne]; omega
  have q31 : (t.kids.length == 0) = false := by rw [beq_eq_false_iff_ne]; omega
  have E : Hid (r = false) := hid (by first | exact HR.out | (rw [HR.out]; simp [h1]))
  go_wp2_with fail
  go_ret
  exact ⟨by rw [E.out]; rfl, X0.out.trans XX.out⟩
 have q11 : ((t.kids.length : Int) == 0) = true := by rw [beq_iff_eq]; omega
 have q21 : ((t.kids.length : Int) != 0) = false := by rw [bne_eq_false_iff_eq]; omega
 have q31 : (t.kids.length == 0) = true := by rw [beq_iff_eq]; omega
 have g11 : 0 ≤ t.kids.length := by omega
 have g21 : t.kids.length ≤ 0 := by omega
 have H1 := hid h1
 clear h1
 go_wp2_with fail
 refine (CP.out _ XX.out).mono ?_
 rintro e w2 ⟨rfl, X⟩
 have XX := hid (XX.out.trans X)
 clear X c0 c1 c2 c3
 have E : Hid (r = qp) := hid (by first | exact HR.out | (rw [HR.out]; simp [H1.out]))
 go_wp2_with fail
 go_ret
 exact ⟨by rw [E.out]; rfl, X0.out.trans XX.out⟩
theorem re_str (f : Nat) (hf : f + 1 ≤ bigD) (ty ex st : Nd → Bool) (H : RTyH f ty) (HE : RExH f ex) (HS : RStH f st) (t : Nd) (ht : t.size ≤ f + 1) (hk : t.kind = 17) (v : Value) (w : World) (hv : NdV none' w t v) :
 Calls Tryz.prog 34 #[v] w (BoolP (namB strB 17 [] t) w) := by
 obtain ⟨a1, cap1, rfl, hcap, HV, HY⟩ := nd_open hv
 have hkl : t.kids.length ≤ 4000000000 := by have := t.kids_len; unfold bigD at hf; omega
 obtain ⟨r, hr⟩ : ∃ r, r = (namB strB 17 [] t) := ⟨_, rfl⟩
 rw [← hr]
 have HH := hid H
 have HHE := hid HE
 have HHS := hid HS
 replace hr := hr.trans ((nam_chain hk).trans (congrArg _ kids0_chain))
 obtain ⟨tx, htx⟩ : ∃ k, t.text = k := ⟨_, rfl⟩
 rw [hk, htx] at HV
 rw [hk, htx]
 try rw [htx] at hr
 have HR := hid hr
 have HTX := hid htx
 have HT := hid ht
 have HF := hid hf
 obtain ⟨B, W0, hB, hW0, X0, G0⟩ := boxed w (.cells #[.int .i64 17, .string ⟨tx.toArray⟩, .slice a1 t.kids.length cap1, .int .i64 t.pos] 24)
 have XX := hid (Ext.refl none' W0)
 clear hr htx ht hf hk H HE HS
 go_enter Tryz.func34, Tryz.ntmps34
 go_upto_region 1 with (fail)
 rw [← hW0, ← hB]
 clear hW0 hB
 obtain ⟨c0, c1, c2, c3⟩ := cellx XX.out G0.out
 unfold strB at HR
 by_cases h3 : t.kids.length = 0
 case neg =>
  have q13 : ((t.kids.length : Int) == 0) = false := by rw [beq_eq_false_iff_ne]; omega
  have q23 : ((t.kids.length : Int) != 0) = true := by rw [bne_iff_ne]; omega
  have q33 : (t.kids.length == 0) = false := by rw [beq_eq_false_iff_ne]; omega
  have E : Hid (r = false) := hid (by first | exact HR.out | (rw [HR.out]; simp [h3]))
  go_wp2_with fail
  go_ret
  exact ⟨by rw [E.out]; rfl, X0.out.trans XX.out⟩
 have q13 : ((t.kids.length : Int) == 0) = true := by rw [beq_iff_eq]; omega
 have q23 : ((t.kids.length : Int) != 0) = false := by rw [bne_eq_false_iff_eq]; omega
 have q33 : (t.kids.length == 0) = true := by rw [beq_iff_eq]; omega
 have g13 : 0 ≤ t.kids.length := by omega
 have g23 : t.kids.length ≤ 0 := by omega
 have H3 := hid h3
 clear h3
 by_cases h4 : tx.length ≤ 1000
 case neg =>
  have y14 : ¬ tx.length ≤ 1000 := by omega
  have y24 : ¬ ((tx.length : Nat) : Int) ≤ 1000 := by omega
  have y34 : decide (((tx.length : Nat) : Int) ≤ 1000) = false := by rw [decide_eq_false_iff_not]; omega
  have E : Hid (r = false) := hid (by first | exact HR.out | (rw [HR.out]; simp [H3.out, h4]))
  go_wp2_with fail
  go_ret
  exact ⟨by rw [E.out]; rfl, X0.out.trans XX.out⟩
 have y14 : tx.length ≤ 1000 := by omega
 have y24 : ((tx.length : Nat) : Int) ≤ 1000 := by omega
 have y34 : decide (((tx.length : Nat) : Int) ≤ 1000) = true := by rw [decide_eq_true_iff]; omega
 have E : Hid (r = true) := hid (by first | exact HR.out | (rw [HR.out]; simp [H3.out, h4]))
 go_wp2_with fail
 go_ret
 exact ⟨by rw [E.out]; rfl, X0.out.trans XX.out⟩
theorem re_name (f : Nat) (hf : f + 1 ≤ bigD) (ty ex st : Nd → Bool) (H : RTyH f ty) (HE : RExH f ex) (HS : RStH f st) (t : Nd) (ht : t.size ≤ f + 1) (hk : t.kind = 18) (v : Value) (w : World) (hv : NdV none' w t v) :
 Calls Tryz.prog 34 #[v] w (BoolP (namB nmB 18 [] t) w) := by
 obtain ⟨a1, cap1, rfl, hcap, HV, HY⟩ := nd_open hv
 have hkl : t.kids.length ≤ 4000000000 := by have := t.kids_len; unfold bigD at hf; omega
 obtain ⟨r, hr⟩ : ∃ r, r = (namB nmB 18 [] t) := ⟨_, rfl⟩
 rw [← hr]
 have HH := hid H
 have HHE := hid HE
 have HHS := hid HS
 replace hr := hr.trans ((nam_chain hk).trans (congrArg _ kids0_chain))
 obtain ⟨tx, htx⟩ : ∃ k, t.text = k := ⟨_, rfl⟩
 rw [hk, htx] at HV
 rw [hk, htx]
 try rw [htx] at hr
 have HR := hid hr
 have HTX := hid htx
 have HT := hid ht
 have HF := hid hf
 obtain ⟨B, W0, hB, hW0, X0, G0⟩ := boxed w (.cells #[.int .i64 18, .string ⟨tx.toArray⟩, .slice a1 t.kids.length cap1, .int .i64 t.pos] 24)
 have XX := hid (Ext.refl none' W0)
 clear hr htx ht hf hk H HE HS
 go_enter Tryz.func34, Tryz.ntmps34
 go_upto_region 1 with (fail)
 rw [← hW0, ← hB]
 clear hW0 hB
 obtain ⟨c0, c1, c2, c3⟩ := cellx XX.out G0.out
 have CM := hid fun W (X : Ext none' W0 W) => rnm_any tx W
 obtain ⟨qn, hqn⟩ : ∃ b, nmB tx = b := ⟨_, rfl⟩
 rw [hqn] at CM HR
 clear hqn
 by_cases h5 : t.kids.length = 0
 case neg =>
  have q15 : ((t.kids.length : Int) == 0) = false := by rw [beq_eq_false_iff_ne]; omega
  have q25 : ((t.kids.length : Int) != 0) = true := by rw [bne_iff_ne]; omega
  have q35 : (t.kids.length == 0) = false := by rw [beq_eq_false_iff_ne]; omega
  have E : Hid (r = false) := hid (by first | exact HR.out | (rw [HR.out]; simp [h5]))
  go_wp2_with fail
  go_ret
  exact ⟨by rw [E.out]; rfl, X0.out.trans XX.out⟩
 have q15 : ((t.kids.length : Int) == 0) = true := by rw [beq_iff_eq]; omega
 have q25 : ((t.kids.length : Int) != 0) = false := by rw [bne_eq_false_iff_eq]; omega
 have q35 : (t.kids.length == 0) = true := by rw [beq_iff_eq]; omega
 have g15 : 0 ≤ t.kids.length := by omega
 have g25 : t.kids.length ≤ 0 := by omega
 have H5 := hid h5
 clear h5
 go_wp2_with fail
 refine (CM.out _ XX.out).mono ?_
 rintro e w6 ⟨rfl, X⟩
 have XX := hid (XX.out.trans X)
 clear X c0 c1 c2 c3
 have E : Hid (r = qn) := hid (by first | exact HR.out | (rw [HR.out]; simp [H5.out]))
 go_wp2_with fail
 go_ret
 exact ⟨by rw [E.out]; rfl, X0.out.trans XX.out⟩
theorem re_unary (f : Nat) (hf : f + 1 ≤ bigD) (ty ex st : Nd → Bool) (H : RTyH f ty) (HE : RExH f ex) (HS : RStH f st) (t : Nd) (ht : t.size ≤ f + 1) (hk : t.kind = 19) (v : Value) (w : World) (hv : NdV none' w t v) :
 Calls Tryz.prog 34 #[v] w (BoolP (namB unB 19 [ex] t) w) := by
 obtain ⟨a1, cap1, rfl, hcap, HV, HY⟩ := nd_open hv
 have hkl : t.kids.length ≤ 4000000000 := by have := t.kids_len; unfold bigD at hf; omega
 obtain ⟨r, hr⟩ : ∃ r, r = (namB unB 19 [ex] t) := ⟨_, rfl⟩
 rw [← hr]
 have HH := hid H
 have HHE := hid HE
 have HHS := hid HS
 replace hr := hr.trans ((nam_chain hk).trans (congrArg _ kids1_chain))
 obtain ⟨tx, htx⟩ : ∃ k, t.text = k := ⟨_, rfl⟩
 rw [hk, htx] at HV
 rw [hk, htx]
 try rw [htx] at hr
 have HR := hid hr
 have HTX := hid htx
 have HT := hid ht
 have HF := hid hf
 obtain ⟨B, W0, hB, hW0, X0, G0⟩ := boxed w (.cells #[.int .i64 19, .string ⟨tx.toArray⟩, .slice a1 t.kids.length cap1, .int .i64 t.pos] 24)
 have XX := hid (Ext.refl none' W0)
 clear hr htx ht hf hk H HE HS
 go_enter Tryz.func34, Tryz.ntmps34
 go_upto_region 1 with (fail)
 rw [← hW0, ← hB]
 clear hW0 hB
 obtain ⟨c0, c1, c2, c3⟩ := cellx XX.out G0.out
 unfold unB at HR
 by_cases h7 : t.kids.length = 1
 case neg =>
  have q17 : ((t.kids.length : Int) == 1) = false := by rw [beq_eq_false_iff_ne]; omega
  have q27 : ((t.kids.length : Int) != 1) = true := by rw [bne_iff_ne]; omega
  have q37 : (t.kids.length == 1) = false := by rw [beq_eq_false_iff_ne]; omega
  have E : Hid (r = false) := hid (by first | exact HR.out | (rw [HR.out]; simp [h7]))
  go_wp2_with fail
  go_ret
  exact ⟨by rw [E.out]; rfl, X0.out.trans XX.out⟩
 have q17 : ((t.kids.length : Int) == 1) = true := by rw [beq_iff_eq]; omega
 have q27 : ((t.kids.length : Int) != 1) = false := by rw [bne_eq_false_iff_eq]; omega
 have q37 : (t.kids.length == 1) = true := by rw [beq_iff_eq]; omega
 have g17 : 1 ≤ t.kids.length := by omega
 have g27 : t.kids.length ≤ 1 := by omega
 have H7 := hid h7
 clear h7
 by_cases h8 : tx = [45]
 case neg =>
  have q18 : (tx == [45]) = false := by simpa using h8
  have q28 : (tx != [45]) = true := by simpa using h8
  by_cases h9 : tx = [33]
  case neg =>
   have q19 : (tx == [33]) = false := by simpa using h9
   have q29 : (tx != [33]) = true := by simpa using h9
   have E : Hid (r = false) := hid (by first | exact HR.out | (rw [HR.out]; simp [H7.out, h8, h9]))
   go_wp2_with fail
   go_ret
   exact ⟨by rw [E.out]; rfl, X0.out.trans XX.out⟩
  have q19 : (tx == [33]) = true := by simpa using h9
  have q29 : (tx != [33]) = false := by simp [h9]
  obtain ⟨b, off, ka0, kc0, rfl, HBW, HZ0, KK0⟩ := kidA (HY.out.ext isNd_good X0.out fun _ _ h => h) (by omega)
  have C0 := hid fun W (X : Ext none' W0 W) => HHE.out (t.kid 0) (show (t.kid 0).size ≤ f from by have := kid_size (t := t) (i := 0) (by omega); have := HT.out; omega) _ W (ndvx HZ0.out X)
  obtain ⟨b0, hb0⟩ : ∃ b, ex (t.kid 0) = b := ⟨_, rfl⟩
  rw [hb0] at C0 HR
  clear hb0
  obtain ⟨m00, m01, m02, m03⟩ := kid' XX.out HBW.out KK0.out
  go_wp2_with fail
  refine (C0.out _ XX.out).mono ?_
  rintro e w10 ⟨rfl, X⟩
  have XX := hid (XX.out.trans X)
  clear X c0 c1 c2 c3 m00 m01 m02 m03
  have E : Hid (r = b0) := hid (by first | exact HR.out | (rw [HR.out]; simp [H7.out, h8, h9]))
  go_wp2_with fail
  go_ret
  exact ⟨by rw [E.out]; rfl, X0.out.trans XX.out⟩
 have q18 : (tx == [45]) = true := by simpa using h8
 have q28 : (tx != [45]) = false := by simp [h8]
 obtain ⟨b, off, ka0, kc0, rfl, HBW, HZ0, KK0⟩ := kidA (HY.out.ext isNd_good X0.out fun _ _ h => h) (by omega)
 have C0 := hid fun W (X : Ext none' W0 W) => HHE.out (t.kid 0) (show (t.kid 0).size ≤ f from by have := kid_size (t := t) (i := 0) (by omega); have := HT.out; omega) _ W (ndvx HZ0.out X)
 obtain ⟨b0, hb0⟩ : ∃ b, ex (t.kid 0) = b := ⟨_, rfl⟩
 rw [hb0] at C0 HR
 clear hb0
 obtain ⟨m00, m01, m02, m03⟩ := kid' XX.out HBW.out KK0.out
 go_wp2_with fail
 refine (C0.out _ XX.out).mono ?_
 rintro e w11 ⟨rfl, X⟩
 have XX := hid (XX.out.trans X)
 clear X c0 c1 c2 c3 m00 m01 m02 m03
 have E : Hid (r = b0) := hid (by first | exact HR.out | (rw [HR.out]; simp [H7.out, h8]))
 go_wp2_with fail
 go_ret
 exact ⟨by rw [E.out]; rfl, X0.out.trans XX.out⟩
theorem bin_chain {ex : Nd → Bool} {t : Nd} (hk : t.kind = 20) : namB binB 20 [ex, ex] t = (binB t.text && (t.kids.length == 2 && t.kids.all ex)) := by
 rw [nam_chain hk, kids2_chain, two_all]
theorem re_bin1 (f : Nat) (hf : f + 1 ≤ bigD) (ty ex st : Nd → Bool) (H : RTyH f ty) (HE : RExH f ex) (HS : RStH f st) (t : Nd) (ht : t.size ≤ f + 1) (hk : t.kind = 20) (hb : binB t.text = true) (v : Value) (w : World) (hv : NdV none' w t v) :
 Calls Tryz.prog 34 #[v] w (BoolP ((t.kids.length == 2 && t.kids.all ex)) w) := by
 obtain ⟨a1, cap1, rfl, hcap, HV, HY⟩ := nd_open hv
 have hkl : t.kids.length ≤ 4000000000 := by have := t.kids_len; unfold bigD at hf; omega
 obtain ⟨r, hr⟩ : ∃ r, r = ((t.kids.length == 2 && t.kids.all ex)) := ⟨_, rfl⟩
 rw [← hr]
 have HH := hid H
 have HHE := hid HE
 have HHS := hid HS
 replace hr := hr.trans (rfl)
 obtain ⟨tx, htx⟩ : ∃ k, t.text = k := ⟨_, rfl⟩
 rw [hk, htx] at HV
 rw [hk, htx]
 try rw [htx] at hr
 rw [htx] at hb
 have HB' := hid hb
 have HR := hid hr
 have HTX := hid htx
 have HT := hid ht
 have HF := hid hf
 obtain ⟨B, W0, hB, hW0, X0, G0⟩ := boxed w (.cells #[.int .i64 20, .string ⟨tx.toArray⟩, .slice a1 t.kids.length cap1, .int .i64 t.pos] 24)
 have XX := hid (Ext.refl none' W0)
 clear hb hr htx ht hf hk H HE HS
 go_enter Tryz.func34, Tryz.ntmps34
 go_upto_region 1 with (fail)
 rw [← hW0, ← hB]
 clear hW0 hB
 obtain ⟨c0, c1, c2, c3⟩ := cellx XX.out G0.out
 by_cases h12 : tx = [43]
 case neg =>
  have q112 : (tx == [43]) = false := by simpa using h12
  have q212 : (tx != [43]) = true := by simpa using h12
  by_cases h13 : tx = [45]
  case neg =>
   have q113 : (tx == [45]) = false := by simpa using h13
   have q213 : (tx != [45]) = true := by simpa using h13
   by_cases h14 : tx = [42]
   case neg =>
    have q114 : (tx == [42]) = false := by simpa using h14
    have q214 : (tx != [42]) = true := by simpa using h14
    by_cases h15 : tx = [47]
    case neg =>
     have q115 : (tx == [47]) = false := by simpa using h15
     have q215 : (tx != [47]) = true := by simpa using h15
     by_cases h16 : tx = [37]
     case neg =>
      have q116 : (tx == [37]) = false := by simpa using h16
      have q216 : (tx != [37]) = true := by simpa using h16
      by_cases h17 : tx = [61, 61]
      case neg =>
       have q117 : (tx == [61, 61]) = false := by simpa using h17
       have q217 : (tx != [61, 61]) = true := by simpa using h17
       by_cases h18 : tx = [33, 61]
       case neg =>
        have q118 : (tx == [33, 61]) = false := by simpa using h18
        have q218 : (tx != [33, 61]) = true := by simpa using h18
        by_cases h19 : tx = [60]
        case neg =>
         have q119 : (tx == [60]) = false := by simpa using h19
         have q219 : (tx != [60]) = true := by simpa using h19
         by_cases h20 : tx = [60, 61]
         case neg =>
          have q120 : (tx == [60, 61]) = false := by simpa using h20
          have q220 : (tx != [60, 61]) = true := by simpa using h20
          by_cases h21 : tx = [62]
          case neg =>
           have q121 : (tx == [62]) = false := by simpa using h21
           have q221 : (tx != [62]) = true := by simpa using h21
           by_cases h22 : tx = [62, 61]
           case neg =>
            have q122 : (tx == [62, 61]) = false := by simpa using h22
            have q222 : (tx != [62, 61]) = true := by simpa using h22
            by_cases h23 : tx = [38, 38]
            case neg =>
             have q123 : (tx == [38, 38]) = false := by simpa using h23
             have q223 : (tx != [38, 38]) = true := by simpa using h23
             by_cases h24 : tx = [124, 124]
             case neg =>
              have q124 : (tx == [124, 124]) = false := by simpa using h24
              have q224 : (tx != [124, 124]) = true := by simpa using h24
              exact absurd HB'.out (by simp [binB, binS, *])
             have q124 : (tx == [124, 124]) = true := by simpa using h24
             have q224 : (tx != [124, 124]) = false := by simp [h24]
             by_cases h25 : t.kids.length = 2
             case neg =>
              have q125 : ((t.kids.length : Int) == 2) = false := by rw [beq_eq_false_iff_ne]; omega
              have q225 : ((t.kids.length : Int) != 2) = true := by rw [bne_iff_ne]; omega
              have q325 : (t.kids.length == 2) = false := by rw [beq_eq_false_iff_ne]; omega
              have E : Hid (r = false) := hid (by first | exact HR.out | (rw [HR.out]; simp [h12, h13, h14, h15, h16, h17, h18, h19, h20, h21, h22, h23, h24, h25]))
              go_wp2_with fail
              go_ret
              exact ⟨by rw [E.out]; rfl, X0.out.trans XX.out⟩
             have q125 : ((t.kids.length : Int) == 2) = true := by rw [beq_iff_eq]; omega
             have q225 : ((t.kids.length : Int) != 2) = false := by rw [bne_eq_false_iff_eq]; omega
             have q325 : (t.kids.length == 2) = true := by rw [beq_iff_eq]; omega
             have g125 : 2 ≤ t.kids.length := by omega
             have g225 : t.kids.length ≤ 2 := by omega
             have H25 := hid h25
             clear h25
             have CK := hid fun W (X : Ext none' W0 W) => rexprs_any f ex HHE.out t.kids (fun x hx => by have := Nd.size_kid hx; have := HT.out; omega) hkl (.slice a1 t.kids.length cap1) W (HY.out.ext isNd_good (X0.out.trans X) fun _ _ h => h)
             obtain ⟨bk, hbk⟩ : ∃ b, t.kids.all ex = b := ⟨_, rfl⟩
             rw [hbk] at CK HR
             clear hbk
             go_wp2_with fail
             refine (CK.out _ XX.out).mono ?_
             rintro e w26 ⟨rfl, X⟩
             have XX := hid (XX.out.trans X)
             clear X c0 c1 c2 c3
             have E : Hid (r = bk) := hid (by first | exact HR.out | (rw [HR.out]; simp [h12, h13, h14, h15, h16, h17, h18, h19, h20, h21, h22, h23, h24, H25.out]))
             go_wp2_with fail
             go_ret
             exact ⟨by rw [E.out]; rfl, X0.out.trans XX.out⟩
            have q123 : (tx == [38, 38]) = true := by simpa using h23
            have q223 : (tx != [38, 38]) = false := by simp [h23]
            by_cases h27 : t.kids.length = 2
            case neg =>
             have q127 : ((t.kids.length : Int) == 2) = false := by rw [beq_eq_false_iff_ne]; omega
             have q227 : ((t.kids.length : Int) != 2) = true := by rw [bne_iff_ne]; omega
             have q327 : (t.kids.length == 2) = false := by rw [beq_eq_false_iff_ne]; omega
             have E : Hid (r = false) := hid (by first | exact HR.out | (rw [HR.out]; simp [h12, h13, h14, h15, h16, h17, h18, h19, h20, h21, h22, h23, h27]))
             go_wp2_with fail
             go_ret
             exact ⟨by rw [E.out]; rfl, X0.out.trans XX.out⟩
            have q127 : ((t.kids.length : Int) == 2) = true := by rw [beq_iff_eq]; omega
            have q227 : ((t.kids.length : Int) != 2) = false := by rw [bne_eq_false_iff_eq]; omega
            have q327 : (t.kids.length == 2) = true := by rw [beq_iff_eq]; omega
            have g127 : 2 ≤ t.kids.length := by omega
            have g227 : t.kids.length ≤ 2 := by omega
            have H27 := hid h27
            clear h27
            have CK := hid fun W (X : Ext none' W0 W) => rexprs_any f ex HHE.out t.kids (fun x hx => by have := Nd.size_kid hx; have := HT.out; omega) hkl (.slice a1 t.kids.length cap1) W (HY.out.ext isNd_good (X0.out.trans X) fun _ _ h => h)
            obtain ⟨bk, hbk⟩ : ∃ b, t.kids.all ex = b := ⟨_, rfl⟩
            rw [hbk] at CK HR
            clear hbk
            go_wp2_with fail
            refine (CK.out _ XX.out).mono ?_
            rintro e w28 ⟨rfl, X⟩
            have XX := hid (XX.out.trans X)
            clear X c0 c1 c2 c3
            have E : Hid (r = bk) := hid (by first | exact HR.out | (rw [HR.out]; simp [h12, h13, h14, h15, h16, h17, h18, h19, h20, h21, h22, h23, H27.out]))
            go_wp2_with fail
            go_ret
            exact ⟨by rw [E.out]; rfl, X0.out.trans XX.out⟩
           have q122 : (tx == [62, 61]) = true := by simpa using h22
           have q222 : (tx != [62, 61]) = false := by simp [h22]
           by_cases h29 : t.kids.length = 2
           case neg =>
            have q129 : ((t.kids.length : Int) == 2) = false := by rw [beq_eq_false_iff_ne]; omega
            have q229 : ((t.kids.length : Int) != 2) = true := by rw [bne_iff_ne]; omega
            have q329 : (t.kids.length == 2) = false := by rw [beq_eq_false_iff_ne]; omega
            have E : Hid (r = false) := hid (by first | exact HR.out | (rw [HR.out]; simp [h12, h13, h14, h15, h16, h17, h18, h19, h20, h21, h22, h29]))
            go_wp2_with fail
            go_ret
            exact ⟨by rw [E.out]; rfl, X0.out.trans XX.out⟩
           have q129 : ((t.kids.length : Int) == 2) = true := by rw [beq_iff_eq]; omega
           have q229 : ((t.kids.length : Int) != 2) = false := by rw [bne_eq_false_iff_eq]; omega
           have q329 : (t.kids.length == 2) = true := by rw [beq_iff_eq]; omega
           have g129 : 2 ≤ t.kids.length := by omega
           have g229 : t.kids.length ≤ 2 := by omega
           have H29 := hid h29
           clear h29
           have CK := hid fun W (X : Ext none' W0 W) => rexprs_any f ex HHE.out t.kids (fun x hx => by have := Nd.size_kid hx; have := HT.out; omega) hkl (.slice a1 t.kids.length cap1) W (HY.out.ext isNd_good (X0.out.trans X) fun _ _ h => h)
           obtain ⟨bk, hbk⟩ : ∃ b, t.kids.all ex = b := ⟨_, rfl⟩
           rw [hbk] at CK HR
           clear hbk
           go_wp2_with fail
           refine (CK.out _ XX.out).mono ?_
           rintro e w30 ⟨rfl, X⟩
           have XX := hid (XX.out.trans X)
           clear X c0 c1 c2 c3
           have E : Hid (r = bk) := hid (by first | exact HR.out | (rw [HR.out]; simp [h12, h13, h14, h15, h16, h17, h18, h19, h20, h21, h22, H29.out]))
           go_wp2_with fail
           go_ret
           exact ⟨by rw [E.out]; rfl, X0.out.trans XX.out⟩
          have q121 : (tx == [62]) = true := by simpa using h21
          have q221 : (tx != [62]) = false := by simp [h21]
          by_cases h31 : t.kids.length = 2
          case neg =>
           have q131 : ((t.kids.length : Int) == 2) = false := by rw [beq_eq_false_iff_ne]; omega
           have q231 : ((t.kids.length : Int) != 2) = true := by rw [bne_iff_ne]; omega
           have q331 : (t.kids.length == 2) = false := by rw [beq_eq_false_iff_ne]; omega
           have E : Hid (r = false) := hid (by first | exact HR.out | (rw [HR.out]; simp [h12, h13, h14, h15, h16, h17, h18, h19, h20, h21, h31]))
           go_wp2_with fail
           go_ret
           exact ⟨by rw [E.out]; rfl, X0.out.trans XX.out⟩
          have q131 : ((t.kids.length : Int) == 2) = true := by rw [beq_iff_eq]; omega
          have q231 : ((t.kids.length : Int) != 2) = false := by rw [bne_eq_false_iff_eq]; omega
          have q331 : (t.kids.length == 2) = true := by rw [beq_iff_eq]; omega
          have g131 : 2 ≤ t.kids.length := by omega
          have g231 : t.kids.length ≤ 2 := by omega
          have H31 := hid h31
          clear h31
          have CK := hid fun W (X : Ext none' W0 W) => rexprs_any f ex HHE.out t.kids (fun x hx => by have := Nd.size_kid hx; have := HT.out; omega) hkl (.slice a1 t.kids.length cap1) W (HY.out.ext isNd_good (X0.out.trans X) fun _ _ h => h)
          obtain ⟨bk, hbk⟩ : ∃ b, t.kids.all ex = b := ⟨_, rfl⟩
          rw [hbk] at CK HR
          clear hbk
          go_wp2_with fail
          refine (CK.out _ XX.out).mono ?_
          rintro e w32 ⟨rfl, X⟩
          have XX := hid (XX.out.trans X)
          clear X c0 c1 c2 c3
          have E : Hid (r = bk) := hid (by first | exact HR.out | (rw [HR.out]; simp [h12, h13, h14, h15, h16, h17, h18, h19, h20, h21, H31.out]))
          go_wp2_with fail
          go_ret
          exact ⟨by rw [E.out]; rfl, X0.out.trans XX.out⟩
         have q120 : (tx == [60, 61]) = true := by simpa using h20
         have q220 : (tx != [60, 61]) = false := by simp [h20]
         by_cases h33 : t.kids.length = 2
         case neg =>
          have q133 : ((t.kids.length : Int) == 2) = false := by rw [beq_eq_false_iff_ne]; omega
          have q233 : ((t.kids.length : Int) != 2) = true := by rw [bne_iff_ne]; omega
          have q333 : (t.kids.length == 2) = false := by rw [beq_eq_false_iff_ne]; omega
          have E : Hid (r = false) := hid (by first | exact HR.out | (rw [HR.out]; simp [h12, h13, h14, h15, h16, h17, h18, h19, h20, h33]))
          go_wp2_with fail
          go_ret
          exact ⟨by rw [E.out]; rfl, X0.out.trans XX.out⟩
         have q133 : ((t.kids.length : Int) == 2) = true := by rw [beq_iff_eq]; omega
         have q233 : ((t.kids.length : Int) != 2) = false := by rw [bne_eq_false_iff_eq]; omega
         have q333 : (t.kids.length == 2) = true := by rw [beq_iff_eq]; omega
         have g133 : 2 ≤ t.kids.length := by omega
         have g233 : t.kids.length ≤ 2 := by omega
         have H33 := hid h33
         clear h33
         have CK := hid fun W (X : Ext none' W0 W) => rexprs_any f ex HHE.out t.kids (fun x hx => by have := Nd.size_kid hx; have := HT.out; omega) hkl (.slice a1 t.kids.length cap1) W (HY.out.ext isNd_good (X0.out.trans X) fun _ _ h => h)
         obtain ⟨bk, hbk⟩ : ∃ b, t.kids.all ex = b := ⟨_, rfl⟩
         rw [hbk] at CK HR
         clear hbk
         go_wp2_with fail
         refine (CK.out _ XX.out).mono ?_
         rintro e w34 ⟨rfl, X⟩
         have XX := hid (XX.out.trans X)
         clear X c0 c1 c2 c3
         have E : Hid (r = bk) := hid (by first | exact HR.out | (rw [HR.out]; simp [h12, h13, h14, h15, h16, h17, h18, h19, h20, H33.out]))
         go_wp2_with fail
         go_ret
         exact ⟨by rw [E.out]; rfl, X0.out.trans XX.out⟩
        have q119 : (tx == [60]) = true := by simpa using h19
        have q219 : (tx != [60]) = false := by simp [h19]
        by_cases h35 : t.kids.length = 2
        case neg =>
         have q135 : ((t.kids.length : Int) == 2) = false := by rw [beq_eq_false_iff_ne]; omega
         have q235 : ((t.kids.length : Int) != 2) = true := by rw [bne_iff_ne]; omega
         have q335 : (t.kids.length == 2) = false := by rw [beq_eq_false_iff_ne]; omega
         have E : Hid (r = false) := hid (by first | exact HR.out | (rw [HR.out]; simp [h12, h13, h14, h15, h16, h17, h18, h19, h35]))
         go_wp2_with fail
         go_ret
         exact ⟨by rw [E.out]; rfl, X0.out.trans XX.out⟩
        have q135 : ((t.kids.length : Int) == 2) = true := by rw [beq_iff_eq]; omega
        have q235 : ((t.kids.length : Int) != 2) = false := by rw [bne_eq_false_iff_eq]; omega
        have q335 : (t.kids.length == 2) = true := by rw [beq_iff_eq]; omega
        have g135 : 2 ≤ t.kids.length := by omega
        have g235 : t.kids.length ≤ 2 := by omega
        have H35 := hid h35
        clear h35
        have CK := hid fun W (X : Ext none' W0 W) => rexprs_any f ex HHE.out t.kids (fun x hx => by have := Nd.size_kid hx; have := HT.out; omega) hkl (.slice a1 t.kids.length cap1) W (HY.out.ext isNd_good (X0.out.trans X) fun _ _ h => h)
        obtain ⟨bk, hbk⟩ : ∃ b, t.kids.all ex = b := ⟨_, rfl⟩
        rw [hbk] at CK HR
        clear hbk
        go_wp2_with fail
        refine (CK.out _ XX.out).mono ?_
        rintro e w36 ⟨rfl, X⟩
        have XX := hid (XX.out.trans X)
        clear X c0 c1 c2 c3
        have E : Hid (r = bk) := hid (by first | exact HR.out | (rw [HR.out]; simp [h12, h13, h14, h15, h16, h17, h18, h19, H35.out]))
        go_wp2_with fail
        go_ret
        exact ⟨by rw [E.out]; rfl, X0.out.trans XX.out⟩
       have q118 : (tx == [33, 61]) = true := by simpa using h18
       have q218 : (tx != [33, 61]) = false := by simp [h18]
       by_cases h37 : t.kids.length = 2
       case neg =>
        have q137 : ((t.kids.length : Int) == 2) = false := by rw [beq_eq_false_iff_ne]; omega
        have q237 : ((t.kids.length : Int) != 2) = true := by rw [bne_iff_ne]; omega
        have q337 : (t.kids.length == 2) = false := by rw [beq_eq_false_iff_ne]; omega
        have E : Hid (r = false) := hid (by first | exact HR.out | (rw [HR.out]; simp [h12, h13, h14, h15, h16, h17, h18, h37]))
        go_wp2_with fail
        go_ret
        exact ⟨by rw [E.out]; rfl, X0.out.trans XX.out⟩
       have q137 : ((t.kids.length : Int) == 2) = true := by rw [beq_iff_eq]; omega
       have q237 : ((t.kids.length : Int) != 2) = false := by rw [bne_eq_false_iff_eq]; omega
       have q337 : (t.kids.length == 2) = true := by rw [beq_iff_eq]; omega
       have g137 : 2 ≤ t.kids.length := by omega
       have g237 : t.kids.length ≤ 2 := by omega
       have H37 := hid h37
       clear h37
       have CK := hid fun W (X : Ext none' W0 W) => rexprs_any f ex HHE.out t.kids (fun x hx => by have := Nd.size_kid hx; have := HT.out; omega) hkl (.slice a1 t.kids.length cap1) W (HY.out.ext isNd_good (X0.out.trans X) fun _ _ h => h)
       obtain ⟨bk, hbk⟩ : ∃ b, t.kids.all ex = b := ⟨_, rfl⟩
       rw [hbk] at CK HR
       clear hbk
       go_wp2_with fail
       refine (CK.out _ XX.out).mono ?_
       rintro e w38 ⟨rfl, X⟩
       have XX := hid (XX.out.trans X)
       clear X c0 c1 c2 c3
       have E : Hid (r = bk) := hid (by first | exact HR.out | (rw [HR.out]; simp [h12, h13, h14, h15, h16, h17, h18, H37.out]))
       go_wp2_with fail
       go_ret
       exact ⟨by rw [E.out]; rfl, X0.out.trans XX.out⟩
      have q117 : (tx == [61, 61]) = true := by simpa using h17
      have q217 : (tx != [61, 61]) = false := by simp [h17]
      by_cases h39 : t.kids.length = 2
      case neg =>
       have q139 : ((t.kids.length : Int) == 2) = false := by rw [beq_eq_false_iff_ne]; omega
       have q239 : ((t.kids.length : Int) != 2) = true := by rw [bne_iff_ne]; omega
       have q339 : (t.kids.length == 2) = false := by rw [beq_eq_false_iff_ne]; omega
       have E : Hid (r = false) := hid (by first | exact HR.out | (rw [HR.out]; simp [h12, h13, h14, h15, h16, h17, h39]))
       go_wp2_with fail
       go_ret
       exact ⟨by rw [E.out]; rfl, X0.out.trans XX.out⟩
      have q139 : ((t.kids.length : Int) == 2) = true := by rw [beq_iff_eq]; omega
      have q239 : ((t.kids.length : Int) != 2) = false := by rw [bne_eq_false_iff_eq]; omega
      have q339 : (t.kids.length == 2) = true := by rw [beq_iff_eq]; omega
      have g139 : 2 ≤ t.kids.length := by omega
      have g239 : t.kids.length ≤ 2 := by omega
      have H39 := hid h39
      clear h39
      have CK := hid fun W (X : Ext none' W0 W) => rexprs_any f ex HHE.out t.kids (fun x hx => by have := Nd.size_kid hx; have := HT.out; omega) hkl (.slice a1 t.kids.length cap1) W (HY.out.ext isNd_good (X0.out.trans X) fun _ _ h => h)
      obtain ⟨bk, hbk⟩ : ∃ b, t.kids.all ex = b := ⟨_, rfl⟩
      rw [hbk] at CK HR
      clear hbk
      go_wp2_with fail
      refine (CK.out _ XX.out).mono ?_
      rintro e w40 ⟨rfl, X⟩
      have XX := hid (XX.out.trans X)
      clear X c0 c1 c2 c3
      have E : Hid (r = bk) := hid (by first | exact HR.out | (rw [HR.out]; simp [h12, h13, h14, h15, h16, h17, H39.out]))
      go_wp2_with fail
      go_ret
      exact ⟨by rw [E.out]; rfl, X0.out.trans XX.out⟩
     have q116 : (tx == [37]) = true := by simpa using h16
     have q216 : (tx != [37]) = false := by simp [h16]
     by_cases h41 : t.kids.length = 2
     case neg =>
      have q141 : ((t.kids.length : Int) == 2) = false := by rw [beq_eq_false_iff_ne]; omega
      have q241 : ((t.kids.length : Int) != 2) = true := by rw [bne_iff_ne]; omega
      have q341 : (t.kids.length == 2) = false := by rw [beq_eq_false_iff_ne]; omega
      have E : Hid (r = false) := hid (by first | exact HR.out | (rw [HR.out]; simp [h12, h13, h14, h15, h16, h41]))
      go_wp2_with fail
      go_ret
      exact ⟨by rw [E.out]; rfl, X0.out.trans XX.out⟩
     have q141 : ((t.kids.length : Int) == 2) = true := by rw [beq_iff_eq]; omega
     have q241 : ((t.kids.length : Int) != 2) = false := by rw [bne_eq_false_iff_eq]; omega
     have q341 : (t.kids.length == 2) = true := by rw [beq_iff_eq]; omega
     have g141 : 2 ≤ t.kids.length := by omega
     have g241 : t.kids.length ≤ 2 := by omega
     have H41 := hid h41
     clear h41
     have CK := hid fun W (X : Ext none' W0 W) => rexprs_any f ex HHE.out t.kids (fun x hx => by have := Nd.size_kid hx; have := HT.out; omega) hkl (.slice a1 t.kids.length cap1) W (HY.out.ext isNd_good (X0.out.trans X) fun _ _ h => h)
     obtain ⟨bk, hbk⟩ : ∃ b, t.kids.all ex = b := ⟨_, rfl⟩
     rw [hbk] at CK HR
     clear hbk
     go_wp2_with fail
     refine (CK.out _ XX.out).mono ?_
     rintro e w42 ⟨rfl, X⟩
     have XX := hid (XX.out.trans X)
     clear X c0 c1 c2 c3
     have E : Hid (r = bk) := hid (by first | exact HR.out | (rw [HR.out]; simp [h12, h13, h14, h15, h16, H41.out]))
     go_wp2_with fail
     go_ret
     exact ⟨by rw [E.out]; rfl, X0.out.trans XX.out⟩
    have q115 : (tx == [47]) = true := by simpa using h15
    have q215 : (tx != [47]) = false := by simp [h15]
    by_cases h43 : t.kids.length = 2
    case neg =>
     have q143 : ((t.kids.length : Int) == 2) = false := by rw [beq_eq_false_iff_ne]; omega
     have q243 : ((t.kids.length : Int) != 2) = true := by rw [bne_iff_ne]; omega
     have q343 : (t.kids.length == 2) = false := by rw [beq_eq_false_iff_ne]; omega
     have E : Hid (r = false) := hid (by first | exact HR.out | (rw [HR.out]; simp [h12, h13, h14, h15, h43]))
     go_wp2_with fail
     go_ret
     exact ⟨by rw [E.out]; rfl, X0.out.trans XX.out⟩
    have q143 : ((t.kids.length : Int) == 2) = true := by rw [beq_iff_eq]; omega
    have q243 : ((t.kids.length : Int) != 2) = false := by rw [bne_eq_false_iff_eq]; omega
    have q343 : (t.kids.length == 2) = true := by rw [beq_iff_eq]; omega
    have g143 : 2 ≤ t.kids.length := by omega
    have g243 : t.kids.length ≤ 2 := by omega
    have H43 := hid h43
    clear h43
    have CK := hid fun W (X : Ext none' W0 W) => rexprs_any f ex HHE.out t.kids (fun x hx => by have := Nd.size_kid hx; have := HT.out; omega) hkl (.slice a1 t.kids.length cap1) W (HY.out.ext isNd_good (X0.out.trans X) fun _ _ h => h)
    obtain ⟨bk, hbk⟩ : ∃ b, t.kids.all ex = b := ⟨_, rfl⟩
    rw [hbk] at CK HR
    clear hbk
    go_wp2_with fail
    refine (CK.out _ XX.out).mono ?_
    rintro e w44 ⟨rfl, X⟩
    have XX := hid (XX.out.trans X)
    clear X c0 c1 c2 c3
    have E : Hid (r = bk) := hid (by first | exact HR.out | (rw [HR.out]; simp [h12, h13, h14, h15, H43.out]))
    go_wp2_with fail
    go_ret
    exact ⟨by rw [E.out]; rfl, X0.out.trans XX.out⟩
   have q114 : (tx == [42]) = true := by simpa using h14
   have q214 : (tx != [42]) = false := by simp [h14]
   by_cases h45 : t.kids.length = 2
   case neg =>
    have q145 : ((t.kids.length : Int) == 2) = false := by rw [beq_eq_false_iff_ne]; omega
    have q245 : ((t.kids.length : Int) != 2) = true := by rw [bne_iff_ne]; omega
    have q345 : (t.kids.length == 2) = false := by rw [beq_eq_false_iff_ne]; omega
    have E : Hid (r = false) := hid (by first | exact HR.out | (rw [HR.out]; simp [h12, h13, h14, h45]))
    go_wp2_with fail
    go_ret
    exact ⟨by rw [E.out]; rfl, X0.out.trans XX.out⟩
   have q145 : ((t.kids.length : Int) == 2) = true := by rw [beq_iff_eq]; omega
   have q245 : ((t.kids.length : Int) != 2) = false := by rw [bne_eq_false_iff_eq]; omega
   have q345 : (t.kids.length == 2) = true := by rw [beq_iff_eq]; omega
   have g145 : 2 ≤ t.kids.length := by omega
   have g245 : t.kids.length ≤ 2 := by omega
   have H45 := hid h45
   clear h45
   have CK := hid fun W (X : Ext none' W0 W) => rexprs_any f ex HHE.out t.kids (fun x hx => by have := Nd.size_kid hx; have := HT.out; omega) hkl (.slice a1 t.kids.length cap1) W (HY.out.ext isNd_good (X0.out.trans X) fun _ _ h => h)
   obtain ⟨bk, hbk⟩ : ∃ b, t.kids.all ex = b := ⟨_, rfl⟩
   rw [hbk] at CK HR
   clear hbk
   go_wp2_with fail
   refine (CK.out _ XX.out).mono ?_
   rintro e w46 ⟨rfl, X⟩
   have XX := hid (XX.out.trans X)
   clear X c0 c1 c2 c3
   have E : Hid (r = bk) := hid (by first | exact HR.out | (rw [HR.out]; simp [h12, h13, h14, H45.out]))
   go_wp2_with fail
   go_ret
   exact ⟨by rw [E.out]; rfl, X0.out.trans XX.out⟩
  have q113 : (tx == [45]) = true := by simpa using h13
  have q213 : (tx != [45]) = false := by simp [h13]
  by_cases h47 : t.kids.length = 2
  case neg =>
   have q147 : ((t.kids.length : Int) == 2) = false := by rw [beq_eq_false_iff_ne]; omega
   have q247 : ((t.kids.length : Int) != 2) = true := by rw [bne_iff_ne]; omega
   have q347 : (t.kids.length == 2) = false := by rw [beq_eq_false_iff_ne]; omega
   have E : Hid (r = false) := hid (by first | exact HR.out | (rw [HR.out]; simp [h12, h13, h47]))
   go_wp2_with fail
   go_ret
   exact ⟨by rw [E.out]; rfl, X0.out.trans XX.out⟩
  have q147 : ((t.kids.length : Int) == 2) = true := by rw [beq_iff_eq]; omega
  have q247 : ((t.kids.length : Int) != 2) = false := by rw [bne_eq_false_iff_eq]; omega
  have q347 : (t.kids.length == 2) = true := by rw [beq_iff_eq]; omega
  have g147 : 2 ≤ t.kids.length := by omega
  have g247 : t.kids.length ≤ 2 := by omega
  have H47 := hid h47
  clear h47
  have CK := hid fun W (X : Ext none' W0 W) => rexprs_any f ex HHE.out t.kids (fun x hx => by have := Nd.size_kid hx; have := HT.out; omega) hkl (.slice a1 t.kids.length cap1) W (HY.out.ext isNd_good (X0.out.trans X) fun _ _ h => h)
  obtain ⟨bk, hbk⟩ : ∃ b, t.kids.all ex = b := ⟨_, rfl⟩
  rw [hbk] at CK HR
  clear hbk
  go_wp2_with fail
  refine (CK.out _ XX.out).mono ?_
  rintro e w48 ⟨rfl, X⟩
  have XX := hid (XX.out.trans X)
  clear X c0 c1 c2 c3
  have E : Hid (r = bk) := hid (by first | exact HR.out | (rw [HR.out]; simp [h12, h13, H47.out]))
  go_wp2_with fail
  go_ret
  exact ⟨by rw [E.out]; rfl, X0.out.trans XX.out⟩
 have q112 : (tx == [43]) = true := by simpa using h12
 have q212 : (tx != [43]) = false := by simp [h12]
 by_cases h49 : t.kids.length = 2
 case neg =>
  have q149 : ((t.kids.length : Int) == 2) = false := by rw [beq_eq_false_iff_ne]; omega
  have q249 : ((t.kids.length : Int) != 2) = true := by rw [bne_iff_ne]; omega
  have q349 : (t.kids.length == 2) = false := by rw [beq_eq_false_iff_ne]; omega
  have E : Hid (r = false) := hid (by first | exact HR.out | (rw [HR.out]; simp [h12, h49]))
  go_wp2_with fail
  go_ret
  exact ⟨by rw [E.out]; rfl, X0.out.trans XX.out⟩
 have q149 : ((t.kids.length : Int) == 2) = true := by rw [beq_iff_eq]; omega
 have q249 : ((t.kids.length : Int) != 2) = false := by rw [bne_eq_false_iff_eq]; omega
 have q349 : (t.kids.length == 2) = true := by rw [beq_iff_eq]; omega
 have g149 : 2 ≤ t.kids.length := by omega
 have g249 : t.kids.length ≤ 2 := by omega
 have H49 := hid h49
 clear h49
 have CK := hid fun W (X : Ext none' W0 W) => rexprs_any f ex HHE.out t.kids (fun x hx => by have := Nd.size_kid hx; have := HT.out; omega) hkl (.slice a1 t.kids.length cap1) W (HY.out.ext isNd_good (X0.out.trans X) fun _ _ h => h)
 obtain ⟨bk, hbk⟩ : ∃ b, t.kids.all ex = b := ⟨_, rfl⟩
 rw [hbk] at CK HR
 clear hbk
 go_wp2_with fail
 refine (CK.out _ XX.out).mono ?_
 rintro e w50 ⟨rfl, X⟩
 have XX := hid (XX.out.trans X)
 clear X c0 c1 c2 c3
 have E : Hid (r = bk) := hid (by first | exact HR.out | (rw [HR.out]; simp [h12, H49.out]))
 go_wp2_with fail
 go_ret
 exact ⟨by rw [E.out]; rfl, X0.out.trans XX.out⟩
theorem re_bin0 (f : Nat) (hf : f + 1 ≤ bigD) (ty ex st : Nd → Bool) (H : RTyH f ty) (HE : RExH f ex) (HS : RStH f st) (t : Nd) (ht : t.size ≤ f + 1) (hk : t.kind = 20) (hx : binB t.text = false) (v : Value) (w : World) (hv : NdV none' w t v) :
 Calls Tryz.prog 34 #[v] w (BoolP (false) w) := by
 obtain ⟨a1, cap1, rfl, hcap, HV, HY⟩ := nd_open hv
 have hkl : t.kids.length ≤ 4000000000 := by have := t.kids_len; unfold bigD at hf; omega
 obtain ⟨r, hr⟩ : ∃ r, r = (false) := ⟨_, rfl⟩
 rw [← hr]
 have HH := hid H
 have HHE := hid HE
 have HHS := hid HS
 replace hr := hr.trans (rfl)
 obtain ⟨tx, htx⟩ : ∃ k, t.text = k := ⟨_, rfl⟩
 rw [hk, htx] at HV
 rw [hk, htx]
 try rw [htx] at hr
 rw [htx] at hx
 have n0 : (tx == [43]) = false := by
  simp only [beq_eq_false_iff_ne]; intro e; subst e; exact absurd hx (by decide)
 have n1 : (tx == [45]) = false := by
  simp only [beq_eq_false_iff_ne]; intro e; subst e; exact absurd hx (by decide)
 have n2 : (tx == [42]) = false := by
  simp only [beq_eq_false_iff_ne]; intro e; subst e; exact absurd hx (by decide)
 have n3 : (tx == [47]) = false := by
  simp only [beq_eq_false_iff_ne]; intro e; subst e; exact absurd hx (by decide)
 have n4 : (tx == [37]) = false := by
  simp only [beq_eq_false_iff_ne]; intro e; subst e; exact absurd hx (by decide)
 have n5 : (tx == [61, 61]) = false := by
  simp only [beq_eq_false_iff_ne]; intro e; subst e; exact absurd hx (by decide)
 have n6 : (tx == [33, 61]) = false := by
  simp only [beq_eq_false_iff_ne]; intro e; subst e; exact absurd hx (by decide)
 have n7 : (tx == [60]) = false := by
  simp only [beq_eq_false_iff_ne]; intro e; subst e; exact absurd hx (by decide)
 have n8 : (tx == [60, 61]) = false := by
  simp only [beq_eq_false_iff_ne]; intro e; subst e; exact absurd hx (by decide)
 have n9 : (tx == [62]) = false := by
  simp only [beq_eq_false_iff_ne]; intro e; subst e; exact absurd hx (by decide)
 have n10 : (tx == [62, 61]) = false := by
  simp only [beq_eq_false_iff_ne]; intro e; subst e; exact absurd hx (by decide)
 have n11 : (tx == [38, 38]) = false := by
  simp only [beq_eq_false_iff_ne]; intro e; subst e; exact absurd hx (by decide)
 have n12 : (tx == [124, 124]) = false := by
  simp only [beq_eq_false_iff_ne]; intro e; subst e; exact absurd hx (by decide)
 have HR := hid hr
 have HTX := hid htx
 have HT := hid ht
 have HF := hid hf
 obtain ⟨B, W0, hB, hW0, X0, G0⟩ := boxed w (.cells #[.int .i64 20, .string ⟨tx.toArray⟩, .slice a1 t.kids.length cap1, .int .i64 t.pos] 24)
 have XX := hid (Ext.refl none' W0)
 clear hr htx ht hf hk H HE HS hx
 go_enter Tryz.func34, Tryz.ntmps34
 go_upto_region 1 with (fail)
 rw [← hW0, ← hB]
 clear hW0 hB
 obtain ⟨c0, c1, c2, c3⟩ := cellx XX.out G0.out
 have E : Hid (r = false) := hid (by first | exact HR.out | (rw [HR.out]; simp []))
 go_wp2_with fail
 go_ret
 exact ⟨by rw [E.out]; rfl, X0.out.trans XX.out⟩
theorem re_binary (f : Nat) (hf : f + 1 ≤ bigD) (ty ex st : Nd → Bool) (H : RTyH f ty) (HE : RExH f ex) (HS : RStH f st) (t : Nd) (ht : t.size ≤ f + 1) (hk : t.kind = 20) (v : Value) (w : World) (hv : NdV none' w t v) :
 Calls Tryz.prog 34 #[v] w (BoolP (namB binB 20 [ex, ex] t) w) := by
 rw [bin_chain hk]
 by_cases hb : binB t.text = true
 · rw [hb, Bool.true_and]
   exact re_bin1 f hf ty ex st H HE HS t ht hk hb v w hv
 · have hb : binB t.text = false := by simpa using hb
   rw [hb, Bool.false_and]
   exact re_bin0 f hf ty ex st H HE HS t ht hk hb v w hv
theorem re_call (f : Nat) (hf : f + 1 ≤ bigD) (ty ex st : Nd → Bool) (H : RTyH f ty) (HE : RExH f ex) (HS : RStH f st) (t : Nd) (ht : t.size ≤ f + 1) (hk : t.kind = 21) (v : Value) (w : World) (hv : NdV none' w t v) :
 Calls Tryz.prog 34 #[v] w (BoolP (t.text == [] && (!t.kids.isEmpty && t.kids.all ex)) w) := by
 obtain ⟨a1, cap1, rfl, hcap, HV, HY⟩ := nd_open hv
 have hkl : t.kids.length ≤ 4000000000 := by have := t.kids_len; unfold bigD at hf; omega
 obtain ⟨r, hr⟩ : ∃ r, r = (t.text == [] && (!t.kids.isEmpty && t.kids.all ex)) := ⟨_, rfl⟩
 rw [← hr]
 have HH := hid H
 have HHE := hid HE
 have HHS := hid HS
 replace hr := hr.trans (rfl)
 obtain ⟨tx, htx⟩ : ∃ k, t.text = k := ⟨_, rfl⟩
 rw [hk, htx] at HV
 rw [hk, htx]
 try rw [htx] at hr
 have HR := hid hr
 have HTX := hid htx
 have HT := hid ht
 have HF := hid hf
 obtain ⟨B, W0, hB, hW0, X0, G0⟩ := boxed w (.cells #[.int .i64 21, .string ⟨tx.toArray⟩, .slice a1 t.kids.length cap1, .int .i64 t.pos] 24)
 have XX := hid (Ext.refl none' W0)
 clear hr htx ht hf hk H HE HS
 go_enter Tryz.func34, Tryz.ntmps34
 go_upto_region 1 with (fail)
 rw [← hW0, ← hB]
 clear hW0 hB
 obtain ⟨c0, c1, c2, c3⟩ := cellx XX.out G0.out
 rw [some_kids] at HR
 by_cases h51 : tx = []
 case neg =>
  have q151 : (tx == []) = false := by simpa using h51
  have q251 : (tx != []) = true := by simpa using h51
  have q351 : tx.isEmpty = false := by simpa using h51
  have E : Hid (r = false) := hid (by first | exact HR.out | (rw [HR.out]; simp [h51]))
  go_wp2_with fail
  go_ret
  exact ⟨by rw [E.out]; rfl, X0.out.trans XX.out⟩
 have q151 : (tx == []) = true := by simpa using h51
 have q251 : (tx != []) = false := by simp [h51]
 have q351 : tx.isEmpty = true := by simpa using h51
 by_cases h52 : 0 < t.kids.length
 case neg =>
  have y152 : ¬ 0 < t.kids.length := by omega
  have y252 : ¬ 0 < ((t.kids.length : Nat) : Int) := by omega
  have y352 : decide (0 < ((t.kids.length : Nat) : Int)) = false := by rw [decide_eq_false_iff_not]; omega
  have E : Hid (r = false) := hid (by first | exact HR.out | (rw [HR.out]; simp [h51, h52]))
  go_wp2_with fail
  go_ret
  exact ⟨by rw [E.out]; rfl, X0.out.trans XX.out⟩
 have y152 : 0 < t.kids.length := by omega
 have y252 : 0 < ((t.kids.length : Nat) : Int) := by omega
 have y352 : decide (0 < ((t.kids.length : Nat) : Int)) = true := by rw [decide_eq_true_iff]; omega
 have CK := hid fun W (X : Ext none' W0 W) => rexprs_any f ex HHE.out t.kids (fun x hx => by have := Nd.size_kid hx; have := HT.out; omega) hkl (.slice a1 t.kids.length cap1) W (HY.out.ext isNd_good (X0.out.trans X) fun _ _ h => h)
 obtain ⟨bk, hbk⟩ : ∃ b, t.kids.all ex = b := ⟨_, rfl⟩
 rw [hbk] at CK HR
 clear hbk
 go_wp2_with fail
 refine (CK.out _ XX.out).mono ?_
 rintro e w53 ⟨rfl, X⟩
 have XX := hid (XX.out.trans X)
 clear X c0 c1 c2 c3
 have E : Hid (r = bk) := hid (by first | exact HR.out | (rw [HR.out]; simp [h51, h52]))
 go_wp2_with fail
 go_ret
 exact ⟨by rw [E.out]; rfl, X0.out.trans XX.out⟩
theorem re_field (f : Nat) (hf : f + 1 ≤ bigD) (ty ex st : Nd → Bool) (H : RTyH f ty) (HE : RExH f ex) (HS : RStH f st) (t : Nd) (ht : t.size ≤ f + 1) (hk : t.kind = 23) (v : Value) (w : World) (hv : NdV none' w t v) :
 Calls Tryz.prog 34 #[v] w (BoolP (namB nmB 23 [ex] t) w) := by
 obtain ⟨a1, cap1, rfl, hcap, HV, HY⟩ := nd_open hv
 have hkl : t.kids.length ≤ 4000000000 := by have := t.kids_len; unfold bigD at hf; omega
 obtain ⟨r, hr⟩ : ∃ r, r = (namB nmB 23 [ex] t) := ⟨_, rfl⟩
 rw [← hr]
 have HH := hid H
 have HHE := hid HE
 have HHS := hid HS
 replace hr := hr.trans ((nam_chain hk).trans (congrArg _ kids1_chain))
 obtain ⟨tx, htx⟩ : ∃ k, t.text = k := ⟨_, rfl⟩
 rw [hk, htx] at HV
 rw [hk, htx]
 try rw [htx] at hr
 have HR := hid hr
 have HTX := hid htx
 have HT := hid ht
 have HF := hid hf
 obtain ⟨B, W0, hB, hW0, X0, G0⟩ := boxed w (.cells #[.int .i64 23, .string ⟨tx.toArray⟩, .slice a1 t.kids.length cap1, .int .i64 t.pos] 24)
 have XX := hid (Ext.refl none' W0)
 clear hr htx ht hf hk H HE HS
 go_enter Tryz.func34, Tryz.ntmps34
 go_upto_region 1 with (fail)
 rw [← hW0, ← hB]
 clear hW0 hB
 obtain ⟨c0, c1, c2, c3⟩ := cellx XX.out G0.out
 have CM := hid fun W (X : Ext none' W0 W) => rnm_any tx W
 obtain ⟨qn, hqn⟩ : ∃ b, nmB tx = b := ⟨_, rfl⟩
 rw [hqn] at CM HR
 clear hqn
 by_cases h54 : t.kids.length = 1
 case neg =>
  have q154 : ((t.kids.length : Int) == 1) = false := by rw [beq_eq_false_iff_ne]; omega
  have q254 : ((t.kids.length : Int) != 1) = true := by rw [bne_iff_ne]; omega
  have q354 : (t.kids.length == 1) = false := by rw [beq_eq_false_iff_ne]; omega
  have E : Hid (r = false) := hid (by first | exact HR.out | (rw [HR.out]; simp [h54]))
  go_wp2_with fail
  go_ret
  exact ⟨by rw [E.out]; rfl, X0.out.trans XX.out⟩
 have q154 : ((t.kids.length : Int) == 1) = true := by rw [beq_iff_eq]; omega
 have q254 : ((t.kids.length : Int) != 1) = false := by rw [bne_eq_false_iff_eq]; omega
 have q354 : (t.kids.length == 1) = true := by rw [beq_iff_eq]; omega
 have g154 : 1 ≤ t.kids.length := by omega
 have g254 : t.kids.length ≤ 1 := by omega
 have H54 := hid h54
 clear h54
 go_wp2_with fail
 refine (CM.out _ XX.out).mono ?_
 rintro e w55 ⟨rfl, X⟩
 have XX := hid (XX.out.trans X)
 clear X c0 c1 c2 c3
 cases qn
 case false =>
  obtain ⟨c0, c1, c2, c3⟩ := cellx XX.out G0.out
  have E : Hid (r = false) := hid (by first | exact HR.out | (rw [HR.out]; simp [H54.out]))
  go_wp2_with fail
  go_ret
  exact ⟨by rw [E.out]; rfl, X0.out.trans XX.out⟩
 obtain ⟨c0, c1, c2, c3⟩ := cellx XX.out G0.out
 obtain ⟨b, off, ka0, kc0, rfl, HBW, HZ0, KK0⟩ := kidA (HY.out.ext isNd_good X0.out fun _ _ h => h) (by omega)
 have C0 := hid fun W (X : Ext none' W0 W) => HHE.out (t.kid 0) (show (t.kid 0).size ≤ f from by have := kid_size (t := t) (i := 0) (by omega); have := HT.out; omega) _ W (ndvx HZ0.out X)
 obtain ⟨b0, hb0⟩ : ∃ b, ex (t.kid 0) = b := ⟨_, rfl⟩
 rw [hb0] at C0 HR
 clear hb0
 obtain ⟨m00, m01, m02, m03⟩ := kid' XX.out HBW.out KK0.out
 go_wp2_with fail
 refine (C0.out _ XX.out).mono ?_
 rintro e w56 ⟨rfl, X⟩
 have XX := hid (XX.out.trans X)
 clear X c0 c1 c2 c3 m00 m01 m02 m03
 have E : Hid (r = b0) := hid (by first | exact HR.out | (rw [HR.out]; simp [H54.out]))
 go_wp2_with fail
 go_ret
 exact ⟨by rw [E.out]; rfl, X0.out.trans XX.out⟩
theorem re_func (f : Nat) (hf : f + 1 ≤ bigD) (ty ex st : Nd → Bool) (H : RTyH f ty) (HE : RExH f ex) (HS : RStH f st) (t : Nd) (ht : t.size ≤ f + 1) (hk : t.kind = 25) (v : Value) (w : World) (hv : NdV none' w t v) :
 Calls Tryz.prog 34 #[v] w (BoolP (ofB 25 [sigB ty nmB, blkB st] t) w) := by
 obtain ⟨a1, cap1, rfl, hcap, HV, HY⟩ := nd_open hv
 have hkl : t.kids.length ≤ 4000000000 := by have := t.kids_len; unfold bigD at hf; omega
 obtain ⟨r, hr⟩ : ∃ r, r = (ofB 25 [sigB ty nmB, blkB st] t) := ⟨_, rfl⟩
 rw [← hr]
 have HH := hid H
 have HHE := hid HE
 have HHS := hid HS
 replace hr := hr.trans ((of_chain hk).trans (congrArg _ kids2_chain))
 obtain ⟨tx, htx⟩ : ∃ k, t.text = k := ⟨_, rfl⟩
 rw [hk, htx] at HV
 rw [hk, htx]
 try rw [htx] at hr
 have HR := hid hr
 have HTX := hid htx
 have HT := hid ht
 have HF := hid hf
 obtain ⟨B, W0, hB, hW0, X0, G0⟩ := boxed w (.cells #[.int .i64 25, .string ⟨tx.toArray⟩, .slice a1 t.kids.length cap1, .int .i64 t.pos] 24)
 have XX := hid (Ext.refl none' W0)
 clear hr htx ht hf hk H HE HS
 go_enter Tryz.func34, Tryz.ntmps34
 go_upto_region 1 with (fail)
 rw [← hW0, ← hB]
 clear hW0 hB
 obtain ⟨c0, c1, c2, c3⟩ := cellx XX.out G0.out
 by_cases h57 : tx = []
 case neg =>
  have q157 : (tx == []) = false := by simpa using h57
  have q257 : (tx != []) = true := by simpa using h57
  have q357 : tx.isEmpty = false := by simpa using h57
  have E : Hid (r = false) := hid (by first | exact HR.out | (rw [HR.out]; simp [h57]))
  go_wp2_with fail
  go_ret
  exact ⟨by rw [E.out]; rfl, X0.out.trans XX.out⟩
 have q157 : (tx == []) = true := by simpa using h57
 have q257 : (tx != []) = false := by simp [h57]
 have q357 : tx.isEmpty = true := by simpa using h57
 by_cases h58 : t.kids.length = 2
 case neg =>
  have q158 : ((t.kids.length : Int) == 2) = false := by rw [beq_eq_false_iff_ne]; omega
  have q258 : ((t.kids.length : Int) != 2) = true := by rw [bne_iff_ne]; omega
  have q358 : (t.kids.length == 2) = false := by rw [beq_eq_false_iff_ne]; omega
  have E : Hid (r = false) := hid (by first | exact HR.out | (rw [HR.out]; simp [h57, h58]))
  go_wp2_with fail
  go_ret
  exact ⟨by rw [E.out]; rfl, X0.out.trans XX.out⟩
 have q158 : ((t.kids.length : Int) == 2) = true := by rw [beq_iff_eq]; omega
 have q258 : ((t.kids.length : Int) != 2) = false := by rw [bne_eq_false_iff_eq]; omega
 have q358 : (t.kids.length == 2) = true := by rw [beq_iff_eq]; omega
 have g158 : 2 ≤ t.kids.length := by omega
 have g258 : t.kids.length ≤ 2 := by omega
 have H58 := hid h58
 clear h58
 obtain ⟨b, off, ka0, kc0, rfl, HBW, HZ0, KK0⟩ := kidA (HY.out.ext isNd_good X0.out fun _ _ h => h) (by omega)
 obtain ⟨ka1, kc1, HZ1, KK1⟩ := kidB (HY.out.ext isNd_good X0.out fun _ _ h => h) 1 4 rfl (by omega)
 have C0 := hid fun W (X : Ext none' W0 W) => (show ∀ v W, NdV none' W (t.kid 0) v → Calls Tryz.prog 36 #[v, .bool true] W (BoolP (sigB ty nmB (t.kid 0)) W) from fun v W hv => rsig_any f HF.out ty HH.out true (t.kid 0) (show (t.kid 0).size ≤ f + 1 from by have := kid_size (t := t) (i := 0) (by omega); have := HT.out; omega) v W hv) _ W (ndvx HZ0.out X)
 obtain ⟨b0, hb0⟩ : ∃ b, sigB ty nmB (t.kid 0) = b := ⟨_, rfl⟩
 rw [hb0] at C0 HR
 clear hb0
 have C1 := hid fun W (X : Ext none' W0 W) => rblock_any f HF.out st HHS.out (t.kid 1) (show (t.kid 1).size ≤ f + 1 from by have := kid_size (t := t) (i := 1) (by omega); have := HT.out; omega) _ W (ndvx HZ1.out X)
 obtain ⟨b1, hb1⟩ : ∃ b, blkB st (t.kid 1) = b := ⟨_, rfl⟩
 rw [hb1] at C1 HR
 clear hb1
 obtain ⟨m00, m01, m02, m03⟩ := kid' XX.out HBW.out KK0.out
 obtain ⟨m10, m11, m12, m13⟩ := kid' XX.out HBW.out KK1.out
 go_wp2_with fail
 refine (C0.out _ XX.out).mono ?_
 rintro e w59 ⟨rfl, X⟩
 have XX := hid (XX.out.trans X)
 clear X c0 c1 c2 c3 m00 m01 m02 m03 m10 m11 m12 m13
 cases b0
 case false =>
  obtain ⟨c0, c1, c2, c3⟩ := cellx XX.out G0.out
  obtain ⟨m00, m01, m02, m03⟩ := kid' XX.out HBW.out KK0.out
  obtain ⟨m10, m11, m12, m13⟩ := kid' XX.out HBW.out KK1.out
  have E : Hid (r = false) := hid (by first | exact HR.out | (rw [HR.out]; simp [h57, H58.out]))
  go_wp2_with fail
  go_ret
  exact ⟨by rw [E.out]; rfl, X0.out.trans XX.out⟩
 obtain ⟨c0, c1, c2, c3⟩ := cellx XX.out G0.out
 obtain ⟨m00, m01, m02, m03⟩ := kid' XX.out HBW.out KK0.out
 obtain ⟨m10, m11, m12, m13⟩ := kid' XX.out HBW.out KK1.out
 go_wp2_with fail
 refine (C1.out _ XX.out).mono ?_
 rintro e w60 ⟨rfl, X⟩
 have XX := hid (XX.out.trans X)
 clear X c0 c1 c2 c3 m00 m01 m02 m03 m10 m11 m12 m13
 have E : Hid (r = b1) := hid (by first | exact HR.out | (rw [HR.out]; simp [h57, H58.out]))
 go_wp2_with fail
 go_ret
 exact ⟨by rw [E.out]; rfl, X0.out.trans XX.out⟩
end Go.Proofs.YthbmjamgidfneaaGreatDoor
