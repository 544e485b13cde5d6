import Derived.Test.YthbmjamgidfneaaGreatDoorYAa
import Derived.Test.YthbmjamgidfneaaGreatDoorYAd
import Derived.Test.YthbmjamgidfneaaGreatDoorYAi
import Derived.Test.YthbmjamgidfneaaGreatDoorYAf
set_option maxRecDepth 100000
set_option maxHeartbeats 6400000
namespace Go.Proofs.YthbmjamgidfneaaGreatDoor
open Go.RowKit Go.Lib Go.BigFrame
set_option linter.unusedVariables false
set_option linter.unusedSimpArgs false
theorem kids3_chain {p q u : Nd → Bool} {t : Nd} : kidsB [p, q, u] t.kids = (t.kids.length == 3 && (p (t.kid 0) && (q (t.kid 1) && u (t.kid 2)))) := by
 unfold Nd.kid
 match t.kids with
 | [] => rfl
 | [x] => simp [kidsB]
 | [x, y] => simp [kidsB]
 | [x, y, z] => simp [kidsB]
 | x :: y :: z :: a :: r => simp [kidsB]
theorem kids4_chain {p q u v : Nd → Bool} {t : Nd} : kidsB [p, q, u, v] t.kids = (t.kids.length == 4 && (p (t.kid 0) && (q (t.kid 1) && (u (t.kid 2) && v (t.kid 3))))) := by
 unfold Nd.kid
 match t.kids with
 | [] => rfl
 | [x] => simp [kidsB]
 | [x, y] => simp [kidsB]
 | [x, y, z] => simp [kidsB]
 | [x, y, z, a] => simp [kidsB]
 | x :: y :: z :: a :: b :: r => simp [kidsB]
theorem kids2_chain {p q : Nd → Bool} {t : Nd} : kidsB [p, q] t.kids = (t.kids.length == 2 && (p (t.kid 0) && q (t.kid 1))) := by
 unfold Nd.kid
 match t.kids with
 | [] => rfl
 | [x] => simp [kidsB]
 | [x, y] => simp [kidsB]
 | x :: y :: z :: r => simp [kidsB]
theorem kids1_chain {p : Nd → Bool} {t : Nd} : kidsB [p] t.kids = (t.kids.length == 1 && p (t.kid 0)) := by
 unfold Nd.kid
 match t.kids with
 | [] => rfl
 | [x] => simp [kidsB]
 | x :: y :: r => simp [kidsB]
theorem kids0_chain {t : Nd} : kidsB [] t.kids = (t.kids.length == 0) := by
 match t.kids with
 | [] => rfl
 | x :: r => simp [kidsB]
theorem nam_chain {so : List UInt8 → Bool} {k : Int} {ps : List (Nd → Bool)} {t : Nd} (hk : t.kind = k) : namB so k ps t = (so t.text && kidsB ps t.kids) := by
 unfold namB
 rw [hk]
 simp only [beq_self_eq_true, Bool.true_and]
theorem of_chain {k : Int} {ps : List (Nd → Bool)} {t : Nd} (hk : t.kind = k) : ofB k ps t = (t.text == [] && kidsB ps t.kids) := by
 unfold ofB
 rw [hk]
 simp only [beq_self_eq_true, Bool.true_and]
theorem decl2_chain {ty st : Nd → Bool} {t : Nd} (hk : t.kind = 2) : namB nmB 2 [parsB ty, sigB ty nmB, blkB st] t = (nmB t.text && (t.kids.length == 3 && (parsB ty (t.kid 0) && (sigB ty nmB (t.kid 1) && blkB st (t.kid 2))))) := by
 rw [nam_chain hk, kids3_chain]
theorem decl3_chain {ty : Nd → Bool} {t : Nd} (hk : t.kind = 3) : namB nmB 3 [parsB ty, orB (orB ty (structB ty)) (interB ty)] t = (nmB t.text && (t.kids.length == 2 && (parsB ty (t.kid 0) && (ty (t.kid 1) || (structB ty (t.kid 1) || interB ty (t.kid 1)))))) := by
 rw [nam_chain hk, kids2_chain]
 unfold orB
 simp only [Bool.or_assoc]
theorem decl4_chain {ty : Nd → Bool} {t : Nd} (hk : t.kind = 4) : namB nmB 4 [parsB ty, ty] t = (nmB t.text && (t.kids.length == 2 && (parsB ty (t.kid 0) && ty (t.kid 1)))) := by
 rw [nam_chain hk, kids2_chain]
theorem rd_2 (f : Nat) (hf : f + 1 ≤ bigD) (ty ex st : Nd → Bool) (H : RTyH f ty) (HE : RExH f ex) (HS : RStH f st) (t : Nd) (ht : t.size ≤ f + 1) (hk : t.kind = 2) (v : Value) (w : World) (hv : NdV none' w t v) :
 Calls Tryz.prog 32 #[v] w (BoolP (namB nmB 2 [parsB ty, sigB ty nmB, blkB st] t) w) := by
 obtain ⟨a1, cap1, rfl, hcap, HV, HY⟩ := nd_open hv
 have hkl : t.kids.length ≤ 4000000000 := by have := t.kids_len; unfold bigD at hf; omega
 obtain ⟨r, hr⟩ : ∃ r, r = (namB nmB 2 [parsB ty, sigB ty nmB, blkB st] t) := ⟨_, rfl⟩
 rw [← hr]
 have HH := hid H
 have HHE := hid HE
 have HHS := hid HS
 replace hr := hr.trans (decl2_chain hk)
 obtain ⟨tx, htx⟩ : ∃ k, t.text = k := ⟨_, rfl⟩
 rw [hk, htx] at HV
 rw [hk, htx]
 try rw [htx] at hr
 have HR := hid hr
 have HTX := hid htx
 have HT := hid ht
 have HF := hid hf
 obtain ⟨B, W0, hB, hW0, X0, G0⟩ := boxed w (.cells #[.int .i64 2, .string ⟨tx.toArray⟩, .slice a1 t.kids.length cap1, .int .i64 t.pos] 24)
 have XX := hid (Ext.refl none' W0)
 clear hr htx ht hf hk H HE HS
 go_enter Tryz.func32, Tryz.ntmps32
 go_upto_region 1 with (fail)
 rw [← hW0, ← hB]
 clear hW0 hB
 obtain ⟨c0, c1, c2, c3⟩ := cellx XX.out G0.out
 have CM := hid fun W (X : Ext none' W0 W) => rnm_any tx W
 obtain ⟨qn, hqn⟩ : ∃ b, nmB tx = b := ⟨_, rfl⟩
 rw [hqn] at CM HR
 clear hqn
 go_wp2_with fail
 refine (CM.out _ XX.out).mono ?_
 rintro e w1 ⟨rfl, X⟩
 have XX := hid (XX.out.trans X)
 clear X c0 c1 c2 c3
 cases qn
 case false =>
  obtain ⟨c0, c1, c2, c3⟩ := cellx XX.out G0.out
  have E : Hid (r = false) := hid (by first | exact HR.out | (rw [HR.out]; simp []))
  go_wp2_with fail
  go_ret
  exact ⟨by rw [E.out]; rfl, X0.out.trans XX.out⟩
 obtain ⟨c0, c1, c2, c3⟩ := cellx XX.out G0.out
 by_cases h2 : t.kids.length = 3
 case neg =>
  have q12 : ((t.kids.length : Int) == 3) = false := by rw [beq_eq_false_iff_ne]; omega
  have q22 : ((t.kids.length : Int) != 3) = true := by rw [bne_iff_ne]; omega
  have q32 : (t.kids.length == 3) = false := by rw [beq_eq_false_iff_ne]; omega
  by_cases h3 : t.kids.length < 2
  case neg =>
   have y13 : ¬ t.kids.length < 2 := by omega
   have y23 : ¬ ((t.kids.length : Nat) : Int) < 2 := by omega
   have y33 : decide (((t.kids.length : Nat) : Int) < 2) = false := by rw [decide_eq_false_iff_not]; omega
   obtain ⟨b, off, ka0, kc0, rfl, HBW, HZ0, KK0⟩ := kidA (HY.out.ext isNd_good X0.out fun _ _ h => h) (by omega)
   have C0 := hid fun W (X : Ext none' W0 W) => rparams_any f HF.out ty HH.out (t.kid 0) (show (t.kid 0).size ≤ f + 1 from by have := kid_size (t := t) (i := 0) (by omega); have := HT.out; omega) _ W (ndvx HZ0.out X)
   obtain ⟨b0, hb0⟩ : ∃ b, parsB ty (t.kid 0) = b := ⟨_, rfl⟩
   rw [hb0] at C0 HR
   clear hb0
   obtain ⟨m00, m01, m02, m03⟩ := kid' XX.out HBW.out KK0.out
   go_wp2_with fail
   refine (C0.out _ XX.out).mono ?_
   rintro e w4 ⟨rfl, X⟩
   have XX := hid (XX.out.trans X)
   clear X c0 c1 c2 c3 m00 m01 m02 m03
   cases b0
   case false =>
    obtain ⟨c0, c1, c2, c3⟩ := cellx XX.out G0.out
    obtain ⟨m00, m01, m02, m03⟩ := kid' XX.out HBW.out KK0.out
    have E : Hid (r = false) := hid (by first | exact HR.out | (rw [HR.out]; simp [h2, h3]))
    go_wp2_with fail
    go_ret
    exact ⟨by rw [E.out]; rfl, X0.out.trans XX.out⟩
   obtain ⟨c0, c1, c2, c3⟩ := cellx XX.out G0.out
   obtain ⟨m00, m01, m02, m03⟩ := kid' XX.out HBW.out KK0.out
   have E : Hid (r = false) := hid (by first | exact HR.out | (rw [HR.out]; simp [h2, h3]))
   go_wp2_with fail
   go_ret
   exact ⟨by rw [E.out]; rfl, X0.out.trans XX.out⟩
  have y13 : t.kids.length < 2 := by omega
  have y23 : ((t.kids.length : Nat) : Int) < 2 := by omega
  have y33 : decide (((t.kids.length : Nat) : Int) < 2) = true := by rw [decide_eq_true_iff]; omega
  have E : Hid (r = false) := hid (by first | exact HR.out | (rw [HR.out]; simp [h2, h3]))
  go_wp2_with fail
  go_ret
  exact ⟨by rw [E.out]; rfl, X0.out.trans XX.out⟩
 have q12 : ((t.kids.length : Int) == 3) = true := by rw [beq_iff_eq]; omega
 have q22 : ((t.kids.length : Int) != 3) = false := by rw [bne_eq_false_iff_eq]; omega
 have q32 : (t.kids.length == 3) = true := by rw [beq_iff_eq]; omega
 have g12 : 3 ≤ t.kids.length := by omega
 have g22 : t.kids.length ≤ 3 := by omega
 have H2 := hid h2
 clear h2
 have y1a : ¬ t.kids.length < 2 := by omega
 have y2a : ¬ ((t.kids.length : Nat) : Int) < 2 := by omega
 have y3a : decide (((t.kids.length : Nat) : Int) < 2) = false := by rw [decide_eq_false_iff_not]; omega
 obtain ⟨b, off, ka0, kc0, rfl, HBW, HZ0, KK0⟩ := kidA (HY.out.ext isNd_good X0.out fun _ _ h => h) (by omega)
 obtain ⟨ka1, kc1, HZ1, KK1⟩ := kidB (HY.out.ext isNd_good X0.out fun _ _ h => h) 1 4 rfl (by omega)
 obtain ⟨ka2, kc2, HZ2, KK2⟩ := kidB (HY.out.ext isNd_good X0.out fun _ _ h => h) 2 8 rfl (by omega)
 have C0 := hid fun W (X : Ext none' W0 W) => rparams_any f HF.out ty HH.out (t.kid 0) (show (t.kid 0).size ≤ f + 1 from by have := kid_size (t := t) (i := 0) (by omega); have := HT.out; omega) _ W (ndvx HZ0.out X)
 obtain ⟨b0, hb0⟩ : ∃ b, parsB ty (t.kid 0) = b := ⟨_, rfl⟩
 rw [hb0] at C0 HR
 clear hb0
 have C1 := hid fun W (X : Ext none' W0 W) => (show ∀ v W, NdV none' W (t.kid 1) v → Calls Tryz.prog 36 #[v, .bool true] W (BoolP (sigB ty nmB (t.kid 1)) W) from fun v W hv => rsig_any f HF.out ty HH.out true (t.kid 1) (show (t.kid 1).size ≤ f + 1 from by have := kid_size (t := t) (i := 1) (by omega); have := HT.out; omega) v W hv) _ W (ndvx HZ1.out X)
 obtain ⟨b1, hb1⟩ : ∃ b, sigB ty nmB (t.kid 1) = b := ⟨_, rfl⟩
 rw [hb1] at C1 HR
 clear hb1
 have C2 := hid fun W (X : Ext none' W0 W) => rblock_any f HF.out st HHS.out (t.kid 2) (show (t.kid 2).size ≤ f + 1 from by have := kid_size (t := t) (i := 2) (by omega); have := HT.out; omega) _ W (ndvx HZ2.out X)
 obtain ⟨b2, hb2⟩ : ∃ b, blkB st (t.kid 2) = b := ⟨_, rfl⟩
 rw [hb2] at C2 HR
 clear hb2
 obtain ⟨m00, m01, m02, m03⟩ := kid' XX.out HBW.out KK0.out
 obtain ⟨m10, m11, m12, m13⟩ := kid' XX.out HBW.out KK1.out
 obtain ⟨m20, m21, m22, m23⟩ := kid' XX.out HBW.out KK2.out
 go_wp2_with fail
 refine (C0.out _ XX.out).mono ?_
 rintro e w5 ⟨rfl, X⟩
 have XX := hid (XX.out.trans X)
 clear X c0 c1 c2 c3 m00 m01 m02 m03 m10 m11 m12 m13 m20 m21 m22 m23
 cases b0
 case false =>
  obtain ⟨c0, c1, c2, c3⟩ := cellx XX.out G0.out
  obtain ⟨m00, m01, m02, m03⟩ := kid' XX.out HBW.out KK0.out
  obtain ⟨m10, m11, m12, m13⟩ := kid' XX.out HBW.out KK1.out
  obtain ⟨m20, m21, m22, m23⟩ := kid' XX.out HBW.out KK2.out
  have E : Hid (r = false) := hid (by first | exact HR.out | (rw [HR.out]; simp [H2.out]))
  go_wp2_with fail
  go_ret
  exact ⟨by rw [E.out]; rfl, X0.out.trans XX.out⟩
 obtain ⟨c0, c1, c2, c3⟩ := cellx XX.out G0.out
 obtain ⟨m00, m01, m02, m03⟩ := kid' XX.out HBW.out KK0.out
 obtain ⟨m10, m11, m12, m13⟩ := kid' XX.out HBW.out KK1.out
 obtain ⟨m20, m21, m22, m23⟩ := kid' XX.out HBW.out KK2.out
 go_wp2_with fail
 refine (C1.out _ XX.out).mono ?_
 rintro e w6 ⟨rfl, X⟩
 have XX := hid (XX.out.trans X)
 clear X c0 c1 c2 c3 m00 m01 m02 m03 m10 m11 m12 m13 m20 m21 m22 m23
 cases b1
 case false =>
  obtain ⟨c0, c1, c2, c3⟩ := cellx XX.out G0.out
  obtain ⟨m00, m01, m02, m03⟩ := kid' XX.out HBW.out KK0.out
  obtain ⟨m10, m11, m12, m13⟩ := kid' XX.out HBW.out KK1.out
  obtain ⟨m20, m21, m22, m23⟩ := kid' XX.out HBW.out KK2.out
  have E : Hid (r = false) := hid (by first | exact HR.out | (rw [HR.out]; simp [H2.out]))
  go_wp2_with fail
  go_ret
  exact ⟨by rw [E.out]; rfl, X0.out.trans XX.out⟩
 obtain ⟨c0, c1, c2, c3⟩ := cellx XX.out G0.out
 obtain ⟨m00, m01, m02, m03⟩ := kid' XX.out HBW.out KK0.out
 obtain ⟨m10, m11, m12, m13⟩ := kid' XX.out HBW.out KK1.out
 obtain ⟨m20, m21, m22, m23⟩ := kid' XX.out HBW.out KK2.out
 go_wp2_with fail
 refine (C2.out _ XX.out).mono ?_
 rintro e w7 ⟨rfl, X⟩
 have XX := hid (XX.out.trans X)
 clear X c0 c1 c2 c3 m00 m01 m02 m03 m10 m11 m12 m13 m20 m21 m22 m23
 have E : Hid (r = b2) := hid (by first | exact HR.out | (rw [HR.out]; simp [H2.out]))
 go_wp2_with fail
 go_ret
 exact ⟨by rw [E.out]; rfl, X0.out.trans XX.out⟩
theorem rd_3 (f : Nat) (hf : f + 1 ≤ bigD) (ty ex st : Nd → Bool) (H : RTyH f ty) (HE : RExH f ex) (HS : RStH f st) (t : Nd) (ht : t.size ≤ f + 1) (hk : t.kind = 3) (v : Value) (w : World) (hv : NdV none' w t v) :
 Calls Tryz.prog 32 #[v] w (BoolP (namB nmB 3 [parsB ty, orB (orB ty (structB ty)) (interB ty)] t) w) := by
 obtain ⟨a1, cap1, rfl, hcap, HV, HY⟩ := nd_open hv
 have hkl : t.kids.length ≤ 4000000000 := by have := t.kids_len; unfold bigD at hf; omega
 obtain ⟨r, hr⟩ : ∃ r, r = (namB nmB 3 [parsB ty, orB (orB ty (structB ty)) (interB ty)] t) := ⟨_, rfl⟩
 rw [← hr]
 have HH := hid H
 have HHE := hid HE
 have HHS := hid HS
 replace hr := hr.trans (decl3_chain hk)
 obtain ⟨tx, htx⟩ : ∃ k, t.text = k := ⟨_, rfl⟩
 rw [hk, htx] at HV
 rw [hk, htx]
 try rw [htx] at hr
 have HR := hid hr
 have HTX := hid htx
 have HT := hid ht
 have HF := hid hf
 obtain ⟨B, W0, hB, hW0, X0, G0⟩ := boxed w (.cells #[.int .i64 3, .string ⟨tx.toArray⟩, .slice a1 t.kids.length cap1, .int .i64 t.pos] 24)
 have XX := hid (Ext.refl none' W0)
 clear hr htx ht hf hk H HE HS
 go_enter Tryz.func32, Tryz.ntmps32
 go_upto_region 1 with (fail)
 rw [← hW0, ← hB]
 clear hW0 hB
 obtain ⟨c0, c1, c2, c3⟩ := cellx XX.out G0.out
 have CM := hid fun W (X : Ext none' W0 W) => rnm_any tx W
 obtain ⟨qn, hqn⟩ : ∃ b, nmB tx = b := ⟨_, rfl⟩
 rw [hqn] at CM HR
 clear hqn
 go_wp2_with fail
 refine (CM.out _ XX.out).mono ?_
 rintro e w8 ⟨rfl, X⟩
 have XX := hid (XX.out.trans X)
 clear X c0 c1 c2 c3
 cases qn
 case false =>
  obtain ⟨c0, c1, c2, c3⟩ := cellx XX.out G0.out
  have E : Hid (r = false) := hid (by first | exact HR.out | (rw [HR.out]; simp []))
  go_wp2_with fail
  go_ret
  exact ⟨by rw [E.out]; rfl, X0.out.trans XX.out⟩
 obtain ⟨c0, c1, c2, c3⟩ := cellx XX.out G0.out
 by_cases h9 : t.kids.length = 2
 case neg =>
  have q19 : ((t.kids.length : Int) == 2) = false := by rw [beq_eq_false_iff_ne]; omega
  have q29 : ((t.kids.length : Int) != 2) = true := by rw [bne_iff_ne]; omega
  have q39 : (t.kids.length == 2) = false := by rw [beq_eq_false_iff_ne]; omega
  by_cases h10 : t.kids.length < 2
  case neg =>
   have y110 : ¬ t.kids.length < 2 := by omega
   have y210 : ¬ ((t.kids.length : Nat) : Int) < 2 := by omega
   have y310 : decide (((t.kids.length : Nat) : Int) < 2) = false := by rw [decide_eq_false_iff_not]; omega
   obtain ⟨b, off, ka0, kc0, rfl, HBW, HZ0, KK0⟩ := kidA (HY.out.ext isNd_good X0.out fun _ _ h => h) (by omega)
   have C0 := hid fun W (X : Ext none' W0 W) => rparams_any f HF.out ty HH.out (t.kid 0) (show (t.kid 0).size ≤ f + 1 from by have := kid_size (t := t) (i := 0) (by omega); have := HT.out; omega) _ W (ndvx HZ0.out X)
   obtain ⟨b0, hb0⟩ : ∃ b, parsB ty (t.kid 0) = b := ⟨_, rfl⟩
   rw [hb0] at C0 HR
   clear hb0
   obtain ⟨m00, m01, m02, m03⟩ := kid' XX.out HBW.out KK0.out
   go_wp2_with fail
   refine (C0.out _ XX.out).mono ?_
   rintro e w11 ⟨rfl, X⟩
   have XX := hid (XX.out.trans X)
   clear X c0 c1 c2 c3 m00 m01 m02 m03
   cases b0
   case false =>
    obtain ⟨c0, c1, c2, c3⟩ := cellx XX.out G0.out
    obtain ⟨m00, m01, m02, m03⟩ := kid' XX.out HBW.out KK0.out
    have E : Hid (r = false) := hid (by first | exact HR.out | (rw [HR.out]; simp [h9, h10]))
    go_wp2_with fail
    go_ret
    exact ⟨by rw [E.out]; rfl, X0.out.trans XX.out⟩
   obtain ⟨c0, c1, c2, c3⟩ := cellx XX.out G0.out
   obtain ⟨m00, m01, m02, m03⟩ := kid' XX.out HBW.out KK0.out
   have E : Hid (r = false) := hid (by first | exact HR.out | (rw [HR.out]; simp [h9, h10]))
   go_wp2_with fail
   go_ret
   exact ⟨by rw [E.out]; rfl, X0.out.trans XX.out⟩
  have y110 : t.kids.length < 2 := by omega
  have y210 : ((t.kids.length : Nat) : Int) < 2 := by omega
  have y310 : decide (((t.kids.length : Nat) : Int) < 2) = true := by rw [decide_eq_true_iff]; omega
  have E : Hid (r = false) := hid (by first | exact HR.out | (rw [HR.out]; simp [h9, h10]))
  go_wp2_with fail
  go_ret
  exact ⟨by rw [E.out]; rfl, X0.out.trans XX.out⟩
 have q19 : ((t.kids.length : Int) == 2) = true := by rw [beq_iff_eq]; omega
 have q29 : ((t.kids.length : Int) != 2) = false := by rw [bne_eq_false_iff_eq]; omega
 have q39 : (t.kids.length == 2) = true := by rw [beq_iff_eq]; omega
 have g19 : 2 ≤ t.kids.length := by omega
 have g29 : t.kids.length ≤ 2 := by omega
 have H9 := hid h9
 clear h9
 have y1a : ¬ t.kids.length < 2 := by omega
 have y2a : ¬ ((t.kids.length : Nat) : Int) < 2 := by omega
 have y3a : decide (((t.kids.length : Nat) : Int) < 2) = false := by rw [decide_eq_false_iff_not]; omega
 obtain ⟨b, off, ka0, kc0, rfl, HBW, HZ0, KK0⟩ := kidA (HY.out.ext isNd_good X0.out fun _ _ h => h) (by omega)
 obtain ⟨ka1, kc1, HZ1, KK1⟩ := kidB (HY.out.ext isNd_good X0.out fun _ _ h => h) 1 4 rfl (by omega)
 have C0 := hid fun W (X : Ext none' W0 W) => rparams_any f HF.out ty HH.out (t.kid 0) (show (t.kid 0).size ≤ f + 1 from by have := kid_size (t := t) (i := 0) (by omega); have := HT.out; omega) _ W (ndvx HZ0.out X)
 obtain ⟨b0, hb0⟩ : ∃ b, parsB ty (t.kid 0) = b := ⟨_, rfl⟩
 rw [hb0] at C0 HR
 clear hb0
 have C1 := hid fun W (X : Ext none' W0 W) => HH.out (t.kid 1) (show (t.kid 1).size ≤ f from by have := kid_size (t := t) (i := 1) (by omega); have := HT.out; omega) _ W (ndvx HZ1.out X)
 obtain ⟨b1, hb1⟩ : ∃ b, ty (t.kid 1) = b := ⟨_, rfl⟩
 rw [hb1] at C1 HR
 clear hb1
 have C2 := hid fun W (X : Ext none' W0 W) => rfields_any f HF.out ty HH.out (t.kid 1) (show (t.kid 1).size ≤ f + 1 from by have := kid_size (t := t) (i := 1) (by omega); have := HT.out; omega) _ W (ndvx HZ1.out X)
 obtain ⟨b2, hb2⟩ : ∃ b, structB ty (t.kid 1) = b := ⟨_, rfl⟩
 rw [hb2] at C2 HR
 clear hb2
 have C3 := hid fun W (X : Ext none' W0 W) => rinter_any f HF.out ty HH.out (t.kid 1) (show (t.kid 1).size ≤ f + 1 from by have := kid_size (t := t) (i := 1) (by omega); have := HT.out; omega) _ W (ndvx HZ1.out X)
 obtain ⟨b3, hb3⟩ : ∃ b, interB ty (t.kid 1) = b := ⟨_, rfl⟩
 rw [hb3] at C3 HR
 clear hb3
 obtain ⟨m00, m01, m02, m03⟩ := kid' XX.out HBW.out KK0.out
 obtain ⟨m10, m11, m12, m13⟩ := kid' XX.out HBW.out KK1.out
 go_wp2_with fail
 refine (C0.out _ XX.out).mono ?_
 rintro e w12 ⟨rfl, X⟩
 have XX := hid (XX.out.trans X)
 clear X c0 c1 c2 c3 m00 m01 m02 m03 m10 m11 m12 m13
 cases b0
 case false =>
  obtain ⟨c0, c1, c2, c3⟩ := cellx XX.out G0.out
  obtain ⟨m00, m01, m02, m03⟩ := kid' XX.out HBW.out KK0.out
  obtain ⟨m10, m11, m12, m13⟩ := kid' XX.out HBW.out KK1.out
  have E : Hid (r = false) := hid (by first | exact HR.out | (rw [HR.out]; simp [H9.out]))
  go_wp2_with fail
  go_ret
  exact ⟨by rw [E.out]; rfl, X0.out.trans XX.out⟩
 obtain ⟨c0, c1, c2, c3⟩ := cellx XX.out G0.out
 obtain ⟨m00, m01, m02, m03⟩ := kid' XX.out HBW.out KK0.out
 obtain ⟨m10, m11, m12, m13⟩ := kid' XX.out HBW.out KK1.out
 go_wp2_with fail
 refine (C1.out _ XX.out).mono ?_
 rintro e w13 ⟨rfl, X⟩
 have XX := hid (XX.out.trans X)
 clear X c0 c1 c2 c3 m00 m01 m02 m03 m10 m11 m12 m13
 cases b1
 case false =>
  obtain ⟨c0, c1, c2, c3⟩ := cellx XX.out G0.out
  obtain ⟨m00, m01, m02, m03⟩ := kid' XX.out HBW.out KK0.out
  obtain ⟨m10, m11, m12, m13⟩ := kid' XX.out HBW.out KK1.out
  go_wp2_with fail
  refine (C2.out _ XX.out).mono ?_
  rintro e w14 ⟨rfl, X⟩
  have XX := hid (XX.out.trans X)
  clear X c0 c1 c2 c3 m00 m01 m02 m03 m10 m11 m12 m13
  cases b2
  case false =>
   obtain ⟨c0, c1, c2, c3⟩ := cellx XX.out G0.out
   obtain ⟨m00, m01, m02, m03⟩ := kid' XX.out HBW.out KK0.out
   obtain ⟨m10, m11, m12, m13⟩ := kid' XX.out HBW.out KK1.out
   go_wp2_with fail
   refine (C3.out _ XX.out).mono ?_
   rintro e w15 ⟨rfl, X⟩
   have XX := hid (XX.out.trans X)
   clear X c0 c1 c2 c3 m00 m01 m02 m03 m10 m11 m12 m13
   have E : Hid (r = b3) := hid (by first | exact HR.out | (rw [HR.out]; simp [H9.out]))
   go_wp2_with fail
   go_ret
   exact ⟨by rw [E.out]; rfl, X0.out.trans XX.out⟩
  obtain ⟨c0, c1, c2, c3⟩ := cellx XX.out G0.out
  obtain ⟨m00, m01, m02, m03⟩ := kid' XX.out HBW.out KK0.out
  obtain ⟨m10, m11, m12, m13⟩ := kid' XX.out HBW.out KK1.out
  have E : Hid (r = true) := hid (by first | exact HR.out | (rw [HR.out]; simp [H9.out]))
  go_wp2_with fail
  go_ret
  exact ⟨by rw [E.out]; rfl, X0.out.trans XX.out⟩
 obtain ⟨c0, c1, c2, c3⟩ := cellx XX.out G0.out
 obtain ⟨m00, m01, m02, m03⟩ := kid' XX.out HBW.out KK0.out
 obtain ⟨m10, m11, m12, m13⟩ := kid' XX.out HBW.out KK1.out
 have E : Hid (r = true) := hid (by first | exact HR.out | (rw [HR.out]; simp [H9.out]))
 go_wp2_with fail
 go_ret
 exact ⟨by rw [E.out]; rfl, X0.out.trans XX.out⟩
theorem rd_4 (f : Nat) (hf : f + 1 ≤ bigD) (ty ex st : Nd → Bool) (H : RTyH f ty) (HE : RExH f ex) (HS : RStH f st) (t : Nd) (ht : t.size ≤ f + 1) (hk : t.kind = 4) (v : Value) (w : World) (hv : NdV none' w t v) :
 Calls Tryz.prog 32 #[v] w (BoolP (namB nmB 4 [parsB ty, ty] t) w) := by
 obtain ⟨a1, cap1, rfl, hcap, HV, HY⟩ := nd_open hv
 have hkl : t.kids.length ≤ 4000000000 := by have := t.kids_len; unfold bigD at hf; omega
 obtain ⟨r, hr⟩ : ∃ r, r = (namB nmB 4 [parsB ty, ty] t) := ⟨_, rfl⟩
 rw [← hr]
 have HH := hid H
 have HHE := hid HE
 have HHS := hid HS
 replace hr := hr.trans (decl4_chain hk)
 obtain ⟨tx, htx⟩ : ∃ k, t.text = k := ⟨_, rfl⟩
 rw [hk, htx] at HV
 rw [hk, htx]
 try rw [htx] at hr
 have HR := hid hr
 have HTX := hid htx
 have HT := hid ht
 have HF := hid hf
 obtain ⟨B, W0, hB, hW0, X0, G0⟩ := boxed w (.cells #[.int .i64 4, .string ⟨tx.toArray⟩, .slice a1 t.kids.length cap1, .int .i64 t.pos] 24)
 have XX := hid (Ext.refl none' W0)
 clear hr htx ht hf hk H HE HS
 go_enter Tryz.func32, Tryz.ntmps32
 go_upto_region 1 with (fail)
 rw [← hW0, ← hB]
 clear hW0 hB
 obtain ⟨c0, c1, c2, c3⟩ := cellx XX.out G0.out
 have CM := hid fun W (X : Ext none' W0 W) => rnm_any tx W
 obtain ⟨qn, hqn⟩ : ∃ b, nmB tx = b := ⟨_, rfl⟩
 rw [hqn] at CM HR
 clear hqn
 go_wp2_with fail
 refine (CM.out _ XX.out).mono ?_
 rintro e w16 ⟨rfl, X⟩
 have XX := hid (XX.out.trans X)
 clear X c0 c1 c2 c3
 cases qn
 case false =>
  obtain ⟨c0, c1, c2, c3⟩ := cellx XX.out G0.out
  have E : Hid (r = false) := hid (by first | exact HR.out | (rw [HR.out]; simp []))
  go_wp2_with fail
  go_ret
  exact ⟨by rw [E.out]; rfl, X0.out.trans XX.out⟩
 obtain ⟨c0, c1, c2, c3⟩ := cellx XX.out G0.out
 by_cases h17 : t.kids.length = 2
 case neg =>
  have q117 : ((t.kids.length : Int) == 2) = false := by rw [beq_eq_false_iff_ne]; omega
  have q217 : ((t.kids.length : Int) != 2) = true := by rw [bne_iff_ne]; omega
  have q317 : (t.kids.length == 2) = false := by rw [beq_eq_false_iff_ne]; omega
  by_cases h18 : t.kids.length < 2
  case neg =>
   have y118 : ¬ t.kids.length < 2 := by omega
   have y218 : ¬ ((t.kids.length : Nat) : Int) < 2 := by omega
   have y318 : decide (((t.kids.length : Nat) : Int) < 2) = false := by rw [decide_eq_false_iff_not]; omega
   obtain ⟨b, off, ka0, kc0, rfl, HBW, HZ0, KK0⟩ := kidA (HY.out.ext isNd_good X0.out fun _ _ h => h) (by omega)
   have C0 := hid fun W (X : Ext none' W0 W) => rparams_any f HF.out ty HH.out (t.kid 0) (show (t.kid 0).size ≤ f + 1 from by have := kid_size (t := t) (i := 0) (by omega); have := HT.out; omega) _ W (ndvx HZ0.out X)
   obtain ⟨b0, hb0⟩ : ∃ b, parsB ty (t.kid 0) = b := ⟨_, rfl⟩
   rw [hb0] at C0 HR
   clear hb0
   obtain ⟨m00, m01, m02, m03⟩ := kid' XX.out HBW.out KK0.out
   go_wp2_with fail
   refine (C0.out _ XX.out).mono ?_
   rintro e w19 ⟨rfl, X⟩
   have XX := hid (XX.out.trans X)
   clear X c0 c1 c2 c3 m00 m01 m02 m03
   cases b0
   case false =>
    obtain ⟨c0, c1, c2, c3⟩ := cellx XX.out G0.out
    obtain ⟨m00, m01, m02, m03⟩ := kid' XX.out HBW.out KK0.out
    have E : Hid (r = false) := hid (by first | exact HR.out | (rw [HR.out]; simp [h17, h18]))
    go_wp2_with fail
    go_ret
    exact ⟨by rw [E.out]; rfl, X0.out.trans XX.out⟩
   obtain ⟨c0, c1, c2, c3⟩ := cellx XX.out G0.out
   obtain ⟨m00, m01, m02, m03⟩ := kid' XX.out HBW.out KK0.out
   have E : Hid (r = false) := hid (by first | exact HR.out | (rw [HR.out]; simp [h17, h18]))
   go_wp2_with fail
   go_ret
   exact ⟨by rw [E.out]; rfl, X0.out.trans XX.out⟩
  have y118 : t.kids.length < 2 := by omega
  have y218 : ((t.kids.length : Nat) : Int) < 2 := by omega
  have y318 : decide (((t.kids.length : Nat) : Int) < 2) = true := by rw [decide_eq_true_iff]; omega
  have E : Hid (r = false) := hid (by first | exact HR.out | (rw [HR.out]; simp [h17, h18]))
  go_wp2_with fail
  go_ret
  exact ⟨by rw [E.out]; rfl, X0.out.trans XX.out⟩
 have q117 : ((t.kids.length : Int) == 2) = true := by rw [beq_iff_eq]; omega
 have q217 : ((t.kids.length : Int) != 2) = false := by rw [bne_eq_false_iff_eq]; omega
 have q317 : (t.kids.length == 2) = true := by rw [beq_iff_eq]; omega
 have g117 : 2 ≤ t.kids.length := by omega
 have g217 : t.kids.length ≤ 2 := by omega
 have H17 := hid h17
 clear h17
 have y1a : ¬ t.kids.length < 2 := by omega
 have y2a : ¬ ((t.kids.length : Nat) : Int) < 2 := by omega
 have y3a : decide (((t.kids.length : Nat) : Int) < 2) = false := by rw [decide_eq_false_iff_not]; omega
 obtain ⟨b, off, ka0, kc0, rfl, HBW, HZ0, KK0⟩ := kidA (HY.out.ext isNd_good X0.out fun _ _ h => h) (by omega)
 obtain ⟨ka1, kc1, HZ1, KK1⟩ := kidB (HY.out.ext isNd_good X0.out fun _ _ h => h) 1 4 rfl (by omega)
 have C0 := hid fun W (X : Ext none' W0 W) => rparams_any f HF.out ty HH.out (t.kid 0) (show (t.kid 0).size ≤ f + 1 from by have := kid_size (t := t) (i := 0) (by omega); have := HT.out; omega) _ W (ndvx HZ0.out X)
 obtain ⟨b0, hb0⟩ : ∃ b, parsB ty (t.kid 0) = b := ⟨_, rfl⟩
 rw [hb0] at C0 HR
 clear hb0
 have C1 := hid fun W (X : Ext none' W0 W) => HH.out (t.kid 1) (show (t.kid 1).size ≤ f from by have := kid_size (t := t) (i := 1) (by omega); have := HT.out; omega) _ W (ndvx HZ1.out X)
 obtain ⟨b1, hb1⟩ : ∃ b, ty (t.kid 1) = b := ⟨_, rfl⟩
 rw [hb1] at C1 HR
 clear hb1
 obtain ⟨m00, m01, m02, m03⟩ := kid' XX.out HBW.out KK0.out
 obtain ⟨m10, m11, m12, m13⟩ := kid' XX.out HBW.out KK1.out
 go_wp2_with fail
 refine (C0.out _ XX.out).mono ?_
 rintro e w20 ⟨rfl, X⟩
 have XX := hid (XX.out.trans X)
 clear X c0 c1 c2 c3 m00 m01 m02 m03 m10 m11 m12 m13
 cases b0
 case false =>
  obtain ⟨c0, c1, c2, c3⟩ := cellx XX.out G0.out
  obtain ⟨m00, m01, m02, m03⟩ := kid' XX.out HBW.out KK0.out
  obtain ⟨m10, m11, m12, m13⟩ := kid' XX.out HBW.out KK1.out
  have E : Hid (r = false) := hid (by first | exact HR.out | (rw [HR.out]; simp [H17.out]))
  go_wp2_with fail
  go_ret
  exact ⟨by rw [E.out]; rfl, X0.out.trans XX.out⟩
 obtain ⟨c0, c1, c2, c3⟩ := cellx XX.out G0.out
 obtain ⟨m00, m01, m02, m03⟩ := kid' XX.out HBW.out KK0.out
 obtain ⟨m10, m11, m12, m13⟩ := kid' XX.out HBW.out KK1.out
 go_wp2_with fail
 refine (C1.out _ XX.out).mono ?_
 rintro e w21 ⟨rfl, X⟩
 have XX := hid (XX.out.trans X)
 clear X c0 c1 c2 c3 m00 m01 m02 m03 m10 m11 m12 m13
 have E : Hid (r = b1) := hid (by first | exact HR.out | (rw [HR.out]; simp [H17.out]))
 go_wp2_with fail
 go_ret
 exact ⟨by rw [E.out]; rfl, X0.out.trans XX.out⟩
theorem rd_5 (f : Nat) (hf : f + 1 ≤ bigD) (ty ex st : Nd → Bool) (H : RTyH f ty) (HE : RExH f ex) (HS : RStH f st) (t : Nd) (ht : t.size ≤ f + 1) (hk : t.kind = 5) (v : Value) (w : World) (hv : NdV none' w t v) :
 Calls Tryz.prog 32 #[v] w (BoolP (varB ty ex t) w) := by
 obtain ⟨a1, cap1, rfl, hcap, HV, HY⟩ := nd_open hv
 have hkl : t.kids.length ≤ 4000000000 := by have := t.kids_len; unfold bigD at hf; omega
 obtain ⟨r, hr⟩ : ∃ r, r = (varB ty ex t) := ⟨_, rfl⟩
 rw [← hr]
 have HH := hid H
 have HHE := hid HE
 have HHS := hid HS
 replace hr := hr.trans (rfl)
 obtain ⟨tx, htx⟩ : ∃ k, t.text = k := ⟨_, rfl⟩
 rw [hk, htx] at HV
 rw [hk, htx]
 try rw [htx] at hr
 have HR := hid hr
 have HTX := hid htx
 have HT := hid ht
 have HF := hid hf
 obtain ⟨B, W0, hB, hW0, X0, G0⟩ := boxed w (.cells #[.int .i64 5, .string ⟨tx.toArray⟩, .slice a1 t.kids.length cap1, .int .i64 t.pos] 24)
 have XX := hid (Ext.refl none' W0)
 clear hr htx ht hf hk H HE HS
 go_enter Tryz.func32, Tryz.ntmps32
 go_upto_region 1 with (fail)
 rw [← hW0, ← hB]
 clear hW0 hB
 obtain ⟨c0, c1, c2, c3⟩ := cellx XX.out G0.out
 have CV := hid fun W (X : Ext none' W0 W) => rvar_any f HF.out ty ex HH.out HHE.out t HT.out (.agg #[.int .i64 5, .string ⟨tx.toArray⟩, .slice a1 t.kids.length cap1, .int .i64 t.pos]) W (HV.out.ext (X0.out.trans X) fun _ _ h => h)
 obtain ⟨bv, hbv⟩ : ∃ b, varB ty ex t = b := ⟨_, rfl⟩
 rw [hbv] at CV HR
 clear hbv
 go_wp2_with fail
 refine (CV.out _ XX.out).mono ?_
 rintro e w22 ⟨rfl, X⟩
 have XX := hid (XX.out.trans X)
 clear X c0 c1 c2 c3
 have E : Hid (r = bv) := hid (by first | exact HR.out | (rw [HR.out]; simp []))
 go_wp2_with fail
 go_ret
 exact ⟨by rw [E.out]; rfl, X0.out.trans XX.out⟩
theorem var_not {ty ex : Nd → Bool} {t : Nd} (h : t.kind ≠ 5) : varB ty ex t = false := by
 unfold varB namB
 rw [show (t.kind == 5) = false by simpa using h]
 rfl
theorem rd_not (f : Nat) (hf : f + 1 ≤ bigD) (ty ex st : Nd → Bool) (H : RTyH f ty) (HE : RExH f ex) (HS : RStH f st)  (t : Nd) (h2 : t.kind ≠ 2) (h3 : t.kind ≠ 3) (h4 : t.kind ≠ 4) (h5 : t.kind ≠ 5) (ht : t.size ≤ f + 1) (v : Value) (w : World) (hv : NdV none' w t v) :
 Calls Tryz.prog 32 #[v] w (BoolP (false) w) := by
 obtain ⟨a1, cap1, rfl, hcap, HV, HY⟩ := nd_open hv
 have hkl : t.kids.length ≤ 4000000000 := by have := t.kids_len; unfold bigD at hf; omega
 obtain ⟨r, hr⟩ : ∃ r, r = false := ⟨_, rfl⟩
 rw [← hr]
 have HH := hid H
 have HHE := hid HE
 have HHS := hid HS
 obtain ⟨tk, htk⟩ : ∃ k, t.kind = k := ⟨_, rfl⟩
 obtain ⟨tx, htx⟩ : ∃ k, t.text = k := ⟨_, rfl⟩
 rw [htk, htx] at HV
 rw [htk, htx]
 try rw [htk] at hr
 try rw [htx] at hr
 rw [htk] at h2 h3 h4 h5
 have q1_2 : (tk == 2) = false := by simpa using h2
 have q2_2 : (tk != 2) = true := by simpa using h2
 have q1_3 : (tk == 3) = false := by simpa using h3
 have q2_3 : (tk != 3) = true := by simpa using h3
 have q1_4 : (tk == 4) = false := by simpa using h4
 have q2_4 : (tk != 4) = true := by simpa using h4
 have q1_5 : (tk == 5) = false := by simpa using h5
 have q2_5 : (tk != 5) = true := by simpa using h5
 have HR := hid hr
 have HTK := hid htk
 have HTX := hid htx
 have HT := hid ht
 have HF := hid hf
 obtain ⟨B, W0, hB, hW0, X0, G0⟩ := boxed w (.cells #[.int .i64 tk, .string ⟨tx.toArray⟩, .slice a1 t.kids.length cap1, .int .i64 t.pos] 24)
 have XX := hid (Ext.refl none' W0)
 clear hr htk htx ht hf H HE HS h2 h3 h4 h5
 go_enter Tryz.func32, Tryz.ntmps32
 go_upto_region 1 with (fail)
 rw [← hW0, ← hB]
 clear hW0 hB
 obtain ⟨c0, c1, c2, c3⟩ := cellx XX.out G0.out
 have CM := hid fun W (X : Ext none' W0 W) => rnm_any tx W
 obtain ⟨qn, hqn⟩ : ∃ b, nmB tx = b := ⟨_, rfl⟩
 rw [hqn] at CM
 clear hqn
 go_wp2_with fail
 refine (CM.out _ XX.out).mono ?_
 rintro e w23 ⟨rfl, X⟩
 have XX := hid (XX.out.trans X)
 clear X c0 c1 c2 c3
 cases qn
 case false =>
  obtain ⟨c0, c1, c2, c3⟩ := cellx XX.out G0.out
  have E : Hid (r = false) := hid (by first | exact HR.out | (rw [HR.out]; simp []))
  go_wp2_with fail
  go_ret
  exact ⟨by rw [E.out]; rfl, X0.out.trans XX.out⟩
 obtain ⟨c0, c1, c2, c3⟩ := cellx XX.out G0.out
 by_cases h24 : t.kids.length < 2
 case neg =>
  have y124 : ¬ t.kids.length < 2 := by omega
  have y224 : ¬ ((t.kids.length : Nat) : Int) < 2 := by omega
  have y324 : decide (((t.kids.length : Nat) : Int) < 2) = false := by rw [decide_eq_false_iff_not]; omega
  obtain ⟨b, off, ka0, kc0, rfl, HBW, HZ0, KK0⟩ := kidA (HY.out.ext isNd_good X0.out fun _ _ h => h) (by omega)
  have C0 := hid fun W (X : Ext none' W0 W) => rparams_any f HF.out ty HH.out (t.kid 0) (show (t.kid 0).size ≤ f + 1 from by have := kid_size (t := t) (i := 0) (by omega); have := HT.out; omega) _ W (ndvx HZ0.out X)
  obtain ⟨b0, hb0⟩ : ∃ b, parsB ty (t.kid 0) = b := ⟨_, rfl⟩
  rw [hb0] at C0
  clear hb0
  obtain ⟨m00, m01, m02, m03⟩ := kid' XX.out HBW.out KK0.out
  go_wp2_with fail
  refine (C0.out _ XX.out).mono ?_
  rintro e w25 ⟨rfl, X⟩
  have XX := hid (XX.out.trans X)
  clear X c0 c1 c2 c3 m00 m01 m02 m03
  cases b0
  case false =>
   obtain ⟨c0, c1, c2, c3⟩ := cellx XX.out G0.out
   obtain ⟨m00, m01, m02, m03⟩ := kid' XX.out HBW.out KK0.out
   have E : Hid (r = false) := hid (by first | exact HR.out | (rw [HR.out]; simp [h24]))
   go_wp2_with fail
   go_ret
   exact ⟨by rw [E.out]; rfl, X0.out.trans XX.out⟩
  obtain ⟨c0, c1, c2, c3⟩ := cellx XX.out G0.out
  obtain ⟨m00, m01, m02, m03⟩ := kid' XX.out HBW.out KK0.out
  have E : Hid (r = false) := hid (by first | exact HR.out | (rw [HR.out]; simp [h24]))
  go_wp2_with fail
  go_ret
  exact ⟨by rw [E.out]; rfl, X0.out.trans XX.out⟩
 have y124 : t.kids.length < 2 := by omega
 have y224 : ((t.kids.length : Nat) : Int) < 2 := by omega
 have y324 : decide (((t.kids.length : Nat) : Int) < 2) = true := by rw [decide_eq_true_iff]; omega
 have E : Hid (r = false) := hid (by first | exact HR.out | (rw [HR.out]; simp [h24]))
 go_wp2_with fail
 go_ret
 exact ⟨by rw [E.out]; rfl, X0.out.trans XX.out⟩
theorem rdecl_any (f : Nat) (hf : f + 1 ≤ bigD) (ty ex st : Nd → Bool) (H : RTyH f ty) (HE : RExH f ex) (HS : RStH f st) (t : Nd) (ht : t.size ≤ f + 1) (v : Value) (w : World) (hv : NdV none' w t v) :
 Calls Tryz.prog 32 #[v] w (BoolP (declB ty ex st t) w) := by
 unfold declB
 by_cases h2 : t.kind = 2; · rw [if_pos h2]; exact rd_2 f hf ty ex st H HE HS t ht h2 v w hv
 rw [if_neg h2]
 by_cases h3 : t.kind = 3; · rw [if_pos h3]; exact rd_3 f hf ty ex st H HE HS t ht h3 v w hv
 rw [if_neg h3]
 by_cases h4 : t.kind = 4; · rw [if_pos h4]; exact rd_4 f hf ty ex st H HE HS t ht h4 v w hv
 rw [if_neg h4]
 by_cases h5 : t.kind = 5; · exact rd_5 f hf ty ex st H HE HS t ht h5 v w hv
 rw [var_not h5]
 exact rd_not f hf ty ex st H HE HS t h2 h3 h4 h5 ht v w hv
end Go.Proofs.YthbmjamgidfneaaGreatDoor
namespace Go.Proofs.YthbmjamgidfneaaGreatDoor
open Go.RowKit Go.Lib Go.BigFrame
theorem plainP_alt (s : List UInt8) : plainP s = (!(decide (s.length = 0) || decide (200 < s.length) || (decide (1 < s.length) && s.head? == some 48)) && allF s) := by
 unfold plainP allF
 match s with
 | [] => rfl
 | [c] =>
  by_cases h : c = 48
  · subst h; decide
  · simp [h]
 | c :: d :: t =>
  have e : (c :: d :: t == [48]) = false := by simp
  rw [e]
  by_cases h : c = 48
  · subst h; simp
  · by_cases h2 : (c :: d :: t).length ≤ 200
    · have h3 : ¬ 200 < (c :: d :: t).length := by omega
      simp only [h2, h3]
      have hb : (some c != some (48 : UInt8)) = !(c == 48) := rfl
      simp [hb, Bool.and_comm]
    · have h3 : 200 < (c :: d :: t).length := by omega
      simp only [h2, h3]
      simp
theorem rplain_any (s : List UInt8) (w : World) (hs : s.length ≤ 4000000000) : Calls Tryz.prog 77 #[.string ⟨s.toArray⟩] w (fun e w' => e = .returned (.bool (plainP s)) ∧ w' = w) := by
 obtain ⟨r, hr⟩ : ∃ r, r = plainP s := ⟨_, rfl⟩
 rw [← hr]
 rw [plainP_alt] at hr
 have HR := hid hr
 clear hr
 by_cases h0 : s = []
 · have e : Hid (r = false) := hid (by rw [HR.out, h0]; rfl)
   subst h0
   go_enter Tryz.func77, Tryz.ntmps77
   go_wp2_with fail
   go_ret
   rw [e.out]
   exact ⟨rfl, rfl⟩
 · have hl0 : 0 < s.length := List.length_pos_iff.2 h0
   have q0 : ((s.length : Int) == 0) = false := by simp; omega
   by_cases h200 : 200 < s.length
   · have e : Hid (r = false) := hid (by rw [HR.out]; simp [h200])
     have q1 : decide (200 < (s.length : Int)) = true := by simp; omega
     clear h0
     go_enter Tryz.func77, Tryz.ntmps77
     go_wp2_with fail
     go_ret
     rw [e.out]
     exact ⟨rfl, rfl⟩
   · have q1 : decide (200 < (s.length : Int)) = false := by simp; omega
     have hh : s.head? = some (s[0]'hl0) := by rw [List.head?_eq_getElem?, List.getElem?_eq_getElem hl0]
     have hi0 : ∀ W, (Instr.index 9 (.string ⟨s.toArray⟩) (.int .i64 0)).run Tryz.prog W = .ok (.int .u8 ((s[0]'hl0).toNat : Nat)) W := fun W => idx_run s 0 hl0 W
     obtain ⟨c, hc⟩ : ∃ c, s[0]'hl0 = c := ⟨_, rfl⟩
     simp only [hc] at hi0
     rw [hc] at hh
     by_cases hz : 1 < s.length ∧ c = 48
     · have e : Hid (r = false) := hid (by rw [HR.out, hh]; simp [hz])
       have q2 : decide (1 < (s.length : Int)) = true := by simp; omega
       have q3 : ((c.toNat : Int) == 48) = true := by rw [hz.2]; rfl
       clear h0 hz hc hh
       go_enter Tryz.func77, Tryz.ntmps77
       go_wp2_with fail
       go_ret
       rw [e.out]
       exact ⟨rfl, rfl⟩
     · have HR1 : Hid (r = allF (s.drop 0)) := hid (by
        rw [HR.out, hh, List.drop_zero]
        have a1 : decide (s.length = 0) = false := by simp; exact h0
        have a2 : decide (200 < s.length) = false := by simp; omega
        have a3 : (decide (1 < s.length) && (some c == some (48 : UInt8))) = false := by
         by_cases h : 1 < s.length
         · have : c ≠ 48 := fun e => hz ⟨h, e⟩
           simp [this]
         · simp [h]
        rw [a1, a2, a3]; rfl)
       have hq : (decide (1 < (s.length : Int)) = false) ∨ (decide (1 < (s.length : Int)) = true ∧ ((c.toNat : Int) == 48) = false) := by
        by_cases h : 1 < s.length
        · right
          have : c ≠ 48 := fun e => hz ⟨h, e⟩
          have := u8n this
          exact ⟨by simp; omega, by simp at this ⊢; omega⟩
        · left; simp; omega
       clear hz hc hh h0 HR
       rcases hq with q2 | ⟨q2, q3⟩
       all_goals
        go_enter Tryz.func77, Tryz.ntmps77
        go_wp2_with fail
        go_loopw [3] (fun z wr => ∃ i : Nat, z = .int .i64 i ∧ i ≤ s.length ∧ Hid (r = allF (s.drop i)) ∧ wr = w) (fun z _ => s.length - (RowKit.intOf z).toNat)
        case atStart => exact ⟨0, rfl, by omega, HR1, rfl⟩
        case round =>
         obtain ⟨i, rfl, hle, HA, rfl⟩ := hrel
         clear q0 q1 q2 hi0
         by_cases hil : i < s.length
         · have hi1 : ∀ W, (Instr.index 9 (.string ⟨s.toArray⟩) (.int .i64 (i : Nat))).run Tryz.prog W = .ok (.int .u8 ((s[i]'hil).toNat : Nat)) W := fun W => idx_run s i hil W
           have hdr : s.drop i = s[i] :: s.drop (i + 1) := List.drop_eq_getElem_cons hil
           obtain ⟨d, hd⟩ : ∃ d, s[i]'hil = d := ⟨_, rfl⟩
           simp only [hd] at hi1
           rw [hd] at hdr
           have HA1 : Hid (r = ((decide (48 ≤ d.toNat) && decide (d.toNat ≤ 57)) && allF (s.drop (i + 1)))) := hid (by rw [HA.out, hdr]; rfl)
           clear hd hdr HA
           by_cases hf : 48 ≤ d.toNat ∧ d.toNat ≤ 57
           · have f1 : decide ((d.toNat : Int) < 48) = false := by simp; omega
             have f2 : decide (57 < (d.toNat : Int)) = false := by simp; omega
             have N : Hid (r = allF (s.drop (i + 1))) := hid (by rw [HA1.out]; simp [hf])
             clear hf HA1
             go_wp2_with fail
             go_roundw
             case rel => exact ⟨i + 1, by go_num, by omega, N, by trivial⟩
             case measure => simp [RowKit.intOf]; omega
           · have e : Hid (r = false) := hid (by
              rw [HA1.out]
              have : (decide (48 ≤ d.toNat) && decide (d.toNat ≤ 57)) = false := by simp; omega
              rw [this]; rfl)
             have hff : (decide ((d.toNat : Int) < 48) = true) ∨ (decide ((d.toNat : Int) < 48) = false ∧ decide (57 < (d.toNat : Int)) = true) := by
              by_cases h : d.toNat < 48
              · left; simp; omega
              · right; exact ⟨by simp; omega, by simp; omega⟩
             clear hf HA1
             rcases hff with f1 | ⟨f1, f2⟩
             · go_wp2_with fail
               go_ret
               rw [e.out]
               exact ⟨rfl, rfl⟩
             · go_wp2_with fail
               go_ret
               rw [e.out]
               exact ⟨rfl, rfl⟩
         · obtain rfl : i = s.length := by omega
           have e : Hid (r = true) := hid (by rw [HA.out, List.drop_length]; rfl)
           clear HA
           go_wp2_with fail
           go_ret
           rw [e.out]
           exact ⟨rfl, rfl⟩
end Go.Proofs.YthbmjamgidfneaaGreatDoor
