import Derived.Test.YthbmjamgidfneaaGreatDoorYAa
import Derived.Test.YthbmjamgidfneaaGreatDoorYAd
import Derived.Test.YthbmjamgidfneaaGreatDoorYAl
set_option maxRecDepth 100000
set_option maxHeartbeats 6400000
namespace Go.Proofs.YthbmjamgidfneaaGreatDoor
open Go.RowKit Go.Lib Go.BigFrame
set_option linter.unusedVariables false
set_option linter.unusedSimpArgs false
theorem sh_kind {ty ex st : Nd → Bool} {t : Nd} : shB ex t = (t.kind == 26 && stB ty ex st t) := by
 by_cases h : t.kind = 26
 · unfold stB; rw [if_neg (by omega), if_pos h, show (t.kind == 26) = true by simpa using h, Bool.true_and]
 · unfold shB namB; rw [show (t.kind == 26) = false by simpa using h]; rfl
theorem set_kind {ty ex st : Nd → Bool} {t : Nd} : setB ex t = (t.kind == 27 && stB ty ex st t) := by
 by_cases h : t.kind = 27
 · unfold stB; rw [if_neg (by omega), if_neg (by omega), if_pos h, show (t.kind == 27) = true by simpa using h, Bool.true_and]
 · unfold setB; rw [ofB_not h, show (t.kind == 27) = false by simpa using h]; rfl
theorem incr_kind {ty ex st : Nd → Bool} {t : Nd} : incrB ex t = (t.kind == 28 && stB ty ex st t) := by
 by_cases h : t.kind = 28
 · unfold stB; rw [if_neg (by omega), if_neg (by omega), if_neg (by omega), if_pos h, show (t.kind == 28) = true by simpa using h, Bool.true_and]
 · unfold incrB namB; rw [show (t.kind == 28) = false by simpa using h]; rfl
theorem call_kind {ty ex st : Nd → Bool} {t : Nd} : callB ex t = (t.kind == 29 && stB ty ex st t) := by
 by_cases h : t.kind = 29
 · unfold stB; rw [if_neg (by omega), if_neg (by omega), if_neg (by omega), if_neg (by omega), if_pos h, show (t.kind == 29) = true by simpa using h, Bool.true_and]
 · unfold callB; rw [ofB_not h, show (t.kind == 29) = false by simpa using h]; rfl
theorem blk_kind {ty ex st : Nd → Bool} {t : Nd} : blkB st t = (t.kind == 36 && stB ty ex st t) := by
 by_cases h : t.kind = 36
 · unfold stB; rw [if_neg (by omega), if_neg (by omega), if_neg (by omega), if_neg (by omega), if_neg (by omega), if_neg (by omega), if_neg (by omega), if_neg (by omega), if_neg (by omega), if_neg (by omega), if_neg (by omega), show (t.kind == 36) = true by simpa using h, Bool.true_and]
 · unfold blkB; rw [show (t.kind == 36) = false by simpa using h]; rfl
theorem if_else {ty ex st : Nd → Bool} {x : Nd} (h : st x = stB ty ex st x) : orB (orB emptyB (blkB st)) (ifB st) x = (emptyB x || ([36, 30].contains x.kind && st x)) := by
 unfold orB ifB
 rw [blk_kind (ty := ty) (ex := ex) (st := st), ← h]
 simp only [List.contains_cons, List.contains_nil]
 cases emptyB x <;> cases st x <;> cases (x.kind == 36) <;> cases (x.kind == 30) <;> rfl
theorem for_first {ty ex st : Nd → Bool} {x : Nd} (h : st x = stB ty ex st x) : orB (orB emptyB (shB ex)) (orB (setB ex) (incrB ex)) x = (emptyB x || ([26, 27, 28].contains x.kind && st x)) := by
 unfold orB
 rw [sh_kind (ty := ty) (ex := ex) (st := st), set_kind (ty := ty) (ex := ex) (st := st), incr_kind (ty := ty) (ex := ex) (st := st), ← h]
 simp only [List.contains_cons, List.contains_nil]
 cases emptyB x <;> cases st x <;> cases (x.kind == 26) <;> cases (x.kind == 27) <;> cases (x.kind == 28) <;> rfl
theorem for_third {ty ex st : Nd → Bool} {x : Nd} (h : st x = stB ty ex st x) : orB (orB emptyB (setB ex)) (orB (incrB ex) (callB ex)) x = (emptyB x || ([27, 28, 29].contains x.kind && st x)) := by
 unfold orB
 rw [call_kind (ty := ty) (ex := ex) (st := st), set_kind (ty := ty) (ex := ex) (st := st), incr_kind (ty := ty) (ex := ex) (st := st), ← h]
 simp only [List.contains_cons, List.contains_nil]
 cases emptyB x <;> cases st x <;> cases (x.kind == 27) <;> cases (x.kind == 28) <;> cases (x.kind == 29) <;> rfl
theorem rs_5 (f : Nat) (hf : f + 1 ≤ bigD) (ty ex st : Nd → Bool) (H : RTyH f ty) (HE : RExH f ex) (HS : RStH f st) (t : Nd) (ht : t.size ≤ f + 1) (hk : t.kind = 5) (v : Value) (w : World) (hv : NdV none' w t v) :
 Calls Tryz.prog 35 #[v] w (BoolP (varB ty ex t) w) := by
 obtain ⟨a1, cap1, rfl, hcap, HV, HY⟩ := nd_open hv
 have hkl : t.kids.length ≤ 4000000000 := by have := t.kids_len; unfold bigD at hf; omega
 obtain ⟨r, hr⟩ : ∃ r, r = (varB ty ex t) := ⟨_, rfl⟩
 rw [← hr]
 have HH := hid H
 have HHE := hid HE
 have HHS := hid HS
 replace hr := hr.trans (rfl)
 obtain ⟨tx, htx⟩ : ∃ k, t.text = k := ⟨_, rfl⟩
 rw [hk, htx] at HV
 rw [hk, htx]
 try rw [htx] at hr
 have HR := hid hr
 have HTX := hid htx
 have HT := hid ht
 have HF := hid hf
 obtain ⟨B, W0, hB, hW0, X0, G0⟩ := boxed w (.cells #[.int .i64 5, .string ⟨tx.toArray⟩, .slice a1 t.kids.length cap1, .int .i64 t.pos] 24)
 have XX := hid (Ext.refl none' W0)
 clear hr htx ht hf hk H HE HS
 go_enter Tryz.func35, Tryz.ntmps35
 go_upto_region 1 with (fail)
 rw [← hW0, ← hB]
 clear hW0 hB
 obtain ⟨c0, c1, c2, c3⟩ := cellx XX.out G0.out
 have CV := hid fun W (X : Ext none' W0 W) => rvar_any f HF.out ty ex HH.out HHE.out t HT.out (.agg #[.int .i64 5, .string ⟨tx.toArray⟩, .slice a1 t.kids.length cap1, .int .i64 t.pos]) W (HV.out.ext (X0.out.trans X) fun _ _ h => h)
 obtain ⟨bv, hbv⟩ : ∃ b, varB ty ex t = b := ⟨_, rfl⟩
 rw [hbv] at CV HR
 clear hbv
 go_wp2_with fail
 refine (CV.out _ XX.out).mono ?_
 rintro e w61 ⟨rfl, X⟩
 have XX := hid (XX.out.trans X)
 clear X c0 c1 c2 c3
 have E : Hid (r = bv) := hid (by first | exact HR.out | (rw [HR.out]; simp []))
 go_wp2_with fail
 go_ret
 exact ⟨by rw [E.out]; rfl, X0.out.trans XX.out⟩
theorem rs_26 (f : Nat) (hf : f + 1 ≤ bigD) (ty ex st : Nd → Bool) (H : RTyH f ty) (HE : RExH f ex) (HS : RStH f st) (t : Nd) (ht : t.size ≤ f + 1) (hk : t.kind = 26) (v : Value) (w : World) (hv : NdV none' w t v) :
 Calls Tryz.prog 35 #[v] w (BoolP (shB ex t) w) := by
 obtain ⟨a1, cap1, rfl, hcap, HV, HY⟩ := nd_open hv
 have hkl : t.kids.length ≤ 4000000000 := by have := t.kids_len; unfold bigD at hf; omega
 obtain ⟨r, hr⟩ : ∃ r, r = (shB ex t) := ⟨_, rfl⟩
 rw [← hr]
 have HH := hid H
 have HHE := hid HE
 have HHS := hid HS
 replace hr := hr.trans ((show shB ex t = namB bndB 26 [ex] t from rfl).trans ((nam_chain hk).trans (congrArg _ kids1_chain)))
 obtain ⟨tx, htx⟩ : ∃ k, t.text = k := ⟨_, rfl⟩
 rw [hk, htx] at HV
 rw [hk, htx]
 try rw [htx] at hr
 have HR := hid hr
 have HTX := hid htx
 have HT := hid ht
 have HF := hid hf
 obtain ⟨B, W0, hB, hW0, X0, G0⟩ := boxed w (.cells #[.int .i64 26, .string ⟨tx.toArray⟩, .slice a1 t.kids.length cap1, .int .i64 t.pos] 24)
 have XX := hid (Ext.refl none' W0)
 clear hr htx ht hf hk H HE HS
 go_enter Tryz.func35, Tryz.ntmps35
 go_upto_region 1 with (fail)
 rw [← hW0, ← hB]
 clear hW0 hB
 obtain ⟨c0, c1, c2, c3⟩ := cellx XX.out G0.out
 have CM := hid fun W (X : Ext none' W0 W) => rbound_any tx W
 obtain ⟨qn, hqn⟩ : ∃ b, bndB tx = b := ⟨_, rfl⟩
 rw [hqn] at CM HR
 clear hqn
 by_cases h62 : t.kids.length = 1
 case neg =>
  have q162 : ((t.kids.length : Int) == 1) = false := by rw [beq_eq_false_iff_ne]; omega
  have q262 : ((t.kids.length : Int) != 1) = true := by rw [bne_iff_ne]; omega
  have q362 : (t.kids.length == 1) = false := by rw [beq_eq_false_iff_ne]; omega
  have E : Hid (r = false) := hid (by first | exact HR.out | (rw [HR.out]; simp [h62]))
  go_wp2_with fail
  go_ret
  exact ⟨by rw [E.out]; rfl, X0.out.trans XX.out⟩
 have q162 : ((t.kids.length : Int) == 1) = true := by rw [beq_iff_eq]; omega
 have q262 : ((t.kids.length : Int) != 1) = false := by rw [bne_eq_false_iff_eq]; omega
 have q362 : (t.kids.length == 1) = true := by rw [beq_iff_eq]; omega
 have g162 : 1 ≤ t.kids.length := by omega
 have g262 : t.kids.length ≤ 1 := by omega
 have H62 := hid h62
 clear h62
 go_wp2_with fail
 refine (CM.out _ XX.out).mono ?_
 rintro e w63 ⟨rfl, X⟩
 have XX := hid (XX.out.trans X)
 clear X c0 c1 c2 c3
 cases qn
 case false =>
  obtain ⟨c0, c1, c2, c3⟩ := cellx XX.out G0.out
  have E : Hid (r = false) := hid (by first | exact HR.out | (rw [HR.out]; simp [H62.out]))
  go_wp2_with fail
  go_ret
  exact ⟨by rw [E.out]; rfl, X0.out.trans XX.out⟩
 obtain ⟨c0, c1, c2, c3⟩ := cellx XX.out G0.out
 obtain ⟨b, off, ka0, kc0, rfl, HBW, HZ0, KK0⟩ := kidA (HY.out.ext isNd_good X0.out fun _ _ h => h) (by omega)
 have C0 := hid fun W (X : Ext none' W0 W) => HHE.out (t.kid 0) (show (t.kid 0).size ≤ f from by have := kid_size (t := t) (i := 0) (by omega); have := HT.out; omega) _ W (ndvx HZ0.out X)
 obtain ⟨b0, hb0⟩ : ∃ b, ex (t.kid 0) = b := ⟨_, rfl⟩
 rw [hb0] at C0 HR
 clear hb0
 obtain ⟨m00, m01, m02, m03⟩ := kid' XX.out HBW.out KK0.out
 go_wp2_with fail
 refine (C0.out _ XX.out).mono ?_
 rintro e w64 ⟨rfl, X⟩
 have XX := hid (XX.out.trans X)
 clear X c0 c1 c2 c3 m00 m01 m02 m03
 have E : Hid (r = b0) := hid (by first | exact HR.out | (rw [HR.out]; simp [H62.out]))
 go_wp2_with fail
 go_ret
 exact ⟨by rw [E.out]; rfl, X0.out.trans XX.out⟩
theorem rs_27 (f : Nat) (hf : f + 1 ≤ bigD) (ty ex st : Nd → Bool) (H : RTyH f ty) (HE : RExH f ex) (HS : RStH f st) (t : Nd) (ht : t.size ≤ f + 1) (hk : t.kind = 27) (v : Value) (w : World) (hv : NdV none' w t v) :
 Calls Tryz.prog 35 #[v] w (BoolP (setB ex t) w) := by
 obtain ⟨a1, cap1, rfl, hcap, HV, HY⟩ := nd_open hv
 have hkl : t.kids.length ≤ 4000000000 := by have := t.kids_len; unfold bigD at hf; omega
 obtain ⟨r, hr⟩ : ∃ r, r = (setB ex t) := ⟨_, rfl⟩
 rw [← hr]
 have HH := hid H
 have HHE := hid HE
 have HHS := hid HS
 replace hr := hr.trans ((show setB ex t = ofB 27 [ex, ex] t from rfl).trans ((of_chain hk).trans (congrArg _ (kids2_chain.trans two_all))))
 obtain ⟨tx, htx⟩ : ∃ k, t.text = k := ⟨_, rfl⟩
 rw [hk, htx] at HV
 rw [hk, htx]
 try rw [htx] at hr
 have HR := hid hr
 have HTX := hid htx
 have HT := hid ht
 have HF := hid hf
 obtain ⟨B, W0, hB, hW0, X0, G0⟩ := boxed w (.cells #[.int .i64 27, .string ⟨tx.toArray⟩, .slice a1 t.kids.length cap1, .int .i64 t.pos] 24)
 have XX := hid (Ext.refl none' W0)
 clear hr htx ht hf hk H HE HS
 go_enter Tryz.func35, Tryz.ntmps35
 go_upto_region 1 with (fail)
 rw [← hW0, ← hB]
 clear hW0 hB
 obtain ⟨c0, c1, c2, c3⟩ := cellx XX.out G0.out
 by_cases h65 : tx = []
 case neg =>
  have q165 : (tx == []) = false := by simpa using h65
  have q265 : (tx != []) = true := by simpa using h65
  have q365 : tx.isEmpty = false := by simpa using h65
  have E : Hid (r = false) := hid (by first | exact HR.out | (rw [HR.out]; simp [h65]))
  go_wp2_with fail
  go_ret
  exact ⟨by rw [E.out]; rfl, X0.out.trans XX.out⟩
 have q165 : (tx == []) = true := by simpa using h65
 have q265 : (tx != []) = false := by simp [h65]
 have q365 : tx.isEmpty = true := by simpa using h65
 by_cases h66 : t.kids.length = 2
 case neg =>
  have q166 : ((t.kids.length : Int) == 2) = false := by rw [beq_eq_false_iff_ne]; omega
  have q266 : ((t.kids.length : Int) != 2) = true := by rw [bne_iff_ne]; omega
  have q366 : (t.kids.length == 2) = false := by rw [beq_eq_false_iff_ne]; omega
  have E : Hid (r = false) := hid (by first | exact HR.out | (rw [HR.out]; simp [h65, h66]))
  go_wp2_with fail
  go_ret
  exact ⟨by rw [E.out]; rfl, X0.out.trans XX.out⟩
 have q166 : ((t.kids.length : Int) == 2) = true := by rw [beq_iff_eq]; omega
 have q266 : ((t.kids.length : Int) != 2) = false := by rw [bne_eq_false_iff_eq]; omega
 have q366 : (t.kids.length == 2) = true := by rw [beq_iff_eq]; omega
 have g166 : 2 ≤ t.kids.length := by omega
 have g266 : t.kids.length ≤ 2 := by omega
 have H66 := hid h66
 clear h66
 have CK := hid fun W (X : Ext none' W0 W) => rexprs_any f ex HHE.out t.kids (fun x hx => by have := Nd.size_kid hx; have := HT.out; omega) hkl (.slice a1 t.kids.length cap1) W (HY.out.ext isNd_good (X0.out.trans X) fun _ _ h => h)
 obtain ⟨bk, hbk⟩ : ∃ b, t.kids.all ex = b := ⟨_, rfl⟩
 rw [hbk] at CK HR
 clear hbk
 go_wp2_with fail
 refine (CK.out _ XX.out).mono ?_
 rintro e w67 ⟨rfl, X⟩
 have XX := hid (XX.out.trans X)
 clear X c0 c1 c2 c3
 have E : Hid (r = bk) := hid (by first | exact HR.out | (rw [HR.out]; simp [h65, H66.out]))
 go_wp2_with fail
 go_ret
 exact ⟨by rw [E.out]; rfl, X0.out.trans XX.out⟩
theorem rs_28 (f : Nat) (hf : f + 1 ≤ bigD) (ty ex st : Nd → Bool) (H : RTyH f ty) (HE : RExH f ex) (HS : RStH f st) (t : Nd) (ht : t.size ≤ f + 1) (hk : t.kind = 28) (v : Value) (w : World) (hv : NdV none' w t v) :
 Calls Tryz.prog 35 #[v] w (BoolP (incrB ex t) w) := by
 obtain ⟨a1, cap1, rfl, hcap, HV, HY⟩ := nd_open hv
 have hkl : t.kids.length ≤ 4000000000 := by have := t.kids_len; unfold bigD at hf; omega
 obtain ⟨r, hr⟩ : ∃ r, r = (incrB ex t) := ⟨_, rfl⟩
 rw [← hr]
 have HH := hid H
 have HHE := hid HE
 have HHS := hid HS
 replace hr := hr.trans ((show incrB ex t = namB incB 28 [ex] t from rfl).trans ((nam_chain hk).trans (congrArg _ kids1_chain)))
 obtain ⟨tx, htx⟩ : ∃ k, t.text = k := ⟨_, rfl⟩
 rw [hk, htx] at HV
 rw [hk, htx]
 try rw [htx] at hr
 have HR := hid hr
 have HTX := hid htx
 have HT := hid ht
 have HF := hid hf
 obtain ⟨B, W0, hB, hW0, X0, G0⟩ := boxed w (.cells #[.int .i64 28, .string ⟨tx.toArray⟩, .slice a1 t.kids.length cap1, .int .i64 t.pos] 24)
 have XX := hid (Ext.refl none' W0)
 clear hr htx ht hf hk H HE HS
 go_enter Tryz.func35, Tryz.ntmps35
 go_upto_region 1 with (fail)
 rw [← hW0, ← hB]
 clear hW0 hB
 obtain ⟨c0, c1, c2, c3⟩ := cellx XX.out G0.out
 unfold incB at HR
 by_cases h68 : t.kids.length = 1
 case neg =>
  have q168 : ((t.kids.length : Int) == 1) = false := by rw [beq_eq_false_iff_ne]; omega
  have q268 : ((t.kids.length : Int) != 1) = true := by rw [bne_iff_ne]; omega
  have q368 : (t.kids.length == 1) = false := by rw [beq_eq_false_iff_ne]; omega
  have E : Hid (r = false) := hid (by first | exact HR.out | (rw [HR.out]; simp [h68]))
  go_wp2_with fail
  go_ret
  exact ⟨by rw [E.out]; rfl, X0.out.trans XX.out⟩
 have q168 : ((t.kids.length : Int) == 1) = true := by rw [beq_iff_eq]; omega
 have q268 : ((t.kids.length : Int) != 1) = false := by rw [bne_eq_false_iff_eq]; omega
 have q368 : (t.kids.length == 1) = true := by rw [beq_iff_eq]; omega
 have g168 : 1 ≤ t.kids.length := by omega
 have g268 : t.kids.length ≤ 1 := by omega
 have H68 := hid h68
 clear h68
 by_cases h69 : tx = [43, 43]
 case neg =>
  have q169 : (tx == [43, 43]) = false := by simpa using h69
  have q269 : (tx != [43, 43]) = true := by simpa using h69
  by_cases h70 : tx = [45, 45]
  case neg =>
   have q170 : (tx == [45, 45]) = false := by simpa using h70
   have q270 : (tx != [45, 45]) = true := by simpa using h70
   have E : Hid (r = false) := hid (by first | exact HR.out | (rw [HR.out]; simp [H68.out, h69, h70]))
   go_wp2_with fail
   go_ret
   exact ⟨by rw [E.out]; rfl, X0.out.trans XX.out⟩
  have q170 : (tx == [45, 45]) = true := by simpa using h70
  have q270 : (tx != [45, 45]) = false := by simp [h70]
  obtain ⟨b, off, ka0, kc0, rfl, HBW, HZ0, KK0⟩ := kidA (HY.out.ext isNd_good X0.out fun _ _ h => h) (by omega)
  have C0 := hid fun W (X : Ext none' W0 W) => HHE.out (t.kid 0) (show (t.kid 0).size ≤ f from by have := kid_size (t := t) (i := 0) (by omega); have := HT.out; omega) _ W (ndvx HZ0.out X)
  obtain ⟨b0, hb0⟩ : ∃ b, ex (t.kid 0) = b := ⟨_, rfl⟩
  rw [hb0] at C0 HR
  clear hb0
  obtain ⟨m00, m01, m02, m03⟩ := kid' XX.out HBW.out KK0.out
  go_wp2_with fail
  refine (C0.out _ XX.out).mono ?_
  rintro e w71 ⟨rfl, X⟩
  have XX := hid (XX.out.trans X)
  clear X c0 c1 c2 c3 m00 m01 m02 m03
  have E : Hid (r = b0) := hid (by first | exact HR.out | (rw [HR.out]; simp [H68.out, h69, h70]))
  go_wp2_with fail
  go_ret
  exact ⟨by rw [E.out]; rfl, X0.out.trans XX.out⟩
 have q169 : (tx == [43, 43]) = true := by simpa using h69
 have q269 : (tx != [43, 43]) = false := by simp [h69]
 obtain ⟨b, off, ka0, kc0, rfl, HBW, HZ0, KK0⟩ := kidA (HY.out.ext isNd_good X0.out fun _ _ h => h) (by omega)
 have C0 := hid fun W (X : Ext none' W0 W) => HHE.out (t.kid 0) (show (t.kid 0).size ≤ f from by have := kid_size (t := t) (i := 0) (by omega); have := HT.out; omega) _ W (ndvx HZ0.out X)
 obtain ⟨b0, hb0⟩ : ∃ b, ex (t.kid 0) = b := ⟨_, rfl⟩
 rw [hb0] at C0 HR
 clear hb0
 obtain ⟨m00, m01, m02, m03⟩ := kid' XX.out HBW.out KK0.out
 go_wp2_with fail
 refine (C0.out _ XX.out).mono ?_
 rintro e w72 ⟨rfl, X⟩
 have XX := hid (XX.out.trans X)
 clear X c0 c1 c2 c3 m00 m01 m02 m03
 have E : Hid (r = b0) := hid (by first | exact HR.out | (rw [HR.out]; simp [H68.out, h69]))
 go_wp2_with fail
 go_ret
 exact ⟨by rw [E.out]; rfl, X0.out.trans XX.out⟩
theorem rs_29 (f : Nat) (hf : f + 1 ≤ bigD) (ty ex st : Nd → Bool) (H : RTyH f ty) (HE : RExH f ex) (HS : RStH f st) (t : Nd) (ht : t.size ≤ f + 1) (hk : t.kind = 29) (v : Value) (w : World) (hv : NdV none' w t v) :
 Calls Tryz.prog 35 #[v] w (BoolP (callB ex t) w) := by
 obtain ⟨a1, cap1, rfl, hcap, HV, HY⟩ := nd_open hv
 have hkl : t.kids.length ≤ 4000000000 := by have := t.kids_len; unfold bigD at hf; omega
 obtain ⟨r, hr⟩ : ∃ r, r = (callB ex t) := ⟨_, rfl⟩
 rw [← hr]
 have HH := hid H
 have HHE := hid HE
 have HHS := hid HS
 replace hr := hr.trans ((show callB ex t = ofB 29 [isCallB ex] t from rfl).trans ((of_chain hk).trans (congrArg _ kids1_chain)))
 obtain ⟨tx, htx⟩ : ∃ k, t.text = k := ⟨_, rfl⟩
 rw [hk, htx] at HV
 rw [hk, htx]
 try rw [htx] at hr
 have HR := hid hr
 have HTX := hid htx
 have HT := hid ht
 have HF := hid hf
 obtain ⟨B, W0, hB, hW0, X0, G0⟩ := boxed w (.cells #[.int .i64 29, .string ⟨tx.toArray⟩, .slice a1 t.kids.length cap1, .int .i64 t.pos] 24)
 have XX := hid (Ext.refl none' W0)
 clear hr htx ht hf hk H HE HS
 go_enter Tryz.func35, Tryz.ntmps35
 go_upto_region 1 with (fail)
 rw [← hW0, ← hB]
 clear hW0 hB
 obtain ⟨c0, c1, c2, c3⟩ := cellx XX.out G0.out
 unfold isCallB at HR
 by_cases h73 : tx = []
 case neg =>
  have q173 : (tx == []) = false := by simpa using h73
  have q273 : (tx != []) = true := by simpa using h73
  have q373 : tx.isEmpty = false := by simpa using h73
  have E : Hid (r = false) := hid (by first | exact HR.out | (rw [HR.out]; simp [h73]))
  go_wp2_with fail
  go_ret
  exact ⟨by rw [E.out]; rfl, X0.out.trans XX.out⟩
 have q173 : (tx == []) = true := by simpa using h73
 have q273 : (tx != []) = false := by simp [h73]
 have q373 : tx.isEmpty = true := by simpa using h73
 by_cases h74 : t.kids.length = 1
 case neg =>
  have q174 : ((t.kids.length : Int) == 1) = false := by rw [beq_eq_false_iff_ne]; omega
  have q274 : ((t.kids.length : Int) != 1) = true := by rw [bne_iff_ne]; omega
  have q374 : (t.kids.length == 1) = false := by rw [beq_eq_false_iff_ne]; omega
  have E : Hid (r = false) := hid (by first | exact HR.out | (rw [HR.out]; simp [h73, h74]))
  go_wp2_with fail
  go_ret
  exact ⟨by rw [E.out]; rfl, X0.out.trans XX.out⟩
 have q174 : ((t.kids.length : Int) == 1) = true := by rw [beq_iff_eq]; omega
 have q274 : ((t.kids.length : Int) != 1) = false := by rw [bne_eq_false_iff_eq]; omega
 have q374 : (t.kids.length == 1) = true := by rw [beq_iff_eq]; omega
 have g174 : 1 ≤ t.kids.length := by omega
 have g274 : t.kids.length ≤ 1 := by omega
 have H74 := hid h74
 clear h74
 obtain ⟨b, off, ka0, kc0, rfl, HBW, HZ0, KK0⟩ := kidA (HY.out.ext isNd_good X0.out fun _ _ h => h) (by omega)
 have C0 := hid fun W (X : Ext none' W0 W) => HHE.out (t.kid 0) (show (t.kid 0).size ≤ f from by have := kid_size (t := t) (i := 0) (by omega); have := HT.out; omega) _ W (ndvx HZ0.out X)
 obtain ⟨b0, hb0⟩ : ∃ b, ex (t.kid 0) = b := ⟨_, rfl⟩
 rw [hb0] at C0 HR
 clear hb0
 obtain ⟨m00, m01, m02, m03⟩ := kid' XX.out HBW.out KK0.out
 by_cases h75 : (t.kid 0).kind = 21
 case neg =>
  have q175 : ((t.kid 0).kind == 21) = false := by simpa using h75
  have q275 : ((t.kid 0).kind != 21) = true := by simpa using h75
  have E : Hid (r = false) := hid (by first | exact HR.out | (rw [HR.out]; simp [h73, H74.out, h75]))
  go_wp2_with fail
  go_ret
  exact ⟨by rw [E.out]; rfl, X0.out.trans XX.out⟩
 have q175 : ((t.kid 0).kind == 21) = true := by simpa using h75
 have q275 : ((t.kid 0).kind != 21) = false := by simp [h75]
 have H75 := hid h75
 clear h75
 go_wp2_with fail
 refine (C0.out _ XX.out).mono ?_
 rintro e w76 ⟨rfl, X⟩
 have XX := hid (XX.out.trans X)
 clear X c0 c1 c2 c3 m00 m01 m02 m03
 have E : Hid (r = b0) := hid (by first | exact HR.out | (rw [HR.out]; simp [h73, H74.out, H75.out]))
 go_wp2_with fail
 go_ret
 exact ⟨by rw [E.out]; rfl, X0.out.trans XX.out⟩
theorem ifs_chain {f : Nat} {ty ex st : Nd → Bool} (HQ : ∀ t, t.size ≤ f → st t = stB ty ex st t) {t : Nd} (ht : t.size ≤ f + 1) (hk : t.kind = 30) : ifsB ex st t = (t.text == [] && (t.kids.length == 3 && (ex (t.kid 0) && (blkB st (t.kid 1) && (emptyB (t.kid 2) || ([36, 30].contains (t.kid 2).kind && st (t.kid 2))))))) := by
 unfold ifsB
 rw [of_chain hk, kids3_chain]
 by_cases h : t.kids.length = 3
 · rw [if_else (HQ _ (by have := kid_size (t := t) (i := 2) (by omega); omega))]
 · rw [show (t.kids.length == 3) = false by simpa using h]; simp
theorem for_chain {f : Nat} {ty ex st : Nd → Bool} (HQ : ∀ t, t.size ≤ f → st t = stB ty ex st t) {t : Nd} (ht : t.size ≤ f + 1) (hk : t.kind = 31) : ofB 31 [orB (orB emptyB (shB ex)) (orB (setB ex) (incrB ex)), orB emptyB ex, orB (orB emptyB (setB ex)) (orB (incrB ex) (callB ex)), blkB st] t =
 (t.text == [] && (t.kids.length == 4 && ((emptyB (t.kid 0) || ([26, 27, 28].contains (t.kid 0).kind && st (t.kid 0))) && ((emptyB (t.kid 1) || ex (t.kid 1)) && ((emptyB (t.kid 2) || ([27, 28, 29].contains (t.kid 2).kind && st (t.kid 2))) && blkB st (t.kid 3)))))) := by
 rw [of_chain hk, kids4_chain]
 by_cases h : t.kids.length = 4
 · rw [for_first (HQ _ (by have := kid_size (t := t) (i := 0) (by omega); omega)), for_third (HQ _ (by have := kid_size (t := t) (i := 2) (by omega); omega))]
   rfl
 · rw [show (t.kids.length == 4) = false by simpa using h]; simp
theorem rs_30 (f : Nat) (hf : f + 1 ≤ bigD) (ty ex st : Nd → Bool) (H : RTyH f ty) (HE : RExH f ex) (HS : RStH f st) (HQ : ∀ t, t.size ≤ f → st t = stB ty ex st t) (t : Nd) (ht : t.size ≤ f + 1) (hk : t.kind = 30) (v : Value) (w : World) (hv : NdV none' w t v) :
 Calls Tryz.prog 35 #[v] w (BoolP (ifsB ex st t) w) := by
 obtain ⟨a1, cap1, rfl, hcap, HV, HY⟩ := nd_open hv
 have hkl : t.kids.length ≤ 4000000000 := by have := t.kids_len; unfold bigD at hf; omega
 obtain ⟨r, hr⟩ : ∃ r, r = (ifsB ex st t) := ⟨_, rfl⟩
 rw [← hr]
 have HH := hid H
 have HHE := hid HE
 have HHS := hid HS
 replace hr := hr.trans (ifs_chain HQ ht hk)
 obtain ⟨tx, htx⟩ : ∃ k, t.text = k := ⟨_, rfl⟩
 rw [hk, htx] at HV
 rw [hk, htx]
 try rw [htx] at hr
 have HR := hid hr
 have HTX := hid htx
 have HT := hid ht
 have HF := hid hf
 obtain ⟨B, W0, hB, hW0, X0, G0⟩ := boxed w (.cells #[.int .i64 30, .string ⟨tx.toArray⟩, .slice a1 t.kids.length cap1, .int .i64 t.pos] 24)
 have XX := hid (Ext.refl none' W0)
 clear hr htx ht hf hk H HE HS
 go_enter Tryz.func35, Tryz.ntmps35
 go_upto_region 1 with (fail)
 rw [← hW0, ← hB]
 clear hW0 hB
 obtain ⟨c0, c1, c2, c3⟩ := cellx XX.out G0.out
 by_cases h77 : tx = []
 case neg =>
  have q177 : (tx == []) = false := by simpa using h77
  have q277 : (tx != []) = true := by simpa using h77
  have q377 : tx.isEmpty = false := by simpa using h77
  have E : Hid (r = false) := hid (by first | exact HR.out | (rw [HR.out]; simp [h77]))
  go_wp2_with fail
  go_ret
  exact ⟨by rw [E.out]; rfl, X0.out.trans XX.out⟩
 have q177 : (tx == []) = true := by simpa using h77
 have q277 : (tx != []) = false := by simp [h77]
 have q377 : tx.isEmpty = true := by simpa using h77
 by_cases h78 : t.kids.length = 3
 case neg =>
  have q178 : ((t.kids.length : Int) == 3) = false := by rw [beq_eq_false_iff_ne]; omega
  have q278 : ((t.kids.length : Int) != 3) = true := by rw [bne_iff_ne]; omega
  have q378 : (t.kids.length == 3) = false := by rw [beq_eq_false_iff_ne]; omega
  have E : Hid (r = false) := hid (by first | exact HR.out | (rw [HR.out]; simp [h77, h78]))
  go_wp2_with fail
  go_ret
  exact ⟨by rw [E.out]; rfl, X0.out.trans XX.out⟩
 have q178 : ((t.kids.length : Int) == 3) = true := by rw [beq_iff_eq]; omega
 have q278 : ((t.kids.length : Int) != 3) = false := by rw [bne_eq_false_iff_eq]; omega
 have q378 : (t.kids.length == 3) = true := by rw [beq_iff_eq]; omega
 have g178 : 3 ≤ t.kids.length := by omega
 have g278 : t.kids.length ≤ 3 := by omega
 have H78 := hid h78
 clear h78
 obtain ⟨b, off, ka0, kc0, rfl, HBW, HZ0, KK0⟩ := kidA (HY.out.ext isNd_good X0.out fun _ _ h => h) (by omega)
 obtain ⟨ka1, kc1, HZ1, KK1⟩ := kidB (HY.out.ext isNd_good X0.out fun _ _ h => h) 1 4 rfl (by omega)
 obtain ⟨ka2, kc2, HZ2, KK2⟩ := kidB (HY.out.ext isNd_good X0.out fun _ _ h => h) 2 8 rfl (by omega)
 have C0 := hid fun W (X : Ext none' W0 W) => HHE.out (t.kid 0) (show (t.kid 0).size ≤ f from by have := kid_size (t := t) (i := 0) (by omega); have := HT.out; omega) _ W (ndvx HZ0.out X)
 obtain ⟨b0, hb0⟩ : ∃ b, ex (t.kid 0) = b := ⟨_, rfl⟩
 rw [hb0] at C0 HR
 clear hb0
 have C1 := hid fun W (X : Ext none' W0 W) => rblock_any f HF.out st HHS.out (t.kid 1) (show (t.kid 1).size ≤ f + 1 from by have := kid_size (t := t) (i := 1) (by omega); have := HT.out; omega) _ W (ndvx HZ1.out X)
 obtain ⟨b1, hb1⟩ : ∃ b, blkB st (t.kid 1) = b := ⟨_, rfl⟩
 rw [hb1] at C1 HR
 clear hb1
 have C2 := hid fun W (X : Ext none' W0 W) => rnothing_any (t.kid 2) _ W (ndvx HZ2.out X)
 obtain ⟨b2, hb2⟩ : ∃ b, emptyB (t.kid 2) = b := ⟨_, rfl⟩
 rw [hb2] at C2 HR
 clear hb2
 have C3 := hid fun W (X : Ext none' W0 W) => (show Calls Tryz.prog 81 #[.agg #[.int .i64 (t.kid 2).kind, .string ⟨(t.kid 2).text.toArray⟩, .slice ka2 (t.kid 2).kids.length kc2, .int .i64 (t.kid 2).pos], .slice (some ⟨W.heap.size, 0, none⟩) 2 2] (W.alloc (.cells #[.int .i64 36, .int .i64 30] 3)) (BoolP ([36, 30].contains (t.kid 2).kind && st (t.kid 2)) W) from (rkind_any f (by have := HF.out; omega) st HHS.out (t.kid 2) (show (t.kid 2).size ≤ f from by have := kid_size (t := t) (i := 2) (by omega); have := HT.out; omega) [36, 30] (by simp) (.agg #[.int .i64 (t.kid 2).kind, .string ⟨(t.kid 2).text.toArray⟩, .slice ka2 (t.kid 2).kids.length kc2, .int .i64 (t.kid 2).pos]) (W.alloc (.cells #[.int .i64 36, .int .i64 30] 3)) ⟨_, rfl, HZ2.out.ext isNd_good (X.alloc _) fun _ _ h => h⟩ W.heap.size 3 (0, 0) (heap_alloc_at rfl _) 2 rfl).mono fun e w' h => ⟨h.1, ((Ext.refl _ _).alloc _).trans h.2⟩)
 obtain ⟨b3, hb3⟩ : ∃ b, ([36, 30].contains (t.kid 2).kind && st (t.kid 2)) = b := ⟨_, rfl⟩
 rw [hb3] at C3 HR
 clear hb3
 obtain ⟨m00, m01, m02, m03⟩ := kid' XX.out HBW.out KK0.out
 obtain ⟨m10, m11, m12, m13⟩ := kid' XX.out HBW.out KK1.out
 obtain ⟨m20, m21, m22, m23⟩ := kid' XX.out HBW.out KK2.out
 go_wp2_with fail
 refine (C0.out _ XX.out).mono ?_
 rintro e w79 ⟨rfl, X⟩
 have XX := hid (XX.out.trans X)
 clear X c0 c1 c2 c3 m00 m01 m02 m03 m10 m11 m12 m13 m20 m21 m22 m23
 cases b0
 case false =>
  obtain ⟨c0, c1, c2, c3⟩ := cellx XX.out G0.out
  obtain ⟨m00, m01, m02, m03⟩ := kid' XX.out HBW.out KK0.out
  obtain ⟨m10, m11, m12, m13⟩ := kid' XX.out HBW.out KK1.out
  obtain ⟨m20, m21, m22, m23⟩ := kid' XX.out HBW.out KK2.out
  have E : Hid (r = false) := hid (by first | exact HR.out | (rw [HR.out]; simp [h77, H78.out]))
  go_wp2_with fail
  go_ret
  exact ⟨by rw [E.out]; rfl, X0.out.trans XX.out⟩
 obtain ⟨c0, c1, c2, c3⟩ := cellx XX.out G0.out
 obtain ⟨m00, m01, m02, m03⟩ := kid' XX.out HBW.out KK0.out
 obtain ⟨m10, m11, m12, m13⟩ := kid' XX.out HBW.out KK1.out
 obtain ⟨m20, m21, m22, m23⟩ := kid' XX.out HBW.out KK2.out
 go_wp2_with fail
 refine (C1.out _ XX.out).mono ?_
 rintro e w80 ⟨rfl, X⟩
 have XX := hid (XX.out.trans X)
 clear X c0 c1 c2 c3 m00 m01 m02 m03 m10 m11 m12 m13 m20 m21 m22 m23
 cases b1
 case false =>
  obtain ⟨c0, c1, c2, c3⟩ := cellx XX.out G0.out
  obtain ⟨m00, m01, m02, m03⟩ := kid' XX.out HBW.out KK0.out
  obtain ⟨m10, m11, m12, m13⟩ := kid' XX.out HBW.out KK1.out
  obtain ⟨m20, m21, m22, m23⟩ := kid' XX.out HBW.out KK2.out
  have E : Hid (r = false) := hid (by first | exact HR.out | (rw [HR.out]; simp [h77, H78.out]))
  go_wp2_with fail
  go_ret
  exact ⟨by rw [E.out]; rfl, X0.out.trans XX.out⟩
 obtain ⟨c0, c1, c2, c3⟩ := cellx XX.out G0.out
 obtain ⟨m00, m01, m02, m03⟩ := kid' XX.out HBW.out KK0.out
 obtain ⟨m10, m11, m12, m13⟩ := kid' XX.out HBW.out KK1.out
 obtain ⟨m20, m21, m22, m23⟩ := kid' XX.out HBW.out KK2.out
 go_wp2_with fail
 refine (C2.out _ XX.out).mono ?_
 rintro e w81 ⟨rfl, X⟩
 have XX := hid (XX.out.trans X)
 clear X c0 c1 c2 c3 m00 m01 m02 m03 m10 m11 m12 m13 m20 m21 m22 m23
 cases b2
 case false =>
  obtain ⟨c0, c1, c2, c3⟩ := cellx XX.out G0.out
  obtain ⟨m00, m01, m02, m03⟩ := kid' XX.out HBW.out KK0.out
  obtain ⟨m10, m11, m12, m13⟩ := kid' XX.out HBW.out KK1.out
  obtain ⟨m20, m21, m22, m23⟩ := kid' XX.out HBW.out KK2.out
  go_wp2_with fail
  refine (C3.out _ XX.out).mono ?_
  rintro e w82 ⟨rfl, X⟩
  have XX := hid (XX.out.trans X)
  clear X c0 c1 c2 c3 m00 m01 m02 m03 m10 m11 m12 m13 m20 m21 m22 m23
  have E : Hid (r = b3) := hid (by first | exact HR.out | (rw [HR.out]; simp [h77, H78.out]))
  go_wp2_with fail
  go_ret
  exact ⟨by rw [E.out]; rfl, X0.out.trans XX.out⟩
 obtain ⟨c0, c1, c2, c3⟩ := cellx XX.out G0.out
 obtain ⟨m00, m01, m02, m03⟩ := kid' XX.out HBW.out KK0.out
 obtain ⟨m10, m11, m12, m13⟩ := kid' XX.out HBW.out KK1.out
 obtain ⟨m20, m21, m22, m23⟩ := kid' XX.out HBW.out KK2.out
 have E : Hid (r = true) := hid (by first | exact HR.out | (rw [HR.out]; simp [h77, H78.out]))
 go_wp2_with fail
 go_ret
 exact ⟨by rw [E.out]; rfl, X0.out.trans XX.out⟩
theorem rs_31 (f : Nat) (hf : f + 1 ≤ bigD) (ty ex st : Nd → Bool) (H : RTyH f ty) (HE : RExH f ex) (HS : RStH f st) (HQ : ∀ t, t.size ≤ f → st t = stB ty ex st t) (t : Nd) (ht : t.size ≤ f + 1) (hk : t.kind = 31) (v : Value) (w : World) (hv : NdV none' w t v) :
 Calls Tryz.prog 35 #[v] w (BoolP (ofB 31 [orB (orB emptyB (shB ex)) (orB (setB ex) (incrB ex)), orB emptyB ex, orB (orB emptyB (setB ex)) (orB (incrB ex) (callB ex)), blkB st] t) w) := by
 obtain ⟨a1, cap1, rfl, hcap, HV, HY⟩ := nd_open hv
 have hkl : t.kids.length ≤ 4000000000 := by have := t.kids_len; unfold bigD at hf; omega
 obtain ⟨r, hr⟩ : ∃ r, r = (ofB 31 [orB (orB emptyB (shB ex)) (orB (setB ex) (incrB ex)), orB emptyB ex, orB (orB emptyB (setB ex)) (orB (incrB ex) (callB ex)), blkB st] t) := ⟨_, rfl⟩
 rw [← hr]
 have HH := hid H
 have HHE := hid HE
 have HHS := hid HS
 replace hr := hr.trans (for_chain HQ ht hk)
 obtain ⟨tx, htx⟩ : ∃ k, t.text = k := ⟨_, rfl⟩
 rw [hk, htx] at HV
 rw [hk, htx]
 try rw [htx] at hr
 have HR := hid hr
 have HTX := hid htx
 have HT := hid ht
 have HF := hid hf
 obtain ⟨B, W0, hB, hW0, X0, G0⟩ := boxed w (.cells #[.int .i64 31, .string ⟨tx.toArray⟩, .slice a1 t.kids.length cap1, .int .i64 t.pos] 24)
 have XX := hid (Ext.refl none' W0)
 clear hr htx ht hf hk H HE HS
 go_enter Tryz.func35, Tryz.ntmps35
 go_upto_region 1 with (fail)
 rw [← hW0, ← hB]
 clear hW0 hB
 obtain ⟨c0, c1, c2, c3⟩ := cellx XX.out G0.out
 by_cases h83 : tx = []
 case neg =>
  have q183 : (tx == []) = false := by simpa using h83
  have q283 : (tx != []) = true := by simpa using h83
  have q383 : tx.isEmpty = false := by simpa using h83
  have E : Hid (r = false) := hid (by first | exact HR.out | (rw [HR.out]; simp [h83]))
  go_wp2_with fail
  go_ret
  exact ⟨by rw [E.out]; rfl, X0.out.trans XX.out⟩
 have q183 : (tx == []) = true := by simpa using h83
 have q283 : (tx != []) = false := by simp [h83]
 have q383 : tx.isEmpty = true := by simpa using h83
 by_cases h84 : t.kids.length = 4
 case neg =>
  have q184 : ((t.kids.length : Int) == 4) = false := by rw [beq_eq_false_iff_ne]; omega
  have q284 : ((t.kids.length : Int) != 4) = true := by rw [bne_iff_ne]; omega
  have q384 : (t.kids.length == 4) = false := by rw [beq_eq_false_iff_ne]; omega
  have E : Hid (r = false) := hid (by first | exact HR.out | (rw [HR.out]; simp [h83, h84]))
  go_wp2_with fail
  go_ret
  exact ⟨by rw [E.out]; rfl, X0.out.trans XX.out⟩
 have q184 : ((t.kids.length : Int) == 4) = true := by rw [beq_iff_eq]; omega
 have q284 : ((t.kids.length : Int) != 4) = false := by rw [bne_eq_false_iff_eq]; omega
 have q384 : (t.kids.length == 4) = true := by rw [beq_iff_eq]; omega
 have g184 : 4 ≤ t.kids.length := by omega
 have g284 : t.kids.length ≤ 4 := by omega
 have H84 := hid h84
 clear h84
 obtain ⟨b, off, ka0, kc0, rfl, HBW, HZ0, KK0⟩ := kidA (HY.out.ext isNd_good X0.out fun _ _ h => h) (by omega)
 obtain ⟨ka1, kc1, HZ1, KK1⟩ := kidB (HY.out.ext isNd_good X0.out fun _ _ h => h) 1 4 rfl (by omega)
 obtain ⟨ka2, kc2, HZ2, KK2⟩ := kidB (HY.out.ext isNd_good X0.out fun _ _ h => h) 2 8 rfl (by omega)
 obtain ⟨ka3, kc3, HZ3, KK3⟩ := kidB (HY.out.ext isNd_good X0.out fun _ _ h => h) 3 12 rfl (by omega)
 have C0 := hid fun W (X : Ext none' W0 W) => rnothing_any (t.kid 0) _ W (ndvx HZ0.out X)
 obtain ⟨b0, hb0⟩ : ∃ b, emptyB (t.kid 0) = b := ⟨_, rfl⟩
 rw [hb0] at C0 HR
 clear hb0
 have C1 := hid fun W (X : Ext none' W0 W) => (show Calls Tryz.prog 81 #[.agg #[.int .i64 (t.kid 0).kind, .string ⟨(t.kid 0).text.toArray⟩, .slice ka0 (t.kid 0).kids.length kc0, .int .i64 (t.kid 0).pos], .slice (some ⟨W.heap.size, 0, none⟩) 3 3] (W.alloc (.cells #[.int .i64 26, .int .i64 27, .int .i64 28] 3)) (BoolP ([26, 27, 28].contains (t.kid 0).kind && st (t.kid 0)) W) from (rkind_any f (by have := HF.out; omega) st HHS.out (t.kid 0) (show (t.kid 0).size ≤ f from by have := kid_size (t := t) (i := 0) (by omega); have := HT.out; omega) [26, 27, 28] (by simp) (.agg #[.int .i64 (t.kid 0).kind, .string ⟨(t.kid 0).text.toArray⟩, .slice ka0 (t.kid 0).kids.length kc0, .int .i64 (t.kid 0).pos]) (W.alloc (.cells #[.int .i64 26, .int .i64 27, .int .i64 28] 3)) ⟨_, rfl, HZ0.out.ext isNd_good (X.alloc _) fun _ _ h => h⟩ W.heap.size 3 (0, 0) (heap_alloc_at rfl _) 3 rfl).mono fun e w' h => ⟨h.1, ((Ext.refl _ _).alloc _).trans h.2⟩)
 obtain ⟨b1, hb1⟩ : ∃ b, ([26, 27, 28].contains (t.kid 0).kind && st (t.kid 0)) = b := ⟨_, rfl⟩
 rw [hb1] at C1 HR
 clear hb1
 have C2 := hid fun W (X : Ext none' W0 W) => rnothing_any (t.kid 1) _ W (ndvx HZ1.out X)
 obtain ⟨b2, hb2⟩ : ∃ b, emptyB (t.kid 1) = b := ⟨_, rfl⟩
 rw [hb2] at C2 HR
 clear hb2
 have C3 := hid fun W (X : Ext none' W0 W) => HHE.out (t.kid 1) (show (t.kid 1).size ≤ f from by have := kid_size (t := t) (i := 1) (by omega); have := HT.out; omega) _ W (ndvx HZ1.out X)
 obtain ⟨b3, hb3⟩ : ∃ b, ex (t.kid 1) = b := ⟨_, rfl⟩
 rw [hb3] at C3 HR
 clear hb3
 have C4 := hid fun W (X : Ext none' W0 W) => rnothing_any (t.kid 2) _ W (ndvx HZ2.out X)
 obtain ⟨b4, hb4⟩ : ∃ b, emptyB (t.kid 2) = b := ⟨_, rfl⟩
 rw [hb4] at C4 HR
 clear hb4
 have C5 := hid fun W (X : Ext none' W0 W) => (show Calls Tryz.prog 81 #[.agg #[.int .i64 (t.kid 2).kind, .string ⟨(t.kid 2).text.toArray⟩, .slice ka2 (t.kid 2).kids.length kc2, .int .i64 (t.kid 2).pos], .slice (some ⟨W.heap.size, 0, none⟩) 3 3] (W.alloc (.cells #[.int .i64 27, .int .i64 28, .int .i64 29] 3)) (BoolP ([27, 28, 29].contains (t.kid 2).kind && st (t.kid 2)) W) from (rkind_any f (by have := HF.out; omega) st HHS.out (t.kid 2) (show (t.kid 2).size ≤ f from by have := kid_size (t := t) (i := 2) (by omega); have := HT.out; omega) [27, 28, 29] (by simp) (.agg #[.int .i64 (t.kid 2).kind, .string ⟨(t.kid 2).text.toArray⟩, .slice ka2 (t.kid 2).kids.length kc2, .int .i64 (t.kid 2).pos]) (W.alloc (.cells #[.int .i64 27, .int .i64 28, .int .i64 29] 3)) ⟨_, rfl, HZ2.out.ext isNd_good (X.alloc _) fun _ _ h => h⟩ W.heap.size 3 (0, 0) (heap_alloc_at rfl _) 3 rfl).mono fun e w' h => ⟨h.1, ((Ext.refl _ _).alloc _).trans h.2⟩)
 obtain ⟨b5, hb5⟩ : ∃ b, ([27, 28, 29].contains (t.kid 2).kind && st (t.kid 2)) = b := ⟨_, rfl⟩
 rw [hb5] at C5 HR
 clear hb5
 have C6 := hid fun W (X : Ext none' W0 W) => rblock_any f HF.out st HHS.out (t.kid 3) (show (t.kid 3).size ≤ f + 1 from by have := kid_size (t := t) (i := 3) (by omega); have := HT.out; omega) _ W (ndvx HZ3.out X)
 obtain ⟨b6, hb6⟩ : ∃ b, blkB st (t.kid 3) = b := ⟨_, rfl⟩
 rw [hb6] at C6 HR
 clear hb6
 obtain ⟨m00, m01, m02, m03⟩ := kid' XX.out HBW.out KK0.out
 obtain ⟨m10, m11, m12, m13⟩ := kid' XX.out HBW.out KK1.out
 obtain ⟨m20, m21, m22, m23⟩ := kid' XX.out HBW.out KK2.out
 obtain ⟨m30, m31, m32, m33⟩ := kid' XX.out HBW.out KK3.out
 go_wp2_with fail
 refine (C0.out _ XX.out).mono ?_
 rintro e w85 ⟨rfl, X⟩
 have XX := hid (XX.out.trans X)
 clear X c0 c1 c2 c3 m00 m01 m02 m03 m10 m11 m12 m13 m20 m21 m22 m23 m30 m31 m32 m33
 cases b0
 case false =>
  obtain ⟨c0, c1, c2, c3⟩ := cellx XX.out G0.out
  obtain ⟨m00, m01, m02, m03⟩ := kid' XX.out HBW.out KK0.out
  obtain ⟨m10, m11, m12, m13⟩ := kid' XX.out HBW.out KK1.out
  obtain ⟨m20, m21, m22, m23⟩ := kid' XX.out HBW.out KK2.out
  obtain ⟨m30, m31, m32, m33⟩ := kid' XX.out HBW.out KK3.out
  go_wp2_with fail
  refine (C1.out _ XX.out).mono ?_
  rintro e w86 ⟨rfl, X⟩
  have XX := hid (XX.out.trans X)
  clear X c0 c1 c2 c3 m00 m01 m02 m03 m10 m11 m12 m13 m20 m21 m22 m23 m30 m31 m32 m33
  cases b1
  case false =>
   obtain ⟨c0, c1, c2, c3⟩ := cellx XX.out G0.out
   obtain ⟨m00, m01, m02, m03⟩ := kid' XX.out HBW.out KK0.out
   obtain ⟨m10, m11, m12, m13⟩ := kid' XX.out HBW.out KK1.out
   obtain ⟨m20, m21, m22, m23⟩ := kid' XX.out HBW.out KK2.out
   obtain ⟨m30, m31, m32, m33⟩ := kid' XX.out HBW.out KK3.out
   have E : Hid (r = false) := hid (by first | exact HR.out | (rw [HR.out]; simp [h83, H84.out]))
   go_wp2_with fail
   go_ret
   exact ⟨by rw [E.out]; rfl, X0.out.trans XX.out⟩
  obtain ⟨c0, c1, c2, c3⟩ := cellx XX.out G0.out
  obtain ⟨m00, m01, m02, m03⟩ := kid' XX.out HBW.out KK0.out
  obtain ⟨m10, m11, m12, m13⟩ := kid' XX.out HBW.out KK1.out
  obtain ⟨m20, m21, m22, m23⟩ := kid' XX.out HBW.out KK2.out
  obtain ⟨m30, m31, m32, m33⟩ := kid' XX.out HBW.out KK3.out
  go_wp2_with fail
  refine (C2.out _ XX.out).mono ?_
  rintro e w87 ⟨rfl, X⟩
  have XX := hid (XX.out.trans X)
  clear X c0 c1 c2 c3 m00 m01 m02 m03 m10 m11 m12 m13 m20 m21 m22 m23 m30 m31 m32 m33
  cases b2
  case false =>
   obtain ⟨c0, c1, c2, c3⟩ := cellx XX.out G0.out
   obtain ⟨m00, m01, m02, m03⟩ := kid' XX.out HBW.out KK0.out
   obtain ⟨m10, m11, m12, m13⟩ := kid' XX.out HBW.out KK1.out
   obtain ⟨m20, m21, m22, m23⟩ := kid' XX.out HBW.out KK2.out
   obtain ⟨m30, m31, m32, m33⟩ := kid' XX.out HBW.out KK3.out
   go_wp2_with fail
   refine (C3.out _ XX.out).mono ?_
   rintro e w88 ⟨rfl, X⟩
   have XX := hid (XX.out.trans X)
   clear X c0 c1 c2 c3 m00 m01 m02 m03 m10 m11 m12 m13 m20 m21 m22 m23 m30 m31 m32 m33
   cases b3
   case false =>
    obtain ⟨c0, c1, c2, c3⟩ := cellx XX.out G0.out
    obtain ⟨m00, m01, m02, m03⟩ := kid' XX.out HBW.out KK0.out
    obtain ⟨m10, m11, m12, m13⟩ := kid' XX.out HBW.out KK1.out
    obtain ⟨m20, m21, m22, m23⟩ := kid' XX.out HBW.out KK2.out
    obtain ⟨m30, m31, m32, m33⟩ := kid' XX.out HBW.out KK3.out
    have E : Hid (r = false) := hid (by first | exact HR.out | (rw [HR.out]; simp [h83, H84.out]))
    go_wp2_with fail
    go_ret
    exact ⟨by rw [E.out]; rfl, X0.out.trans XX.out⟩
   obtain ⟨c0, c1, c2, c3⟩ := cellx XX.out G0.out
   obtain ⟨m00, m01, m02, m03⟩ := kid' XX.out HBW.out KK0.out
   obtain ⟨m10, m11, m12, m13⟩ := kid' XX.out HBW.out KK1.out
   obtain ⟨m20, m21, m22, m23⟩ := kid' XX.out HBW.out KK2.out
   obtain ⟨m30, m31, m32, m33⟩ := kid' XX.out HBW.out KK3.out
   go_wp2_with fail
   refine (C4.out _ XX.out).mono ?_
   rintro e w89 ⟨rfl, X⟩
   have XX := hid (XX.out.trans X)
   clear X c0 c1 c2 c3 m00 m01 m02 m03 m10 m11 m12 m13 m20 m21 m22 m23 m30 m31 m32 m33
   cases b4
   case false =>
    obtain ⟨c0, c1, c2, c3⟩ := cellx XX.out G0.out
    obtain ⟨m00, m01, m02, m03⟩ := kid' XX.out HBW.out KK0.out
    obtain ⟨m10, m11, m12, m13⟩ := kid' XX.out HBW.out KK1.out
    obtain ⟨m20, m21, m22, m23⟩ := kid' XX.out HBW.out KK2.out
    obtain ⟨m30, m31, m32, m33⟩ := kid' XX.out HBW.out KK3.out
    go_wp2_with fail
    refine (C5.out _ XX.out).mono ?_
    rintro e w90 ⟨rfl, X⟩
    have XX := hid (XX.out.trans X)
    clear X c0 c1 c2 c3 m00 m01 m02 m03 m10 m11 m12 m13 m20 m21 m22 m23 m30 m31 m32 m33
    cases b5
    case false =>
     obtain ⟨c0, c1, c2, c3⟩ := cellx XX.out G0.out
     obtain ⟨m00, m01, m02, m03⟩ := kid' XX.out HBW.out KK0.out
     obtain ⟨m10, m11, m12, m13⟩ := kid' XX.out HBW.out KK1.out
     obtain ⟨m20, m21, m22, m23⟩ := kid' XX.out HBW.out KK2.out
     obtain ⟨m30, m31, m32, m33⟩ := kid' XX.out HBW.out KK3.out
     have E : Hid (r = false) := hid (by first | exact HR.out | (rw [HR.out]; simp [h83, H84.out]))
     go_wp2_with fail
     go_ret
     exact ⟨by rw [E.out]; rfl, X0.out.trans XX.out⟩
    obtain ⟨c0, c1, c2, c3⟩ := cellx XX.out G0.out
    obtain ⟨m00, m01, m02, m03⟩ := kid' XX.out HBW.out KK0.out
    obtain ⟨m10, m11, m12, m13⟩ := kid' XX.out HBW.out KK1.out
    obtain ⟨m20, m21, m22, m23⟩ := kid' XX.out HBW.out KK2.out
    obtain ⟨m30, m31, m32, m33⟩ := kid' XX.out HBW.out KK3.out
    go_wp2_with fail
    refine (C6.out _ XX.out).mono ?_
    rintro e w91 ⟨rfl, X⟩
    have XX := hid (XX.out.trans X)
    clear X c0 c1 c2 c3 m00 m01 m02 m03 m10 m11 m12 m13 m20 m21 m22 m23 m30 m31 m32 m33
    have E : Hid (r = b6) := hid (by first | exact HR.out | (rw [HR.out]; simp [h83, H84.out]))
    go_wp2_with fail
    go_ret
    exact ⟨by rw [E.out]; rfl, X0.out.trans XX.out⟩
   obtain ⟨c0, c1, c2, c3⟩ := cellx XX.out G0.out
   obtain ⟨m00, m01, m02, m03⟩ := kid' XX.out HBW.out KK0.out
   obtain ⟨m10, m11, m12, m13⟩ := kid' XX.out HBW.out KK1.out
   obtain ⟨m20, m21, m22, m23⟩ := kid' XX.out HBW.out KK2.out
   obtain ⟨m30, m31, m32, m33⟩ := kid' XX.out HBW.out KK3.out
   go_wp2_with fail
   refine (C6.out _ XX.out).mono ?_
   rintro e w92 ⟨rfl, X⟩
   have XX := hid (XX.out.trans X)
   clear X c0 c1 c2 c3 m00 m01 m02 m03 m10 m11 m12 m13 m20 m21 m22 m23 m30 m31 m32 m33
   have E : Hid (r = b6) := hid (by first | exact HR.out | (rw [HR.out]; simp [h83, H84.out]))
   go_wp2_with fail
   go_ret
   exact ⟨by rw [E.out]; rfl, X0.out.trans XX.out⟩
  obtain ⟨c0, c1, c2, c3⟩ := cellx XX.out G0.out
  obtain ⟨m00, m01, m02, m03⟩ := kid' XX.out HBW.out KK0.out
  obtain ⟨m10, m11, m12, m13⟩ := kid' XX.out HBW.out KK1.out
  obtain ⟨m20, m21, m22, m23⟩ := kid' XX.out HBW.out KK2.out
  obtain ⟨m30, m31, m32, m33⟩ := kid' XX.out HBW.out KK3.out
  go_wp2_with fail
  refine (C4.out _ XX.out).mono ?_
  rintro e w93 ⟨rfl, X⟩
  have XX := hid (XX.out.trans X)
  clear X c0 c1 c2 c3 m00 m01 m02 m03 m10 m11 m12 m13 m20 m21 m22 m23 m30 m31 m32 m33
  cases b4
  case false =>
   obtain ⟨c0, c1, c2, c3⟩ := cellx XX.out G0.out
   obtain ⟨m00, m01, m02, m03⟩ := kid' XX.out HBW.out KK0.out
   obtain ⟨m10, m11, m12, m13⟩ := kid' XX.out HBW.out KK1.out
   obtain ⟨m20, m21, m22, m23⟩ := kid' XX.out HBW.out KK2.out
   obtain ⟨m30, m31, m32, m33⟩ := kid' XX.out HBW.out KK3.out
   go_wp2_with fail
   refine (C5.out _ XX.out).mono ?_
   rintro e w94 ⟨rfl, X⟩
   have XX := hid (XX.out.trans X)
   clear X c0 c1 c2 c3 m00 m01 m02 m03 m10 m11 m12 m13 m20 m21 m22 m23 m30 m31 m32 m33
   cases b5
   case false =>
    obtain ⟨c0, c1, c2, c3⟩ := cellx XX.out G0.out
    obtain ⟨m00, m01, m02, m03⟩ := kid' XX.out HBW.out KK0.out
    obtain ⟨m10, m11, m12, m13⟩ := kid' XX.out HBW.out KK1.out
    obtain ⟨m20, m21, m22, m23⟩ := kid' XX.out HBW.out KK2.out
    obtain ⟨m30, m31, m32, m33⟩ := kid' XX.out HBW.out KK3.out
    have E : Hid (r = false) := hid (by first | exact HR.out | (rw [HR.out]; simp [h83, H84.out]))
    go_wp2_with fail
    go_ret
    exact ⟨by rw [E.out]; rfl, X0.out.trans XX.out⟩
   obtain ⟨c0, c1, c2, c3⟩ := cellx XX.out G0.out
   obtain ⟨m00, m01, m02, m03⟩ := kid' XX.out HBW.out KK0.out
   obtain ⟨m10, m11, m12, m13⟩ := kid' XX.out HBW.out KK1.out
   obtain ⟨m20, m21, m22, m23⟩ := kid' XX.out HBW.out KK2.out
   obtain ⟨m30, m31, m32, m33⟩ := kid' XX.out HBW.out KK3.out
   go_wp2_with fail
   refine (C6.out _ XX.out).mono ?_
   rintro e w95 ⟨rfl, X⟩
   have XX := hid (XX.out.trans X)
   clear X c0 c1 c2 c3 m00 m01 m02 m03 m10 m11 m12 m13 m20 m21 m22 m23 m30 m31 m32 m33
   have E : Hid (r = b6) := hid (by first | exact HR.out | (rw [HR.out]; simp [h83, H84.out]))
   go_wp2_with fail
   go_ret
   exact ⟨by rw [E.out]; rfl, X0.out.trans XX.out⟩
  obtain ⟨c0, c1, c2, c3⟩ := cellx XX.out G0.out
  obtain ⟨m00, m01, m02, m03⟩ := kid' XX.out HBW.out KK0.out
  obtain ⟨m10, m11, m12, m13⟩ := kid' XX.out HBW.out KK1.out
  obtain ⟨m20, m21, m22, m23⟩ := kid' XX.out HBW.out KK2.out
  obtain ⟨m30, m31, m32, m33⟩ := kid' XX.out HBW.out KK3.out
  go_wp2_with fail
  refine (C6.out _ XX.out).mono ?_
  rintro e w96 ⟨rfl, X⟩
  have XX := hid (XX.out.trans X)
  clear X c0 c1 c2 c3 m00 m01 m02 m03 m10 m11 m12 m13 m20 m21 m22 m23 m30 m31 m32 m33
  have E : Hid (r = b6) := hid (by first | exact HR.out | (rw [HR.out]; simp [h83, H84.out]))
  go_wp2_with fail
  go_ret
  exact ⟨by rw [E.out]; rfl, X0.out.trans XX.out⟩
 obtain ⟨c0, c1, c2, c3⟩ := cellx XX.out G0.out
 obtain ⟨m00, m01, m02, m03⟩ := kid' XX.out HBW.out KK0.out
 obtain ⟨m10, m11, m12, m13⟩ := kid' XX.out HBW.out KK1.out
 obtain ⟨m20, m21, m22, m23⟩ := kid' XX.out HBW.out KK2.out
 obtain ⟨m30, m31, m32, m33⟩ := kid' XX.out HBW.out KK3.out
 go_wp2_with fail
 refine (C2.out _ XX.out).mono ?_
 rintro e w97 ⟨rfl, X⟩
 have XX := hid (XX.out.trans X)
 clear X c0 c1 c2 c3 m00 m01 m02 m03 m10 m11 m12 m13 m20 m21 m22 m23 m30 m31 m32 m33
 cases b2
 case false =>
  obtain ⟨c0, c1, c2, c3⟩ := cellx XX.out G0.out
  obtain ⟨m00, m01, m02, m03⟩ := kid' XX.out HBW.out KK0.out
  obtain ⟨m10, m11, m12, m13⟩ := kid' XX.out HBW.out KK1.out
  obtain ⟨m20, m21, m22, m23⟩ := kid' XX.out HBW.out KK2.out
  obtain ⟨m30, m31, m32, m33⟩ := kid' XX.out HBW.out KK3.out
  go_wp2_with fail
  refine (C3.out _ XX.out).mono ?_
  rintro e w98 ⟨rfl, X⟩
  have XX := hid (XX.out.trans X)
  clear X c0 c1 c2 c3 m00 m01 m02 m03 m10 m11 m12 m13 m20 m21 m22 m23 m30 m31 m32 m33
  cases b3
  case false =>
   obtain ⟨c0, c1, c2, c3⟩ := cellx XX.out G0.out
   obtain ⟨m00, m01, m02, m03⟩ := kid' XX.out HBW.out KK0.out
   obtain ⟨m10, m11, m12, m13⟩ := kid' XX.out HBW.out KK1.out
   obtain ⟨m20, m21, m22, m23⟩ := kid' XX.out HBW.out KK2.out
   obtain ⟨m30, m31, m32, m33⟩ := kid' XX.out HBW.out KK3.out
   have E : Hid (r = false) := hid (by first | exact HR.out | (rw [HR.out]; simp [h83, H84.out]))
   go_wp2_with fail
   go_ret
   exact ⟨by rw [E.out]; rfl, X0.out.trans XX.out⟩
  obtain ⟨c0, c1, c2, c3⟩ := cellx XX.out G0.out
  obtain ⟨m00, m01, m02, m03⟩ := kid' XX.out HBW.out KK0.out
  obtain ⟨m10, m11, m12, m13⟩ := kid' XX.out HBW.out KK1.out
  obtain ⟨m20, m21, m22, m23⟩ := kid' XX.out HBW.out KK2.out
  obtain ⟨m30, m31, m32, m33⟩ := kid' XX.out HBW.out KK3.out
  go_wp2_with fail
  refine (C4.out _ XX.out).mono ?_
  rintro e w99 ⟨rfl, X⟩
  have XX := hid (XX.out.trans X)
  clear X c0 c1 c2 c3 m00 m01 m02 m03 m10 m11 m12 m13 m20 m21 m22 m23 m30 m31 m32 m33
  cases b4
  case false =>
   obtain ⟨c0, c1, c2, c3⟩ := cellx XX.out G0.out
   obtain ⟨m00, m01, m02, m03⟩ := kid' XX.out HBW.out KK0.out
   obtain ⟨m10, m11, m12, m13⟩ := kid' XX.out HBW.out KK1.out
   obtain ⟨m20, m21, m22, m23⟩ := kid' XX.out HBW.out KK2.out
   obtain ⟨m30, m31, m32, m33⟩ := kid' XX.out HBW.out KK3.out
   go_wp2_with fail
   refine (C5.out _ XX.out).mono ?_
   rintro e w100 ⟨rfl, X⟩
   have XX := hid (XX.out.trans X)
   clear X c0 c1 c2 c3 m00 m01 m02 m03 m10 m11 m12 m13 m20 m21 m22 m23 m30 m31 m32 m33
   cases b5
   case false =>
    obtain ⟨c0, c1, c2, c3⟩ := cellx XX.out G0.out
    obtain ⟨m00, m01, m02, m03⟩ := kid' XX.out HBW.out KK0.out
    obtain ⟨m10, m11, m12, m13⟩ := kid' XX.out HBW.out KK1.out
    obtain ⟨m20, m21, m22, m23⟩ := kid' XX.out HBW.out KK2.out
    obtain ⟨m30, m31, m32, m33⟩ := kid' XX.out HBW.out KK3.out
    have E : Hid (r = false) := hid (by first | exact HR.out | (rw [HR.out]; simp [h83, H84.out]))
    go_wp2_with fail
    go_ret
    exact ⟨by rw [E.out]; rfl, X0.out.trans XX.out⟩
   obtain ⟨c0, c1, c2, c3⟩ := cellx XX.out G0.out
   obtain ⟨m00, m01, m02, m03⟩ := kid' XX.out HBW.out KK0.out
   obtain ⟨m10, m11, m12, m13⟩ := kid' XX.out HBW.out KK1.out
   obtain ⟨m20, m21, m22, m23⟩ := kid' XX.out HBW.out KK2.out
   obtain ⟨m30, m31, m32, m33⟩ := kid' XX.out HBW.out KK3.out
   go_wp2_with fail
   refine (C6.out _ XX.out).mono ?_
   rintro e w101 ⟨rfl, X⟩
   have XX := hid (XX.out.trans X)
   clear X c0 c1 c2 c3 m00 m01 m02 m03 m10 m11 m12 m13 m20 m21 m22 m23 m30 m31 m32 m33
   have E : Hid (r = b6) := hid (by first | exact HR.out | (rw [HR.out]; simp [h83, H84.out]))
   go_wp2_with fail
   go_ret
   exact ⟨by rw [E.out]; rfl, X0.out.trans XX.out⟩
  obtain ⟨c0, c1, c2, c3⟩ := cellx XX.out G0.out
  obtain ⟨m00, m01, m02, m03⟩ := kid' XX.out HBW.out KK0.out
  obtain ⟨m10, m11, m12, m13⟩ := kid' XX.out HBW.out KK1.out
  obtain ⟨m20, m21, m22, m23⟩ := kid' XX.out HBW.out KK2.out
  obtain ⟨m30, m31, m32, m33⟩ := kid' XX.out HBW.out KK3.out
  go_wp2_with fail
  refine (C6.out _ XX.out).mono ?_
  rintro e w102 ⟨rfl, X⟩
  have XX := hid (XX.out.trans X)
  clear X c0 c1 c2 c3 m00 m01 m02 m03 m10 m11 m12 m13 m20 m21 m22 m23 m30 m31 m32 m33
  have E : Hid (r = b6) := hid (by first | exact HR.out | (rw [HR.out]; simp [h83, H84.out]))
  go_wp2_with fail
  go_ret
  exact ⟨by rw [E.out]; rfl, X0.out.trans XX.out⟩
 obtain ⟨c0, c1, c2, c3⟩ := cellx XX.out G0.out
 obtain ⟨m00, m01, m02, m03⟩ := kid' XX.out HBW.out KK0.out
 obtain ⟨m10, m11, m12, m13⟩ := kid' XX.out HBW.out KK1.out
 obtain ⟨m20, m21, m22, m23⟩ := kid' XX.out HBW.out KK2.out
 obtain ⟨m30, m31, m32, m33⟩ := kid' XX.out HBW.out KK3.out
 go_wp2_with fail
 refine (C4.out _ XX.out).mono ?_
 rintro e w103 ⟨rfl, X⟩
 have XX := hid (XX.out.trans X)
 clear X c0 c1 c2 c3 m00 m01 m02 m03 m10 m11 m12 m13 m20 m21 m22 m23 m30 m31 m32 m33
 cases b4
 case false =>
  obtain ⟨c0, c1, c2, c3⟩ := cellx XX.out G0.out
  obtain ⟨m00, m01, m02, m03⟩ := kid' XX.out HBW.out KK0.out
  obtain ⟨m10, m11, m12, m13⟩ := kid' XX.out HBW.out KK1.out
  obtain ⟨m20, m21, m22, m23⟩ := kid' XX.out HBW.out KK2.out
  obtain ⟨m30, m31, m32, m33⟩ := kid' XX.out HBW.out KK3.out
  go_wp2_with fail
  refine (C5.out _ XX.out).mono ?_
  rintro e w104 ⟨rfl, X⟩
  have XX := hid (XX.out.trans X)
  clear X c0 c1 c2 c3 m00 m01 m02 m03 m10 m11 m12 m13 m20 m21 m22 m23 m30 m31 m32 m33
  cases b5
  case false =>
   obtain ⟨c0, c1, c2, c3⟩ := cellx XX.out G0.out
   obtain ⟨m00, m01, m02, m03⟩ := kid' XX.out HBW.out KK0.out
   obtain ⟨m10, m11, m12, m13⟩ := kid' XX.out HBW.out KK1.out
   obtain ⟨m20, m21, m22, m23⟩ := kid' XX.out HBW.out KK2.out
   obtain ⟨m30, m31, m32, m33⟩ := kid' XX.out HBW.out KK3.out
   have E : Hid (r = false) := hid (by first | exact HR.out | (rw [HR.out]; simp [h83, H84.out]))
   go_wp2_with fail
   go_ret
   exact ⟨by rw [E.out]; rfl, X0.out.trans XX.out⟩
  obtain ⟨c0, c1, c2, c3⟩ := cellx XX.out G0.out
  obtain ⟨m00, m01, m02, m03⟩ := kid' XX.out HBW.out KK0.out
  obtain ⟨m10, m11, m12, m13⟩ := kid' XX.out HBW.out KK1.out
  obtain ⟨m20, m21, m22, m23⟩ := kid' XX.out HBW.out KK2.out
  obtain ⟨m30, m31, m32, m33⟩ := kid' XX.out HBW.out KK3.out
  go_wp2_with fail
  refine (C6.out _ XX.out).mono ?_
  rintro e w105 ⟨rfl, X⟩
  have XX := hid (XX.out.trans X)
  clear X c0 c1 c2 c3 m00 m01 m02 m03 m10 m11 m12 m13 m20 m21 m22 m23 m30 m31 m32 m33
  have E : Hid (r = b6) := hid (by first | exact HR.out | (rw [HR.out]; simp [h83, H84.out]))
  go_wp2_with fail
  go_ret
  exact ⟨by rw [E.out]; rfl, X0.out.trans XX.out⟩
 obtain ⟨c0, c1, c2, c3⟩ := cellx XX.out G0.out
 obtain ⟨m00, m01, m02, m03⟩ := kid' XX.out HBW.out KK0.out
 obtain ⟨m10, m11, m12, m13⟩ := kid' XX.out HBW.out KK1.out
 obtain ⟨m20, m21, m22, m23⟩ := kid' XX.out HBW.out KK2.out
 obtain ⟨m30, m31, m32, m33⟩ := kid' XX.out HBW.out KK3.out
 go_wp2_with fail
 refine (C6.out _ XX.out).mono ?_
 rintro e w106 ⟨rfl, X⟩
 have XX := hid (XX.out.trans X)
 clear X c0 c1 c2 c3 m00 m01 m02 m03 m10 m11 m12 m13 m20 m21 m22 m23 m30 m31 m32 m33
 have E : Hid (r = b6) := hid (by first | exact HR.out | (rw [HR.out]; simp [h83, H84.out]))
 go_wp2_with fail
 go_ret
 exact ⟨by rw [E.out]; rfl, X0.out.trans XX.out⟩
theorem rs_32 (f : Nat) (hf : f + 1 ≤ bigD) (ty ex st : Nd → Bool) (H : RTyH f ty) (HE : RExH f ex) (HS : RStH f st) (t : Nd) (ht : t.size ≤ f + 1) (hk : t.kind = 32) (v : Value) (w : World) (hv : NdV none' w t v) :
 Calls Tryz.prog 35 #[v] w (BoolP (namB rngB 32 [ex, blkB st] t) w) := by
 obtain ⟨a1, cap1, rfl, hcap, HV, HY⟩ := nd_open hv
 have hkl : t.kids.length ≤ 4000000000 := by have := t.kids_len; unfold bigD at hf; omega
 obtain ⟨r, hr⟩ : ∃ r, r = (namB rngB 32 [ex, blkB st] t) := ⟨_, rfl⟩
 rw [← hr]
 have HH := hid H
 have HHE := hid HE
 have HHS := hid HS
 replace hr := hr.trans ((nam_chain hk).trans (congrArg _ kids2_chain))
 obtain ⟨tx, htx⟩ : ∃ k, t.text = k := ⟨_, rfl⟩
 rw [hk, htx] at HV
 rw [hk, htx]
 try rw [htx] at hr
 have HR := hid hr
 have HTX := hid htx
 have HT := hid ht
 have HF := hid hf
 obtain ⟨B, W0, hB, hW0, X0, G0⟩ := boxed w (.cells #[.int .i64 32, .string ⟨tx.toArray⟩, .slice a1 t.kids.length cap1, .int .i64 t.pos] 24)
 have XX := hid (Ext.refl none' W0)
 clear hr htx ht hf hk H HE HS
 go_enter Tryz.func35, Tryz.ntmps35
 go_upto_region 1 with (fail)
 rw [← hW0, ← hB]
 clear hW0 hB
 obtain ⟨c0, c1, c2, c3⟩ := cellx XX.out G0.out
 have CM := hid fun W (X : Ext none' W0 W) => rranged_any tx (by rw [← HTX.out]; have := t.size_text; have := HT.out; have := HF.out; unfold bigD at this; omega) W
 obtain ⟨qn, hqn⟩ : ∃ b, rngB tx = b := ⟨_, rfl⟩
 rw [hqn] at CM HR
 clear hqn
 by_cases h107 : t.kids.length = 2
 case neg =>
  have q1107 : ((t.kids.length : Int) == 2) = false := by rw [beq_eq_false_iff_ne]; omega
  have q2107 : ((t.kids.length : Int) != 2) = true := by rw [bne_iff_ne]; omega
  have q3107 : (t.kids.length == 2) = false := by rw [beq_eq_false_iff_ne]; omega
  have E : Hid (r = false) := hid (by first | exact HR.out | (rw [HR.out]; simp [h107]))
  go_wp2_with fail
  go_ret
  exact ⟨by rw [E.out]; rfl, X0.out.trans XX.out⟩
 have q1107 : ((t.kids.length : Int) == 2) = true := by rw [beq_iff_eq]; omega
 have q2107 : ((t.kids.length : Int) != 2) = false := by rw [bne_eq_false_iff_eq]; omega
 have q3107 : (t.kids.length == 2) = true := by rw [beq_iff_eq]; omega
 have g1107 : 2 ≤ t.kids.length := by omega
 have g2107 : t.kids.length ≤ 2 := by omega
 have H107 := hid h107
 clear h107
 go_wp2_with fail
 refine (CM.out _ XX.out).mono ?_
 rintro e w108 ⟨rfl, X⟩
 have XX := hid (XX.out.trans X)
 clear X c0 c1 c2 c3
 cases qn
 case false =>
  obtain ⟨c0, c1, c2, c3⟩ := cellx XX.out G0.out
  have E : Hid (r = false) := hid (by first | exact HR.out | (rw [HR.out]; simp [H107.out]))
  go_wp2_with fail
  go_ret
  exact ⟨by rw [E.out]; rfl, X0.out.trans XX.out⟩
 obtain ⟨c0, c1, c2, c3⟩ := cellx XX.out G0.out
 obtain ⟨b, off, ka0, kc0, rfl, HBW, HZ0, KK0⟩ := kidA (HY.out.ext isNd_good X0.out fun _ _ h => h) (by omega)
 obtain ⟨ka1, kc1, HZ1, KK1⟩ := kidB (HY.out.ext isNd_good X0.out fun _ _ h => h) 1 4 rfl (by omega)
 have C0 := hid fun W (X : Ext none' W0 W) => HHE.out (t.kid 0) (show (t.kid 0).size ≤ f from by have := kid_size (t := t) (i := 0) (by omega); have := HT.out; omega) _ W (ndvx HZ0.out X)
 obtain ⟨b0, hb0⟩ : ∃ b, ex (t.kid 0) = b := ⟨_, rfl⟩
 rw [hb0] at C0 HR
 clear hb0
 have C1 := hid fun W (X : Ext none' W0 W) => rblock_any f HF.out st HHS.out (t.kid 1) (show (t.kid 1).size ≤ f + 1 from by have := kid_size (t := t) (i := 1) (by omega); have := HT.out; omega) _ W (ndvx HZ1.out X)
 obtain ⟨b1, hb1⟩ : ∃ b, blkB st (t.kid 1) = b := ⟨_, rfl⟩
 rw [hb1] at C1 HR
 clear hb1
 obtain ⟨m00, m01, m02, m03⟩ := kid' XX.out HBW.out KK0.out
 obtain ⟨m10, m11, m12, m13⟩ := kid' XX.out HBW.out KK1.out
 go_wp2_with fail
 refine (C0.out _ XX.out).mono ?_
 rintro e w109 ⟨rfl, X⟩
 have XX := hid (XX.out.trans X)
 clear X c0 c1 c2 c3 m00 m01 m02 m03 m10 m11 m12 m13
 cases b0
 case false =>
  obtain ⟨c0, c1, c2, c3⟩ := cellx XX.out G0.out
  obtain ⟨m00, m01, m02, m03⟩ := kid' XX.out HBW.out KK0.out
  obtain ⟨m10, m11, m12, m13⟩ := kid' XX.out HBW.out KK1.out
  have E : Hid (r = false) := hid (by first | exact HR.out | (rw [HR.out]; simp [H107.out]))
  go_wp2_with fail
  go_ret
  exact ⟨by rw [E.out]; rfl, X0.out.trans XX.out⟩
 obtain ⟨c0, c1, c2, c3⟩ := cellx XX.out G0.out
 obtain ⟨m00, m01, m02, m03⟩ := kid' XX.out HBW.out KK0.out
 obtain ⟨m10, m11, m12, m13⟩ := kid' XX.out HBW.out KK1.out
 go_wp2_with fail
 refine (C1.out _ XX.out).mono ?_
 rintro e w110 ⟨rfl, X⟩
 have XX := hid (XX.out.trans X)
 clear X c0 c1 c2 c3 m00 m01 m02 m03 m10 m11 m12 m13
 have E : Hid (r = b1) := hid (by first | exact HR.out | (rw [HR.out]; simp [H107.out]))
 go_wp2_with fail
 go_ret
 exact ⟨by rw [E.out]; rfl, X0.out.trans XX.out⟩
theorem rs_33 (f : Nat) (hf : f + 1 ≤ bigD) (ty ex st : Nd → Bool) (H : RTyH f ty) (HE : RExH f ex) (HS : RStH f st) (t : Nd) (ht : t.size ≤ f + 1) (hk : t.kind = 33) (v : Value) (w : World) (hv : NdV none' w t v) :
 Calls Tryz.prog 35 #[v] w (BoolP (ofB 33 [orB emptyB ex] t) w) := by
 obtain ⟨a1, cap1, rfl, hcap, HV, HY⟩ := nd_open hv
 have hkl : t.kids.length ≤ 4000000000 := by have := t.kids_len; unfold bigD at hf; omega
 obtain ⟨r, hr⟩ : ∃ r, r = (ofB 33 [orB emptyB ex] t) := ⟨_, rfl⟩
 rw [← hr]
 have HH := hid H
 have HHE := hid HE
 have HHS := hid HS
 replace hr := hr.trans ((of_chain hk).trans (congrArg _ kids1_chain))
 obtain ⟨tx, htx⟩ : ∃ k, t.text = k := ⟨_, rfl⟩
 rw [hk, htx] at HV
 rw [hk, htx]
 try rw [htx] at hr
 have HR := hid hr
 have HTX := hid htx
 have HT := hid ht
 have HF := hid hf
 obtain ⟨B, W0, hB, hW0, X0, G0⟩ := boxed w (.cells #[.int .i64 33, .string ⟨tx.toArray⟩, .slice a1 t.kids.length cap1, .int .i64 t.pos] 24)
 have XX := hid (Ext.refl none' W0)
 clear hr htx ht hf hk H HE HS
 go_enter Tryz.func35, Tryz.ntmps35
 go_upto_region 1 with (fail)
 rw [← hW0, ← hB]
 clear hW0 hB
 obtain ⟨c0, c1, c2, c3⟩ := cellx XX.out G0.out
 unfold orB at HR
 by_cases h111 : tx = []
 case neg =>
  have q1111 : (tx == []) = false := by simpa using h111
  have q2111 : (tx != []) = true := by simpa using h111
  have q3111 : tx.isEmpty = false := by simpa using h111
  have E : Hid (r = false) := hid (by first | exact HR.out | (rw [HR.out]; simp [h111]))
  go_wp2_with fail
  go_ret
  exact ⟨by rw [E.out]; rfl, X0.out.trans XX.out⟩
 have q1111 : (tx == []) = true := by simpa using h111
 have q2111 : (tx != []) = false := by simp [h111]
 have q3111 : tx.isEmpty = true := by simpa using h111
 by_cases h112 : t.kids.length = 1
 case neg =>
  have q1112 : ((t.kids.length : Int) == 1) = false := by rw [beq_eq_false_iff_ne]; omega
  have q2112 : ((t.kids.length : Int) != 1) = true := by rw [bne_iff_ne]; omega
  have q3112 : (t.kids.length == 1) = false := by rw [beq_eq_false_iff_ne]; omega
  have E : Hid (r = false) := hid (by first | exact HR.out | (rw [HR.out]; simp [h111, h112]))
  go_wp2_with fail
  go_ret
  exact ⟨by rw [E.out]; rfl, X0.out.trans XX.out⟩
 have q1112 : ((t.kids.length : Int) == 1) = true := by rw [beq_iff_eq]; omega
 have q2112 : ((t.kids.length : Int) != 1) = false := by rw [bne_eq_false_iff_eq]; omega
 have q3112 : (t.kids.length == 1) = true := by rw [beq_iff_eq]; omega
 have g1112 : 1 ≤ t.kids.length := by omega
 have g2112 : t.kids.length ≤ 1 := by omega
 have H112 := hid h112
 clear h112
 obtain ⟨b, off, ka0, kc0, rfl, HBW, HZ0, KK0⟩ := kidA (HY.out.ext isNd_good X0.out fun _ _ h => h) (by omega)
 have C0 := hid fun W (X : Ext none' W0 W) => rnothing_any (t.kid 0) _ W (ndvx HZ0.out X)
 obtain ⟨b0, hb0⟩ : ∃ b, emptyB (t.kid 0) = b := ⟨_, rfl⟩
 rw [hb0] at C0 HR
 clear hb0
 have C1 := hid fun W (X : Ext none' W0 W) => HHE.out (t.kid 0) (show (t.kid 0).size ≤ f from by have := kid_size (t := t) (i := 0) (by omega); have := HT.out; omega) _ W (ndvx HZ0.out X)
 obtain ⟨b1, hb1⟩ : ∃ b, ex (t.kid 0) = b := ⟨_, rfl⟩
 rw [hb1] at C1 HR
 clear hb1
 obtain ⟨m00, m01, m02, m03⟩ := kid' XX.out HBW.out KK0.out
 go_wp2_with fail
 refine (C0.out _ XX.out).mono ?_
 rintro e w113 ⟨rfl, X⟩
 have XX := hid (XX.out.trans X)
 clear X c0 c1 c2 c3 m00 m01 m02 m03
 cases b0
 case false =>
  obtain ⟨c0, c1, c2, c3⟩ := cellx XX.out G0.out
  obtain ⟨m00, m01, m02, m03⟩ := kid' XX.out HBW.out KK0.out
  go_wp2_with fail
  refine (C1.out _ XX.out).mono ?_
  rintro e w114 ⟨rfl, X⟩
  have XX := hid (XX.out.trans X)
  clear X c0 c1 c2 c3 m00 m01 m02 m03
  have E : Hid (r = b1) := hid (by first | exact HR.out | (rw [HR.out]; simp [h111, H112.out]))
  go_wp2_with fail
  go_ret
  exact ⟨by rw [E.out]; rfl, X0.out.trans XX.out⟩
 obtain ⟨c0, c1, c2, c3⟩ := cellx XX.out G0.out
 obtain ⟨m00, m01, m02, m03⟩ := kid' XX.out HBW.out KK0.out
 have E : Hid (r = true) := hid (by first | exact HR.out | (rw [HR.out]; simp [h111, H112.out]))
 go_wp2_with fail
 go_ret
 exact ⟨by rw [E.out]; rfl, X0.out.trans XX.out⟩
theorem rs_34 (f : Nat) (hf : f + 1 ≤ bigD) (ty ex st : Nd → Bool) (H : RTyH f ty) (HE : RExH f ex) (HS : RStH f st) (t : Nd) (ht : t.size ≤ f + 1) (hk : t.kind = 34) (v : Value) (w : World) (hv : NdV none' w t v) :
 Calls Tryz.prog 35 #[v] w (BoolP (ofB 34 [] t) w) := by
 obtain ⟨a1, cap1, rfl, hcap, HV, HY⟩ := nd_open hv
 have hkl : t.kids.length ≤ 4000000000 := by have := t.kids_len; unfold bigD at hf; omega
 obtain ⟨r, hr⟩ : ∃ r, r = (ofB 34 [] t) := ⟨_, rfl⟩
 rw [← hr]
 have HH := hid H
 have HHE := hid HE
 have HHS := hid HS
 replace hr := hr.trans ((of_chain hk).trans (congrArg _ kids0_chain))
 obtain ⟨tx, htx⟩ : ∃ k, t.text = k := ⟨_, rfl⟩
 rw [hk, htx] at HV
 rw [hk, htx]
 try rw [htx] at hr
 have HR := hid hr
 have HTX := hid htx
 have HT := hid ht
 have HF := hid hf
 obtain ⟨B, W0, hB, hW0, X0, G0⟩ := boxed w (.cells #[.int .i64 34, .string ⟨tx.toArray⟩, .slice a1 t.kids.length cap1, .int .i64 t.pos] 24)
 have XX := hid (Ext.refl none' W0)
 clear hr htx ht hf hk H HE HS
 go_enter Tryz.func35, Tryz.ntmps35
 go_upto_region 1 with (fail)
 rw [← hW0, ← hB]
 clear hW0 hB
 obtain ⟨c0, c1, c2, c3⟩ := cellx XX.out G0.out
 by_cases h115 : tx = []
 case neg =>
  have q1115 : (tx == []) = false := by simpa using h115
  have q2115 : (tx != []) = true := by simpa using h115
  have q3115 : tx.isEmpty = false := by simpa using h115
  have E : Hid (r = false) := hid (by first | exact HR.out | (rw [HR.out]; simp [h115]))
  go_wp2_with fail
  go_ret
  exact ⟨by rw [E.out]; rfl, X0.out.trans XX.out⟩
 have q1115 : (tx == []) = true := by simpa using h115
 have q2115 : (tx != []) = false := by simp [h115]
 have q3115 : tx.isEmpty = true := by simpa using h115
 by_cases h116 : t.kids.length = 0
 case neg =>
  have q1116 : ((t.kids.length : Int) == 0) = false := by rw [beq_eq_false_iff_ne]; omega
  have q2116 : ((t.kids.length : Int) != 0) = true := by rw [bne_iff_ne]; omega
  have q3116 : (t.kids.length == 0) = false := by rw [beq_eq_false_iff_ne]; omega
  have E : Hid (r = false) := hid (by first | exact HR.out | (rw [HR.out]; simp [h115, h116]))
  go_wp2_with fail
  go_ret
  exact ⟨by rw [E.out]; rfl, X0.out.trans XX.out⟩
 have q1116 : ((t.kids.length : Int) == 0) = true := by rw [beq_iff_eq]; omega
 have q2116 : ((t.kids.length : Int) != 0) = false := by rw [bne_eq_false_iff_eq]; omega
 have q3116 : (t.kids.length == 0) = true := by rw [beq_iff_eq]; omega
 have g1116 : 0 ≤ t.kids.length := by omega
 have g2116 : t.kids.length ≤ 0 := by omega
 have H116 := hid h116
 clear h116
 have E : Hid (r = true) := hid (by first | exact HR.out | (rw [HR.out]; simp [h115, H116.out]))
 go_wp2_with fail
 go_ret
 exact ⟨by rw [E.out]; rfl, X0.out.trans XX.out⟩
theorem rs_35 (f : Nat) (hf : f + 1 ≤ bigD) (ty ex st : Nd → Bool) (H : RTyH f ty) (HE : RExH f ex) (HS : RStH f st) (t : Nd) (ht : t.size ≤ f + 1) (hk : t.kind = 35) (v : Value) (w : World) (hv : NdV none' w t v) :
 Calls Tryz.prog 35 #[v] w (BoolP (ofB 35 [] t) w) := by
 obtain ⟨a1, cap1, rfl, hcap, HV, HY⟩ := nd_open hv
 have hkl : t.kids.length ≤ 4000000000 := by have := t.kids_len; unfold bigD at hf; omega
 obtain ⟨r, hr⟩ : ∃ r, r = (ofB 35 [] t) := ⟨_, rfl⟩
 rw [← hr]
 have HH := hid H
 have HHE := hid HE
 have HHS := hid HS
 replace hr := hr.trans ((of_chain hk).trans (congrArg _ kids0_chain))
 obtain ⟨tx, htx⟩ : ∃ k, t.text = k := ⟨_, rfl⟩
 rw [hk, htx] at HV
 rw [hk, htx]
 try rw [htx] at hr
 have HR := hid hr
 have HTX := hid htx
 have HT := hid ht
 have HF := hid hf
 obtain ⟨B, W0, hB, hW0, X0, G0⟩ := boxed w (.cells #[.int .i64 35, .string ⟨tx.toArray⟩, .slice a1 t.kids.length cap1, .int .i64 t.pos] 24)
 have XX := hid (Ext.refl none' W0)
 clear hr htx ht hf hk H HE HS
 go_enter Tryz.func35, Tryz.ntmps35
 go_upto_region 1 with (fail)
 rw [← hW0, ← hB]
 clear hW0 hB
 obtain ⟨c0, c1, c2, c3⟩ := cellx XX.out G0.out
 by_cases h117 : tx = []
 case neg =>
  have q1117 : (tx == []) = false := by simpa using h117
  have q2117 : (tx != []) = true := by simpa using h117
  have q3117 : tx.isEmpty = false := by simpa using h117
  have E : Hid (r = false) := hid (by first | exact HR.out | (rw [HR.out]; simp [h117]))
  go_wp2_with fail
  go_ret
  exact ⟨by rw [E.out]; rfl, X0.out.trans XX.out⟩
 have q1117 : (tx == []) = true := by simpa using h117
 have q2117 : (tx != []) = false := by simp [h117]
 have q3117 : tx.isEmpty = true := by simpa using h117
 by_cases h118 : t.kids.length = 0
 case neg =>
  have q1118 : ((t.kids.length : Int) == 0) = false := by rw [beq_eq_false_iff_ne]; omega
  have q2118 : ((t.kids.length : Int) != 0) = true := by rw [bne_iff_ne]; omega
  have q3118 : (t.kids.length == 0) = false := by rw [beq_eq_false_iff_ne]; omega
  have E : Hid (r = false) := hid (by first | exact HR.out | (rw [HR.out]; simp [h117, h118]))
  go_wp2_with fail
  go_ret
  exact ⟨by rw [E.out]; rfl, X0.out.trans XX.out⟩
 have q1118 : ((t.kids.length : Int) == 0) = true := by rw [beq_iff_eq]; omega
 have q2118 : ((t.kids.length : Int) != 0) = false := by rw [bne_eq_false_iff_eq]; omega
 have q3118 : (t.kids.length == 0) = true := by rw [beq_iff_eq]; omega
 have g1118 : 0 ≤ t.kids.length := by omega
 have g2118 : t.kids.length ≤ 0 := by omega
 have H118 := hid h118
 clear h118
 have E : Hid (r = true) := hid (by first | exact HR.out | (rw [HR.out]; simp [h117, H118.out]))
 go_wp2_with fail
 go_ret
 exact ⟨by rw [E.out]; rfl, X0.out.trans XX.out⟩
theorem rs_none (f : Nat) (hf : f + 1 ≤ bigD) (ty ex st : Nd → Bool) (H : RTyH f ty) (HE : RExH f ex) (HS : RStH f st)  (t : Nd) (h5 : t.kind ≠ 5) (h26 : t.kind ≠ 26) (h27 : t.kind ≠ 27) (h28 : t.kind ≠ 28) (h29 : t.kind ≠ 29) (h30 : t.kind ≠ 30) (h31 : t.kind ≠ 31) (h32 : t.kind ≠ 32) (h33 : t.kind ≠ 33) (h34 : t.kind ≠ 34) (h35 : t.kind ≠ 35) (ht : t.size ≤ f + 1) (v : Value) (w : World) (hv : NdV none' w t v) :
 Calls Tryz.prog 35 #[v] w (BoolP (blkB st t) w) := by
 obtain ⟨a1, cap1, rfl, hcap, HV, HY⟩ := nd_open hv
 have hkl : t.kids.length ≤ 4000000000 := by have := t.kids_len; unfold bigD at hf; omega
 obtain ⟨r, hr⟩ : ∃ r, r = blkB st t := ⟨_, rfl⟩
 rw [← hr]
 have HH := hid H
 have HHE := hid HE
 have HHS := hid HS
 replace hr := hr.trans (rfl)
 obtain ⟨tk, htk⟩ : ∃ k, t.kind = k := ⟨_, rfl⟩
 obtain ⟨tx, htx⟩ : ∃ k, t.text = k := ⟨_, rfl⟩
 rw [htk, htx] at HV
 rw [htk, htx]
 try rw [htk] at hr
 try rw [htx] at hr
 rw [htk] at h5 h26 h27 h28 h29 h30 h31 h32 h33 h34 h35
 have q1_5 : (tk == 5) = false := by simpa using h5
 have q2_5 : (tk != 5) = true := by simpa using h5
 have q1_26 : (tk == 26) = false := by simpa using h26
 have q2_26 : (tk != 26) = true := by simpa using h26
 have q1_27 : (tk == 27) = false := by simpa using h27
 have q2_27 : (tk != 27) = true := by simpa using h27
 have q1_28 : (tk == 28) = false := by simpa using h28
 have q2_28 : (tk != 28) = true := by simpa using h28
 have q1_29 : (tk == 29) = false := by simpa using h29
 have q2_29 : (tk != 29) = true := by simpa using h29
 have q1_30 : (tk == 30) = false := by simpa using h30
 have q2_30 : (tk != 30) = true := by simpa using h30
 have q1_31 : (tk == 31) = false := by simpa using h31
 have q2_31 : (tk != 31) = true := by simpa using h31
 have q1_32 : (tk == 32) = false := by simpa using h32
 have q2_32 : (tk != 32) = true := by simpa using h32
 have q1_33 : (tk == 33) = false := by simpa using h33
 have q2_33 : (tk != 33) = true := by simpa using h33
 have q1_34 : (tk == 34) = false := by simpa using h34
 have q2_34 : (tk != 34) = true := by simpa using h34
 have q1_35 : (tk == 35) = false := by simpa using h35
 have q2_35 : (tk != 35) = true := by simpa using h35
 have HR := hid hr
 have HTK := hid htk
 have HTX := hid htx
 have HT := hid ht
 have HF := hid hf
 obtain ⟨B, W0, hB, hW0, X0, G0⟩ := boxed w (.cells #[.int .i64 tk, .string ⟨tx.toArray⟩, .slice a1 t.kids.length cap1, .int .i64 t.pos] 24)
 have XX := hid (Ext.refl none' W0)
 clear hr htk htx ht hf H HE HS h5 h26 h27 h28 h29 h30 h31 h32 h33 h34 h35
 go_enter Tryz.func35, Tryz.ntmps35
 go_upto_region 1 with (fail)
 rw [← hW0, ← hB]
 clear hW0 hB
 obtain ⟨c0, c1, c2, c3⟩ := cellx XX.out G0.out
 have CV := hid fun W (X : Ext none' W0 W) => rblock_any f HF.out st HHS.out t HT.out (.agg #[.int .i64 tk, .string ⟨tx.toArray⟩, .slice a1 t.kids.length cap1, .int .i64 t.pos]) W (HV.out.ext (X0.out.trans X) fun _ _ h => h)
 obtain ⟨bv, hbv⟩ : ∃ b, blkB st t = b := ⟨_, rfl⟩
 rw [hbv] at CV HR
 clear hbv
 go_wp2_with fail
 refine (CV.out _ XX.out).mono ?_
 rintro e w119 ⟨rfl, X⟩
 have XX := hid (XX.out.trans X)
 clear X c0 c1 c2 c3
 have E : Hid (r = bv) := hid (by first | exact HR.out | (rw [HR.out]; simp []))
 go_wp2_with fail
 go_ret
 exact ⟨by rw [E.out]; rfl, X0.out.trans XX.out⟩
theorem rstmt_step (f : Nat) (hf : f + 1 ≤ bigD) (ty ex st : Nd → Bool) (H : RTyH f ty) (HE : RExH f ex) (HS : RStH f st) (HQ : ∀ t, t.size ≤ f → st t = stB ty ex st t) : RStH (f + 1) (stB ty ex st) := by
 intro t ht v w hv
 unfold stB
 by_cases h5 : t.kind = 5; · rw [if_pos h5]; exact rs_5 f hf ty ex st H HE HS t ht h5 v w hv
 rw [if_neg h5]
 by_cases h26 : t.kind = 26; · rw [if_pos h26]; exact rs_26 f hf ty ex st H HE HS t ht h26 v w hv
 rw [if_neg h26]
 by_cases h27 : t.kind = 27; · rw [if_pos h27]; exact rs_27 f hf ty ex st H HE HS t ht h27 v w hv
 rw [if_neg h27]
 by_cases h28 : t.kind = 28; · rw [if_pos h28]; exact rs_28 f hf ty ex st H HE HS t ht h28 v w hv
 rw [if_neg h28]
 by_cases h29 : t.kind = 29; · rw [if_pos h29]; exact rs_29 f hf ty ex st H HE HS t ht h29 v w hv
 rw [if_neg h29]
 by_cases h30 : t.kind = 30; · rw [if_pos h30]; exact rs_30 f hf ty ex st H HE HS HQ t ht h30 v w hv
 rw [if_neg h30]
 by_cases h31 : t.kind = 31; · rw [if_pos h31]; exact rs_31 f hf ty ex st H HE HS HQ t ht h31 v w hv
 rw [if_neg h31]
 by_cases h32 : t.kind = 32; · rw [if_pos h32]; exact rs_32 f hf ty ex st H HE HS t ht h32 v w hv
 rw [if_neg h32]
 by_cases h33 : t.kind = 33; · rw [if_pos h33]; exact rs_33 f hf ty ex st H HE HS t ht h33 v w hv
 rw [if_neg h33]
 by_cases h34 : t.kind = 34; · rw [if_pos h34]; exact rs_34 f hf ty ex st H HE HS t ht h34 v w hv
 rw [if_neg h34]
 by_cases h35 : t.kind = 35; · rw [if_pos h35]; exact rs_35 f hf ty ex st H HE HS t ht h35 v w hv
 rw [if_neg h35]
 exact rs_none f hf ty ex st H HE HS t h5 h26 h27 h28 h29 h30 h31 h32 h33 h34 h35 ht v w hv
theorem rlv_any : ∀ (f : Nat), f ≤ bigD → RExH f (exF f) ∧ RStH f (stF f)
 | 0, _ => ⟨fun t ht => by have := t.size_pos; omega, fun t ht => by have := t.size_pos; omega⟩
 | f + 1, hf => by
  have ih := rlv_any f (by omega)
  have hty := rtype_any f (by omega)
  exact ⟨rexpr_step f hf _ _ _ hty ih.1 ih.2 (fun t h => tyF_kind h), rstmt_step f hf _ _ _ hty ih.1 ih.2 (fun t h => (lv_stable f t h).2.symm.trans (stF_succ f t))⟩
end Go.Proofs.YthbmjamgidfneaaGreatDoor
