import Derived.Test.YthbmjamgidfneaaGreatDoorVAb
import Derived.Test.YthbmjamgidfneaaGreatDoorVAf
import Derived.Test.YthbmjamgidfneaaGreatDoorVAk
set_option maxRecDepth 100000
set_option maxHeartbeats 6400000
namespace Go.Proofs.YthbmjamgidfneaaGreatDoor
open Go.RowKit Go.Lib Go.BigFrame
set_option linter.unusedVariables false
set_option linter.unusedSimpArgs false
theorem ee_int (f : Nat) (hf : f + 1 ≤ bigD) {ty ex st : Nd → Bool} (Q : Qs f ty ex st) (t : Nd) (ht : t.size ≤ f + 1) (hk : t.kind = 16) (v : Value) (w : World) (hm : MaxL w) (hv : NdV none' w t v) :
  Calls Tryz.prog 103 #[v] w (BoolP (namB plainP 16 [] t) w) := by
 rw [← ofB_named plainP 16 (by omega) [] t]
 have CN := hid fun W (X : Ext none' w W) => named_any plainP t v _ W (by have := t.size_text; omega) (hv.ext X fun _ _ h => h) (plain_so W)
 have CO := hid fun W v' u' (hv' : NdV none' W (namedP plainP t) v') (hu' : AsksV f [] W u') => of_any f 16 [] (namedP plainP t) v' u' W (named_len plainP t (by omega)) (by simp) (fun i hi => named_kids1 ht i hi) hv' hu'
 obtain ⟨q, hq⟩ : ∃ q, ofB 16 [] (namedP plainP t) = q := ⟨_, rfl⟩
 obtain ⟨r, hr⟩ : ∃ r, namedP plainP t = r := ⟨_, rfl⟩
 rw [hq] at CO ⊢
 rw [hr] at CN CO
 obtain ⟨y, rfl, hy⟩ := hv
 obtain ⟨a1, cap1, rfl, _⟩ := hy
 rw [hk] at CN ⊢
 clear hq hr Q ht hm hf hk
 go_enter Tryz.func103, Tryz.ntmps103
 go_wp2_with fail
 refine (CN.out _ ((Ext.refl _ _).alloc _)).mono ?_
 rintro e w1 ⟨v', rfl, hv', X1⟩
 have HV' := hid hv'
 obtain ⟨y', rfl, hy'⟩ := hv'
 obtain ⟨a5, cap5, rfl, _⟩ := hy'
 have X1 := hid (((Ext.refl none' w).alloc _).trans X1)
 have V1 := hid (Ext.refl none' w1)
 go_wp2_with fail
 refine (CO.out _ _ _ (HV'.out.ext V1.out fun _ _ h => h) AsksV.none).mono ?_
 rintro e w9 ⟨rfl, X9⟩
 have X9 := hid ((X1.out.trans V1.out).trans X9)
 go_wp2_with fail
 go_ret
 exact ⟨rfl, X9.out⟩
theorem ee_str (f : Nat) (hf : f + 1 ≤ bigD) {ty ex st : Nd → Bool} (Q : Qs f ty ex st) (t : Nd) (ht : t.size ≤ f + 1) (hk : t.kind = 17) (v : Value) (w : World) (hm : MaxL w) (hv : NdV none' w t v) :
  Calls Tryz.prog 103 #[v] w (BoolP (namB strB 17 [] t) w) := by
 rw [← ofB_named strB 17 (by omega) [] t]
 have CN := hid fun W (X : Ext none' w W) => named_any strB t v _ W (by have := t.size_text; omega) (hv.ext X fun _ _ h => h) (estr_so W)
 have CO := hid fun W v' u' (hv' : NdV none' W (namedP strB t) v') (hu' : AsksV f [] W u') => of_any f 17 [] (namedP strB t) v' u' W (named_len strB t (by omega)) (by simp) (fun i hi => named_kids1 ht i hi) hv' hu'
 obtain ⟨q, hq⟩ : ∃ q, ofB 17 [] (namedP strB t) = q := ⟨_, rfl⟩
 obtain ⟨r, hr⟩ : ∃ r, namedP strB t = r := ⟨_, rfl⟩
 rw [hq] at CO ⊢
 rw [hr] at CN CO
 obtain ⟨y, rfl, hy⟩ := hv
 obtain ⟨a1, cap1, rfl, _⟩ := hy
 rw [hk] at CN ⊢
 clear hq hr Q ht hm hf hk
 go_enter Tryz.func103, Tryz.ntmps103
 go_wp2_with fail
 refine (CN.out _ ((Ext.refl _ _).alloc _)).mono ?_
 rintro e w1 ⟨v', rfl, hv', X1⟩
 have HV' := hid hv'
 obtain ⟨y', rfl, hy'⟩ := hv'
 obtain ⟨a5, cap5, rfl, _⟩ := hy'
 have X1 := hid (((Ext.refl none' w).alloc _).trans X1)
 have V1 := hid (Ext.refl none' w1)
 go_wp2_with fail
 refine (CO.out _ _ _ (HV'.out.ext V1.out fun _ _ h => h) AsksV.none).mono ?_
 rintro e w9 ⟨rfl, X9⟩
 have X9 := hid ((X1.out.trans V1.out).trans X9)
 go_wp2_with fail
 go_ret
 exact ⟨rfl, X9.out⟩
theorem ee_name (f : Nat) (hf : f + 1 ≤ bigD) {ty ex st : Nd → Bool} (Q : Qs f ty ex st) (t : Nd) (ht : t.size ≤ f + 1) (hk : t.kind = 18) (v : Value) (w : World) (hm : MaxL w) (hv : NdV none' w t v) :
  Calls Tryz.prog 103 #[v] w (BoolP (namB nmB 18 [] t) w) := by
 rw [← ofB_named nmB 18 (by omega) [] t]
 have CN := hid fun W (X : Ext none' w W) => named_any nmB t v _ W (by have := t.size_text; omega) (hv.ext X fun _ _ h => h) (tname_so W)
 have CO := hid fun W v' u' (hv' : NdV none' W (namedP nmB t) v') (hu' : AsksV f [] W u') => of_any f 18 [] (namedP nmB t) v' u' W (named_len nmB t (by omega)) (by simp) (fun i hi => named_kids1 ht i hi) hv' hu'
 obtain ⟨q, hq⟩ : ∃ q, ofB 18 [] (namedP nmB t) = q := ⟨_, rfl⟩
 obtain ⟨r, hr⟩ : ∃ r, namedP nmB t = r := ⟨_, rfl⟩
 rw [hq] at CO ⊢
 rw [hr] at CN CO
 obtain ⟨y, rfl, hy⟩ := hv
 obtain ⟨a1, cap1, rfl, _⟩ := hy
 rw [hk] at CN ⊢
 clear hq hr Q ht hm hf hk
 go_enter Tryz.func103, Tryz.ntmps103
 go_wp2_with fail
 refine (CN.out _ ((Ext.refl _ _).alloc _)).mono ?_
 rintro e w1 ⟨v', rfl, hv', X1⟩
 have HV' := hid hv'
 obtain ⟨y', rfl, hy'⟩ := hv'
 obtain ⟨a5, cap5, rfl, _⟩ := hy'
 have X1 := hid (((Ext.refl none' w).alloc _).trans X1)
 have V1 := hid (Ext.refl none' w1)
 go_wp2_with fail
 refine (CO.out _ _ _ (HV'.out.ext V1.out fun _ _ h => h) AsksV.none).mono ?_
 rintro e w9 ⟨rfl, X9⟩
 have X9 := hid ((X1.out.trans V1.out).trans X9)
 go_wp2_with fail
 go_ret
 exact ⟨rfl, X9.out⟩
theorem ee_un (f : Nat) (hf : f + 1 ≤ bigD) {ty ex st : Nd → Bool} (Q : Qs f ty ex st) (t : Nd) (ht : t.size ≤ f + 1) (hk : t.kind = 19) (v : Value) (w : World) (hm : MaxL w) (hv : NdV none' w t v) :
  Calls Tryz.prog 103 #[v] w (BoolP (namB unB 19 [ex] t) w) := by
 rw [← ofB_named unB 19 (by omega) [ex] t]
 have CN := hid fun W (X : Ext none' w W) => named_any unB t v _ W (by have := t.size_text; omega) (hv.ext X fun _ _ h => h) (unary_so W)
 have CO := hid fun W v' u' (hv' : NdV none' W (namedP unB t) v') (hu' : AsksV f [ex] W u') => of_any f 19 [ex] (namedP unB t) v' u' W (named_len unB t (by omega)) (by simp) (fun i hi => named_kids1 ht i hi) hv' hu'
 obtain ⟨q, hq⟩ : ∃ q, ofB 19 [ex] (namedP unB t) = q := ⟨_, rfl⟩
 obtain ⟨r, hr⟩ : ∃ r, namedP unB t = r := ⟨_, rfl⟩
 rw [hq] at CO ⊢
 rw [hr] at CN CO
 have A_ex := hid fun W (X : Ext none' w W) => (show AskV f (ex) W (.func (.func 103) #[] #[]) from Q.expr W (maxL_later hm X))
 obtain ⟨y, rfl, hy⟩ := hv
 obtain ⟨a1, cap1, rfl, _⟩ := hy
 rw [hk] at CN ⊢
 clear hq hr Q ht hm hf hk
 go_enter Tryz.func103, Tryz.ntmps103
 go_wp2_with fail
 refine (CN.out _ ((Ext.refl _ _).alloc _)).mono ?_
 rintro e w1 ⟨v', rfl, hv', X1⟩
 have HV' := hid hv'
 obtain ⟨y', rfl, hy'⟩ := hv'
 obtain ⟨a5, cap5, rfl, _⟩ := hy'
 have X1 := hid (((Ext.refl none' w).alloc _).trans X1)
 have V1 := hid (Ext.refl none' w1)
 go_wp2_with fail
 have Y := hid ((Ext.refl none' w1).alloc (.cells #[.func (.func 103) #[] #[]] 41))
 refine (CO.out _ _ _ (HV'.out.ext (V1.out.trans Y.out) fun _ _ h => h) (AsksV.lit1 (heap_alloc_at rfl _) (A_ex.out _ (X1.out.trans (V1.out.trans Y.out))))).mono ?_
 rintro e w9 ⟨rfl, X9⟩
 have X9 := hid ((X1.out.trans (V1.out.trans Y.out)).trans X9)
 go_wp2_with fail
 go_ret
 exact ⟨rfl, X9.out⟩
theorem ee_bin (f : Nat) (hf : f + 1 ≤ bigD) {ty ex st : Nd → Bool} (Q : Qs f ty ex st) (t : Nd) (ht : t.size ≤ f + 1) (hk : t.kind = 20) (v : Value) (w : World) (hm : MaxL w) (hv : NdV none' w t v) :
  Calls Tryz.prog 103 #[v] w (BoolP (namB binB 20 [ex, ex] t) w) := by
 rw [← ofB_named binB 20 (by omega) [ex, ex] t]
 have CN := hid fun W (X : Ext none' w W) => named_any binB t v _ W (by have := t.size_text; omega) (hv.ext X fun _ _ h => h) (binary_so (maxL_later hm X))
 have CO := hid fun W v' u' (hv' : NdV none' W (namedP binB t) v') (hu' : AsksV f [ex, ex] W u') => of_any f 20 [ex, ex] (namedP binB t) v' u' W (named_len binB t (by omega)) (by simp) (fun i hi => named_kids1 ht i hi) hv' hu'
 obtain ⟨q, hq⟩ : ∃ q, ofB 20 [ex, ex] (namedP binB t) = q := ⟨_, rfl⟩
 obtain ⟨r, hr⟩ : ∃ r, namedP binB t = r := ⟨_, rfl⟩
 rw [hq] at CO ⊢
 rw [hr] at CN CO
 have A_ex := hid fun W (X : Ext none' w W) => (show AskV f (ex) W (.func (.func 103) #[] #[]) from Q.expr W (maxL_later hm X))
 obtain ⟨y, rfl, hy⟩ := hv
 obtain ⟨a1, cap1, rfl, _⟩ := hy
 rw [hk] at CN ⊢
 clear hq hr Q ht hm hf hk
 go_enter Tryz.func103, Tryz.ntmps103
 go_wp2_with fail
 refine (CN.out _ ((Ext.refl _ _).alloc _)).mono ?_
 rintro e w1 ⟨v', rfl, hv', X1⟩
 have HV' := hid hv'
 obtain ⟨y', rfl, hy'⟩ := hv'
 obtain ⟨a5, cap5, rfl, _⟩ := hy'
 have X1 := hid (((Ext.refl none' w).alloc _).trans X1)
 have V1 := hid (Ext.refl none' w1)
 go_wp2_with fail
 have Y := hid ((Ext.refl none' w1).alloc (.cells #[.func (.func 103) #[] #[], .func (.func 103) #[] #[]] 41))
 refine (CO.out _ _ _ (HV'.out.ext (V1.out.trans Y.out) fun _ _ h => h) (AsksV.lit2 (heap_alloc_at rfl _) (A_ex.out _ (X1.out.trans (V1.out.trans Y.out))) (A_ex.out _ (X1.out.trans (V1.out.trans Y.out))))).mono ?_
 rintro e w9 ⟨rfl, X9⟩
 have X9 := hid ((X1.out.trans (V1.out.trans Y.out)).trans X9)
 go_wp2_with fail
 go_ret
 exact ⟨rfl, X9.out⟩
theorem ee_field (f : Nat) (hf : f + 1 ≤ bigD) {ty ex st : Nd → Bool} (Q : Qs f ty ex st) (t : Nd) (ht : t.size ≤ f + 1) (hk : t.kind = 23) (v : Value) (w : World) (hm : MaxL w) (hv : NdV none' w t v) :
  Calls Tryz.prog 103 #[v] w (BoolP (namB nmB 23 [ex] t) w) := by
 rw [← ofB_named nmB 23 (by omega) [ex] t]
 have CN := hid fun W (X : Ext none' w W) => named_any nmB t v _ W (by have := t.size_text; omega) (hv.ext X fun _ _ h => h) (tname_so W)
 have CO := hid fun W v' u' (hv' : NdV none' W (namedP nmB t) v') (hu' : AsksV f [ex] W u') => of_any f 23 [ex] (namedP nmB t) v' u' W (named_len nmB t (by omega)) (by simp) (fun i hi => named_kids1 ht i hi) hv' hu'
 obtain ⟨q, hq⟩ : ∃ q, ofB 23 [ex] (namedP nmB t) = q := ⟨_, rfl⟩
 obtain ⟨r, hr⟩ : ∃ r, namedP nmB t = r := ⟨_, rfl⟩
 rw [hq] at CO ⊢
 rw [hr] at CN CO
 have A_ex := hid fun W (X : Ext none' w W) => (show AskV f (ex) W (.func (.func 103) #[] #[]) from Q.expr W (maxL_later hm X))
 obtain ⟨y, rfl, hy⟩ := hv
 obtain ⟨a1, cap1, rfl, _⟩ := hy
 rw [hk] at CN ⊢
 clear hq hr Q ht hm hf hk
 go_enter Tryz.func103, Tryz.ntmps103
 go_wp2_with fail
 refine (CN.out _ ((Ext.refl _ _).alloc _)).mono ?_
 rintro e w1 ⟨v', rfl, hv', X1⟩
 have HV' := hid hv'
 obtain ⟨y', rfl, hy'⟩ := hv'
 obtain ⟨a5, cap5, rfl, _⟩ := hy'
 have X1 := hid (((Ext.refl none' w).alloc _).trans X1)
 have V1 := hid (Ext.refl none' w1)
 go_wp2_with fail
 have Y := hid ((Ext.refl none' w1).alloc (.cells #[.func (.func 103) #[] #[]] 41))
 refine (CO.out _ _ _ (HV'.out.ext (V1.out.trans Y.out) fun _ _ h => h) (AsksV.lit1 (heap_alloc_at rfl _) (A_ex.out _ (X1.out.trans (V1.out.trans Y.out))))).mono ?_
 rintro e w9 ⟨rfl, X9⟩
 have X9 := hid ((X1.out.trans (V1.out.trans Y.out)).trans X9)
 go_wp2_with fail
 go_ret
 exact ⟨rfl, X9.out⟩
theorem ee_func (f : Nat) (hf : f + 1 ≤ bigD) {ty ex st : Nd → Bool} (Q : Qs f ty ex st) (t : Nd) (ht : t.size ≤ f + 1) (n16 : t.kind ≠ 16) (n17 : t.kind ≠ 17) (n18 : t.kind ≠ 18) (n19 : t.kind ≠ 19) (n20 : t.kind ≠ 20) (n21 : t.kind ≠ 21) (n22 : t.kind ≠ 22) (n23 : t.kind ≠ 23) (n24 : t.kind ≠ 24) (v : Value) (w : World) (hm : MaxL w) (hv : NdV none' w t v) :
  Calls Tryz.prog 103 #[v] w (BoolP (ofB 25 [sigB ty nmB, blkB st] t) w) := by
 have CO := hid fun W v' u' (hv' : NdV none' W t v') (hu' : AsksV f [sigB ty nmB, blkB st] W u') => of_any f 25 [sigB ty nmB, blkB st] t v' u' W (by have := t.kids_len; omega) (by simp) (fun i hi => by have := Nd.size_kid (t := t) (List.getElem_mem hi); omega) hv' hu'
 obtain ⟨q, hq⟩ : ∃ q, ofB 25 [sigB ty nmB, blkB st] t = q := ⟨_, rfl⟩
 rw [hq] at CO ⊢
 have A_sig := hid fun W (X : Ext none' w W) => (show AskV f (sigB ty nmB) W (.func (.func 105) #[] #[]) from sign_ask hf Q W)
 have A_blk := hid fun W (X : Ext none' w W) => (show AskV f (blkB st) W (.func (.func 139) #[] #[]) from block_ask hf Q W (maxL_later hm X))
 have HV := hid hv
 obtain ⟨y, rfl, hy⟩ := hv
 obtain ⟨a1, cap1, rfl, _⟩ := hy
 obtain ⟨tk, htk⟩ : ∃ k, t.kind = k := ⟨_, rfl⟩
 rw [htk] at n16 n17 n18 n19 n20 n21 n22 n23 n24 HV ⊢
 have q16 : (tk == 16) = false := by simpa using n16
 have q17 : (tk == 17) = false := by simpa using n17
 have q18 : (tk == 18) = false := by simpa using n18
 have q19 : (tk == 19) = false := by simpa using n19
 have q20 : (tk == 20) = false := by simpa using n20
 have q21 : (tk == 21) = false := by simpa using n21
 have q22 : (tk == 22) = false := by simpa using n22
 have q23 : (tk == 23) = false := by simpa using n23
 have q24 : (tk == 24) = false := by simpa using n24
 clear hq Q ht hm hf htk n16 n17 n18 n19 n20 n21 n22 n23 n24
 obtain ⟨W0, hW0⟩ : ∃ W0, W0 = w.alloc (.cells #[.int .i64 tk, .string ⟨t.text.toArray⟩, .slice a1 t.kids.length cap1, .int .i64 t.pos] 24) := ⟨_, rfl⟩
 have XB := hid (show Ext none' w W0 by rw [hW0]; exact (Ext.refl _ _).alloc _)
 have B0 := hid (Ext.refl none' W0)
 have HSZ := hid (show w.heap.size + 1 = W0.heap.size by rw [hW0]; simp)
 go_enter Tryz.func103, Tryz.ntmps103
 go_wp2_with fail
 rw [← hW0]
 clear hW0
 have Y := hid ((Ext.refl none' W0).alloc (.cells #[.func (.func 105) #[] #[], .func (.func 139) #[] #[]] 41))
 refine (CO.out _ _ _ (HV.out.ext (XB.out.trans (B0.out.trans Y.out)) fun _ _ h => h) (AsksV.lit2 (heap_alloc_at HSZ.out _) (A_sig.out _ (XB.out.trans (B0.out.trans Y.out))) (A_blk.out _ (XB.out.trans (B0.out.trans Y.out))))).mono ?_
 rintro e w9 ⟨rfl, X9⟩
 have X9 := hid ((XB.out.trans (B0.out.trans Y.out)).trans X9)
 go_wp2_with fail
 go_ret
 exact ⟨rfl, X9.out⟩
theorem ee_call (f : Nat) (hf : f + 1 ≤ bigD) {ty ex st : Nd → Bool} (Q : Qs f ty ex st) (t : Nd) (ht : t.size ≤ f + 1) (hk : t.kind = 21) (v : Value) (w : World) (hm : MaxL w) (hv : NdV none' w t v) :
  Calls Tryz.prog 103 #[v] w (BoolP (t.text == [] && (!t.kids.isEmpty && t.kids.all ex)) w) := by
 obtain ⟨y, rfl, hy⟩ := hv
 have CA := hid fun W (X : Ext none' w W) => all_any ex t.kids f y _ W (by have := t.kids_len; omega) (hy.ext isNd_good X fun _ _ h => h) (fun i hi => by have := Nd.size_kid (t := t) (List.getElem_mem hi); omega) (Q.expr W (maxL_later hm X))
 obtain ⟨a1, cap1, rfl, _⟩ := hy
 obtain ⟨qa, hqa⟩ : ∃ q, t.kids.all ex = q := ⟨_, rfl⟩
 rw [hqa] at CA ⊢
 obtain ⟨tx, htx⟩ : ∃ k, t.text = k := ⟨_, rfl⟩
 rw [hk, htx]
 have HK : Hid (t.kids.isEmpty = decide (t.kids.length = 0)) := hid (by cases t.kids <;> simp)
 rw [HK.out]
 clear hqa htx Q hm ht hf hk
 by_cases h2 : tx = []
 · have q2 : (tx == []) = true := by simpa using h2
   have q2' : tx.isEmpty = true := by simpa using h2
   rw [q2]
   by_cases h3 : 0 < t.kids.length
   · have q3 : (0 : Int) < (t.kids.length : Int) := by omega
     have q3' : decide (t.kids.length = 0) = false := decide_eq_false (by omega)
     rw [q3']
     clear h2
     go_enter Tryz.func103, Tryz.ntmps103
     go_wp2_with fail
     refine (CA.out _ ((Ext.refl _ _).alloc _)).mono ?_
     rintro e w1 ⟨rfl, X1⟩
     have X1 := hid (((Ext.refl none' w).alloc _).trans X1)
     go_wp2_with fail
     go_ret
     exact ⟨by simp, X1.out⟩
   · have q3 : ¬ (0 : Int) < (t.kids.length : Int) := by omega
     have q3' : decide (t.kids.length = 0) = true := decide_eq_true (by omega)
     rw [q3']
     clear h2 h3
     go_enter Tryz.func103, Tryz.ntmps103
     go_wp2_with fail
     go_ret
     exact ⟨by simp, (Ext.refl _ _).alloc _⟩
 · have q2 : (tx == []) = false := by simpa using h2
   have q2' : tx.isEmpty = false := by simpa using h2
   rw [q2]
   clear h2
   go_enter Tryz.func103, Tryz.ntmps103
   go_wp2_with fail
   go_ret
   exact ⟨by simp, (Ext.refl _ _).alloc _⟩
theorem IsSl.drop1 {α : Type} {sz : Nat} {R : Lay α} {A : Nat → Prop} {w : World} {b off n cap : Nat} {xs : List α} (h : IsSl sz R A w (.slice (some ⟨b, off, none⟩) n cap) xs) (hn : 1 ≤ n) : IsSl sz R A w (.slice (some ⟨b, off + sz, none⟩) (n - 1) (cap - 1)) (xs.drop 1) := by
 obtain ⟨a', cap', e, hc, hnn, h⟩ := h
 injection e with e1 e2 e3
 subst e2 e3
 subst e1
 have hl : (xs.drop 1).length = xs.length - 1 := by rw [List.length_drop]
 refine ⟨_, _, by rw [hl], by rw [hl]; omega, (fun h => by cases h), fun hx => ?_⟩
 obtain ⟨b', off', e, hA, hb, h⟩ := h (by intro e; rw [e] at hn; simp at hn)
 injection e with e
 injection e with e1 e2 _
 subst e1 e2
 refine ⟨_, _, rfl, hA, hb, fun i hi => ?_⟩
 rw [hl] at hi
 obtain ⟨cs, h1, h2⟩ := h (i + 1) (by omega)
 refine ⟨cs, ?_, by rw [List.getElem_drop]; simpa [Nat.add_comm] using h2⟩
 have : off + (i + 1) * sz = off + sz + i * sz := by rw [Nat.add_mul, Nat.one_mul]; omega
 rw [this] at h1
 exact h1
theorem kid_mem' {t : Nd} {i : Nat} (h : i < t.kids.length) : t.kid i ∈ t.kids := by
 have e : t.kid i = t.kids[i] := by unfold Nd.kid; rw [List.getD_eq_getElem?_getD, List.getElem?_eq_getElem h]; rfl
 rw [e]; exact List.getElem_mem h
theorem arg2_any (f : Nat) {ty ex st : Nd → Bool} (Q : Qs f ty ex st) (t : Nd) (ht : t.size ≤ f) (v : Value) (w : World) (hm : MaxL w) (hv : NdV none' w t v) :
  Calls Tryz.prog 150 #[v] w (BoolP (argB ty ex t) w) := by
 have CE := hid fun W (X : Ext none' w W) => Q.hex t ht v W (maxL_later hm X) (hv.ext X fun _ _ h => h)
 have CT := hid fun W (X : Ext none' w W) => Q.hty t ht v W (hv.ext X fun _ _ h => h)
 unfold argB
 obtain ⟨q1, h1⟩ : ∃ q, ex t = q := ⟨_, rfl⟩
 obtain ⟨q2, h2⟩ : ∃ q, ty t = q := ⟨_, rfl⟩
 rw [h1] at CE ⊢
 rw [h2] at CT ⊢
 obtain ⟨y, rfl, hy⟩ := hv
 obtain ⟨a1, cap1, rfl, _⟩ := hy
 obtain ⟨tk, htk⟩ : ∃ k, t.kind = k := ⟨_, rfl⟩
 rw [htk] at CE CT ⊢
 have G0 := hid (heap_alloc_at (w := w) rfl (.cells #[.int .i64 tk, .string ⟨t.text.toArray⟩, .slice a1 t.kids.length cap1, .int .i64 t.pos] 24))
 clear h1 h2 htk Q ht hm
 obtain ⟨r, hr⟩ : ∃ r, r = (q1 || (tk != 10 && q2)) := ⟨_, rfl⟩
 rw [← hr]
 have HR := hid hr
 clear hr
 go_enter Tryz.func150, Tryz.ntmps150
 go_wp2_with fail
 refine (CE.out _ ((Ext.refl _ _).alloc _)).mono ?_
 rintro e w1 ⟨rfl, X1⟩
 obtain ⟨c0, c1, c2, c3⟩ := cell4 (X1.heap G0.out fun h => h)
 have X1 := hid (((Ext.refl none' w).alloc _).trans X1)
 cases q1
 · by_cases h10 : tk = 10
   · have q10 : (tk != 10) = false := by simpa using h10
     have E : Hid (r = false) := hid (by rw [HR.out, q10]; rfl)
     clear h10
     go_wp2_with fail
     go_ret
     exact ⟨by rw [E.out]; rfl, X1.out⟩
   · have q10 : (tk != 10) = true := by simpa using h10
     have E : Hid (r = q2) := hid (by rw [HR.out, q10]; rfl)
     clear h10
     go_wp2_with fail
     refine (CT.out _ X1.out).mono ?_
     rintro e w2 ⟨rfl, X2⟩
     have X2 := hid (X1.out.trans X2)
     clear c0 c1 c2 c3
     go_wp2_with fail
     go_ret
     exact ⟨by rw [E.out]; rfl, X2.out⟩
 · have E : Hid (r = true) := hid (by rw [HR.out]; rfl)
   go_wp2_with fail
   go_ret
   exact ⟨by rw [E.out]; rfl, X1.out⟩
theorem arg2_ask {f : Nat} {ty ex st : Nd → Bool} (Q : Qs f ty ex st) (w : World) (hm : MaxL w) : AskV f (argB ty ex) w (.func (.func 150) #[] #[]) :=
 ⟨_, _, rfl, Go.Proofs.enters_of Tryz.func150 (by kernel_rfl) rfl, fun t ht W x X hx => arg2_any f Q t ht x W (maxL_later hm X) hx⟩
theorem ee_idx (f : Nat) (hf : f + 1 ≤ bigD) {ty ex st : Nd → Bool} (Q : Qs f ty ex st) (t : Nd) (ht : t.size ≤ f + 1) (hk : t.kind = 22) (v : Value) (w : World) (hm : MaxL w) (hv : NdV none' w t v) :
  Calls Tryz.prog 103 #[v] w (BoolP (t.text == [] && (decide (1 < t.kids.length) && (ex (t.kid 0) && (t.kids.drop 1).all (argB ty ex)))) w) := by
 obtain ⟨y, rfl, hy⟩ := hv
 have HY := hid hy
 obtain ⟨a1, cap1, rfl, hcap, _⟩ := hy
 have hkl : t.kids.length ≤ 4000000000 := by have := t.kids_len; unfold bigD at hf; omega
 obtain ⟨rr, hrr⟩ : ∃ r, r = (t.text == [] && (decide (1 < t.kids.length) && (ex (t.kid 0) && (t.kids.drop 1).all (argB ty ex)))) := ⟨_, rfl⟩
 rw [← hrr]
 have HR := hid hrr
 clear hrr
 obtain ⟨tx, htx⟩ : ∃ k, t.text = k := ⟨_, rfl⟩
 rw [hk, htx]
 rw [htx] at HR
 clear htx hk
 by_cases h2 : tx = []
 case neg =>
  have q2 : (tx == []) = false := by simpa using h2
  have q2' : tx.isEmpty = false := by simpa using h2
  have E : Hid (rr = false) := hid (by rw [HR.out, q2]; rfl)
  clear h2
  go_enter Tryz.func103, Tryz.ntmps103
  go_wp2_with fail
  go_ret
  exact ⟨by rw [E.out]; rfl, (Ext.refl _ _).alloc _⟩
 have q2 : (tx == []) = true := by simpa using h2
 have q2' : tx.isEmpty = true := by simpa using h2
 by_cases h3 : 1 < t.kids.length
 case neg =>
  have q3 : ¬ (1 : Int) < (t.kids.length : Int) := by omega
  have E : Hid (rr = false) := hid (by rw [HR.out, decide_eq_false h3]; simp)
  clear h2 h3
  go_enter Tryz.func103, Tryz.ntmps103
  go_wp2_with fail
  go_ret
  exact ⟨by rw [E.out]; rfl, (Ext.refl _ _).alloc _⟩
 have q3 : (1 : Int) < (t.kids.length : Int) := by omega
 have HR2 := hid (show rr = (ex (t.kid 0) && (t.kids.drop 1).all (argB ty ex)) by rw [HR.out, q2, decide_eq_true h3]; rfl)
 clear h2
 have CA := hid fun W (b off : Nat) (hs : IsSl 4 IsNd none' W (.slice (some ⟨b, off, none⟩) t.kids.length cap1) t.kids) (X : Ext none' w W) => all_any (argB ty ex) (t.kids.drop 1) f (.slice (some ⟨b, off + 4, none⟩) (t.kids.length - 1) (cap1 - 1)) (.func (.func 150) #[] #[]) W (by rw [List.length_drop]; unfold bigD; omega) (hs.drop1 (by omega)) (fun i hi => by
  rw [List.length_drop] at hi
  rw [List.getElem_drop]
  have := Nd.size_kid (t := t) (List.getElem_mem (show 1 + i < t.kids.length by omega)); omega) (arg2_ask Q W (maxL_later hm X))
 obtain ⟨qa, hqa⟩ : ∃ q, (t.kids.drop 1).all (argB ty ex) = q := ⟨_, rfl⟩
 rw [hqa] at CA HR2
 have HQA := hid hqa
 have AAA := hid fun W (X : Ext none' w W) => (show AskV f (argB ty ex) W (.func (.func 150) #[] #[]) from arg2_ask Q W (maxL_later hm X))
 clear hqa
 go_enter Tryz.func103, Tryz.ntmps103
 go_upto_region 15 with (fail)
 obtain ⟨W0, hW0⟩ : ∃ W0, W0 = w.alloc (.cells #[.int .i64 22, .string ⟨tx.toArray⟩, .slice a1 t.kids.length cap1, .int .i64 t.pos] 24) := ⟨_, rfl⟩
 rw [← hW0]
 have X0 := hid (show Ext none' w W0 by rw [hW0]; exact (Ext.refl _ _).alloc _)
 have G0 := hid (show W0.heap[w.heap.size]? = some (.cells #[.int .i64 22, .string ⟨tx.toArray⟩, .slice a1 t.kids.length cap1, .int .i64 t.pos] 24 (0, 0)) by rw [hW0]; exact heap_alloc_at rfl _)
 clear hW0
 obtain ⟨b, off, x0, rfl, hbw, k0, k1, k2, k3, hx0⟩ := kid_val (HY.out.ext isNd_good X0.out fun _ _ h => h) 0 (by omega)
 simp only [Nat.zero_mul, Nat.add_zero] at k0 k1 k2 k3
 have HX0 := hid hx0
 obtain ⟨a2, cap2, rfl, _⟩ := hx0
 have hks : (t.kid 0).size ≤ f := by have := Nd.size_kid (kid_mem' (t := t) (i := 0) (by omega)); omega
 have CE := hid (Q.hex (t.kid 0) hks (.agg #[.int .i64 (t.kid 0).kind, .string ⟨(t.kid 0).text.toArray⟩, .slice a2 (t.kid 0).kids.length cap2, .int .i64 (t.kid 0).pos]) W0 (maxL_later hm X0.out) ⟨_, rfl, HX0.out⟩)
 obtain ⟨qe, hqe⟩ : ∃ q, ex (t.kid 0) = q := ⟨_, rfl⟩
 rw [hqe] at CE HR2
 obtain ⟨n1, hn1⟩ : ∃ n, t.kid 0 = n := ⟨_, rfl⟩
 rw [hn1] at k0 k1 k2 k3 CE
 clear hqe hn1 hks
 have c1 := cell_at G0.out 1
 have c2 := cell_at G0.out 2
 simp only [List.getElem?_toArray, List.getElem?_cons_zero, List.getElem?_cons_succ] at c1 c2
 have HR2 := hid (show rr = (qe && qa) from HR2.out)
 go_wp2_with fail
 refine CE.out.mono ?_
 rintro e w1 ⟨rfl, X1⟩
 have c2 := cell_at (X1.heap G0.out fun h => h) 2
 simp only [List.getElem?_toArray, List.getElem?_cons_zero, List.getElem?_cons_succ] at c2
 have X1 := hid (X0.out.trans X1)
 clear k0 k1 k2 k3 c1
 have y1 : (1 : Int) ≤ (t.kids.length : Int) := by omega
 have y2 : (t.kids.length : Int) ≤ (cap1 : Int) := by omega
 cases qe
 · have E : Hid (rr = false) := hid (by rw [HR2.out]; rfl)
   go_wp2_with fail
   go_ret
   exact ⟨by rw [E.out]; rfl, X1.out⟩
 · have E : Hid (rr = qa) := hid (by rw [HR2.out]; rfl)
   by_cases hc1 : cap1 = 1
   case pos => exact absurd h3 (by omega)
   go_wp2_with fail
   refine (CA.out _ _ _ (HY.out.ext isNd_good X1.out fun _ _ h => h) X1.out).mono ?_
   rintro e w2 ⟨rfl, X2⟩
   have X2 := hid (X1.out.trans X2)
   clear c2
   go_wp2_with fail
   go_ret
   exact ⟨by rw [E.out]; rfl, X2.out⟩
theorem ee_lit (f : Nat) (hf : f + 1 ≤ bigD) {ty ex st : Nd → Bool} (Q : Qs f ty ex st) (t : Nd) (ht : t.size ≤ f + 1) (hk : t.kind = 24) (v : Value) (w : World) (hm : MaxL w) (hv : NdV none' w t v) :
  Calls Tryz.prog 103 #[v] w (BoolP (t.text == [] && (!t.kids.isEmpty && ((t.kid 0).kind != 12 && (ty (t.kid 0) && (t.kids.drop 1).all (ex))))) w) := by
 obtain ⟨y, rfl, hy⟩ := hv
 have HY := hid hy
 obtain ⟨a1, cap1, rfl, hcap, _⟩ := hy
 have hkl : t.kids.length ≤ 4000000000 := by have := t.kids_len; unfold bigD at hf; omega
 obtain ⟨rr, hrr⟩ : ∃ r, r = (t.text == [] && (!t.kids.isEmpty && ((t.kid 0).kind != 12 && (ty (t.kid 0) && (t.kids.drop 1).all (ex))))) := ⟨_, rfl⟩
 rw [← hrr]
 have HR := hid hrr
 clear hrr
 obtain ⟨tx, htx⟩ : ∃ k, t.text = k := ⟨_, rfl⟩
 rw [hk, htx]
 rw [htx] at HR
 clear htx hk
 by_cases h2 : tx = []
 case neg =>
  have q2 : (tx == []) = false := by simpa using h2
  have q2' : tx.isEmpty = false := by simpa using h2
  have E : Hid (rr = false) := hid (by rw [HR.out, q2]; rfl)
  clear h2
  go_enter Tryz.func103, Tryz.ntmps103
  go_wp2_with fail
  go_ret
  exact ⟨by rw [E.out]; rfl, (Ext.refl _ _).alloc _⟩
 have q2 : (tx == []) = true := by simpa using h2
 have q2' : tx.isEmpty = true := by simpa using h2
 by_cases h3 : 0 < t.kids.length
 case neg =>
  have q3 : ¬ (0 : Int) < (t.kids.length : Int) := by omega
  have E : Hid (rr = false) := hid (by
   have : t.kids = [] := List.eq_nil_of_length_eq_zero (by omega)
   rw [HR.out, this]; simp)
  clear h2 h3
  go_enter Tryz.func103, Tryz.ntmps103
  go_wp2_with fail
  go_ret
  exact ⟨by rw [E.out]; rfl, (Ext.refl _ _).alloc _⟩
 have q3 : (0 : Int) < (t.kids.length : Int) := by omega
 have HR2 := hid (show rr = ((t.kid 0).kind != 12 && (ty (t.kid 0) && (t.kids.drop 1).all (ex))) by
  have : t.kids.isEmpty = false := by cases h : t.kids with
   | nil => rw [h] at h3; simp at h3
   | cons a l => rfl
  rw [HR.out, q2, this]; rfl)
 clear h2
 have CA := hid fun W (b off : Nat) (hs : IsSl 4 IsNd none' W (.slice (some ⟨b, off, none⟩) t.kids.length cap1) t.kids) (X : Ext none' w W) => all_any (ex) (t.kids.drop 1) f (.slice (some ⟨b, off + 4, none⟩) (t.kids.length - 1) (cap1 - 1)) (.func (.func 103) #[] #[]) W (by rw [List.length_drop]; unfold bigD; omega) (hs.drop1 (by omega)) (fun i hi => by
  rw [List.length_drop] at hi
  rw [List.getElem_drop]
  have := Nd.size_kid (t := t) (List.getElem_mem (show 1 + i < t.kids.length by omega)); omega) (Q.expr W (maxL_later hm X))
 obtain ⟨qa, hqa⟩ : ∃ q, (t.kids.drop 1).all (ex) = q := ⟨_, rfl⟩
 rw [hqa] at CA HR2
 have HQA := hid hqa
 have AAA := hid fun W (X : Ext none' w W) => (show AskV f (ex) W (.func (.func 103) #[] #[]) from Q.expr W (maxL_later hm X))
 clear hqa
 go_enter Tryz.func103, Tryz.ntmps103
 go_upto_region 20 with (fail)
 obtain ⟨W0, hW0⟩ : ∃ W0, W0 = w.alloc (.cells #[.int .i64 24, .string ⟨tx.toArray⟩, .slice a1 t.kids.length cap1, .int .i64 t.pos] 24) := ⟨_, rfl⟩
 rw [← hW0]
 have X0 := hid (show Ext none' w W0 by rw [hW0]; exact (Ext.refl _ _).alloc _)
 have G0 := hid (show W0.heap[w.heap.size]? = some (.cells #[.int .i64 24, .string ⟨tx.toArray⟩, .slice a1 t.kids.length cap1, .int .i64 t.pos] 24 (0, 0)) by rw [hW0]; exact heap_alloc_at rfl _)
 clear hW0
 obtain ⟨b, off, x0, rfl, hbw, k0, k1, k2, k3, hx0⟩ := kid_val (HY.out.ext isNd_good X0.out fun _ _ h => h) 0 (by omega)
 simp only [Nat.zero_mul, Nat.add_zero] at k0 k1 k2 k3
 have HX0 := hid hx0
 obtain ⟨a2, cap2, rfl, _⟩ := hx0
 have hks : (t.kid 0).size ≤ f := by have := Nd.size_kid (kid_mem' (t := t) (i := 0) (by omega)); omega
 have CE := hid (Q.hty (t.kid 0) hks (.agg #[.int .i64 (t.kid 0).kind, .string ⟨(t.kid 0).text.toArray⟩, .slice a2 (t.kid 0).kids.length cap2, .int .i64 (t.kid 0).pos]) W0 ⟨_, rfl, HX0.out⟩)
 obtain ⟨qe, hqe⟩ : ∃ q, ty (t.kid 0) = q := ⟨_, rfl⟩
 rw [hqe] at CE HR2
 obtain ⟨n1, hn1⟩ : ∃ n, t.kid 0 = n := ⟨_, rfl⟩
 rw [hn1] at k0 k1 k2 k3 CE HR2
 clear hqe hn1 hks
 have c1 := cell_at G0.out 1
 have c2 := cell_at G0.out 2
 simp only [List.getElem?_toArray, List.getElem?_cons_zero, List.getElem?_cons_succ] at c1 c2
 obtain ⟨nk, hnk⟩ : ∃ k, n1.kind = k := ⟨_, rfl⟩
 rw [hnk] at k0 CE HR2
 clear hnk
 have y0 : (0 : Int) < (t.kids.length : Int) := by omega
 by_cases h12 : nk = 12
 case pos =>
  have q12 : (nk != 12) = false := by simpa using h12
  have E : Hid (rr = false) := hid (by rw [HR2.out, q12]; rfl)
  clear h12
  go_wp2_with fail
  go_ret
  exact ⟨by rw [E.out]; rfl, X0.out⟩
 have q12 : (nk != 12) = true := by simpa using h12
 have HR2 := hid (show rr = (qe && qa) by rw [HR2.out, q12]; rfl)
 clear h12
 go_wp2_with fail
 refine CE.out.mono ?_
 rintro e w1 ⟨rfl, X1⟩
 have c2 := cell_at (X1.heap G0.out fun h => h) 2
 simp only [List.getElem?_toArray, List.getElem?_cons_zero, List.getElem?_cons_succ] at c2
 have X1 := hid (X0.out.trans X1)
 clear k0 k1 k2 k3 c1
 have y1 : (1 : Int) ≤ (t.kids.length : Int) := by omega
 have y2 : (t.kids.length : Int) ≤ (cap1 : Int) := by omega
 cases qe
 · have E : Hid (rr = false) := hid (by rw [HR2.out]; rfl)
   go_wp2_with fail
   go_ret
   exact ⟨by rw [E.out]; rfl, X1.out⟩
 · have E : Hid (rr = qa) := hid (by rw [HR2.out]; rfl)
   by_cases hc1 : cap1 = 1
   case pos =>
    subst hc1
    have hl1 : t.kids.length = 1 := by omega
    have CA2 := hid (show Calls Tryz.prog 100 #[.slice (some ⟨b, off, none⟩) 0 0, .func (.func 103) #[] #[]] w1 (BoolP qa w1) from by
     have hd : t.kids.drop 1 = [] := List.drop_eq_nil_of_le (by omega)
     rw [← HQA.out, hd]
     exact all_any (ex) [] f _ _ w1 (Nat.zero_le _) ⟨_, 0, rfl, Nat.le_refl _, (fun h => by cases h), fun h => absurd rfl h⟩ (fun i hi => by simp at hi) (AAA.out w1 X1.out))
    clear hl1
    go_wp2_with fail
    refine CA2.out.mono ?_
    rintro e w2 ⟨rfl, X2⟩
    have X2 := hid (X1.out.trans X2)
    clear c2
    go_wp2_with fail
    go_ret
    exact ⟨by rw [E.out]; rfl, X2.out⟩
   go_wp2_with fail
   refine (CA.out _ _ _ (HY.out.ext isNd_good X1.out fun _ _ h => h) X1.out).mono ?_
   rintro e w2 ⟨rfl, X2⟩
   have X2 := hid (X1.out.trans X2)
   clear c2
   go_wp2_with fail
   go_ret
   exact ⟨by rw [E.out]; rfl, X2.out⟩
theorem var_any (f : Nat) (hf : f + 1 ≤ bigD) {ty ex st : Nd → Bool} (Q : Qs f ty ex st) (t : Nd) (ht : t.size ≤ f + 1) (v : Value) (w : World) (hm : MaxL w) (hv : NdV none' w t v) :
  Calls Tryz.prog 143 #[v] w (BoolP (varB ty ex t) w) := by
 obtain ⟨rr, hrr⟩ : ∃ r, r = varB ty ex t := ⟨_, rfl⟩
 rw [← hrr]
 have H2 := hid (show namB nmB 5 [orB emptyB ty, orB emptyB ex] t = true → t.kids.length = 2 from fun h => kidsB_len (namB_parts h).2.2)
 unfold varB at hrr
 rw [← ofB_named nmB 5 (by omega) [orB (emptyB) (ty), orB (emptyB) (ex)] t] at hrr H2
 have HR := hid hrr
 have hv0 := hv
 have CN := hid fun W (X : Ext none' w W) => named_any nmB t v _ W (by have := t.size_text; omega) (hv.ext X fun _ _ h => h) (tname_so W)
 have CO := hid fun W v' u' (hv' : NdV none' W (namedP nmB t) v') (hu' : AsksV f [orB (emptyB) (ty), orB (emptyB) (ex)] W u') => of_any f 5 [orB (emptyB) (ty), orB (emptyB) (ex)] (namedP nmB t) v' u' W (named_len nmB t (by omega)) (by simp) (fun i hi => named_kids1 ht i hi) hv' hu'
 obtain ⟨q, hq⟩ : ∃ q, ofB 5 [orB (emptyB) (ty), orB (emptyB) (ex)] (namedP nmB t) = q := ⟨_, rfl⟩
 obtain ⟨r, hr⟩ : ∃ r, namedP nmB t = r := ⟨_, rfl⟩
 rw [hq] at CO HR H2
 clear hrr
 rw [hr] at CN CO
 have A_empty := hid fun W (X : Ext none' w W) => (show AskV f (emptyB) W (.func (.func 156) #[] #[]) from empty_ask f W)
 have A_ty := hid fun W (X : Ext none' w W) => (show AskV f (ty) W (.func (.func 102) #[] #[]) from type_ask Q.hty W)
 have A_ex := hid fun W (X : Ext none' w W) => (show AskV f (ex) W (.func (.func 103) #[] #[]) from Q.expr W (maxL_later hm X))
 obtain ⟨y, rfl, hy⟩ := hv
 have HY := hid hy
 obtain ⟨a1, cap1, rfl, _⟩ := hy
 have G0 := hid (heap_alloc_at (w := w) rfl (.cells #[.int .i64 t.kind, .string ⟨t.text.toArray⟩, .slice a1 t.kids.length cap1, .int .i64 t.pos] 24))
 clear hq hr Q ht hm hf hv0
 go_enter Tryz.func143, Tryz.ntmps143
 go_wp2_with fail
 refine (CN.out _ ((Ext.refl _ _).alloc _)).mono ?_
 rintro e w1 ⟨v', rfl, hv', X1⟩
 have HV' := hid hv'
 obtain ⟨y', rfl, hy'⟩ := hv'
 obtain ⟨a5, cap5, rfl, _⟩ := hy'
 have XB1 := hid X1
 have X1 := hid (((Ext.refl none' w).alloc _).trans X1)
 have V1 := hid (Ext.refl none' w1)
 go_wp2_with fail
 refine (or_any f (emptyB) (ty) _ _ _ (A_empty.out _ (X1.out.trans V1.out)) (A_ty.out _ (X1.out.trans V1.out))).mono ?_
 rintro e z1 ⟨u1, rfl, hu1, E1⟩
 have U1 := hid (show AskV f (orB (emptyB) (ty)) z1 u1 from hu1)
 obtain ⟨fn1, fcaps1, rfl, _⟩ := hu1
 have E1 := hid E1
 have T1 := hid (V1.out.trans E1.out)
 go_wp2_with fail
 refine (or_any f (emptyB) (ex) _ _ _ (A_empty.out _ (X1.out.trans T1.out)) (A_ex.out _ (X1.out.trans T1.out))).mono ?_
 rintro e z2 ⟨u2, rfl, hu2, E2⟩
 have U2 := hid (show AskV f (orB (emptyB) (ex)) z2 u2 from hu2)
 obtain ⟨fn2, fcaps2, rfl, _⟩ := hu2
 have E2 := hid E2
 have T2 := hid (T1.out.trans E2.out)
 go_wp2_with fail
 have Y := hid ((Ext.refl none' z2).alloc (.cells #[.func (.func fn1) #[] fcaps1, .func (.func fn2) #[] fcaps2] 41))
 refine (CO.out _ _ _ (HV'.out.ext (T2.out.trans Y.out) fun _ _ h => h) (AsksV.lit2 (heap_alloc_at rfl _) (U1.out.ext (E2.out.trans Y.out)) (U2.out.ext Y.out))).mono ?_
 rintro e w9 ⟨rfl, X9⟩
 have XX9 := hid X9
 have X9 := hid ((X1.out.trans (T2.out.trans Y.out)).trans X9)
 have XB9 := hid (XB1.out.trans ((T2.out.trans Y.out).trans XX9.out))
 cases q
 case false =>
  have E : Hid (rr = false) := hid (by rw [HR.out]; rfl)
  go_wp2_with fail
  go_ret
  exact ⟨by rw [E.out]; rfl, X9.out⟩
 have hl := H2.out rfl
 have G9 := hid (show w9.heap[w.heap.size]? = some (.cells #[.int .i64 t.kind, .string ⟨t.text.toArray⟩, .slice a1 t.kids.length cap1, .int .i64 t.pos] 24 (0, 0)) from XB9.out.heap G0.out fun h => h)
 have HR2 := hid (show rr = (!emptyB (t.kid 0) || !emptyB (t.kid 1)) by rw [HR.out]; rfl)
 have y0 : (0 : Int) < (t.kids.length : Int) := by omega
 have y1 : (1 : Int) < (t.kids.length : Int) := by omega
 obtain ⟨b, off, x0, rfl, hbw, k0, k1, k2, k3, hx0⟩ := kid_val (HY.out.ext isNd_good X9.out fun _ _ h => h) 0 (by omega)
 obtain ⟨b', off', x1, e1, hbw1, m0, m1, m2, m3, hx1⟩ := kid_val (HY.out.ext isNd_good X9.out fun _ _ h => h) 1 (by omega)
 injection e1 with e1
 injection e1 with e1 e2 _
 subst e1 e2
 simp only [Nat.zero_mul, Nat.one_mul, Nat.add_zero] at k0 k1 k2 k3 m0 m1 m2 m3
 have HX0 := hid hx0
 have HX1 := hid hx1
 obtain ⟨a2, cap2, rfl, _⟩ := hx0
 obtain ⟨a3, cap3, rfl, _⟩ := hx1
 have C0 := hid (empty_any (t.kid 0) (.agg #[.int .i64 (t.kid 0).kind, .string ⟨(t.kid 0).text.toArray⟩, .slice a2 (t.kid 0).kids.length cap2, .int .i64 (t.kid 0).pos]) w9 ⟨_, rfl, HX0.out⟩)
 have C1 := hid fun W (X : Ext none' w9 W) => empty_any (t.kid 1) (.agg #[.int .i64 (t.kid 1).kind, .string ⟨(t.kid 1).text.toArray⟩, .slice a3 (t.kid 1).kids.length cap3, .int .i64 (t.kid 1).pos]) W ⟨_, rfl, HX1.out.ext isNd_good X fun _ _ h => h⟩
 obtain ⟨b0, hb0⟩ : ∃ q, emptyB (t.kid 0) = q := ⟨_, rfl⟩
 obtain ⟨b1, hb1⟩ : ∃ q, emptyB (t.kid 1) = q := ⟨_, rfl⟩
 rw [hb0] at C0 HR2
 rw [hb1] at C1 HR2
 obtain ⟨n0, hn0⟩ : ∃ n, t.kid 0 = n := ⟨_, rfl⟩
 obtain ⟨n1, hn1⟩ : ∃ n, t.kid 1 = n := ⟨_, rfl⟩
 rw [hn0] at k0 k1 k2 k3 C0
 rw [hn1] at m0 m1 m2 m3 C1
 have M := hid (And.intro m0 (And.intro m1 (And.intro m2 m3)))
 have c2 := cell_at G9.out 2
 simp only [List.getElem?_toArray, List.getElem?_cons_zero, List.getElem?_cons_succ] at c2
 clear hb0 hb1 hn0 hn1 m0 m1 m2 m3 hl
 go_wp2_with fail
 refine C0.out.mono ?_
 rintro e w10 ⟨rfl, X10⟩
 have c2 := cell_at (X10.heap G9.out fun h => h) 2
 simp only [List.getElem?_toArray, List.getElem?_cons_zero, List.getElem?_cons_succ] at c2
 have m0 := (X10.cell (p := ⟨b, off + 4, none⟩) hbw fun h => h).trans M.out.1
 have m1 := (X10.cell (p := ⟨b, off + 4 + 1, none⟩) hbw fun h => h).trans M.out.2.1
 have m2 := (X10.cell (p := ⟨b, off + 4 + 2, none⟩) hbw fun h => h).trans M.out.2.2.1
 have m3 := (X10.cell (p := ⟨b, off + 4 + 3, none⟩) hbw fun h => h).trans M.out.2.2.2
 have X10 := hid X10
 clear k0 k1 k2 k3
 cases b0
 case false =>
  have E : Hid (rr = true) := hid (by rw [HR2.out]; rfl)
  go_wp2_with fail
  go_ret
  exact ⟨by rw [E.out]; rfl, X9.out.trans X10.out⟩
 go_wp2_with fail
 refine (C1.out _ X10.out).mono ?_
 rintro e w11 ⟨rfl, X11⟩
 have X11 := hid (X9.out.trans (X10.out.trans X11))
 clear c2 m0 m1 m2 m3
 go_wp2_with fail
 go_ret
 exact ⟨by rw [HR2.out]; rfl, X11.out⟩
end Go.Proofs.YthbmjamgidfneaaGreatDoor
