import Derived.Test.YthbmjamgidfneaaGreatDoorPAb
import Derived.Test.YthbmjamgidfneaaGreatDoorPAe
import Derived.Test.YthbmjamgidfneaaGreatDoorPAj
import Derived.Test.YthbmjamgidfneaaGreatDoorPAh
import Derived.Test.YthbmjamgidfneaaGreatDoorPAf
import Derived.Test.YthbmjamgidfneaaGreatDoorPAd
set_option maxRecDepth 100000
set_option maxHeartbeats 6400000
namespace Go.Proofs.YthbmjamgidfneaaGreatDoor
open Go.RowKit Go.Lib Go.BigFrame
set_option linter.unusedVariables false
set_option linter.unusedSimpArgs false
theorem var_any (f : Nat) (hf : f + 1 ≤ bigD) {ty ex st : Nd → Bool} (Q : Qs f ty ex st) (t : Nd) (ht : t.size ≤ f + 1) (v : Value) (w : World) (hm : MaxL w) (hv : NdV none' w t v) :
  Calls Tryz.prog 143 #[v] w (BoolP (varB ty ex t) w) := by
 obtain ⟨rr, hrr⟩ : ∃ r, r = varB ty ex t := ⟨_, rfl⟩
 rw [← hrr]
 have H2 := hid (show namB nmB 5 [orB emptyB ty, orB emptyB ex] t = true → t.kids.length = 2 from fun h => kidsB_len (namB_parts h).2.2)
 unfold varB at hrr
 rw [← ofB_named nmB 5 (by omega) [orB (emptyB) (ty), orB (emptyB) (ex)] t] at hrr H2
 have HR := hid hrr
 have hv0 := hv
 have CN := hid fun W (X : Ext none' w W) => named_any nmB t v _ W (by have := t.size_text; omega) (hv.ext X fun _ _ h => h) (tname_so W)
 have CO := hid fun W v' u' (hv' : NdV none' W (namedP nmB t) v') (hu' : AsksV f [orB (emptyB) (ty), orB (emptyB) (ex)] W u') => of_any f 5 [orB (emptyB) (ty), orB (emptyB) (ex)] (namedP nmB t) v' u' W (named_len nmB t (by omega)) (by simp) (fun i hi => named_kids1 ht i hi) hv' hu'
 obtain ⟨q, hq⟩ : ∃ q, ofB 5 [orB (emptyB) (ty), orB (emptyB) (ex)] (namedP nmB t) = q := ⟨_, rfl⟩
 obtain ⟨r, hr⟩ : ∃ r, namedP nmB t = r := ⟨_, rfl⟩
 rw [hq] at CO HR H2
 clear hrr
 rw [hr] at CN CO
 have A_empty := hid fun W (X : Ext none' w W) => (show AskV f (emptyB) W (.func (.func 156) #[] #[]) from empty_ask f W)
 have A_ty := hid fun W (X : Ext none' w W) => (show AskV f (ty) W (.func (.func 102) #[] #[]) from type_ask Q.hty W)
 have A_ex := hid fun W (X : Ext none' w W) => (show AskV f (ex) W (.func (.func 103) #[] #[]) from Q.expr W (maxL_later hm X))
 obtain ⟨y, rfl, hy⟩ := hv
 have HY := hid hy
 obtain ⟨a1, cap1, rfl, _⟩ := hy
 have G0 := hid (heap_alloc_at (w := w) rfl (.cells #[.int .i64 t.kind, .string ⟨t.text.toArray⟩, .slice a1 t.kids.length cap1, .int .i64 t.pos] 24))
 clear hq hr Q ht hm hf hv0
 go_enter Tryz.func143, Tryz.ntmps143
 go_wp2_with fail
 refine (CN.out _ ((Ext.refl _ _).alloc _)).mono ?_
 rintro e w1 ⟨v', rfl, hv', X1⟩
 have HV' := hid hv'
 obtain ⟨y', rfl, hy'⟩ := hv'
 obtain ⟨a5, cap5, rfl, _⟩ := hy'
 have XB1 := hid X1
 have X1 := hid (((Ext.refl none' w).alloc _).trans X1)
 have V1 := hid (Ext.refl none' w1)
 go_wp2_with fail
 refine (or_any f (emptyB) (ty) _ _ _ (A_empty.out _ (X1.out.trans V1.out)) (A_ty.out _ (X1.out.trans V1.out))).mono ?_
 rintro e z1 ⟨u1, rfl, hu1, E1⟩
 have U1 := hid (show AskV f (orB (emptyB) (ty)) z1 u1 from hu1)
 obtain ⟨fn1, fcaps1, rfl, _⟩ := hu1
 have E1 := hid E1
 have T1 := hid (V1.out.trans E1.out)
 go_wp2_with fail
 refine (or_any f (emptyB) (ex) _ _ _ (A_empty.out _ (X1.out.trans T1.out)) (A_ex.out _ (X1.out.trans T1.out))).mono ?_
 rintro e z2 ⟨u2, rfl, hu2, E2⟩
 have U2 := hid (show AskV f (orB (emptyB) (ex)) z2 u2 from hu2)
 obtain ⟨fn2, fcaps2, rfl, _⟩ := hu2
 have E2 := hid E2
 have T2 := hid (T1.out.trans E2.out)
 go_wp2_with fail
 have Y := hid ((Ext.refl none' z2).alloc (.cells #[.func (.func fn1) #[] fcaps1, .func (.func fn2) #[] fcaps2] 41))
 refine (CO.out _ _ _ (HV'.out.ext (T2.out.trans Y.out) fun _ _ h => h) (AsksV.lit2 (heap_alloc_at rfl _) (U1.out.ext (E2.out.trans Y.out)) (U2.out.ext Y.out))).mono ?_
 rintro e w9 ⟨rfl, X9⟩
 have XX9 := hid X9
 have X9 := hid ((X1.out.trans (T2.out.trans Y.out)).trans X9)
 have XB9 := hid (XB1.out.trans ((T2.out.trans Y.out).trans XX9.out))
 cases q
 case false =>
  have E : Hid (rr = false) := hid (by rw [HR.out]; rfl)
  go_wp2_with fail
  go_ret
  exact ⟨by rw [E.out]; rfl, X9.out⟩
 have hl := H2.out rfl
 have G9 := hid (show w9.heap[w.heap.size]? = some (.cells #[.int .i64 t.kind, .string ⟨t.text.toArray⟩, .slice a1 t.kids.length cap1, .int .i64 t.pos] 24 (0, 0)) from XB9.out.heap G0.out fun h => h)
 have HR2 := hid (show rr = (!emptyB (t.kid 0) || !emptyB (t.kid 1)) by rw [HR.out]; rfl)
 have y0 : (0 : Int) < (t.kids.length : Int) := by omega
 have y1 : (1 : Int) < (t.kids.length : Int) := by omega
 obtain ⟨b, off, x0, rfl, hbw, k0, k1, k2, k3, hx0⟩ := kid_val (HY.out.ext isNd_good X9.out fun _ _ h => h) 0 (by omega)
 obtain ⟨b', off', x1, e1, hbw1, m0, m1, m2, m3, hx1⟩ := kid_val (HY.out.ext isNd_good X9.out fun _ _ h => h) 1 (by omega)
 injection e1 with e1
 injection e1 with e1 e2 _
 subst e1 e2
 simp only [Nat.zero_mul, Nat.one_mul, Nat.add_zero] at k0 k1 k2 k3 m0 m1 m2 m3
 have HX0 := hid hx0
 have HX1 := hid hx1
 obtain ⟨a2, cap2, rfl, _⟩ := hx0
 obtain ⟨a3, cap3, rfl, _⟩ := hx1
 have C0 := hid (empty_any (t.kid 0) (.agg #[.int .i64 (t.kid 0).kind, .string ⟨(t.kid 0).text.toArray⟩, .slice a2 (t.kid 0).kids.length cap2, .int .i64 (t.kid 0).pos]) w9 ⟨_, rfl, HX0.out⟩)
 have C1 := hid fun W (X : Ext none' w9 W) => empty_any (t.kid 1) (.agg #[.int .i64 (t.kid 1).kind, .string ⟨(t.kid 1).text.toArray⟩, .slice a3 (t.kid 1).kids.length cap3, .int .i64 (t.kid 1).pos]) W ⟨_, rfl, HX1.out.ext isNd_good X fun _ _ h => h⟩
 obtain ⟨b0, hb0⟩ : ∃ q, emptyB (t.kid 0) = q := ⟨_, rfl⟩
 obtain ⟨b1, hb1⟩ : ∃ q, emptyB (t.kid 1) = q := ⟨_, rfl⟩
 rw [hb0] at C0 HR2
 rw [hb1] at C1 HR2
 obtain ⟨n0, hn0⟩ : ∃ n, t.kid 0 = n := ⟨_, rfl⟩
 obtain ⟨n1, hn1⟩ : ∃ n, t.kid 1 = n := ⟨_, rfl⟩
 rw [hn0] at k0 k1 k2 k3 C0
 rw [hn1] at m0 m1 m2 m3 C1
 have M := hid (And.intro m0 (And.intro m1 (And.intro m2 m3)))
 have c2 := cell_at G9.out 2
 simp only [List.getElem?_toArray, List.getElem?_cons_zero, List.getElem?_cons_succ] at c2
 clear hb0 hb1 hn0 hn1 m0 m1 m2 m3 hl
 go_wp2_with fail
 refine C0.out.mono ?_
 rintro e w10 ⟨rfl, X10⟩
 have c2 := cell_at (X10.heap G9.out fun h => h) 2
 simp only [List.getElem?_toArray, List.getElem?_cons_zero, List.getElem?_cons_succ] at c2
 have m0 := (X10.cell (p := ⟨b, off + 4, none⟩) hbw fun h => h).trans M.out.1
 have m1 := (X10.cell (p := ⟨b, off + 4 + 1, none⟩) hbw fun h => h).trans M.out.2.1
 have m2 := (X10.cell (p := ⟨b, off + 4 + 2, none⟩) hbw fun h => h).trans M.out.2.2.1
 have m3 := (X10.cell (p := ⟨b, off + 4 + 3, none⟩) hbw fun h => h).trans M.out.2.2.2
 have X10 := hid X10
 clear k0 k1 k2 k3
 cases b0
 case false =>
  have E : Hid (rr = true) := hid (by rw [HR2.out]; rfl)
  go_wp2_with fail
  go_ret
  exact ⟨by rw [E.out]; rfl, X9.out.trans X10.out⟩
 go_wp2_with fail
 refine (C1.out _ X10.out).mono ?_
 rintro e w11 ⟨rfl, X11⟩
 have X11 := hid (X9.out.trans (X10.out.trans X11))
 clear c2 m0 m1 m2 m3
 go_wp2_with fail
 go_ret
 exact ⟨by rw [HR2.out]; rfl, X11.out⟩
theorem struct1_any (f : Nat) (hf : f + 1 ≤ bigD) {ty ex st : Nd → Bool} (Q : Qs f ty ex st) (t : Nd) (ht : t.size ≤ f + 1) (v : Value) (w : World) (hv : NdV none' w t v) :
  Calls Tryz.prog 180 #[v] w (BoolP (namB nmB 9 [ty] t) w) := by
 rw [← ofB_named nmB 9 (by omega) [ty] t]
 have CN := hid fun W (X : Ext none' w W) => named_any nmB t v _ W (by have := t.size_text; omega) (hv.ext X fun _ _ h => h) (tname_so W)
 have CO := hid fun W v' u' (hv' : NdV none' W (namedP nmB t) v') (hu' : AsksV f [ty] W u') => of_any f 9 [ty] (namedP nmB t) v' u' W (named_len nmB t (by omega)) (by simp) (fun i hi => named_kids1 ht i hi) hv' hu'
 obtain ⟨q, hq⟩ : ∃ q, ofB 9 [ty] (namedP nmB t) = q := ⟨_, rfl⟩
 obtain ⟨r, hr⟩ : ∃ r, namedP nmB t = r := ⟨_, rfl⟩
 rw [hq] at CO ⊢
 rw [hr] at CN CO
 have A_ty := hid fun W (X : Ext none' w W) => (show AskV f (ty) W (.func (.func 102) #[] #[]) from type_ask Q.hty W)
 obtain ⟨y, rfl, hy⟩ := hv
 obtain ⟨a1, cap1, rfl, _⟩ := hy
 clear hq hr Q ht hf
 go_enter Tryz.func180, Tryz.ntmps180
 go_wp2_with fail
 refine (CN.out _ ((Ext.refl _ _).alloc _)).mono ?_
 rintro e w1 ⟨v', rfl, hv', X1⟩
 have HV' := hid hv'
 obtain ⟨y', rfl, hy'⟩ := hv'
 obtain ⟨a5, cap5, rfl, _⟩ := hy'
 have X1 := hid (((Ext.refl none' w).alloc _).trans X1)
 have V1 := hid (Ext.refl none' w1)
 go_wp2_with fail
 have Y := hid ((Ext.refl none' w1).alloc (.cells #[.func (.func 102) #[] #[]] 41))
 refine (CO.out _ _ _ (HV'.out.ext (V1.out.trans Y.out) fun _ _ h => h) (AsksV.lit1 (heap_alloc_at rfl _) (A_ty.out _ (X1.out.trans (V1.out.trans Y.out))))).mono ?_
 rintro e w9 ⟨rfl, X9⟩
 have X9 := hid ((X1.out.trans (V1.out.trans Y.out)).trans X9)
 go_wp2_with fail
 go_ret
 exact ⟨rfl, X9.out⟩
theorem struct1_ask {f : Nat} (hf : f + 1 ≤ bigD) {ty ex st : Nd → Bool} (Q : Qs f ty ex st) (w : World) : AskV f (namB nmB 9 [ty]) w (.func (.func 180) #[] #[]) :=
 ⟨_, _, rfl, Go.Proofs.enters_of Tryz.func180 (by kernel_rfl) rfl, fun t ht W x _ hx => struct1_any f hf Q t (by omega) x W hx⟩
theorem struct_any (f : Nat) (hf : f + 1 ≤ bigD) {ty ex st : Nd → Bool} (Q : Qs f ty ex st) (t : Nd) (ht : t.size ≤ f + 1) (v : Value) (w : World) (hv : NdV none' w t v) :
  Calls Tryz.prog 141 #[v] w (BoolP (structB ty t) w) := by
 show Calls _ _ _ _ (BoolP (t.kind == 13 && (t.text == [] && (t.kids.all (namB nmB 9 [ty])))) w)
 obtain ⟨y, rfl, hy⟩ := hv
 have CA := hid fun W (X : Ext none' w W) => all_any (namB nmB 9 [ty]) t.kids f y _ W (by have := t.kids_len; omega) (hy.ext isNd_good X fun _ _ h => h) (fun i hi => by have := Nd.size_kid (t := t) (List.getElem_mem hi); omega) (struct1_ask hf Q W)
 obtain ⟨a1, cap1, rfl, _⟩ := hy
 have HK : Hid (t.kids.isEmpty = decide (t.kids.length = 0)) := hid (by cases t.kids <;> simp)
 obtain ⟨qa, hqa⟩ : ∃ q, t.kids.all (namB nmB 9 [ty]) = q := ⟨_, rfl⟩
 rw [hqa] at CA ⊢
 obtain ⟨tk, htk⟩ : ∃ k, t.kind = k := ⟨_, rfl⟩
 obtain ⟨tx, htx⟩ : ∃ k, t.text = k := ⟨_, rfl⟩
 rw [htk, htx]
 clear hqa htk htx Q ht hf
 by_cases h1 : tk = 13
 case neg =>
  have q1 : (tk == 13) = false := by simpa using h1
  rw [q1]
  clear h1
  go_enter Tryz.func141, Tryz.ntmps141
  go_wp2_with fail
  go_ret
  exact ⟨by simp, (Ext.refl _ _).alloc _⟩
 have q1 : (tk == 13) = true := by simpa using h1
 rw [q1]
 by_cases h2 : tx = []
 case neg =>
  have q2 : (tx == []) = false := by simpa using h2
  have q2' : tx.isEmpty = false := by simpa using h2
  rw [q2]
  clear h1 h2
  go_enter Tryz.func141, Tryz.ntmps141
  go_wp2_with fail
  go_ret
  exact ⟨by simp, (Ext.refl _ _).alloc _⟩
 have q2 : (tx == []) = true := by simpa using h2
 have q2' : tx.isEmpty = true := by simpa using h2
 rw [q2]
 clear h1 h2
 go_enter Tryz.func141, Tryz.ntmps141
 go_wp2_with fail
 refine (CA.out _ ((Ext.refl _ _).alloc _)).mono ?_
 rintro e w1 ⟨rfl, X1⟩
 have X1 := hid (((Ext.refl none' w).alloc _).trans X1)
 go_wp2_with fail
 go_ret
 exact ⟨by simp, X1.out⟩
theorem struct_ask {f : Nat} (hf : f + 1 ≤ bigD) {ty ex st : Nd → Bool} (Q : Qs f ty ex st) (w : World) : AskV f (structB ty) w (.func (.func 141) #[] #[]) :=
 ⟨_, _, rfl, Go.Proofs.enters_of Tryz.func141 (by kernel_rfl) rfl, fun t ht W x _ hx => struct_any f hf Q t (by omega) x W hx⟩
theorem inter1_any (f : Nat) (hf : f + 1 ≤ bigD) {ty ex st : Nd → Bool} (Q : Qs f ty ex st) (t : Nd) (ht : t.size ≤ f + 1) (v : Value) (w : World) (hv : NdV none' w t v) :
  Calls Tryz.prog 181 #[v] w (BoolP (namB tldB 15 [ty] t) w) := by
 rw [← ofB_named tldB 15 (by omega) [ty] t]
 have CN := hid fun W (X : Ext none' w W) => named_any tldB t v _ W (by have := t.size_text; omega) (hv.ext X fun _ _ h => h) (tld_so W)
 have CO := hid fun W v' u' (hv' : NdV none' W (namedP tldB t) v') (hu' : AsksV f [ty] W u') => of_any f 15 [ty] (namedP tldB t) v' u' W (named_len tldB t (by omega)) (by simp) (fun i hi => named_kids1 ht i hi) hv' hu'
 obtain ⟨q, hq⟩ : ∃ q, ofB 15 [ty] (namedP tldB t) = q := ⟨_, rfl⟩
 obtain ⟨r, hr⟩ : ∃ r, namedP tldB t = r := ⟨_, rfl⟩
 rw [hq] at CO ⊢
 rw [hr] at CN CO
 have A_ty := hid fun W (X : Ext none' w W) => (show AskV f (ty) W (.func (.func 102) #[] #[]) from type_ask Q.hty W)
 obtain ⟨y, rfl, hy⟩ := hv
 obtain ⟨a1, cap1, rfl, _⟩ := hy
 clear hq hr Q ht hf
 go_enter Tryz.func181, Tryz.ntmps181
 go_wp2_with fail
 refine (CN.out _ ((Ext.refl _ _).alloc _)).mono ?_
 rintro e w1 ⟨v', rfl, hv', X1⟩
 have HV' := hid hv'
 obtain ⟨y', rfl, hy'⟩ := hv'
 obtain ⟨a5, cap5, rfl, _⟩ := hy'
 have X1 := hid (((Ext.refl none' w).alloc _).trans X1)
 have V1 := hid (Ext.refl none' w1)
 go_wp2_with fail
 have Y := hid ((Ext.refl none' w1).alloc (.cells #[.func (.func 102) #[] #[]] 41))
 refine (CO.out _ _ _ (HV'.out.ext (V1.out.trans Y.out) fun _ _ h => h) (AsksV.lit1 (heap_alloc_at rfl _) (A_ty.out _ (X1.out.trans (V1.out.trans Y.out))))).mono ?_
 rintro e w9 ⟨rfl, X9⟩
 have X9 := hid ((X1.out.trans (V1.out.trans Y.out)).trans X9)
 go_wp2_with fail
 go_ret
 exact ⟨rfl, X9.out⟩
theorem inter1_ask {f : Nat} (hf : f + 1 ≤ bigD) {ty ex st : Nd → Bool} (Q : Qs f ty ex st) (w : World) : AskV f (namB tldB 15 [ty]) w (.func (.func 181) #[] #[]) :=
 ⟨_, _, rfl, Go.Proofs.enters_of Tryz.func181 (by kernel_rfl) rfl, fun t ht W x _ hx => inter1_any f hf Q t (by omega) x W hx⟩
theorem inter_any (f : Nat) (hf : f + 1 ≤ bigD) {ty ex st : Nd → Bool} (Q : Qs f ty ex st) (t : Nd) (ht : t.size ≤ f + 1) (v : Value) (w : World) (hv : NdV none' w t v) :
  Calls Tryz.prog 142 #[v] w (BoolP (interB ty t) w) := by
 show Calls _ _ _ _ (BoolP (t.kind == 14 && (t.text == [] && (!t.kids.isEmpty && t.kids.all (namB tldB 15 [ty])))) w)
 obtain ⟨y, rfl, hy⟩ := hv
 have CA := hid fun W (X : Ext none' w W) => all_any (namB tldB 15 [ty]) t.kids f y _ W (by have := t.kids_len; omega) (hy.ext isNd_good X fun _ _ h => h) (fun i hi => by have := Nd.size_kid (t := t) (List.getElem_mem hi); omega) (inter1_ask hf Q W)
 obtain ⟨a1, cap1, rfl, _⟩ := hy
 have HK : Hid (t.kids.isEmpty = decide (t.kids.length = 0)) := hid (by cases t.kids <;> simp)
 obtain ⟨qa, hqa⟩ : ∃ q, t.kids.all (namB tldB 15 [ty]) = q := ⟨_, rfl⟩
 rw [hqa] at CA ⊢
 obtain ⟨tk, htk⟩ : ∃ k, t.kind = k := ⟨_, rfl⟩
 obtain ⟨tx, htx⟩ : ∃ k, t.text = k := ⟨_, rfl⟩
 rw [htk, htx]
 rw [HK.out]
 clear hqa htk htx Q ht hf
 by_cases h1 : tk = 14
 case neg =>
  have q1 : (tk == 14) = false := by simpa using h1
  rw [q1]
  clear h1
  go_enter Tryz.func142, Tryz.ntmps142
  go_wp2_with fail
  go_ret
  exact ⟨by simp, (Ext.refl _ _).alloc _⟩
 have q1 : (tk == 14) = true := by simpa using h1
 rw [q1]
 by_cases h2 : tx = []
 case neg =>
  have q2 : (tx == []) = false := by simpa using h2
  have q2' : tx.isEmpty = false := by simpa using h2
  rw [q2]
  clear h1 h2
  go_enter Tryz.func142, Tryz.ntmps142
  go_wp2_with fail
  go_ret
  exact ⟨by simp, (Ext.refl _ _).alloc _⟩
 have q2 : (tx == []) = true := by simpa using h2
 have q2' : tx.isEmpty = true := by simpa using h2
 rw [q2]
 by_cases h3 : 0 < t.kids.length
 case neg =>
  have q3 : ¬ (0 : Int) < (t.kids.length : Int) := by omega
  have q3' : decide (t.kids.length = 0) = true := decide_eq_true (by omega)
  rw [q3']
  clear h1 h2 h3
  go_enter Tryz.func142, Tryz.ntmps142
  go_wp2_with fail
  go_ret
  exact ⟨by simp, (Ext.refl _ _).alloc _⟩
 have q3 : (0 : Int) < (t.kids.length : Int) := by omega
 have q3' : decide (t.kids.length = 0) = false := decide_eq_false (by omega)
 rw [q3']
 clear h1 h2
 go_enter Tryz.func142, Tryz.ntmps142
 go_wp2_with fail
 refine (CA.out _ ((Ext.refl _ _).alloc _)).mono ?_
 rintro e w1 ⟨rfl, X1⟩
 have X1 := hid (((Ext.refl none' w).alloc _).trans X1)
 go_wp2_with fail
 go_ret
 exact ⟨by simp, X1.out⟩
theorem inter_ask {f : Nat} (hf : f + 1 ≤ bigD) {ty ex st : Nd → Bool} (Q : Qs f ty ex st) (w : World) : AskV f (interB ty) w (.func (.func 142) #[] #[]) :=
 ⟨_, _, rfl, Go.Proofs.enters_of Tryz.func142 (by kernel_rfl) rfl, fun t ht W x _ hx => inter_any f hf Q t (by omega) x W hx⟩
theorem params1_any (f : Nat) (hf : f + 1 ≤ bigD) {ty ex st : Nd → Bool} (Q : Qs f ty ex st) (t : Nd) (ht : t.size ≤ f) (v : Value) (w : World) (hv : NdV none' w t v) :
  Calls Tryz.prog 176 #[v] w (BoolP (nam1B ty t) w) := by
 have CC := hid fun W (X : Ext none' w W) => Q.hty t ht v W (hv.ext X fun _ _ h => h)
 show Calls _ _ _ _ (BoolP (t.kind == 10 && ty t) w)
 obtain ⟨q, hq⟩ : ∃ q, ty t = q := ⟨_, rfl⟩
 rw [hq] at CC ⊢
 obtain ⟨y, rfl, hy⟩ := hv
 obtain ⟨a1, cap1, rfl, _⟩ := hy
 obtain ⟨tk, htk⟩ : ∃ k, t.kind = k := ⟨_, rfl⟩
 rw [htk] at CC ⊢
 clear hq htk Q ht hf
 by_cases h1 : tk = 10
 · have q1 : (tk == 10) = true := by simpa using h1
   rw [q1]
   clear h1
   go_enter Tryz.func176, Tryz.ntmps176
   go_wp2_with fail
   refine (CC.out _ ((Ext.refl _ _).alloc _)).mono ?_
   rintro e w1 ⟨rfl, X1⟩
   have X1 := hid (((Ext.refl none' w).alloc _).trans X1)
   go_wp2_with fail
   go_ret
   exact ⟨by simp, X1.out⟩
 · have q1 : (tk == 10) = false := by simpa using h1
   rw [q1]
   clear h1
   go_enter Tryz.func176, Tryz.ntmps176
   go_wp2_with fail
   go_ret
   exact ⟨by simp, (Ext.refl _ _).alloc _⟩
theorem params1_ask {f : Nat} (hf : f + 1 ≤ bigD) {ty ex st : Nd → Bool} (Q : Qs f ty ex st) (w : World) : AskV f (nam1B ty) w (.func (.func 176) #[] #[]) :=
 ⟨_, _, rfl, Go.Proofs.enters_of Tryz.func176 (by kernel_rfl) rfl, fun t ht W x _ hx => params1_any f hf Q t ht x W hx⟩
theorem params2_ask {f : Nat} (hf : f + 1 ≤ bigD) {ty ex st : Nd → Bool} (Q : Qs f ty ex st) (w : World) (B : Nat) (hb : w.heap[B]? = some (.cells #[.func (.func 176) #[] #[]] 41 (0, 0))) :
  AskV f (parB ty) w (.func (.func 178) #[] #[.pointer (some ⟨B, 0, none⟩)]) := by
 refine ⟨_, _, rfl, Go.Proofs.enters_of Tryz.func178 (by kernel_rfl) rfl, fun t ht W x X hx => ?_⟩
 show Calls Tryz.prog 178 #[_, _] _ (BoolP (namB nmB 7 [orB (nam1B ty) (interB ty)] t) W)
 rw [← ofB_named nmB 7 (by omega) [orB (nam1B ty) (interB ty)] t]
 have CN := hid fun W' (X' : Ext none' W W') => named_any nmB t x _ W' (by have := t.size_text; omega) (hx.ext X' fun _ _ h => h) (tname_so W')
 have CO := hid fun W' v' u' (hv' : NdV none' W' (namedP nmB t) v') (hu' : AsksV f [orB (nam1B ty) (interB ty)] W' u') => of_any f 7 [orB (nam1B ty) (interB ty)] (namedP nmB t) v' u' W' (named_len nmB t (by omega)) (by simp) (fun i hi => named_kids1 (f := f) (by omega) i hi) hv' hu'
 obtain ⟨q, hq⟩ : ∃ q, ofB 7 [orB (nam1B ty) (interB ty)] (namedP nmB t) = q := ⟨_, rfl⟩
 obtain ⟨r, hr⟩ : ∃ r, namedP nmB t = r := ⟨_, rfl⟩
 rw [hq] at CO ⊢
 rw [hr] at CN CO
 have A_1 := hid fun W => params1_ask hf Q W
 have A_2 := hid fun W => inter_ask hf Q W
 obtain ⟨y, rfl, hy⟩ := hx
 obtain ⟨a1, cap1, rfl, _⟩ := hy
 obtain ⟨W0, hW0⟩ : ∃ W0, W0 = W.alloc (.cells #[.int .i64 t.kind, .string ⟨t.text.toArray⟩, .slice a1 t.kids.length cap1, .int .i64 t.pos] 24) := ⟨_, rfl⟩
 have X0 := hid (show Ext none' W W0 by rw [hW0]; exact (Ext.refl _ _).alloc _)
 have G0 := hid (show W0.heap[W.heap.size]? = some (.cells #[.int .i64 t.kind, .string ⟨t.text.toArray⟩, .slice a1 t.kids.length cap1, .int .i64 t.pos] 24 (0, 0)) by rw [hW0]; exact heap_alloc_at rfl _)
 have GB := hid ((X.trans X0.out).heap hb fun h => h)
 clear hq hr Q ht hf hb X
 go_enter Tryz.func178, Tryz.ntmps178
 go_upto_region 1 with (fail)
 rw [← hW0]
 clear hW0
 have y0 := fun t' : LaterF none' W0 => cell_at (t'.x.heap G0.out fun h => h) 0
 have y1 := fun t' : LaterF none' W0 => cell_at (t'.x.heap G0.out fun h => h) 1
 have y2 := fun t' : LaterF none' W0 => cell_at (t'.x.heap G0.out fun h => h) 2
 have y3 := fun t' : LaterF none' W0 => cell_at (t'.x.heap G0.out fun h => h) 3
 have z0 := fun t' : LaterF none' W0 => cell_at (t'.x.heap GB.out fun h => h) 0
 simp only [List.getElem?_toArray, List.getElem?_cons_zero, List.getElem?_cons_succ] at y0 y1 y2 y3 z0
 refine region_q none' W0 (.qs [0, 2] (.one 1 true (.one 3 true (.one 4 true (.one 5 false (.one 6 false .fin)))))) (by kernel_rfl) (by kernel_rfl) (fun dst v c a w h => by cases dst <;> exact h) ?_
 refine ⟨In.of (Ext.refl _ _).drew, ?_⟩
 change wpQuiet _ _ (fun w' => ∃ t : LaterF none' W0, w' = t.w) _ _ _
 simp only [sel, List.getElem?_cons_succ, List.getElem?_cons_zero]
 repeat (go_big_quiet_step (fail))
 refine wpQuiet_nil ?_
 simp only [wpTreeQ, stepT, sel, List.getElem?_cons_succ, List.getElem?_cons_zero]
 have D1 := hid (Ext.refl none' W0).drew
 clear y0 y1 y2 y3 z0
 go_wp2_with fail
 refine (CN.out _ (X0.out.trans D1.out)).mono ?_
 rintro e w1 ⟨v', rfl, hv', X1⟩
 have HV' := hid hv'
 obtain ⟨y', rfl, hy'⟩ := hv'
 obtain ⟨a5, cap5, rfl, _⟩ := hy'
 have X1 := hid (D1.out.trans X1)
 go_wp2_with fail
 refine ⟨In.of X1.out, ?_⟩
 go_wp2_with fail
 refine (or_any f (nam1B ty) (interB ty) _ _ _ (A_1.out _) (A_2.out _)).mono ?_
 rintro e z1 ⟨u1, rfl, hu1, E1⟩
 have U1 := hid (show AskV f (orB (nam1B ty) (interB ty)) z1 u1 from hu1)
 obtain ⟨fn1, fcaps1, rfl, _⟩ := hu1
 have E1 := hid E1
 have T1 := hid (X1.out.trans E1.out)
 go_wp2_with fail
 refine ⟨In.of T1.out, ?_⟩
 go_wp2_with fail
 have Y := hid ((Ext.refl none' z1).alloc (.cells #[.func (.func fn1) #[] fcaps1] 41))
 refine ⟨In.of (T1.out.trans Y.out), ?_⟩
 go_wp2_with fail
 refine (CO.out _ _ _ (HV'.out.ext (E1.out.trans Y.out) fun _ _ h => h) (AsksV.lit1 (heap_alloc_at rfl _) (U1.out.ext Y.out))).mono ?_
 rintro e w9 ⟨rfl, X9⟩
 have X9 := hid ((X0.out.trans (T1.out.trans Y.out)).trans X9)
 go_wp2_with fail
 go_ret
 exact ⟨rfl, X9.out⟩
theorem params_any (f : Nat) (hf : f + 1 ≤ bigD) {ty ex st : Nd → Bool} (Q : Qs f ty ex st) (t : Nd) (ht : t.size ≤ f + 1) (v : Value) (w : World) (hv : NdV none' w t v) :
  Calls Tryz.prog 138 #[v] w (BoolP (parsB ty t) w) := by
 show Calls _ _ _ _ (BoolP (listB (parB ty) t) w)
 have CL := hid fun W (X : Ext none' w W) u hu => list_any f (parB ty) t v u W (by have := t.kids_len; omega) (fun i hi => by have := Nd.size_kid (t := t) (List.getElem_mem hi); omega) (hv.ext X fun _ _ h => h) hu
 have A_1 := hid fun W B hb => params2_ask hf Q W B hb
 obtain ⟨q, hq⟩ : ∃ q, listB (parB ty) t = q := ⟨_, rfl⟩
 rw [hq] at CL ⊢
 obtain ⟨y, rfl, hy⟩ := hv
 obtain ⟨a1, cap1, rfl, _⟩ := hy
 have hmf := mkf_run
 have rs := fun (W : World) (a : Addr) (fn : Fn) (fi ca : Array Value) (m : Mode) => run_store Tryz.prog W a (.func fn fi ca) m rfl
 clear hq Q ht hf
 go_enter Tryz.func138, Tryz.ntmps138
 go_wp2_with fail
 have X2 := ((Ext.refl none' w).alloc (.cells #[.int .i64 t.kind, .string ⟨t.text.toArray⟩, .slice a1 t.kids.length cap1, .int .i64 t.pos] 24)).alloc (.cells #[.func (.func 176) #[] #[]] 41)
 refine (CL.out _ X2 _ (A_1.out _ _ (heap_alloc_at (by simp) _))).mono ?_
 rintro e w1 ⟨rfl, X1⟩
 have X1 := hid (X2.trans X1)
 clear X2 rs
 go_wp2_with fail
 go_ret
 exact ⟨rfl, X1.out⟩
theorem params_ask {f : Nat} (hf : f + 1 ≤ bigD) {ty ex st : Nd → Bool} (Q : Qs f ty ex st) (w : World) : AskV f (parsB ty) w (.func (.func 138) #[] #[]) :=
 ⟨_, _, rfl, Go.Proofs.enters_of Tryz.func138 (by kernel_rfl) rfl, fun t ht W x _ hx => params_any f hf Q t (by omega) x W hx⟩
theorem kid_size {t : Nd} {i : Nat} (h : i < t.kids.length) : (t.kid i).size < t.size := by
 have e : t.kid i = t.kids[i] := by unfold Nd.kid; rw [List.getD_eq_getElem?_getD, List.getElem?_eq_getElem h]; rfl
 rw [e]
 exact Nd.size_kid (List.getElem_mem h)
end Go.Proofs.YthbmjamgidfneaaGreatDoor
namespace Go.Proofs.YthbmjamgidfneaaGreatDoor
open Go.RowKit Go.Lib
theorem ty_name_parts {f : Nat} {t : Nd} (h : tyF nmB (f + 1) t = true) (hk : t.kind = 10) : nmB t.text = true ∧ ∀ x ∈ t.kids, tyF nmB f x = true := by
 rw [tyF, if_pos hk] at h
 simp only [Bool.and_eq_true, List.all_eq_true] at h
 exact h
theorem ty_slice_parts {f : Nat} {t : Nd} (h : tyF nmB (f + 1) t = true) (hk : t.kind = 11) : t.kids.length = 1 ∧ tyF nmB f (t.kid 0) = true := by
 rw [tyF, if_neg (by omega), if_pos hk] at h
 obtain ⟨_, _, h3⟩ := ofB_parts h
 obtain ⟨x, hx, htx⟩ := one_kid h3
 rw [kid_one hx, hx]
 exact ⟨rfl, htx⟩
theorem ty_sig_parts {f : Nat} {t : Nd} (h : tyF nmB (f + 1) t = true) (hk : t.kind = 12) : sigB (tyF nmB f) noT t = true := by
 rw [tyF, if_neg (by omega), if_neg (by omega), if_pos hk] at h
 exact h
theorem typ_text11 {f : Nat} {t : Nd} (hk : t.kind = 11) : typF (f + 1) t = 91 :: 93 :: typF f (t.kid 0) := by rw [typF, if_pos hk]; rfl
theorem typ_text12 {f : Nat} {t : Nd} (h : tyF nmB (f + 1) t = true) (hk : t.kind = 12) : typF (f + 1) t = 102 :: 117 :: 110 :: 99 :: sigT (typF f) t := by
 rw [typF, if_neg (by omega), if_pos hk, sig_text (fun x hx => ty_ne hx) (ty_sig_parts h hk)]
 rfl
end Go.Proofs.YthbmjamgidfneaaGreatDoor
namespace Go.Proofs.YthbmjamgidfneaaGreatDoor
open Go.Lib
set_option linter.unusedVariables false
set_option linter.unusedSimpArgs false
inductive Md | o | b | s | n | q | e | x
 deriving DecidableEq
def sdO (m : Md) (c : UInt8) : Md :=
 if c = 10 then (if m = .b then .x else .n)
 else if c = 32 ∨ c = 9 then .b
 else if c = 34 then .q
 else if c = 47 then (if m = .s then .x else .s)
 else if c = 42 then (if m = .s then .x else .o)
 else if idB c = true ∨ [c] ∈ signs1 then .o
 else .x
def sd (m : Md) (c : UInt8) : Md := match m with
 | .x => .x
 | .q => if c = 34 then .o else if c = 92 then .e else if 32 ≤ c.toNat ∧ c.toNat ≤ 126 then .q else .x
 | .e => if 32 ≤ c.toNat ∧ c.toNat ≤ 126 then .q else .x
 | .o => sdO .o c
 | .b => sdO .b c
 | .s => sdO .s c
 | .n => sdO .n c
def rd (m : Md) (l : List UInt8) : Md := l.foldl sd m
def Out (m : Md) : Prop := m = .o ∨ m = .b ∨ m = .s ∨ m = .n
theorem sd_out {m : Md} (h : Out m) (c : UInt8) : sd m c = sdO m c := by rcases h with rfl | rfl | rfl | rfl <;> rfl
theorem rd_append (m : Md) (a b : List UInt8) : rd m (a ++ b) = rd (rd m a) b := List.foldl_append ..
theorem rd_cons (m : Md) (c : UInt8) (l : List UInt8) : rd m (c :: l) = rd (sd m c) l := rfl
theorem rd_nil (m : Md) : rd m [] = m := rfl
theorem rd_x : ∀ l, rd .x l = .x
 | [] => rfl
 | c :: l => by rw [rd_cons]; exact rd_x l
theorem out_o : Out .o := .inl rfl
theorem out_b : Out .b := .inr (.inl rfl)
theorem out_s : Out .s := .inr (.inr (.inl rfl))
theorem out_n : Out .n := .inr (.inr (.inr rfl))
def Tx (l : List UInt8) : Prop := ∀ m, Out m → rd m l = .o
theorem Tx.go {a : List UInt8} (h : Tx a) {m : Md} (hm : Out m) (r : List UInt8) : rd m (a ++ r) = rd .o r := by rw [rd_append, h m hm]
theorem Tx.app {a b : List UInt8} (h : Tx a) (k : Tx b) : Tx (a ++ b) := fun m hm => by rw [h.go hm]; exact k _ out_o
theorem id_o {m : Md} (hm : Out m) {c : UInt8} (h : idB c = true) : sd m c = .o := by
 rw [sd_out hm]
 have n : ∀ k : UInt8, idB k = false → c ≠ k := fun k hk e => by rw [e, hk] at h; cases h
 unfold sdO
 rw [if_neg (n 10 (by decide)), if_neg (fun h => h.elim (n 32 (by decide)) (n 9 (by decide))), if_neg (n 34 (by decide)), if_neg (n 47 (by decide)), if_neg (n 42 (by decide)), if_pos (.inl h)]
theorem ids_o : ∀ {l : List UInt8}, (∀ c ∈ l, idB c = true) → rd .o l = .o
 | [], _ => rfl
 | c :: l, h => by rw [rd_cons, id_o out_o (h c (by simp))]; exact ids_o fun c hc => h c (by simp [hc])
theorem ids_tx {l : List UInt8} (h : ∀ c ∈ l, idB c = true) (h0 : l ≠ []) : Tx l := by
 intro m hm
 cases l with
 | nil => exact absurd rfl h0
 | cons c l => rw [rd_cons, id_o hm (h c (by simp))]; exact ids_o fun c hc => h c (by simp [hc])
theorem nmB_ids {s : List UInt8} (h : nmB s = true) : (∀ c ∈ s, idB c = true) ∧ s ≠ [] := by
 unfold nmB at h
 rw [Bool.and_eq_true] at h
 have h := h.2
 cases s with
 | nil => cases h
 | cons c l =>
  unfold nameB at h
  simp only [Bool.and_eq_true, List.all_eq_true] at h
  exact ⟨h.2, by simp⟩
theorem nmB_tx {s : List UInt8} (h : nmB s = true) : Tx s := ids_tx (nmB_ids h).1 (nmB_ids h).2
theorem plain_tx {s : List UInt8} (h : plainP s = true) : Tx s := by
 unfold plainP at h
 simp only [Bool.and_eq_true, Bool.or_eq_true, List.all_eq_true, decide_eq_true_eq, beq_iff_eq] at h
 refine ids_tx (fun c hc => ?_) ?_
 · have := h.1 c hc
   unfold idB figB
   simp [this.1, this.2]
 · rintro rfl
   rcases h.2 with h | h
   · cases h
   · simp at h
theorem hexd_q : ∀ n, n < 16 → sd .q (hexd n) = .q := by decide
theorem quoteB_q (c : UInt8) : rd .q (quoteB c) = .q := by
 unfold quoteB
 have hc := c.toNat_lt
 by_cases h1 : c = 34 ∨ c = 92
 · rw [if_pos h1]; rcases h1 with rfl | rfl <;> decide
 rw [if_neg h1]
 by_cases h2 : c = 10
 · rw [if_pos h2]; decide
 rw [if_neg h2]
 by_cases h3 : c = 9
 · rw [if_pos h3]; decide
 rw [if_neg h3]
 by_cases h4 : 32 ≤ c.toNat ∧ c.toNat ≤ 126
 · rw [if_pos h4, rd_cons, rd_nil]
   show (if c = 34 then Md.o else if c = 92 then .e else if 32 ≤ c.toNat ∧ c.toNat ≤ 126 then .q else .x) = _
   rw [if_neg fun e => h1 (.inl e), if_neg fun e => h1 (.inr e), if_pos h4]
 · rw [if_neg h4]
   show rd (sd (sd .q 92) 120) [hexd (c.toNat / 16), hexd (c.toNat % 16)] = _
   rw [show sd (sd .q 92) 120 = .q by decide, rd_cons, hexd_q _ (by omega), rd_cons, hexd_q _ (by omega), rd_nil]
theorem quotes_q : ∀ s : List UInt8, rd .q (s.flatMap quoteB) = .q
 | [] => rfl
 | c :: s => by rw [List.flatMap_cons, rd_append, quoteB_q, quotes_q s]
theorem quote_tx (s : List UInt8) : Tx (quoteP s) := fun m hm => by
 unfold quoteP
 rw [rd_cons, sd_out hm, show sdO m 34 = .q by rcases hm with rfl | rfl | rfl | rfl <;> decide, rd_append, quotes_q]
 decide
theorem join_o {p : Nd → List UInt8} : ∀ {l : List Nd}, (∀ x ∈ l, Tx (p x)) → rd .o (Lib.join (l.map p) sComma) = .o
 | [], _ => rfl
 | x :: r, h => by
  rw [List.map_cons, Lib.join_cons, (h x (by simp)).go out_o]
  unfold Lib.joinTail
  have hr : ∀ y ∈ r, Tx (p y) := fun y hy => h y (by simp [hy])
  clear h
  induction r with
  | nil => rfl
  | cons y r ih =>
   rw [List.map_cons, List.map_cons, List.flatten_cons]
   unfold sComma
   rw [List.append_assoc]
   show rd (rd .o [44, 32]) (p y ++ _) = _
   rw [show rd .o [44, 32] = .b by decide, (hr y (by simp)).go out_b]
   exact ih fun z hz => hr z (by simp [hz])
theorem join_go {p : Nd → List UInt8} {l : List Nd} (h : ∀ x ∈ l, Tx (p x)) (r : List UInt8) : rd .o (Lib.join (l.map p) sComma ++ r) = rd .o r := by rw [rd_append, join_o h]
theorem sd1 {m : Md} (hm : Out m) {c : UInt8} (h : [c] ∈ signs1 ∧ c ≠ 47 ∧ c ≠ 42) : sd m c = .o := by
 rw [sd_out hm]
 obtain ⟨h1, h2, h3⟩ := h
 have n : ∀ k : UInt8, [k] ∉ signs1 → c ≠ k := fun k hk e => hk (e ▸ h1)
 unfold sdO
 rw [if_neg (n 10 (by decide)), if_neg (fun h => h.elim (n 32 (by decide)) (n 9 (by decide))), if_neg (n 34 (by decide)), if_neg h2, if_neg h3, if_pos (.inr h1)]
theorem sd_blank {m : Md} (hm : Out m) : sd m 32 = .b := by rcases hm with rfl | rfl | rfl | rfl <;> decide
theorem tabs_b : ∀ k, rd .b (tabsT k) = .b
 | 0 => rfl
 | k + 1 => by
  unfold tabsT
  rw [List.replicate_succ, rd_cons, show sd .b 9 = .b by decide]
  exact tabs_b k
theorem tabs_rd (k : Nat) {m : Md} (hm : Out m) : rd m (tabsT (k + 1)) = .b := by
 unfold tabsT
 rw [List.replicate_succ, rd_cons, sd_out hm, show sdO m 9 = .b by rcases hm with rfl | rfl | rfl | rfl <;> decide]
 exact tabs_b k
theorem tabs_out (k : Nat) : Out (rd .n (tabsT k)) := by
 cases k with
 | zero => exact out_n
 | succ k => rw [tabs_rd k out_n]; exact out_b
theorem lit_o {l : List UInt8} (h : rd .o l = .o ∧ rd .b l = .o ∧ rd .s l = .o ∧ rd .n l = .o) : Tx l := fun m hm => by
 rcases hm with rfl | rfl | rfl | rfl
 · exact h.1
 · exact h.2.1
 · exact h.2.2.1
 · exact h.2.2.2
theorem pa_tx {ty : Nd → List UInt8} {x : Nd} (h : x.text = [] ∨ nmB x.text = true) (ht : Tx (ty (x.kid 0))) : Tx (paT ty x) := by
 unfold paT
 by_cases e : x.text = []
 · rw [if_pos e]; exact ht
 · rw [if_neg e]
   intro m hm
   rw [List.append_assoc, (nmB_tx (h.resolve_left e)).go hm]
   show rd (sd .o 32) (ty (x.kid 0)) = _
   rw [sd_blank out_o]
   exact ht _ out_b
theorem sig_tx {ty : Nd → List UInt8} {so : List UInt8 → Bool} (hso : ∀ s, so s = true → s = [] ∨ nmB s = true) {t : Nd} {q : Nd → Bool} (h : sigB q so t = true) (hq : ∀ y, q y = true → Tx (ty y)) : Tx (sigT ty t) := by
 obtain ⟨_, _, l, r, hk, hl1, hl2, hps, hr⟩ := sigB_parts h
 obtain ⟨e0, e1⟩ := kid_two hk
 unfold sigT
 rw [e0, e1]
 intro m hm
 rw [List.append_assoc, List.append_assoc, List.cons_append, List.nil_append, rd_cons, sd1 hm (by decide)]
 rw [join_go (p := paT ty) fun x hx => by
  obtain ⟨_, h2, y, hy, hy1⟩ := hps x hx
  have ht := hq _ hy1
  rw [← kid_one hy] at ht
  exact pa_tx (hso _ h2) ht]
 rw [List.cons_append, List.nil_append, rd_cons, sd1 out_o (by decide)]
 by_cases e : r.kind = 0
 · rw [if_pos e]; rfl
 · rw [if_neg e, List.cons_append, List.nil_append, rd_cons, sd_blank out_o]
   refine hq _ ?_ _ out_b
   rcases hr with hr | hr
   · exact absurd (emptyB_kind hr) e
   · exact hr
theorem noT_tx : ∀ s, noT s = true → s = [] ∨ nmB s = true := fun s h => by
 unfold noT at h
 exact .inl (by simpa using h)
theorem nm_tx : ∀ s, nmB s = true → s = [] ∨ nmB s = true := fun s h => .inr h
theorem typ_tx : ∀ (f : Nat) (t : Nd), tyF nmB f t = true → Tx (typF f t)
 | 0, t, h => by cases h
 | f + 1, t, h => by
  have ih := typ_tx f
  rcases tyF_kind h with hk | hk | hk
  · obtain ⟨h1, h2⟩ := ty_name_parts h hk
    rw [typF, if_neg (by omega), if_neg (by omega)]
    split
    · exact nmB_tx h1
    · intro m hm
      rw [List.append_assoc, List.append_assoc, (nmB_tx h1).go hm, List.cons_append, List.nil_append, rd_cons, sd1 out_o (by decide), join_go fun x hx => ih x (h2 x hx)]
      decide
  · obtain ⟨_, h2⟩ := ty_slice_parts h hk
    rw [typ_text11 hk]
    intro m hm
    rw [rd_cons, sd1 hm (by decide), rd_cons, sd1 out_o (by decide)]
    exact ih _ h2 _ out_o
  · have h2 := ty_sig_parts h hk
    rw [typ_text12 h hk]
    intro m hm
    rw [show 102 :: 117 :: 110 :: 99 :: sigT (typF f) t = [102, 117, 110, 99] ++ sigT (typF f) t from rfl, (lit_o (by decide)).go hm]
    exact sig_tx noT_tx h2 ih _ out_o
theorem br_tx {ex : ExT} {deep : Nat} {head yes : Bool} {x : Nd} (h : ∀ head, Tx (ex deep head x)) : Tx (brT ex deep head yes x) := by
 unfold brT
 cases yes with
 | false => exact h head
 | true =>
  intro m hm
  rw [if_pos rfl, List.append_assoc, List.cons_append, List.nil_append, rd_cons, sd1 hm (by decide), (h false).go out_o]
  decide
theorem part_tx {f deep : Nat} {ex : ExT} {x : Nd} (h : argB (tyF nmB f) (exF f) x = true) (hx : exF f x = true → Tx (ex deep false x)) : Tx (partT (typF f) ex deep x) := by
 unfold argB at h
 simp only [Bool.or_eq_true, Bool.and_eq_true] at h
 unfold partT
 split
 · rename_i hk
   rcases h with h | h
   · have := exF_kind h; omega
   · exact typ_tx f x h.2
 · rename_i hk
   rcases h with h | h
   · exact hx h
   · have := tyF_kind h.2
     have h3 : x.kind ≠ 10 := by simpa using h.1
     omega
theorem oth_go {f deep : Nat} {ex : ExT} {t : Nd} (h : ∀ x ∈ t.kids.drop 1, argB (tyF nmB f) (exF f) x = true) (hx : ∀ x ∈ t.kids, exF f x = true → Tx (ex deep false x)) (r : List UInt8) : rd .o (othT (typF f) ex deep t ++ r) = rd .o r :=
 join_go (fun x hm => part_tx (h x hm) fun he => hx x (List.mem_of_mem_drop hm) he) r
theorem bin_b {s : List UInt8} (h : binB s = true) : Out (rd .b s) := by
 unfold binB at h
 have h : s ∈ binS := by simpa using h
 unfold binS at h
 simp only [List.mem_cons, List.mem_nil_iff, or_false] at h
 rcases h with rfl | rfl | rfl | rfl | rfl | rfl | rfl | rfl | rfl | rfl | rfl | rfl | rfl <;> first | exact .inl (by decide) | exact .inr (.inr (.inl (by decide)))
theorem un_tx {s : List UInt8} (h : unB s = true) : Tx s := by
 unfold unB at h
 simp only [Bool.or_eq_true, beq_iff_eq] at h
 rcases h with rfl | rfl <;> exact lit_o (by decide)
theorem line_n {deep : Nat} {s : List UInt8} (h : Tx s) (r : List UInt8) : rd .n (lineT (deep + 1) s ++ r) = rd .n r := by
 unfold lineT
 rw [List.append_assoc, List.append_assoc, rd_append, tabs_rd deep out_n, h.go out_b]
 rfl
theorem bl_tx {deep : Nat} {st : StT} {t : Nd} (h : ∀ x ∈ t.kids, Tx (st (deep + 1) x)) : Tx (blT st deep t) := by
 intro m hm
 unfold blT
 have hl : ∀ l : List Nd, (∀ x ∈ l, Tx (st (deep + 1) x)) → ∀ r, rd .n ((l.map fun k => lineT (deep + 1) (st (deep + 1) k)).flatten ++ r) = rd .n r := by
  intro l hl r
  induction l with
  | nil => rfl
  | cons x l ih =>
   rw [List.map_cons, List.flatten_cons, List.append_assoc, line_n (hl x (by simp))]
   exact ih fun y hy => hl y (by simp [hy])
 rw [List.append_assoc, List.cons_append, List.cons_append, List.nil_append, rd_cons, sd1 hm (by decide), rd_cons, show sd .o 10 = .n by decide, hl _ h, rd_append]
 exact sd1 (tabs_out deep) (by decide)
theorem Tx.cons {c : UInt8} (h : [c] ∈ signs1 ∧ c ≠ 47 ∧ c ≠ 42) {l : List UInt8} (hl : Tx l) : Tx (c :: l) := fun m hm => by rw [rd_cons, sd1 hm h]; exact hl _ out_o
theorem kid_out {t : Nd} {i : Nat} (h : ¬ i < t.kids.length) : (t.kid i).size = 1 ∧ (t.kid i).kids = [] := by
 have e : t.kid i = Nd.zero := by
  unfold Nd.kid
  rw [List.getD_eq_getElem?_getD, List.getElem?_eq_none (by omega)]
  rfl
 rw [e]
 exact ⟨rfl, rfl⟩
theorem kid_sz {t : Nd} {f i : Nat} (ht : t.size ≤ f + 1) (h0 : f ≠ 0) : (t.kid i).size ≤ f := by
 by_cases h : i < t.kids.length
 · have := kid_size h; omega
 · have := (kid_out h).1; omega
theorem kid_kid_sz {t z : Nd} {f i : Nat} (ht : t.size ≤ f + 1) (hz : z ∈ (t.kid i).kids) : z.size ≤ f := by
 by_cases h : i < t.kids.length
 · have := kid_size h; have := Nd.size_kid hz; omega
 · rw [(kid_out h).2] at hz
   cases hz
theorem ex_tx_step (f : Nat) (H : ∀ t, t.size ≤ f → exF f t = true → ∀ deep head, Tx (exT f deep head t)) (HS : ∀ t, t.size ≤ f → stF f t = true → ∀ deep, Tx (stT f deep t)) (t : Nd) (ht : t.size ≤ f + 1) (he : exF (f + 1) t = true) (deep : Nat) (head : Bool) : Tx (exT (f + 1) deep head t) := by
 have HK : ∀ i, exF f (t.kid i) = true → ∀ deep head, Tx (exT f deep head (t.kid i)) := fun i h => H _ (kid_sz ht (fun e => by subst e; cases h)) h
 rw [exF_succ] at he
 rw [exT_succ]
 unfold exB at he
 unfold exT1
 by_cases h16 : t.kind = 16
 · rw [if_pos h16] at he
   rw [if_neg (by omega), if_neg (by omega), if_neg (by omega), if_neg (by omega), if_neg (by omega), if_neg (by omega), if_neg (by omega), if_neg (by omega)]
   exact plain_tx (namB_parts he).2.1
 rw [if_neg h16] at he
 by_cases h17 : t.kind = 17
 · rw [if_pos h17]; exact quote_tx _
 rw [if_neg h17] at he ⊢
 by_cases h18 : t.kind = 18
 · rw [if_pos h18] at he
   rw [if_neg (by omega), if_neg (by omega), if_neg (by omega), if_neg (by omega), if_neg (by omega), if_neg (by omega), if_neg (by omega)]
   exact nmB_tx (namB_parts he).2.1
 rw [if_neg h18] at he
 by_cases h19 : t.kind = 19
 · rw [if_pos h19] at he ⊢
   obtain ⟨_, h2, h3⟩ := namB_parts he
   obtain ⟨x, hx, hx1⟩ := one_kid h3
   rw [← kid_one hx] at hx1
   exact (un_tx h2).app (br_tx fun head => HK _ hx1 deep head)
 rw [if_neg h19] at he ⊢
 by_cases h20 : t.kind = 20
 · rw [if_pos h20] at he ⊢
   obtain ⟨_, h2, h3⟩ := namB_parts he
   obtain ⟨x, y, hk, hx1, hy1⟩ := two_kids h3
   obtain ⟨e0, e1⟩ := kid_two hk
   rw [← e0] at hx1
   rw [← e1] at hy1
   intro m hm
   rw [List.append_assoc, List.append_assoc, List.append_assoc, (br_tx fun head => HK _ hx1 deep head).go hm, List.cons_append, List.nil_append, rd_cons, sd_blank out_o, rd_append, List.cons_append, List.nil_append, rd_cons, sd_blank (bin_b h2)]
   exact (br_tx fun head => HK _ hy1 deep head) _ out_b
 rw [if_neg h20] at he ⊢
 have hpost : ∀ (hx1 : exF f (t.kid 0) = true) (hag : ∀ x ∈ t.kids.drop 1, argB (tyF nmB f) (exF f) x = true) (a b : UInt8), ([a] ∈ signs1 ∧ a ≠ 47 ∧ a ≠ 42) → ([b] ∈ signs1 ∧ b ≠ 47 ∧ b ≠ 42) → Tx (fstT (exT f) deep head (t.kid 0) ++ [a] ++ othT (typF f) (exT f) deep t ++ [b]) := by
  intro hx1 hag a b ha hb m hm
  unfold fstT
  rw [List.append_assoc, List.append_assoc, (br_tx fun head => HK _ hx1 deep head).go hm, List.cons_append, List.nil_append, rd_cons, sd1 out_o ha, oth_go hag fun x hm he => H x (by have := Nd.size_kid hm; omega) he deep false]
  exact sd1 out_o hb
 by_cases h21 : t.kind = 21
 · rw [if_pos h21] at he ⊢
   simp only [Bool.and_eq_true, Bool.not_eq_true', List.all_eq_true] at he
   have h3 : 0 < t.kids.length := by
    have := he.2.1
    cases h : t.kids with
    | nil => rw [h] at this; simp at this
    | cons a l => simp
   exact hpost (he.2.2 _ (kid_mem' h3)) (fun x hx => exB_arg (he.2.2 x (List.mem_of_mem_drop hx))) 40 41 (by decide) (by decide)
 rw [if_neg h21] at he ⊢
 by_cases h22 : t.kind = 22
 · rw [if_pos h22] at he ⊢
   simp only [Bool.and_eq_true, decide_eq_true_eq, List.all_eq_true] at he
   exact hpost he.2.2.1 he.2.2.2 91 93 (by decide) (by decide)
 rw [if_neg h22] at he ⊢
 by_cases h23 : t.kind = 23
 · rw [if_pos h23] at he ⊢
   obtain ⟨_, h2, h3⟩ := namB_parts he
   obtain ⟨x, hx, hx1⟩ := one_kid h3
   rw [← kid_one hx] at hx1
   unfold fstT
   intro m hm
   rw [List.append_assoc, (br_tx fun head => HK _ hx1 deep head).go hm, List.cons_append, List.nil_append, rd_cons, sd1 out_o (by decide)]
   exact nmB_tx h2 _ out_o
 rw [if_neg h23] at he ⊢
 by_cases h24 : t.kind = 24
 · rw [if_pos h24] at he ⊢
   simp only [Bool.and_eq_true, Bool.not_eq_true', List.all_eq_true] at he
   have hl : Tx (typF f (t.kid 0) ++ [123] ++ othT (typF f) (exT f) deep t ++ [125]) := by
    intro m hm
    rw [List.append_assoc, List.append_assoc, (typ_tx f _ he.2.2.2.1).go hm, List.cons_append, List.nil_append, rd_cons, sd1 out_o (by decide), oth_go (fun x hx => exB_arg (he.2.2.2.2 x hx)) fun x hm he => H x (by have := Nd.size_kid hm; omega) he deep false]
    decide
   split
   · intro m hm
     rw [List.append_assoc, List.cons_append, List.nil_append, rd_cons, sd1 hm (by decide), hl.go out_o]
     decide
   · exact hl
 rw [if_neg h24] at he ⊢
 have h25 := (ofB_parts he).1
 rw [if_pos h25]
 obtain ⟨_, _, h3⟩ := ofB_parts he
 obtain ⟨x, y, hk, hx1, hy1⟩ := two_kids h3
 obtain ⟨e0, e1⟩ := kid_two hk
 rw [← e0] at hx1
 rw [← e1] at hy1
 intro m hm
 unfold wFunc
 rw [List.append_assoc, List.append_assoc, (lit_o (l := [102, 117, 110, 99]) (by decide)).go hm, (sig_tx nm_tx hx1 (typ_tx f)).go out_o, List.cons_append, List.nil_append, rd_cons, sd_blank out_o]
 refine bl_tx (fun z hz => HS z (kid_kid_sz ht hz) ?_ (deep + 1)) _ out_b
 unfold blkB at hy1
 simp only [Bool.and_eq_true, List.all_eq_true] at hy1
 exact hy1.2.2 z hz
end Go.Proofs.YthbmjamgidfneaaGreatDoor
