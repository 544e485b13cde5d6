import Derived.Test.YthbmjamgidfneaaGreatDoorVAb
import Derived.Test.YthbmjamgidfneaaGreatDoorVAf
import Derived.Test.YthbmjamgidfneaaGreatDoorVAu
import Derived.Test.YthbmjamgidfneaaGreatDoorVAx
import Derived.Test.YthbmjamgidfneaaGreatDoorVAr
import Derived.Test.YthbmjamgidfneaaGreatDoorVAl
import Derived.Test.YthbmjamgidfneaaGreatDoorVAi
import Derived.Test.YthbmjamgidfneaaGreatDoorVAg
import Derived.Test.YthbmjamgidfneaaGreatDoorVAp
import Derived.Test.YthbmjamgidfneaaGreatDoorVAj
set_option maxRecDepth 100000
set_option maxHeartbeats 6400000
namespace Go.Proofs.YthbmjamgidfneaaGreatDoor
open Go.RowKit Go.Lib Go.BigFrame
theorem st_show_step (f : Nat) (hf : f + 1 ≤ 1100000) (H : ExpH f) (HS : StmH f) : StmH (f + 1) := by
 intro deep hd t ht he v w hm hv
 rw [stF_succ] at he
 rw [stT_succ]
 unfold stB at he
 unfold stT1
 by_cases h5 : t.kind = 5
 · rw [if_pos h5] at he ⊢
   exact st_var f H HS deep hd hf t ht h5 he v w hm hv
 rw [if_neg h5] at he ⊢
 by_cases h26 : t.kind = 26
 · rw [if_pos h26] at he
   rw [if_pos (by omega)]
   exact st_short f H HS deep hd hf t ht h26 he v w hm hv
 rw [if_neg h26] at he
 by_cases h27 : t.kind = 27
 · rw [if_pos h27] at he
   rw [if_pos (by omega)]
   exact st_set f H HS deep hd hf t ht h27 he v w hm hv
 rw [if_neg h27] at he
 by_cases h28 : t.kind = 28
 · rw [if_pos h28] at he
   rw [if_pos (by omega)]
   exact st_inc f H HS deep hd hf t ht h28 he v w hm hv
 rw [if_neg h28] at he
 by_cases h29 : t.kind = 29
 · rw [if_pos h29] at he
   rw [if_pos (by omega)]
   exact st_call f H HS deep hd hf t ht h29 he v w hm hv
 rw [if_neg h29] at he
 rw [if_neg (by omega)]
 by_cases h30 : t.kind = 30
 · rw [if_pos h30] at he ⊢
   exact st_if f H HS deep hd hf t ht h30 he v w hm hv
 rw [if_neg h30] at he ⊢
 by_cases h31 : t.kind = 31
 · rw [if_pos h31] at he ⊢
   exact st_for f H HS deep hd hf t ht h31 he v w hm hv
 rw [if_neg h31] at he ⊢
 by_cases h32 : t.kind = 32
 · rw [if_pos h32] at he ⊢
   exact st_range f H HS deep hd hf t ht h32 he v w hm hv
 rw [if_neg h32] at he ⊢
 by_cases h33 : t.kind = 33
 · rw [if_pos h33] at he ⊢
   exact st_ret f H HS deep hd hf t ht h33 he v w hm hv
 rw [if_neg h33] at he ⊢
 by_cases h34 : t.kind = 34
 · rw [if_pos h34] at he ⊢
   exact st_brk f H HS deep hd hf t ht h34 he v w hm hv
 rw [if_neg h34] at he ⊢
 by_cases h35 : t.kind = 35
 · rw [if_pos h35] at he ⊢
   exact st_cnt f H HS deep hd hf t ht h35 he v w hm hv
 rw [if_neg h35] at he ⊢
 have hk : t.kind = 36 := by
  have h2 := he
  unfold blkB at h2
  simp only [Bool.and_eq_true, beq_iff_eq] at h2
  exact h2.1
 exact st_blk f H HS deep hd hf t ht hk he v w hm hv
theorem sh_all : ∀ (f : Nat), f ≤ 1100000 → ExpH f ∧ StmH f
 | 0, _ => ⟨fun _ _ _ t ht => by have := t.size_pos; omega, fun _ _ t ht => by have := t.size_pos; omega⟩
 | f + 1, hf => ⟨ex_show_step f hf (sh_all f (by omega)).1 (sh_all f (by omega)).2, st_show_step f hf (sh_all f (by omega)).1 (sh_all f (by omega)).2⟩
end Go.Proofs.YthbmjamgidfneaaGreatDoor
namespace Go.Proofs.YthbmjamgidfneaaGreatDoor
open Go.RowKit Go.Lib Go.BigFrame
set_option linter.unusedVariables false
set_option linter.unusedSimpArgs false
theorem es_var (f : Nat) (hf : f + 1 ≤ bigD) {ty ex st : Nd → Bool} (Q : Qs f ty ex st) (t : Nd) (ht : t.size ≤ f + 1) (hk : t.kind = 5) (v : Value) (w : World) (hm : MaxL w) (hv : NdV none' w t v) :
  Calls Tryz.prog 104 #[v] w (BoolP (varB ty ex t) w) := by
 have CC := hid fun W (X : Ext none' w W) => var_any f hf Q t ht v W (maxL_later hm X) (hv.ext X fun _ _ h => h)
 obtain ⟨q, hq⟩ : ∃ q, varB ty ex t = q := ⟨_, rfl⟩
 rw [hq] at CC ⊢
 obtain ⟨y, rfl, hy⟩ := hv
 obtain ⟨a1, cap1, rfl, _⟩ := hy
 rw [hk] at CC ⊢
 clear hq Q ht hm hf hk
 go_enter Tryz.func104, Tryz.ntmps104
 go_wp2_with fail
 refine (CC.out _ ((Ext.refl _ _).alloc _)).mono ?_
 rintro e w1 ⟨rfl, X1⟩
 have X1 := hid (((Ext.refl none' w).alloc _).trans X1)
 go_wp2_with fail
 go_ret
 exact ⟨rfl, X1.out⟩
theorem es_short (f : Nat) (hf : f + 1 ≤ bigD) {ty ex st : Nd → Bool} (Q : Qs f ty ex st) (t : Nd) (ht : t.size ≤ f + 1) (hk : t.kind = 26) (v : Value) (w : World) (hm : MaxL w) (hv : NdV none' w t v) :
  Calls Tryz.prog 104 #[v] w (BoolP (shB ex t) w) := by
 have CC := hid fun W (X : Ext none' w W) => short_any f hf Q t ht v W (maxL_later hm X) (hv.ext X fun _ _ h => h)
 obtain ⟨q, hq⟩ : ∃ q, shB ex t = q := ⟨_, rfl⟩
 rw [hq] at CC ⊢
 obtain ⟨y, rfl, hy⟩ := hv
 obtain ⟨a1, cap1, rfl, _⟩ := hy
 rw [hk] at CC ⊢
 clear hq Q ht hm hf hk
 go_enter Tryz.func104, Tryz.ntmps104
 go_wp2_with fail
 refine (CC.out _ ((Ext.refl _ _).alloc _)).mono ?_
 rintro e w1 ⟨rfl, X1⟩
 have X1 := hid (((Ext.refl none' w).alloc _).trans X1)
 go_wp2_with fail
 go_ret
 exact ⟨rfl, X1.out⟩
theorem es_set (f : Nat) (hf : f + 1 ≤ bigD) {ty ex st : Nd → Bool} (Q : Qs f ty ex st) (t : Nd) (ht : t.size ≤ f + 1) (hk : t.kind = 27) (v : Value) (w : World) (hm : MaxL w) (hv : NdV none' w t v) :
  Calls Tryz.prog 104 #[v] w (BoolP (setB ex t) w) := by
 have CC := hid fun W (X : Ext none' w W) => set_any f hf Q t ht v W (maxL_later hm X) (hv.ext X fun _ _ h => h)
 obtain ⟨q, hq⟩ : ∃ q, setB ex t = q := ⟨_, rfl⟩
 rw [hq] at CC ⊢
 obtain ⟨y, rfl, hy⟩ := hv
 obtain ⟨a1, cap1, rfl, _⟩ := hy
 rw [hk] at CC ⊢
 clear hq Q ht hm hf hk
 go_enter Tryz.func104, Tryz.ntmps104
 go_wp2_with fail
 refine (CC.out _ ((Ext.refl _ _).alloc _)).mono ?_
 rintro e w1 ⟨rfl, X1⟩
 have X1 := hid (((Ext.refl none' w).alloc _).trans X1)
 go_wp2_with fail
 go_ret
 exact ⟨rfl, X1.out⟩
theorem es_inc (f : Nat) (hf : f + 1 ≤ bigD) {ty ex st : Nd → Bool} (Q : Qs f ty ex st) (t : Nd) (ht : t.size ≤ f + 1) (hk : t.kind = 28) (v : Value) (w : World) (hm : MaxL w) (hv : NdV none' w t v) :
  Calls Tryz.prog 104 #[v] w (BoolP (incrB ex t) w) := by
 have CC := hid fun W (X : Ext none' w W) => inc_any f hf Q t ht v W (maxL_later hm X) (hv.ext X fun _ _ h => h)
 obtain ⟨q, hq⟩ : ∃ q, incrB ex t = q := ⟨_, rfl⟩
 rw [hq] at CC ⊢
 obtain ⟨y, rfl, hy⟩ := hv
 obtain ⟨a1, cap1, rfl, _⟩ := hy
 rw [hk] at CC ⊢
 clear hq Q ht hm hf hk
 go_enter Tryz.func104, Tryz.ntmps104
 go_wp2_with fail
 refine (CC.out _ ((Ext.refl _ _).alloc _)).mono ?_
 rintro e w1 ⟨rfl, X1⟩
 have X1 := hid (((Ext.refl none' w).alloc _).trans X1)
 go_wp2_with fail
 go_ret
 exact ⟨rfl, X1.out⟩
theorem es_call (f : Nat) (hf : f + 1 ≤ bigD) {ty ex st : Nd → Bool} (Q : Qs f ty ex st) (t : Nd) (ht : t.size ≤ f + 1) (hk : t.kind = 29) (v : Value) (w : World) (hm : MaxL w) (hv : NdV none' w t v) :
  Calls Tryz.prog 104 #[v] w (BoolP (callB ex t) w) := by
 have CC := hid fun W (X : Ext none' w W) => call_any f hf Q t ht v W (maxL_later hm X) (hv.ext X fun _ _ h => h)
 obtain ⟨q, hq⟩ : ∃ q, callB ex t = q := ⟨_, rfl⟩
 rw [hq] at CC ⊢
 obtain ⟨y, rfl, hy⟩ := hv
 obtain ⟨a1, cap1, rfl, _⟩ := hy
 rw [hk] at CC ⊢
 clear hq Q ht hm hf hk
 go_enter Tryz.func104, Tryz.ntmps104
 go_wp2_with fail
 refine (CC.out _ ((Ext.refl _ _).alloc _)).mono ?_
 rintro e w1 ⟨rfl, X1⟩
 have X1 := hid (((Ext.refl none' w).alloc _).trans X1)
 go_wp2_with fail
 go_ret
 exact ⟨rfl, X1.out⟩
theorem es_if (f : Nat) (hf : f + 1 ≤ bigD) {ty ex st : Nd → Bool} (Q : Qs f ty ex st) (t : Nd) (ht : t.size ≤ f + 1) (hk : t.kind = 30) (v : Value) (w : World) (hm : MaxL w) (hv : NdV none' w t v) :
  Calls Tryz.prog 104 #[v] w (BoolP (ifsB ex st t) w) := by
 have CC := hid fun W (X : Ext none' w W) => if_any f hf Q t ht v W (maxL_later hm X) (hv.ext X fun _ _ h => h)
 obtain ⟨q, hq⟩ : ∃ q, ifsB ex st t = q := ⟨_, rfl⟩
 rw [hq] at CC ⊢
 obtain ⟨y, rfl, hy⟩ := hv
 obtain ⟨a1, cap1, rfl, _⟩ := hy
 rw [hk] at CC ⊢
 clear hq Q ht hm hf hk
 go_enter Tryz.func104, Tryz.ntmps104
 go_wp2_with fail
 refine (CC.out _ ((Ext.refl _ _).alloc _)).mono ?_
 rintro e w1 ⟨rfl, X1⟩
 have X1 := hid (((Ext.refl none' w).alloc _).trans X1)
 go_wp2_with fail
 go_ret
 exact ⟨rfl, X1.out⟩
theorem es_blk (f : Nat) (hf : f + 1 ≤ bigD) {ty ex st : Nd → Bool} (Q : Qs f ty ex st) (t : Nd) (ht : t.size ≤ f + 1) (n5 : t.kind ≠ 5) (n26 : t.kind ≠ 26) (n27 : t.kind ≠ 27) (n28 : t.kind ≠ 28) (n29 : t.kind ≠ 29) (n30 : t.kind ≠ 30) (n31 : t.kind ≠ 31) (n32 : t.kind ≠ 32) (n33 : t.kind ≠ 33) (n34 : t.kind ≠ 34) (n35 : t.kind ≠ 35) (v : Value) (w : World) (hm : MaxL w) (hv : NdV none' w t v) :
  Calls Tryz.prog 104 #[v] w (BoolP (blkB st t) w) := by
 have CC := hid fun W (X : Ext none' w W) => block_any f hf Q t ht v W (maxL_later hm X) (hv.ext X fun _ _ h => h)
 obtain ⟨q, hq⟩ : ∃ q, blkB st t = q := ⟨_, rfl⟩
 rw [hq] at CC ⊢
 obtain ⟨y, rfl, hy⟩ := hv
 obtain ⟨a1, cap1, rfl, _⟩ := hy
 obtain ⟨tk, htk⟩ : ∃ k, t.kind = k := ⟨_, rfl⟩
 rw [htk] at n5 n26 n27 n28 n29 n30 n31 n32 n33 n34 n35 CC ⊢
 have q5 : (tk == 5) = false := by simpa using n5
 have q26 : (tk == 26) = false := by simpa using n26
 have q27 : (tk == 27) = false := by simpa using n27
 have q28 : (tk == 28) = false := by simpa using n28
 have q29 : (tk == 29) = false := by simpa using n29
 have q30 : (tk == 30) = false := by simpa using n30
 have q31 : (tk == 31) = false := by simpa using n31
 have q32 : (tk == 32) = false := by simpa using n32
 have q33 : (tk == 33) = false := by simpa using n33
 have q34 : (tk == 34) = false := by simpa using n34
 have q35 : (tk == 35) = false := by simpa using n35
 clear hq Q ht hm hf htk n5 n26 n27 n28 n29 n30 n31 n32 n33 n34 n35
 go_enter Tryz.func104, Tryz.ntmps104
 go_wp2_with fail
 refine (CC.out _ ((Ext.refl _ _).alloc _)).mono ?_
 rintro e w1 ⟨rfl, X1⟩
 have X1 := hid (((Ext.refl none' w).alloc _).trans X1)
 go_wp2_with fail
 go_ret
 exact ⟨rfl, X1.out⟩
theorem es_for (f : Nat) (hf : f + 1 ≤ bigD) {ty ex st : Nd → Bool} (Q : Qs f ty ex st) (t : Nd) (ht : t.size ≤ f + 1) (hk : t.kind = 31) (v : Value) (w : World) (hm : MaxL w) (hv : NdV none' w t v) :
  Calls Tryz.prog 104 #[v] w (BoolP (ofB 31 [orB (orB (emptyB) (shB ex)) (orB (setB ex) (incrB ex)), orB (emptyB) (ex), orB (orB (emptyB) (setB ex)) (orB (incrB ex) (callB ex)), blkB st] t) w) := by
 have CO := hid fun W v' u' (hv' : NdV none' W t v') (hu' : AsksV f [orB (orB (emptyB) (shB ex)) (orB (setB ex) (incrB ex)), orB (emptyB) (ex), orB (orB (emptyB) (setB ex)) (orB (incrB ex) (callB ex)), blkB st] W u') => of_any f 31 [orB (orB (emptyB) (shB ex)) (orB (setB ex) (incrB ex)), orB (emptyB) (ex), orB (orB (emptyB) (setB ex)) (orB (incrB ex) (callB ex)), blkB st] t v' u' W (by have := t.kids_len; omega) (by simp) (fun i hi => by have := Nd.size_kid (t := t) (List.getElem_mem hi); omega) hv' hu'
 obtain ⟨q, hq⟩ : ∃ q, ofB 31 [orB (orB (emptyB) (shB ex)) (orB (setB ex) (incrB ex)), orB (emptyB) (ex), orB (orB (emptyB) (setB ex)) (orB (incrB ex) (callB ex)), blkB st] t = q := ⟨_, rfl⟩
 rw [hq] at CO ⊢
 have A_empty := hid fun W (X : Ext none' w W) => (show AskV f (emptyB) W (.func (.func 156) #[] #[]) from empty_ask f W)
 have A_short := hid fun W (X : Ext none' w W) => (show AskV f (shB ex) W (.func (.func 151) #[] #[]) from short_ask hf Q W (maxL_later hm X))
 have A_set := hid fun W (X : Ext none' w W) => (show AskV f (setB ex) W (.func (.func 152) #[] #[]) from set_ask hf Q W (maxL_later hm X))
 have A_inc := hid fun W (X : Ext none' w W) => (show AskV f (incrB ex) W (.func (.func 153) #[] #[]) from inc_ask hf Q W (maxL_later hm X))
 have A_ex := hid fun W (X : Ext none' w W) => (show AskV f (ex) W (.func (.func 103) #[] #[]) from Q.expr W (maxL_later hm X))
 have A_call := hid fun W (X : Ext none' w W) => (show AskV f (callB ex) W (.func (.func 154) #[] #[]) from call_ask hf Q W (maxL_later hm X))
 have A_blk := hid fun W (X : Ext none' w W) => (show AskV f (blkB st) W (.func (.func 139) #[] #[]) from block_ask hf Q W (maxL_later hm X))
 have HV := hid hv
 obtain ⟨y, rfl, hy⟩ := hv
 obtain ⟨a1, cap1, rfl, _⟩ := hy
 rw [hk] at HV ⊢
 clear hq Q ht hm hf hk
 obtain ⟨W0, hW0⟩ : ∃ W0, W0 = w.alloc (.cells #[.int .i64 31, .string ⟨t.text.toArray⟩, .slice a1 t.kids.length cap1, .int .i64 t.pos] 24) := ⟨_, rfl⟩
 have X0 := hid (show Ext none' w W0 by rw [hW0]; exact (Ext.refl _ _).alloc _)
 have G0 := hid (show W0.heap[w.heap.size]? = some (.cells #[.int .i64 31, .string ⟨t.text.toArray⟩, .slice a1 t.kids.length cap1, .int .i64 t.pos] 24 (0, 0)) by rw [hW0]; exact heap_alloc_at rfl _)
 go_enter Tryz.func104, Tryz.ntmps104
 go_upto_region 15 with (fail)
 rw [← hW0]
 clear hW0
 obtain ⟨y0, y1, y2, y3⟩ := cell4L fun t' : LaterF none' W0 => t'.x.heap G0.out fun h => h
 refine region_q none' W0 (.qs [0] (.one 1 true (.one 2 true (.one 3 true (.one 4 true (.one 5 true (.one 6 true (.one 7 true (.one 8 true (.one 9 false (.one 10 false .fin))))))))))) (by kernel_rfl) (by kernel_rfl) (fun dst v c a w h => by cases dst <;> exact h) ?_
 refine ⟨In.of (Ext.refl _ _).drew, ?_⟩
 change wpQuiet _ _ (fun w' => ∃ t : LaterF none' W0, w' = t.w) _ _ _
 simp only [sel, List.getElem?_cons_succ, List.getElem?_cons_zero]
 repeat (go_big_quiet_step (fail))
 refine wpQuiet_nil ?_
 simp only [wpTreeQ, stepT, sel, List.getElem?_cons_succ, List.getElem?_cons_zero]
 have D1 := hid (Ext.refl none' W0).drew
 clear y0 y1 y2 y3
 go_wp2_with fail
 refine (or_any f (emptyB) (shB ex) _ _ _ (A_empty.out _ (X0.out.trans D1.out)) (A_short.out _ (X0.out.trans D1.out))).mono ?_
 rintro e z1 ⟨u1, rfl, hu1, E1⟩
 have U1 := hid (show AskV f (orB (emptyB) (shB ex)) z1 u1 from hu1)
 obtain ⟨fn1, fcaps1, rfl, _⟩ := hu1
 have E1 := hid E1
 have T1 := hid (D1.out.trans E1.out)
 go_wp2_with fail
 refine ⟨In.of T1.out, ?_⟩
 go_wp2_with fail
 refine (or_any f (setB ex) (incrB ex) _ _ _ (A_set.out _ (X0.out.trans T1.out)) (A_inc.out _ (X0.out.trans T1.out))).mono ?_
 rintro e z2 ⟨u2, rfl, hu2, E2⟩
 have U2 := hid (show AskV f (orB (setB ex) (incrB ex)) z2 u2 from hu2)
 obtain ⟨fn2, fcaps2, rfl, _⟩ := hu2
 have E2 := hid E2
 have T2 := hid (T1.out.trans E2.out)
 go_wp2_with fail
 refine ⟨In.of T2.out, ?_⟩
 go_wp2_with fail
 refine (or_any f (orB (emptyB) (shB ex)) (orB (setB ex) (incrB ex)) _ _ _ (U1.out.ext E2.out) (U2.out.ext (Ext.refl _ _))).mono ?_
 rintro e z3 ⟨u3, rfl, hu3, E3⟩
 have U3 := hid (show AskV f (orB (orB (emptyB) (shB ex)) (orB (setB ex) (incrB ex))) z3 u3 from hu3)
 obtain ⟨fn3, fcaps3, rfl, _⟩ := hu3
 have E3 := hid E3
 have T3 := hid (T2.out.trans E3.out)
 go_wp2_with fail
 refine ⟨In.of T3.out, ?_⟩
 go_wp2_with fail
 refine (or_any f (emptyB) (ex) _ _ _ (A_empty.out _ (X0.out.trans T3.out)) (A_ex.out _ (X0.out.trans T3.out))).mono ?_
 rintro e z4 ⟨u4, rfl, hu4, E4⟩
 have U4 := hid (show AskV f (orB (emptyB) (ex)) z4 u4 from hu4)
 obtain ⟨fn4, fcaps4, rfl, _⟩ := hu4
 have E4 := hid E4
 have T4 := hid (T3.out.trans E4.out)
 go_wp2_with fail
 refine ⟨In.of T4.out, ?_⟩
 go_wp2_with fail
 refine (or_any f (emptyB) (setB ex) _ _ _ (A_empty.out _ (X0.out.trans T4.out)) (A_set.out _ (X0.out.trans T4.out))).mono ?_
 rintro e z5 ⟨u5, rfl, hu5, E5⟩
 have U5 := hid (show AskV f (orB (emptyB) (setB ex)) z5 u5 from hu5)
 obtain ⟨fn5, fcaps5, rfl, _⟩ := hu5
 have E5 := hid E5
 have T5 := hid (T4.out.trans E5.out)
 go_wp2_with fail
 refine ⟨In.of T5.out, ?_⟩
 go_wp2_with fail
 refine (or_any f (incrB ex) (callB ex) _ _ _ (A_inc.out _ (X0.out.trans T5.out)) (A_call.out _ (X0.out.trans T5.out))).mono ?_
 rintro e z6 ⟨u6, rfl, hu6, E6⟩
 have U6 := hid (show AskV f (orB (incrB ex) (callB ex)) z6 u6 from hu6)
 obtain ⟨fn6, fcaps6, rfl, _⟩ := hu6
 have E6 := hid E6
 have T6 := hid (T5.out.trans E6.out)
 go_wp2_with fail
 refine ⟨In.of T6.out, ?_⟩
 go_wp2_with fail
 refine (or_any f (orB (emptyB) (setB ex)) (orB (incrB ex) (callB ex)) _ _ _ (U5.out.ext E6.out) (U6.out.ext (Ext.refl _ _))).mono ?_
 rintro e z7 ⟨u7, rfl, hu7, E7⟩
 have U7 := hid (show AskV f (orB (orB (emptyB) (setB ex)) (orB (incrB ex) (callB ex))) z7 u7 from hu7)
 obtain ⟨fn7, fcaps7, rfl, _⟩ := hu7
 have E7 := hid E7
 have T7 := hid (T6.out.trans E7.out)
 go_wp2_with fail
 refine ⟨In.of T7.out, ?_⟩
 go_wp2_with fail
 have Y := hid ((Ext.refl none' z7).alloc (.cells #[.func (.func fn3) #[] fcaps3, .func (.func fn4) #[] fcaps4, .func (.func fn7) #[] fcaps7, .func (.func 139) #[] #[]] 41))
 refine ⟨In.of (T7.out.trans Y.out), ?_⟩
 go_wp2_with fail
 refine (CO.out _ _ _ (HV.out.ext (X0.out.trans (T7.out.trans Y.out)) fun _ _ h => h) (AsksV.lit4 (heap_alloc_at rfl _) (U3.out.ext (E4.out.trans (E5.out.trans (E6.out.trans (E7.out.trans Y.out))))) (U4.out.ext (E5.out.trans (E6.out.trans (E7.out.trans Y.out)))) (U7.out.ext Y.out) (A_blk.out _ (X0.out.trans (T7.out.trans Y.out))))).mono ?_
 rintro e w9 ⟨rfl, X9⟩
 have X9 := hid ((X0.out.trans (T7.out.trans Y.out)).trans X9)
 go_wp2_with fail
 go_ret
 exact ⟨rfl, X9.out⟩
theorem es_range (f : Nat) (hf : f + 1 ≤ bigD) {ty ex st : Nd → Bool} (Q : Qs f ty ex st) (t : Nd) (ht : t.size ≤ f + 1) (hk : t.kind = 32) (v : Value) (w : World) (hm : MaxL w) (hv : NdV none' w t v) :
  Calls Tryz.prog 104 #[v] w (BoolP (namB rngB 32 [ex, blkB st] t) w) := by
 rw [← ofB_named rngB 32 (by omega) [ex, blkB st] t]
 have CN := hid fun W (X : Ext none' w W) => named_any rngB t v _ W (by have := t.size_text; omega) (hv.ext X fun _ _ h => h) (ranged_so (maxL_later hm X))
 have CO := hid fun W v' u' (hv' : NdV none' W (namedP rngB t) v') (hu' : AsksV f [ex, blkB st] W u') => of_any f 32 [ex, blkB st] (namedP rngB t) v' u' W (named_len rngB t (by omega)) (by simp) (fun i hi => named_kids1 ht i hi) hv' hu'
 obtain ⟨q, hq⟩ : ∃ q, ofB 32 [ex, blkB st] (namedP rngB t) = q := ⟨_, rfl⟩
 obtain ⟨r, hr⟩ : ∃ r, namedP rngB t = r := ⟨_, rfl⟩
 rw [hq] at CO ⊢
 rw [hr] at CN CO
 have A_ex := hid fun W (X : Ext none' w W) => (show AskV f (ex) W (.func (.func 103) #[] #[]) from Q.expr W (maxL_later hm X))
 have A_blk := hid fun W (X : Ext none' w W) => (show AskV f (blkB st) W (.func (.func 139) #[] #[]) from block_ask hf Q W (maxL_later hm X))
 obtain ⟨y, rfl, hy⟩ := hv
 obtain ⟨a1, cap1, rfl, _⟩ := hy
 rw [hk] at CN ⊢
 clear hq hr Q ht hm hf hk
 go_enter Tryz.func104, Tryz.ntmps104
 go_wp2_with fail
 refine (CN.out _ ((Ext.refl _ _).alloc _)).mono ?_
 rintro e w1 ⟨v', rfl, hv', X1⟩
 have HV' := hid hv'
 obtain ⟨y', rfl, hy'⟩ := hv'
 obtain ⟨a5, cap5, rfl, _⟩ := hy'
 have X1 := hid (((Ext.refl none' w).alloc _).trans X1)
 have V1 := hid (Ext.refl none' w1)
 go_wp2_with fail
 have Y := hid ((Ext.refl none' w1).alloc (.cells #[.func (.func 103) #[] #[], .func (.func 139) #[] #[]] 41))
 refine (CO.out _ _ _ (HV'.out.ext (V1.out.trans Y.out) fun _ _ h => h) (AsksV.lit2 (heap_alloc_at rfl _) (A_ex.out _ (X1.out.trans (V1.out.trans Y.out))) (A_blk.out _ (X1.out.trans (V1.out.trans Y.out))))).mono ?_
 rintro e w9 ⟨rfl, X9⟩
 have X9 := hid ((X1.out.trans (V1.out.trans Y.out)).trans X9)
 go_wp2_with fail
 go_ret
 exact ⟨rfl, X9.out⟩
theorem es_ret (f : Nat) (hf : f + 1 ≤ bigD) {ty ex st : Nd → Bool} (Q : Qs f ty ex st) (t : Nd) (ht : t.size ≤ f + 1) (hk : t.kind = 33) (v : Value) (w : World) (hm : MaxL w) (hv : NdV none' w t v) :
  Calls Tryz.prog 104 #[v] w (BoolP (ofB 33 [orB (emptyB) (ex)] t) w) := by
 have CO := hid fun W v' u' (hv' : NdV none' W t v') (hu' : AsksV f [orB (emptyB) (ex)] W u') => of_any f 33 [orB (emptyB) (ex)] t v' u' W (by have := t.kids_len; omega) (by simp) (fun i hi => by have := Nd.size_kid (t := t) (List.getElem_mem hi); omega) hv' hu'
 obtain ⟨q, hq⟩ : ∃ q, ofB 33 [orB (emptyB) (ex)] t = q := ⟨_, rfl⟩
 rw [hq] at CO ⊢
 have A_empty := hid fun W (X : Ext none' w W) => (show AskV f (emptyB) W (.func (.func 156) #[] #[]) from empty_ask f W)
 have A_ex := hid fun W (X : Ext none' w W) => (show AskV f (ex) W (.func (.func 103) #[] #[]) from Q.expr W (maxL_later hm X))
 have HV := hid hv
 obtain ⟨y, rfl, hy⟩ := hv
 obtain ⟨a1, cap1, rfl, _⟩ := hy
 rw [hk] at HV ⊢
 clear hq Q ht hm hf hk
 obtain ⟨W0, hW0⟩ : ∃ W0, W0 = w.alloc (.cells #[.int .i64 33, .string ⟨t.text.toArray⟩, .slice a1 t.kids.length cap1, .int .i64 t.pos] 24) := ⟨_, rfl⟩
 have X0 := hid (show Ext none' w W0 by rw [hW0]; exact (Ext.refl _ _).alloc _)
 have G0 := hid (show W0.heap[w.heap.size]? = some (.cells #[.int .i64 33, .string ⟨t.text.toArray⟩, .slice a1 t.kids.length cap1, .int .i64 t.pos] 24 (0, 0)) by rw [hW0]; exact heap_alloc_at rfl _)
 go_enter Tryz.func104, Tryz.ntmps104
 go_upto_region 19 with (fail)
 rw [← hW0]
 clear hW0
 obtain ⟨y0, y1, y2, y3⟩ := cell4L fun t' : LaterF none' W0 => t'.x.heap G0.out fun h => h
 refine region_q none' W0 (.qs [0] (.one 1 true (.one 2 true (.one 3 false (.one 4 false .fin))))) (by kernel_rfl) (by kernel_rfl) (fun dst v c a w h => by cases dst <;> exact h) ?_
 refine ⟨In.of (Ext.refl _ _).drew, ?_⟩
 change wpQuiet _ _ (fun w' => ∃ t : LaterF none' W0, w' = t.w) _ _ _
 simp only [sel, List.getElem?_cons_succ, List.getElem?_cons_zero]
 repeat (go_big_quiet_step (fail))
 refine wpQuiet_nil ?_
 simp only [wpTreeQ, stepT, sel, List.getElem?_cons_succ, List.getElem?_cons_zero]
 have D1 := hid (Ext.refl none' W0).drew
 clear y0 y1 y2 y3
 go_wp2_with fail
 refine (or_any f (emptyB) (ex) _ _ _ (A_empty.out _ (X0.out.trans D1.out)) (A_ex.out _ (X0.out.trans D1.out))).mono ?_
 rintro e z1 ⟨u1, rfl, hu1, E1⟩
 have U1 := hid (show AskV f (orB (emptyB) (ex)) z1 u1 from hu1)
 obtain ⟨fn1, fcaps1, rfl, _⟩ := hu1
 have E1 := hid E1
 have T1 := hid (D1.out.trans E1.out)
 go_wp2_with fail
 refine ⟨In.of T1.out, ?_⟩
 go_wp2_with fail
 have Y := hid ((Ext.refl none' z1).alloc (.cells #[.func (.func fn1) #[] fcaps1] 41))
 refine ⟨In.of (T1.out.trans Y.out), ?_⟩
 go_wp2_with fail
 refine (CO.out _ _ _ (HV.out.ext (X0.out.trans (T1.out.trans Y.out)) fun _ _ h => h) (AsksV.lit1 (heap_alloc_at rfl _) (U1.out.ext Y.out))).mono ?_
 rintro e w9 ⟨rfl, X9⟩
 have X9 := hid ((X0.out.trans (T1.out.trans Y.out)).trans X9)
 go_wp2_with fail
 go_ret
 exact ⟨rfl, X9.out⟩
theorem es_brk (f : Nat) (hf : f + 1 ≤ bigD) {ty ex st : Nd → Bool} (Q : Qs f ty ex st) (t : Nd) (ht : t.size ≤ f + 1) (hk : t.kind = 34) (v : Value) (w : World) (hm : MaxL w) (hv : NdV none' w t v) :
  Calls Tryz.prog 104 #[v] w (BoolP (ofB 34 [] t) w) := by
 have CO := hid fun W v' u' (hv' : NdV none' W t v') (hu' : AsksV f [] W u') => of_any f 34 [] t v' u' W (by have := t.kids_len; omega) (by simp) (fun i hi => by have := Nd.size_kid (t := t) (List.getElem_mem hi); omega) hv' hu'
 obtain ⟨q, hq⟩ : ∃ q, ofB 34 [] t = q := ⟨_, rfl⟩
 rw [hq] at CO ⊢
 have HV := hid hv
 obtain ⟨y, rfl, hy⟩ := hv
 obtain ⟨a1, cap1, rfl, _⟩ := hy
 rw [hk] at HV ⊢
 clear hq Q ht hm hf hk
 obtain ⟨W0, hW0⟩ : ∃ W0, W0 = w.alloc (.cells #[.int .i64 34, .string ⟨t.text.toArray⟩, .slice a1 t.kids.length cap1, .int .i64 t.pos] 24) := ⟨_, rfl⟩
 have XB := hid (show Ext none' w W0 by rw [hW0]; exact (Ext.refl _ _).alloc _)
 have B0 := hid (Ext.refl none' W0)
 have HSZ := hid (show w.heap.size + 1 = W0.heap.size by rw [hW0]; simp)
 go_enter Tryz.func104, Tryz.ntmps104
 go_wp2_with fail
 rw [← hW0]
 clear hW0
 refine (CO.out _ _ _ (HV.out.ext (XB.out.trans B0.out) fun _ _ h => h) AsksV.none).mono ?_
 rintro e w9 ⟨rfl, X9⟩
 have X9 := hid ((XB.out.trans B0.out).trans X9)
 go_wp2_with fail
 go_ret
 exact ⟨rfl, X9.out⟩
theorem es_cnt (f : Nat) (hf : f + 1 ≤ bigD) {ty ex st : Nd → Bool} (Q : Qs f ty ex st) (t : Nd) (ht : t.size ≤ f + 1) (hk : t.kind = 35) (v : Value) (w : World) (hm : MaxL w) (hv : NdV none' w t v) :
  Calls Tryz.prog 104 #[v] w (BoolP (ofB 35 [] t) w) := by
 have CO := hid fun W v' u' (hv' : NdV none' W t v') (hu' : AsksV f [] W u') => of_any f 35 [] t v' u' W (by have := t.kids_len; omega) (by simp) (fun i hi => by have := Nd.size_kid (t := t) (List.getElem_mem hi); omega) hv' hu'
 obtain ⟨q, hq⟩ : ∃ q, ofB 35 [] t = q := ⟨_, rfl⟩
 rw [hq] at CO ⊢
 have HV := hid hv
 obtain ⟨y, rfl, hy⟩ := hv
 obtain ⟨a1, cap1, rfl, _⟩ := hy
 rw [hk] at HV ⊢
 clear hq Q ht hm hf hk
 obtain ⟨W0, hW0⟩ : ∃ W0, W0 = w.alloc (.cells #[.int .i64 35, .string ⟨t.text.toArray⟩, .slice a1 t.kids.length cap1, .int .i64 t.pos] 24) := ⟨_, rfl⟩
 have XB := hid (show Ext none' w W0 by rw [hW0]; exact (Ext.refl _ _).alloc _)
 have B0 := hid (Ext.refl none' W0)
 have HSZ := hid (show w.heap.size + 1 = W0.heap.size by rw [hW0]; simp)
 go_enter Tryz.func104, Tryz.ntmps104
 go_wp2_with fail
 rw [← hW0]
 clear hW0
 refine (CO.out _ _ _ (HV.out.ext (XB.out.trans B0.out) fun _ _ h => h) AsksV.none).mono ?_
 rintro e w9 ⟨rfl, X9⟩
 have X9 := hid ((XB.out.trans B0.out).trans X9)
 go_wp2_with fail
 go_ret
 exact ⟨rfl, X9.out⟩
end Go.Proofs.YthbmjamgidfneaaGreatDoor
namespace Go.Proofs.YthbmjamgidfneaaGreatDoor
open Go.RowKit Go.Lib Go.BigFrame
set_option linter.unusedVariables false
theorem ex_step (f : Nat) (hf : f + 1 ≤ bigD) {ty ex st : Nd → Bool} (Q : Qs f ty ex st) : ExH (f + 1) (exB ty ex st) := by
 intro t ht v w hm hv
 unfold exB
 by_cases h16 : t.kind = 16; · rw [if_pos h16]; exact ee_int f hf Q t ht h16 v w hm hv
 rw [if_neg h16]
 by_cases h17 : t.kind = 17; · rw [if_pos h17]; exact ee_str f hf Q t ht h17 v w hm hv
 rw [if_neg h17]
 by_cases h18 : t.kind = 18; · rw [if_pos h18]; exact ee_name f hf Q t ht h18 v w hm hv
 rw [if_neg h18]
 by_cases h19 : t.kind = 19; · rw [if_pos h19]; exact ee_un f hf Q t ht h19 v w hm hv
 rw [if_neg h19]
 by_cases h20 : t.kind = 20; · rw [if_pos h20]; exact ee_bin f hf Q t ht h20 v w hm hv
 rw [if_neg h20]
 by_cases h21 : t.kind = 21; · rw [if_pos h21]; exact ee_call f hf Q t ht h21 v w hm hv
 rw [if_neg h21]
 by_cases h22 : t.kind = 22; · rw [if_pos h22]; exact ee_idx f hf Q t ht h22 v w hm hv
 rw [if_neg h22]
 by_cases h23 : t.kind = 23; · rw [if_pos h23]; exact ee_field f hf Q t ht h23 v w hm hv
 rw [if_neg h23]
 by_cases h24 : t.kind = 24; · rw [if_pos h24]; exact ee_lit f hf Q t ht h24 v w hm hv
 rw [if_neg h24]
 exact ee_func f hf Q t ht h16 h17 h18 h19 h20 h21 h22 h23 h24 v w hm hv
theorem st_step (f : Nat) (hf : f + 1 ≤ bigD) {ty ex st : Nd → Bool} (Q : Qs f ty ex st) : StH (f + 1) (stB ty ex st) := by
 intro t ht v w hm hv
 unfold stB
 by_cases h5 : t.kind = 5; · rw [if_pos h5]; exact es_var f hf Q t ht h5 v w hm hv
 rw [if_neg h5]
 by_cases h26 : t.kind = 26; · rw [if_pos h26]; exact es_short f hf Q t ht h26 v w hm hv
 rw [if_neg h26]
 by_cases h27 : t.kind = 27; · rw [if_pos h27]; exact es_set f hf Q t ht h27 v w hm hv
 rw [if_neg h27]
 by_cases h28 : t.kind = 28; · rw [if_pos h28]; exact es_inc f hf Q t ht h28 v w hm hv
 rw [if_neg h28]
 by_cases h29 : t.kind = 29; · rw [if_pos h29]; exact es_call f hf Q t ht h29 v w hm hv
 rw [if_neg h29]
 by_cases h30 : t.kind = 30; · rw [if_pos h30]; exact es_if f hf Q t ht h30 v w hm hv
 rw [if_neg h30]
 by_cases h31 : t.kind = 31; · rw [if_pos h31]; exact es_for f hf Q t ht h31 v w hm hv
 rw [if_neg h31]
 by_cases h32 : t.kind = 32; · rw [if_pos h32]; exact es_range f hf Q t ht h32 v w hm hv
 rw [if_neg h32]
 by_cases h33 : t.kind = 33; · rw [if_pos h33]; exact es_ret f hf Q t ht h33 v w hm hv
 rw [if_neg h33]
 by_cases h34 : t.kind = 34; · rw [if_pos h34]; exact es_brk f hf Q t ht h34 v w hm hv
 rw [if_neg h34]
 by_cases h35 : t.kind = 35; · rw [if_pos h35]; exact es_cnt f hf Q t ht h35 v w hm hv
 rw [if_neg h35]
 exact es_blk f hf Q t ht h5 h26 h27 h28 h29 h30 h31 h32 h33 h34 h35 v w hm hv
theorem ifB_ifs {ty ex st : Nd → Bool} (t : Nd) : ifB (stB ty ex st) t = ifsB ex st t := by
 unfold ifB
 by_cases h : t.kind = 30
 · have : (t.kind == 30) = true := by simpa using h
   rw [this, Bool.true_and]
   unfold stB
   rw [if_neg (by omega), if_neg (by omega), if_neg (by omega), if_neg (by omega), if_neg (by omega), if_pos h]
 · have : (t.kind == 30) = false := by simpa using h
   rw [this, Bool.false_and]
   unfold ifsB ofB
   rw [this]; rfl
theorem qs_all : ∀ (f : Nat), f ≤ bigD → Qs f (tyF nmB f) (exF f) (stF f) := by
 intro f
 induction f with
 | zero => exact fun _ => ⟨fun t ht => by have := t.size_pos; omega, fun t ht => by have := t.size_pos; omega, fun t ht => by have := t.size_pos; omega, fun t ht => by have := t.size_pos; omega⟩
 | succ f ih =>
  intro hf
  have Q := ih (by omega)
  exact ⟨isType_any (f + 1) hf, ex_step f hf Q, st_step f hf Q, fun t ht v w hm hv => by
   have := if_any f hf Q t ht v w hm hv
   show Calls _ _ _ _ (BoolP (ifB (stB (tyF nmB f) (exF f) (stF f)) t) w)
   rw [ifB_ifs]
   exact this⟩
theorem exprRight_any (f : Nat) (hf : f ≤ bigD) (t : Nd) (ht : t.size ≤ f) (v : Value) (w : World) (hm : MaxL w) (hv : NdV none' w t v) : Calls Tryz.prog 25 #[v, .string ⟨sExpr.toArray⟩] w (BoolP (rightB (exF f t) t) w) :=
 right_any sExpr 3 103 rfl (Go.Proofs.enters_of Tryz.func103 (by kernel_rfl) rfl) t (Nat.le_trans ht hf) _ v w hv fun W x X hx => (qs_all f hf).hex t ht x W (maxL_later hm X) hx
end Go.Proofs.YthbmjamgidfneaaGreatDoor
namespace Go.Proofs.YthbmjamgidfneaaGreatDoor
open Go.RowKit Go.Lib Go.BigFrame
theorem rightB_p {p : Bool} {t : Nd} (h : rightB p t = true) : p = true := by
 unfold rightB at h
 simp only [Bool.and_eq_true] at h
 exact h.2.2
theorem exprText_any (f : Nat) (hf : f ≤ 1100000) (t : Nd) (ht : t.size ≤ f) (v : Value) (w : World) (hm : MaxL w) (hv : NdV none' w t v) : Calls Tryz.prog 10 #[v, .string ⟨sExpr.toArray⟩] w (TextPost (rightB (exF f t) t) (exT f 0 false t) w) :=
 text_any sExpr 2 23 #[shower0] rfl (Go.Proofs.enters_of Tryz.func23 (by kernel_rfl) rfl) t _ _ v w hv (fun W x X hx => exprRight_any f (by unfold bigD; omega) t ht x W (maxL_later hm X) hx) fun hp W x X hx => (sh_all f hf).1 0 false (by omega) t ht (rightB_p hp) x W (maxL_later hm X) hx
end Go.Proofs.YthbmjamgidfneaaGreatDoor
namespace Go.Proofs.YthbmjamgidfneaaGreatDoor
open Go.Lib
set_option linter.unusedVariables false
set_option linter.unusedSimpArgs false
theorem strip_parts {a b : Nd} (h : strip a = strip b) : a.kind = b.kind ∧ a.text = b.text ∧ a.kids.map strip = b.kids.map strip := by
 rw [strip_eq, strip_eq] at h
 injection h with h1 h2 h3
 exact ⟨h1, h2, h3⟩
theorem strip_of {a b : Nd} (h1 : a.kind = b.kind) (h2 : a.text = b.text) (h3 : a.kids.map strip = b.kids.map strip) : strip a = strip b := by
 rw [strip_eq, strip_eq, h1, h2, h3]
theorem same_to : ∀ (g : Nat) (a b : Nd), sameN g a b = true → strip a = strip b
 | 0, _, _, h => by cases h
 | g + 1, a, b, h => by
  rw [sameN] at h
  simp only [Bool.and_eq_true, beq_iff_eq] at h
  refine strip_of h.1 h.2.1 ?_
  have key : ∀ l m : List Nd, samesN (sameN g) l m = true → l.map strip = m.map strip := by
   intro l
   induction l with
   | nil => intro m hm; cases m with
    | nil => rfl
    | cons b m => cases hm
   | cons a l ih => intro m hm; cases m with
    | nil => cases hm
    | cons b m =>
     rw [samesN, Bool.and_eq_true] at hm
     rw [List.map_cons, List.map_cons, same_to g a b hm.1, ih m hm.2]
  exact key _ _ h.2.2
theorem same_of : ∀ (g : Nat) (a b : Nd), depD g a < g → strip a = strip b → sameN g a b = true
 | 0, _, _, h, _ => by omega
 | g + 1, a, b, h, hs => by
  obtain ⟨h1, h2, h3⟩ := strip_parts hs
  rw [sameN, h1, h2]
  simp only [beq_self_eq_true, Bool.true_and]
  have hl : a.kids.length = b.kids.length := by have := congrArg List.length h3; simpa using this
  refine samesN_good hl fun i g1 g2 => ?_
  have hk := depD_kid (f := g) (List.getElem_mem g1)
  refine same_of g _ _ (by omega) ?_
  have := congrArg (fun l => l[i]?) h3
  simpa [g1, g2] using this
theorem dep_more : ∀ (f g : Nat) (t : Nd), depD f t < f → f ≤ g → depD g t = depD f t
 | 0, _, _, h, _ => by omega
 | f + 1, g, t, h, hg => by
  obtain ⟨k, rfl⟩ : ∃ k, g = k + 1 := ⟨g - 1, by omega⟩
  rw [depD, depD]
  congr 2
  refine List.map_congr_left fun x hx => ?_
  have := depD_kid (f := f) hx
  exact dep_more f k x (by omega) (by omega)
theorem sakid_strip (t : Nd) (i : Nat) : (strip t).kid i = strip (t.kid i) := by
 unfold Nd.kid
 rw [strip_kids, List.getD_eq_getElem?_getD, List.getD_eq_getElem?_getD, List.getElem?_map]
 cases h : t.kids[i]? with
 | none => rfl
 | some x => rfl
theorem kids_strip {β : Type} (p : Nd → β) (t : Nd) (h : ∀ x, p (strip x) = p x) : (strip t).kids.map p = t.kids.map p := by
 rw [strip_kids, List.map_map]
 exact List.map_congr_left fun x _ => h x
theorem pa_strip {ty : Nd → List UInt8} (H : ∀ x, ty (strip x) = ty x) (x : Nd) : paT ty (strip x) = paT ty x := by
 unfold paT
 rw [strip_text, sakid_strip, H]
theorem sigT_strip {ty : Nd → List UInt8} (H : ∀ x, ty (strip x) = ty x) (t : Nd) : sigT ty (strip t) = sigT ty t := by
 unfold sigT
 rw [sakid_strip, sakid_strip, kids_strip _ _ (pa_strip H), H, strip_kind]
theorem par_strip {ty : Nd → List UInt8} (H : ∀ x, ty (strip x) = ty x) (x : Nd) : parF ty (strip x) = parF ty x := by
 unfold parF
 simp only [sakid_strip, strip_text, strip_kind, H]
theorem typ_strip : ∀ (f : Nat) (t : Nd), typF f (strip t) = typF f t
 | 0, _ => rfl
 | f + 1, t => by
  have H := typ_strip f
  have hk0 : (strip t).kids = [] ↔ t.kids = [] := by rw [strip_kids]; simp
  rw [typF, typF]
  unfold sigF optT
  simp only [strip_kind, strip_text, sakid_strip, kids_strip _ _ H, kids_strip _ _ (par_strip H), H, hk0]
theorem lv_strip : ∀ (f : Nat), (∀ t deep head, exT f deep head (strip t) = exT f deep head t) ∧ (∀ t deep, stT f deep (strip t) = stT f deep t)
 | 0 => ⟨fun _ _ _ => rfl, fun _ _ => rfl⟩
 | f + 1 => by
  obtain ⟨H, HS⟩ := lv_strip f
  have HT := typ_strip f
  have hbr : ∀ deep head yes x, brT (exT f) deep head yes (strip x) = brT (exT f) deep head yes x := fun deep head yes x => by unfold brT; simp only [H]
  have hpart : ∀ deep x, partT (typF f) (exT f) deep (strip x) = partT (typF f) (exT f) deep x := fun deep x => by unfold partT; rw [strip_kind, HT, H]
  have hoth : ∀ deep t, othT (typF f) (exT f) deep (strip t) = othT (typF f) (exT f) deep t := fun deep t => by
   unfold othT
   rw [strip_kids, ← List.map_drop, List.map_map]
   congr 1
   exact List.map_congr_left fun x _ => hpart deep x
  have hbl : ∀ deep t, blT (stT f) deep (strip t) = blT (stT f) deep t := fun deep t => by
   unfold blT
   rw [kids_strip (fun k => lineT (deep + 1) (stT f (deep + 1) k)) t fun x => by rw [HS]]
  have hfst : ∀ deep head x, fstT (exT f) deep head (strip x) = fstT (exT f) deep head x := fun deep head x => by unfold fstT; rw [strip_kind, hbr]
  have hsig : ∀ t, sigT (typF f) (strip t) = sigT (typF f) t := sigT_strip HT
  have hvar : ∀ deep t, varT (typF f) (exT f) deep (strip t) = varT (typF f) (exT f) deep t := fun deep t => by
   unfold varT
   simp only [strip_text, sakid_strip, strip_kind, HT, H]
  have hsim : ∀ deep head t, simT (exT f) deep head (strip t) = simT (exT f) deep head t := fun deep head t => by
   unfold simT
   simp only [strip_text, sakid_strip, strip_kind, H]
  have hloop : ∀ deep t, loopT (exT f) (stT f) deep (strip t) = loopT (exT f) (stT f) deep t := fun deep t => by
   unfold loopT
   simp only [sakid_strip, strip_kind, H, hsim, hbl]
  refine ⟨fun t deep head => ?_, fun t deep => ?_⟩
  · rw [exT_succ, exT_succ]
    unfold exT1
    simp only [strip_kind, strip_text, sakid_strip, hbr, hfst, hoth, hsig, hbl, HT]
  · rw [stT_succ, stT_succ]
    unfold stT1
    simp only [strip_kind, strip_text, sakid_strip, hvar, hsim, hloop, hbl, H, HS]
theorem right_dep {p : Bool} {t : Nd} (h : rightB p t = true) : depD 200 t < 200 := by
 unfold rightB at h
 simp only [Bool.and_eq_true, decide_eq_true_eq] at h
 have h1 := h.1
 rw [depthN_dep] at h1
 rw [dep_more 101 200 t (by omega) (by omega)]
 omega
theorem apart_ex {f : Nat} {a b : Nd} (ha : a.size ≤ f) (hb : b.size ≤ f) (h1 : rightB (exF f a) a = true) (h2 : rightB (exF f b) b = true) : (exT f 0 false a == exT f 0 false b) = sameN 200 a b := by
 rw [Bool.eq_iff_iff, beq_iff_eq]
 constructor
 · intro h
   exact same_of 200 a b (right_dep h1) (ex_apart ha hb (rightB_p h1) (rightB_p h2) h)
 · intro h
   have hs := same_to 200 a b h
   rw [← (lv_strip f).1 a, ← (lv_strip f).1 b, hs]
theorem apart_ty {f : Nat} {a b : Nd} (h1 : rightB (tyF nmB f a) a = true) (h2 : rightB (tyF nmB f b) b = true) : (typF f a == typF f b) = sameN 200 a b := by
 rw [Bool.eq_iff_iff, beq_iff_eq]
 constructor
 · intro h
   exact same_of 200 a b (right_dep h1) (ty_apart (rightB_p h1) (rightB_p h2) h)
 · intro h
   have hs := same_to 200 a b h
   rw [← typ_strip f a, ← typ_strip f b, hs]
end Go.Proofs.YthbmjamgidfneaaGreatDoor
