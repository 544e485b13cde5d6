import Derived.Test.YtmlhkgocilpobaaUnFew
import Derived.Test.YtmlhkgocilpobaaUnTypes
import Derived.Test.YtmlhkgocilpobaaUnAlike
import Derived.Deep.Cut
import Derived.Deep.CutRange
/-
  UnifyMore: the law's function. (Printed by mkunmore.py.)
-/
namespace Go.Proofs.Ytmlhkgocilpobaa
open Go.RowKit Go.Lib Go.BigFrame
theorem src_at {P : Program} {tx e' : TypeId} (hk : P.underlying tx = some (.slice e')) {w : World} {b : Nat} {u0 u1 u2 : Value} {t : TypeId} (g : w.heap[b]? = some (.cells #[u0, u1, u2] t (0, 0))) (h0 : u0.oneCell' = true) (h1 : u1.oneCell' = true) (h2 : u2.oneCell' = true) :
    Src P 3 tx (.slice (some ⟨b, 0, none⟩) 1 1) 1 [u0, u1, u2] w :=
  Src.ofSlice _ hk _ 1 1 [u0, u1, u2] rfl (fun j u hj => by
    have e : (⟨b, 0, none⟩ : Addr).add j = ⟨b, j, none⟩ := by unfold Addr.add; split <;> simp_all
    rw [e, cell_at g]
    exact (List.getElem?_toArray ..).trans hj) (fun u hu => by
      simp at hu
      rcases hu with rfl | rfl | rfl
      · exact h0
      · exact h1
      · exact h2)
theorem typs_app {W w' : World} {base : Nat} {u v' : Value} {ts : List Ty} {cells cs : List Value} {x : Ty} (own0 : W.ownsRow base 33 3 u ts.length cells) (hr0 : ∀ i (h : i < ts.length), IsTy (plus none' u) W ts[i] ((cells.drop (i * 3)).take 3)) (hx : IsTy (plus none' u) W x cs)
    (own : w'.ownsRow base 33 3 v' (ts.length + 1) (cells ++ cs)) (g : W.grownBy w' u.ownBlock) (blk : v'.ownBlock = u.ownBlock ∨ v'.ownBlock = some W.heap.size) : IsSl 3 IsTy none' w' v' (ts ++ [x]) :=
  (RowOf.snoc isTy_good own0 hr0 hx own g blk).sl isTy_good fun _ _ h => h
structure UmMid (o : Option (List Ty)) (W0 : World) (v e : Value) (wx : World) : Prop where
  e : e = .bool o.isSome
  v : IsSl 3 IsTy none' wx v (o.getD [])
  x : Ext none' W0 wx
  n : (o.getD []).length ≤ 1000000
  z : ∀ x ∈ o.getD [], x.size ≤ bigD
set_option maxRecDepth 100000 in
set_option maxHeartbeats 12800000 in
theorem law_um (ds : List Df) (row : List (List UInt8)) (ps ts : List Ty) (hsz : ∀ d ∈ ds, d.ty.size ≤ bigD) (hpz : ∀ t ∈ ps, t.size ≤ bigD) (htz : ∀ t ∈ ts, t.size ≤ bigD) (dv rv pv tv : Value) (a9 : Option Addr) (n9 c9 : Nat) (w : World)
    (hd : IsSl 6 IsDf none' w dv ds) (hr : IsStrs none' w rv row) (hp : IsSl 3 IsTy none' w pv ps) (ht : IsSl 3 IsTy none' w tv ts) (hli : lightP ds = true) (hrl : row.length ≤ 10) (hfp : fewP ps = true) (hft : fewP ts = true) :
    Calls Try.prog 3 #[dv, .agg #[rv, pv, tv, .slice a9 n9 c9]] w (TruePost w) := by
  have HD := hid hd
  have HRW := hid hr
  have HP := hid hp
  have HT := hid ht
  obtain ⟨ad, capd, rfl, _⟩ := hd
  obtain ⟨ar, capr, rfl, _⟩ := hr
  obtain ⟨a1, cap1, rfl, _⟩ := hp
  obtain ⟨a2, cap2, rfl, _⟩ := ht
  have hle : ds.length ≤ 20 ∧ ∀ d ∈ ds, d.ty.size ≤ 20 ∧ d.params.length ≤ 10 := by
    unfold lightP at hli
    simp only [Bool.and_eq_true, decide_eq_true_eq, List.all_eq_true] at hli
    exact ⟨hli.1, fun d hd => by have := hli.2 d hd; unfold smallP at this; simpa using this⟩
  have hpl : ps.length ≤ 10 := by unfold fewP at hfp; simp only [Bool.and_eq_true, decide_eq_true_eq] at hfp; exact hfp.1
  have htl : ts.length ≤ 10 := by unfold fewP at hft; simp only [Bool.and_eq_true, decide_eq_true_eq] at hft; exact hft.1
  have hfit : DefsFit ds := ⟨fun d hd => by have := hle.2 d hd; omega, by have := hle.1; omega, fun d hd => by have := hle.2 d hd; omega⟩
  have zI : tInt.size ≤ bigD := by simp [tInt, Ty.size, Ty.sizeL, bigD]
  have zS : tStr.size ≤ bigD := by simp [tStr, Ty.size, Ty.sizeL, bigD]
  have app_z : ∀ {l : List Ty} {y : Ty}, (∀ t ∈ l, t.size ≤ bigD) → y.size ≤ bigD → ∀ t ∈ l ++ [y], t.size ≤ bigD := fun h hy t ht => by
    rcases List.mem_append.1 ht with ht | ht
    · exact h t ht
    · rw [List.mem_singleton] at ht; rw [ht]; exact hy
  obtain ⟨o, ho⟩ : ∃ o, findP ds row ps ts = o := ⟨_, rfl⟩
  have CL := hid fun (W : World) (X : Ext none' w W) => light_any ds hsz (.slice ad ds.length capd) W (HD.out.ext isDf_good X fun _ _ h => h.elim)
  have CP := hid fun (W : World) (X : Ext none' w W) => few_any ps hpz (.slice a1 ps.length cap1) W (HP.out.ext isTy_good X fun _ _ h => h.elim)
  have CQ := hid fun (W : World) (X : Ext none' w W) => few_any ts htz (.slice a2 ts.length cap2) W (HT.out.ext isTy_good X fun _ _ h => h.elim)
  have CD := hid fun (W : World) (X : Ext none' w W) => defs_any ds (by have := hle.1; omega) (fun d hd => by have := hle.2 d hd; unfold bigD; omega) none' (.slice ad ds.length capd) W (HD.out.ext isDf_good X fun _ _ h => h.elim) (fun _ h => h.elim)
  have C1 := hid fun (W : World) (X : Ext none' w W) => types_any ps (by omega) hpz none' (.slice a1 ps.length cap1) W (HP.out.ext isTy_good X fun _ _ h => h.elim) (fun _ h => h.elim)
  have C2 := hid fun (W : World) (X : Ext none' w W) => types_any ts (by omega) htz none' (.slice a2 ts.length cap2) W (HT.out.ext isTy_good X fun _ _ h => h.elim) (fun _ h => h.elim)
  have F1 := hid fun (W : World) (X : Ext none' w W) (dv v1 v2 : Value) (hd : IsSl 6 IsDf none' W dv ds) (h1 : IsSl 3 IsTy none' W v1 ps) (h2 : IsSl 3 IsTy none' W v2 ts) => Find_anyZ ds hfit row (by omega) ps ts (by omega) (by omega) hpz htz dv (.slice ar row.length capr) v1 v2 W hd (HRW.out.ext isStr_good X fun _ _ h => h.elim) h1 h2
  have F2 := hid fun (W : World) (X : Ext none' w W) (dv v1 v2 : Value) (hd : IsSl 6 IsDf none' W dv ds) (h1 : IsSl 3 IsTy none' W v1 (ps ++ [tInt])) (h2 : IsSl 3 IsTy none' W v2 (ts ++ [tInt])) => Find_anyZ ds hfit row (by omega) (ps ++ [tInt]) (ts ++ [tInt]) (by simp; omega) (by simp; omega) (app_z hpz zI) (app_z htz zI) dv (.slice ar row.length capr) v1 v2 W hd (HRW.out.ext isStr_good X fun _ _ h => h.elim) h1 h2
  have F3 := hid fun (W : World) (X : Ext none' w W) (dv v1 v2 : Value) (hd : IsSl 6 IsDf none' W dv ds) (h1 : IsSl 3 IsTy none' W v1 (ps ++ [tInt])) (h2 : IsSl 3 IsTy none' W v2 (ts ++ [tStr])) => Find_anyZ ds hfit row (by omega) (ps ++ [tInt]) (ts ++ [tStr]) (by simp; omega) (by simp; omega) (app_z hpz zI) (app_z htz zS) dv (.slice ar row.length capr) v1 v2 W hd (HRW.out.ext isStr_good X fun _ _ h => h.elim) h1 h2
  rw [hli] at CL
  rw [hfp] at CP
  rw [hft] at CQ
  rw [ho] at F1
  have NE0 := hid fun (h : ps.length ≠ ts.length) => (show o = none by rw [← ho, findP, if_pos (.inr h)])
  have EQ2 := hid fun (h : ps.length = ts.length) => (find_more ds row ps ts h).trans ho
  have EQ3 := hid fun (h : ps.length = ts.length) => find_other ds row ps ts h
  have AW := hid fun W => awake_any W
  obtain ⟨i0, hi0, hz0, hz1, hz2⟩ := info_parts infoTy
  have I0 := hid hi0
  have I1 := hid hz0
  have I2 := hid hz1
  have I3 := hid hz2
  have g0 := heap_alloc_at (w := w) rfl (.cells #[.slice ar row.length capr, .slice a1 ps.length cap1, .slice a2 ts.length cap2, .slice a9 n9 c9] 26)
  have G0 := hid fun (W : World) (X : Ext none' (w.alloc (.cells #[.slice ar row.length capr, .slice a1 ps.length cap1, .slice a2 ts.length cap2, .slice a9 n9 c9] 26)) W) => X.heap g0 (fun h => h)
  have q1 : decide (10 < (row.length : Int)) = false := decide_eq_false (by omega)
  clear ho hli hfp hft hle hfit zI zS app_z hsz hpz htz hi0 hz0 hz1 hz2 g0
  go_enter Try.func3, Try.ntmps3
  go_wp2_with fail
  refine (CL.out _ ((Ext.refl _ _).alloc _)).mono ?_
  rintro e W1 ⟨rfl, X1⟩
  have G1 := hid (G0.out _ X1)
  have c0 := cell_at G1.out 0
  have c1 := cell_at G1.out 1
  simp only [List.getElem?_toArray, List.getElem?_cons_zero, List.getElem?_cons_succ] at c0 c1
  have X1 := hid (((Ext.refl none' w).alloc _).trans X1)
  obtain ⟨B, hB⟩ : ∃ B, w.heap.size = B := ⟨_, rfl⟩
  rw [hB] at c0 c1 G1
  clear G0
  rw [hB]
  go_wp2_with fail
  refine (CP.out _ X1.out).mono ?_
  rintro e W2 ⟨rfl, X2⟩
  have G2 := hid (X2.heap G1.out (fun h => h))
  have c2 := cell_at G2.out 2
  simp only [List.getElem?_toArray, List.getElem?_cons_zero, List.getElem?_cons_succ] at c2
  have X2 := hid (X1.out.trans X2)
  clear c0 c1
  go_wp2_with fail
  refine (CQ.out _ X2.out).mono ?_
  rintro e W3 ⟨rfl, X3⟩
  have G3 := hid (X3.heap G2.out (fun h => h))
  have X3 := hid (X2.out.trans X3)
  clear c2
  go_wp2_with fail
  refine (CD.out _ X3.out).mono ?_
  rintro e W4 ⟨vd, rfl, hvd, X4⟩
  have VD := hid hvd
  have G4 := hid (X4.heap G3.out (fun h => h))
  have X4 := hid (X3.out.trans X4)
  clear hvd
  go_upto_region 5 with (fail)
  obtain ⟨W5, hW5⟩ : ∃ W5, W5 = (W4.alloc (.cells #[.int .i64 1, .string ⟨#[105, 110, 116]⟩, .slice none 0 0] 33 (0, 0))).alloc (.cells #[.int .i64 1, .string ⟨#[115, 116, 114, 105, 110, 103]⟩, .slice none 0 0] 33 (0, 0)) := ⟨_, rfl⟩
  obtain ⟨N, hN⟩ : ∃ N, N = W4.heap.size := ⟨_, rfl⟩
  have E5 : Ext none' W4 W5 := by rw [hW5]; exact ((Ext.refl _ _).alloc _).alloc _
  have GN := hid (show W5.heap[N]? = some (.cells #[.int .i64 1, .string ⟨#[105, 110, 116]⟩, .slice none 0 0] 33 (0, 0)) by rw [hW5]; exact heap_alloc_keep (heap_alloc_at hN _) _)
  have GS := hid (show W5.heap[N + 1]? = some (.cells #[.int .i64 1, .string ⟨#[115, 116, 114, 105, 110, 103]⟩, .slice none 0 0] 33 (0, 0)) by rw [hW5]; exact heap_alloc_at (by rw [hN]; simp) _)
  rw [← hW5, ← hN]
  have G5 := hid (E5.heap G4.out (fun h => h))
  have VD5 := hid (VD.out.ext isDf_good E5 fun _ _ h => h.elim)
  have X5 := hid (X4.out.trans E5)
  clear hW5 hN E5
  obtain ⟨l, hol⟩ : ∃ l, o.getD [] = l := ⟨_, rfl⟩
  obtain ⟨ob, hob⟩ : ∃ ob, o.isSome = ob := ⟨_, rfl⟩
  have HOL := hid hol
  have HOB := hid hob
  clear hol hob
  go_cut [8, 9] from 40 to 53 (fun y z wx => Hid (UmMid o W5 y z wx))
  case first =>
    have k0 := fun t' : LaterF none' W5 => cell_at (t'.x.heap G5.out (fun h => h)) 0
    have k1 := fun t' : LaterF none' W5 => cell_at (t'.x.heap G5.out (fun h => h)) 1
    have k2 := fun t' : LaterF none' W5 => cell_at (t'.x.heap G5.out (fun h => h)) 2
    simp only [List.getElem?_toArray, List.getElem?_cons_zero, List.getElem?_cons_succ] at k0 k1 k2
    refine region_q none' W5 (.qs [0, 1, 2, 3, 4, 6, 7] (.one 5 true (.one 8 true (.one 9 true (.one 10 true (.qs [11, 12] (.one 13 true (.one 14 false .fin)))))))) (by kernel_rfl) (by kernel_rfl) (fun dst v c a w h => by cases dst <;> exact h) ?_
    refine ⟨In.of (Ext.refl _ _).drew, ?_⟩
    change wpQuiet _ _ (fun w' => ∃ t : LaterF none' W5, w' = t.w) _ _ _
    simp only [sel, List.getElem?_cons_succ, List.getElem?_cons_zero]
    repeat (go_big_quiet_step (fail))
    refine wpQuiet_nil ?_
    simp only [wpTreeQ, stepT, sel, List.getElem?_cons_succ, List.getElem?_cons_zero]
    clear k0 k1 k2
    have D1 := hid (Ext.refl none' W5).drew
    go_wp2_with fail
    refine (C1.out _ (X5.out.trans D1.out)).mono ?_
    rintro e V1 ⟨u1, rfl, hr1, E1⟩
    have Y1 := hid (hr1.sl (A := none') isTy_good fun _ _ h => h)
    have E1 := hid (D1.out.trans E1)
    clear hr1
    go_wp2_with fail
    refine ⟨In.of E1.out, ?_⟩
    go_wp2_with fail
    refine (C2.out _ (X5.out.trans E1.out)).mono ?_
    rintro e V2 ⟨u2, rfl, hr2, E2⟩
    have Y2 := hid (hr2.sl (A := none') isTy_good fun _ _ h => h)
    have Y1 := hid (Y1.out.ext isTy_good E2 fun _ _ h => h)
    have E2 := hid (E1.out.trans E2)
    clear hr2
    go_wp2_with fail
    refine ⟨In.of E2.out, ?_⟩
    go_wp2_with fail
    refine (F1.out _ (X5.out.trans E2.out) _ _ _ (VD5.out.ext isDf_good E2.out fun _ _ h => h) Y1.out Y2.out).mono ?_
    rintro e VZ ⟨u, rfl, hu, XE, hn, hz⟩
    have XT := hid (E2.out.trans XE)
    have M := hid (UmMid.mk rfl hu XT.out hn hz)
    clear hu XE hn hz
    go_wp2_with fail
    refine ⟨In.of XT.out, ?_⟩
    go_wp2_with fail
    refine ⟨In.of XT.out, In.of XT.out, ?_⟩
    change wpQuiet _ _ (fun w' => ∃ t : LaterF none' W5, w' = t.w) _ _ _
    repeat (go_big_quiet_step (fail))
    refine wpQuiet_nil ?_
    go_wp2_with fail
    refine ⟨In.of XT.out, ?_⟩
    go_wp2_with fail
    go_meet
    case rel => exact M
  obtain ⟨he, hv, hx, hn, hz⟩ := hcut.out
  rename World => wa
  rw [HOB.out] at he
  rw [HOL.out] at hv hz hn
  subst he
  have HZ := hid hz
  have HV := hid hv
  obtain ⟨ab, cb, rfl, _⟩ := hv
  have GBa := hid (hx.heap G5.out (fun h => h))
  have GNa := hid (hx.heap GN.out (fun h => h))
  have GSa := hid (hx.heap GS.out (fun h => h))
  have VDa := hid (VD5.out.ext isDf_good hx fun _ _ h => h)
  have XA := hid (X5.out.trans hx)
  clear hx hz
  have c1 := cell_at GBa.out 1
  have c2 := cell_at GBa.out 2
  simp only [List.getElem?_toArray, List.getElem?_cons_zero, List.getElem?_cons_succ] at c1 c2
  by_cases hl : ps.length = ts.length
  · have q2 : ((ps.length : Int) != (ts.length : Int)) = false := by simp only [bne_eq_false_iff_eq]; omega
    have CT1 := hid fun (W : World) (X : Ext none' wa W) => C1.out W (XA.out.trans X)
    have CT2 := hid fun (W : World) (X : Ext none' wa W) => C2.out W (XA.out.trans X)
    have CFM := hid fun (W : World) (X : Ext none' wa W) v1 v2 h1 h2 => F2.out W (XA.out.trans X) vd v1 v2 (VDa.out.ext isDf_good X fun _ _ h => h) h1 h2
    rw [EQ2.out hl] at CFM
    rw [EQ3.out hl] at F3
    have HL := hid hl
    clear hl
    go_upto_region 8 with (fail)
    clear c1 c2
    go_cut [10, 11] from 65 to 84 (fun y z wx => Hid (UmMid o wa y z wx))
    case first =>
      have k0 := fun t' : LaterF none' wa => cell_at (t'.x.heap GBa.out (fun h => h)) 0
      have k1 := fun t' : LaterF none' wa => cell_at (t'.x.heap GBa.out (fun h => h)) 1
      have k2 := fun t' : LaterF none' wa => cell_at (t'.x.heap GBa.out (fun h => h)) 2
      have n0 := fun t' : LaterF none' wa => cell_at (t'.x.heap GNa.out (fun h => h)) 0
      have n1 := fun t' : LaterF none' wa => cell_at (t'.x.heap GNa.out (fun h => h)) 1
      have n2 := fun t' : LaterF none' wa => cell_at (t'.x.heap GNa.out (fun h => h)) 2
      simp only [List.getElem?_toArray, List.getElem?_cons_zero, List.getElem?_cons_succ] at k0 k1 k2 n0 n1 n2
      refine region_z none' wa (.qs [0, 1, 2, 3, 4, 6, 9, 10, 12] (.three 5 true (.two 7 true (.two 8 true (.two 11 true (.one 13 true (.one 14 true (.one 15 true (.one 16 true (.qs [17, 18] (.one 19 true (.one 20 false .fin))))))) 13 true (.one 11 true (.one 14 true (.one 15 true (.one 16 true (.qs [17, 18] (.one 19 true (.one 20 false .fin)))))))) 13 true (.one 8 true (.one 11 true (.one 14 true (.one 15 true (.one 16 true (.qs [17, 18] (.one 19 true (.one 20 false .fin))))))))) 13 true (.one 7 true (.one 8 true (.one 11 true (.one 14 true (.one 15 true (.one 16 true (.qs [17, 18] (.one 19 true (.one 20 false .fin)))))))))) 7 true (.two 5 true (.two 8 true (.two 11 true (.one 13 true (.one 14 true (.one 15 true (.one 16 true (.qs [17, 18] (.one 19 true (.one 20 false .fin))))))) 13 true (.one 11 true (.one 14 true (.one 15 true (.one 16 true (.qs [17, 18] (.one 19 true (.one 20 false .fin)))))))) 13 true (.one 8 true (.one 11 true (.one 14 true (.one 15 true (.one 16 true (.qs [17, 18] (.one 19 true (.one 20 false .fin))))))))) 13 true (.one 5 true (.one 8 true (.one 11 true (.one 14 true (.one 15 true (.one 16 true (.qs [17, 18] (.one 19 true (.one 20 false .fin)))))))))) 13 true (.two 5 true (.one 7 true (.one 8 true (.one 11 true (.one 14 true (.one 15 true (.one 16 true (.qs [17, 18] (.one 19 true (.one 20 false .fin))))))))) 7 true (.one 5 true (.one 8 true (.one 11 true (.one 14 true (.one 15 true (.one 16 true (.qs [17, 18] (.one 19 true (.one 20 false .fin)))))))))))) (by kernel_rfl) (by kernel_rfl) (fun dst v c a w h => by cases dst <;> exact h) ?_
      refine ⟨In.of (Ext.refl _ _).drew, ?_⟩
      change wpQuiet _ _ (fun w' => ∃ t : LaterF none' wa, w' = t.w) _ _ _
      simp only [sel, List.getElem?_cons_succ, List.getElem?_cons_zero]
      repeat (go_big_quiet_step (fail))
      refine wpQuiet_nil ?_
      simp only [wpTreeZ, stepT, sel, List.getElem?_cons_succ, List.getElem?_cons_zero]
      clear k0 k1 k2 n0 n1 n2
      have D1 := hid (Ext.refl none' wa).drew
      refine ⟨?_, ?_, ?_⟩
      · skip
        go_wp2_with fail
        refine (CT1.out _ D1.out).mono ?_
        rintro e V1 ⟨u1, rfl, hr, E1⟩
        have R1 := hid hr
        have T1 := hid E1
        have XV1 := hid (D1.out.trans E1)
        have B1 := hid (show wa.heap.size ≤ wa.drew.heap.size from D1.out.size)
        clear hr
        go_wp2_with fail
        refine ⟨In.of XV1.out, ?_⟩
        refine ⟨?_, ?_⟩
        · skip
          obtain ⟨V2, hV2⟩ : ∃ V2, V2 = V1.alloc (.cells #[.int .i64 1, .string ⟨#[105, 110, 116]⟩, .slice none 0 0] 33 (0, 0)) := ⟨_, rfl⟩
          obtain ⟨P1, hP1⟩ : ∃ P1, P1 = V1.heap.size := ⟨_, rfl⟩
          go_wp2_with fail
          rw [← hV2, ← hP1]
          have E2 : Ext none' V1 V2 := by rw [hV2]; exact (Ext.refl _ _).alloc _
          have XV2 : Hid (Ext none' wa V2) := hid (XV1.out.trans E2)
          have G1_2 : Hid (V2.heap[P1]? = some (.cells #[.int .i64 1, .string ⟨#[105, 110, 116]⟩, .slice none 0 0] 33 (0, 0))) := hid (by rw [hV2, hP1]; exact heap_alloc_at rfl _)
          have R2 := hid (R1.out.ext isTy_good E2 (fun _ _ h => h.elim) (fun _ _ h => h))
          have T2 := hid (T1.out.trans E2)
          clear hV2 hP1
          refine ⟨In.of XV2.out, ?_⟩
          refine ⟨?_, ?_⟩
          · skip
            have S3 := hid (src_at (P := Try.prog) Try.underlying31 G1_2.out rfl rfl rfl)
            obtain ⟨cells3, own3, hr3⟩ := R2.out
            have O3 := hid own3
            have H3 := hid hr3
            have BB := hid T2.out.size
            clear own3 hr3
            refine wpList_app _ rfl (.tmp 71) (.tmp 73) 31 31 rfl wa.drew.heap.size 33 i0 _ 3 48 Try.underlying31 I0.out I1.out I2.out I3.out rfl _ ps.length cells3 rfl O3.out _ 1 _ rfl S3.out ?_ ?_ ?_ ?_
            · unfold maxLen; omega
            · omega
            · exact BB.out
            intro v1 V3 own grow blk _
            have Y1 := hid (typs_app O3.out H3.out (IsTy.of (k := 1) (n := nI) (IsSl.nil _ _ _ _)) own grow blk)
            have XV3 := hid (XV2.out.grown grow (fun g hg => .inr (Nat.le_trans B1.out (R2.out.lt g hg).1)))
            clear own grow blk
            have Q3 := hid (Ext.refl none' V3)
            refine ⟨In.of XV3.out, ?_⟩
            refine ⟨?_, ?_⟩
            · skip
              go_wp2_with fail
              refine (CT2.out _ XV3.out).mono ?_
              rintro e V4 ⟨u2, rfl, hr, E4⟩
              have R4 := hid hr
              have T4 := hid E4
              have XV4 := hid (XV3.out.trans E4)
              have B2 := hid (show wa.heap.size ≤ V3.heap.size from XV3.out.size)
              have BS := hid (show V3.heap.size ≤ V3.heap.size from Q3.out.size)
              have Q4 := hid (Q3.out.trans E4)
              clear hr
              go_wp2_with fail
              refine ⟨In.of XV4.out, ?_⟩
              obtain ⟨V5, hV5⟩ : ∃ V5, V5 = V4.alloc (.cells #[.int .i64 1, .string ⟨#[105, 110, 116]⟩, .slice none 0 0] 33 (0, 0)) := ⟨_, rfl⟩
              obtain ⟨P2, hP2⟩ : ∃ P2, P2 = V4.heap.size := ⟨_, rfl⟩
              go_wp2_with fail
              rw [← hV5, ← hP2]
              have E5 : Ext none' V4 V5 := by rw [hV5]; exact (Ext.refl _ _).alloc _
              have XV5 : Hid (Ext none' wa V5) := hid (XV4.out.trans E5)
              have G2_5 : Hid (V5.heap[P2]? = some (.cells #[.int .i64 1, .string ⟨#[105, 110, 116]⟩, .slice none 0 0] 33 (0, 0))) := hid (by rw [hV5, hP2]; exact heap_alloc_at rfl _)
              have R5 := hid (R4.out.ext isTy_good E5 (fun _ _ h => h.elim) (fun _ _ h => h))
              have T5 := hid (T4.out.trans E5)
              have Q5 := hid (Q4.out.trans E5)
              clear hV5 hP2
              refine ⟨In.of XV5.out, ?_⟩
              have S6 := hid (src_at (P := Try.prog) Try.underlying31 G2_5.out rfl rfl rfl)
              obtain ⟨cells6, own6, hr6⟩ := R5.out
              have O6 := hid own6
              have H6 := hid hr6
              have BB := hid T5.out.size
              clear own6 hr6
              refine wpList_app _ rfl (.tmp 77) (.tmp 79) 31 31 rfl V3.heap.size 33 i0 _ 3 48 Try.underlying31 I0.out I1.out I2.out I3.out rfl _ ts.length cells6 rfl O6.out _ 1 _ rfl S6.out ?_ ?_ ?_ ?_
              · unfold maxLen; omega
              · omega
              · exact BB.out
              intro v2 V6 own grow blk _
              have Y2 := hid (typs_app O6.out H6.out (IsTy.of (k := 1) (n := nI) (IsSl.nil _ _ _ _)) own grow blk)
              have XV6 := hid (XV5.out.grown grow (fun g hg => .inr (Nat.le_trans B2.out (R5.out.lt g hg).1)))
              have Q6 := hid (Q5.out.grown grow (fun g hg => .inr (Nat.le_trans BS.out (R5.out.lt g hg).1)))
              clear own grow blk
              refine ⟨In.of XV6.out, ?_⟩
              have Z1 := hid (Y1.out.ext isTy_good Q6.out fun _ _ h => h)
              go_wp2_with fail
              refine (CFM.out _ XV6.out _ _ Z1.out Y2.out).mono ?_
              rintro e VZ ⟨u, rfl, hu, XE, hn, hz⟩
              have XT := hid (XV6.out.trans XE)
              have M := hid (UmMid.mk rfl hu XT.out hn hz)
              clear hu XE hn hz
              go_wp2_with fail
              refine ⟨In.of XT.out, ?_⟩
              go_wp2_with fail
              refine ⟨In.of XT.out, In.of XT.out, ?_⟩
              change wpQuiet _ _ (fun w' => ∃ t : LaterF none' wa, w' = t.w) _ _ _
              repeat (go_big_quiet_step (fail))
              refine wpQuiet_nil ?_
              go_wp2_with fail
              refine ⟨In.of XT.out, ?_⟩
              go_wp2_with fail
              go_meet
              case rel => exact M
            · skip
              obtain ⟨V7, hV7⟩ : ∃ V7, V7 = V3.alloc (.cells #[.int .i64 1, .string ⟨#[105, 110, 116]⟩, .slice none 0 0] 33 (0, 0)) := ⟨_, rfl⟩
              obtain ⟨P2, hP2⟩ : ∃ P2, P2 = V3.heap.size := ⟨_, rfl⟩
              go_wp2_with fail
              rw [← hV7, ← hP2]
              have E7 : Ext none' V3 V7 := by rw [hV7]; exact (Ext.refl _ _).alloc _
              have XV7 : Hid (Ext none' wa V7) := hid (XV3.out.trans E7)
              have G2_7 : Hid (V7.heap[P2]? = some (.cells #[.int .i64 1, .string ⟨#[105, 110, 116]⟩, .slice none 0 0] 33 (0, 0))) := hid (by rw [hV7, hP2]; exact heap_alloc_at rfl _)
              have Q7 := hid (Q3.out.trans E7)
              clear hV7 hP2
              refine ⟨In.of XV7.out, ?_⟩
              go_wp2_with fail
              refine (CT2.out _ XV7.out).mono ?_
              rintro e V8 ⟨u2, rfl, hr, E8⟩
              have R8 := hid hr
              have T8 := hid E8
              have XV8 := hid (XV7.out.trans E8)
              have B2 := hid (show wa.heap.size ≤ V7.heap.size from XV7.out.size)
              have G2_8 := hid (E8.heap G2_7.out (fun h => h))
              have BS := hid (show V3.heap.size ≤ V7.heap.size from Q7.out.size)
              have Q8 := hid (Q7.out.trans E8)
              clear hr
              go_wp2_with fail
              refine ⟨In.of XV8.out, ?_⟩
              have S9 := hid (src_at (P := Try.prog) Try.underlying31 G2_8.out rfl rfl rfl)
              obtain ⟨cells9, own9, hr9⟩ := R8.out
              have O9 := hid own9
              have H9 := hid hr9
              have BB := hid T8.out.size
              clear own9 hr9
              refine wpList_app _ rfl (.tmp 77) (.tmp 79) 31 31 rfl V7.heap.size 33 i0 _ 3 48 Try.underlying31 I0.out I1.out I2.out I3.out rfl _ ts.length cells9 rfl O9.out _ 1 _ rfl S9.out ?_ ?_ ?_ ?_
              · unfold maxLen; omega
              · omega
              · exact BB.out
              intro v2 V9 own grow blk _
              have Y2 := hid (typs_app O9.out H9.out (IsTy.of (k := 1) (n := nI) (IsSl.nil _ _ _ _)) own grow blk)
              have XV9 := hid (XV8.out.grown grow (fun g hg => .inr (Nat.le_trans B2.out (R8.out.lt g hg).1)))
              have Q9 := hid (Q8.out.grown grow (fun g hg => .inr (Nat.le_trans BS.out (R8.out.lt g hg).1)))
              clear own grow blk
              refine ⟨In.of XV9.out, ?_⟩
              have Z1 := hid (Y1.out.ext isTy_good Q9.out fun _ _ h => h)
              go_wp2_with fail
              refine (CFM.out _ XV9.out _ _ Z1.out Y2.out).mono ?_
              rintro e VZ ⟨u, rfl, hu, XE, hn, hz⟩
              have XT := hid (XV9.out.trans XE)
              have M := hid (UmMid.mk rfl hu XT.out hn hz)
              clear hu XE hn hz
              go_wp2_with fail
              refine ⟨In.of XT.out, ?_⟩
              go_wp2_with fail
              refine ⟨In.of XT.out, In.of XT.out, ?_⟩
              change wpQuiet _ _ (fun w' => ∃ t : LaterF none' wa, w' = t.w) _ _ _
              repeat (go_big_quiet_step (fail))
              refine wpQuiet_nil ?_
              go_wp2_with fail
              refine ⟨In.of XT.out, ?_⟩
              go_wp2_with fail
              go_meet
              case rel => exact M
          · skip
            obtain ⟨V10, hV10⟩ : ∃ V10, V10 = V2.alloc (.cells #[.int .i64 1, .string ⟨#[105, 110, 116]⟩, .slice none 0 0] 33 (0, 0)) := ⟨_, rfl⟩
            obtain ⟨P2, hP2⟩ : ∃ P2, P2 = V2.heap.size := ⟨_, rfl⟩
            go_wp2_with fail
            rw [← hV10, ← hP2]
            have E10 : Ext none' V2 V10 := by rw [hV10]; exact (Ext.refl _ _).alloc _
            have XV10 : Hid (Ext none' wa V10) := hid (XV2.out.trans E10)
            have G2_10 : Hid (V10.heap[P2]? = some (.cells #[.int .i64 1, .string ⟨#[105, 110, 116]⟩, .slice none 0 0] 33 (0, 0))) := hid (by rw [hV10, hP2]; exact heap_alloc_at rfl _)
            have G1_10 := hid (E10.heap G1_2.out (fun h => h))
            have R10 := hid (R2.out.ext isTy_good E10 (fun _ _ h => h.elim) (fun _ _ h => h))
            have T10 := hid (T2.out.trans E10)
            have NE : Hid (∀ g, Value.ownBlock u1 = some g → g ≠ P2) := hid fun g hg => by have := (R2.out.lt g hg).2; omega
            clear hV10 hP2
            refine ⟨In.of XV10.out, ?_⟩
            have S11 := hid (src_at (P := Try.prog) Try.underlying31 G1_10.out rfl rfl rfl)
            obtain ⟨cells11, own11, hr11⟩ := R10.out
            have O11 := hid own11
            have H11 := hid hr11
            have BB := hid T10.out.size
            clear own11 hr11
            refine wpList_app _ rfl (.tmp 71) (.tmp 73) 31 31 rfl wa.drew.heap.size 33 i0 _ 3 48 Try.underlying31 I0.out I1.out I2.out I3.out rfl _ ps.length cells11 rfl O11.out _ 1 _ rfl S11.out ?_ ?_ ?_ ?_
            · unfold maxLen; omega
            · omega
            · exact BB.out
            intro v1 V11 own grow blk _
            have Y1 := hid (typs_app O11.out H11.out (IsTy.of (k := 1) (n := nI) (IsSl.nil _ _ _ _)) own grow blk)
            have XV11 := hid (XV10.out.grown grow (fun g hg => .inr (Nat.le_trans B1.out (R10.out.lt g hg).1)))
            have G2_11 := hid (((Ext.refl (fun b => Value.ownBlock u1 = some b) V10).grown grow (fun g hg => .inl hg)).heap G2_10.out (fun h => NE.out _ h rfl))
            clear own grow blk
            have Q11 := hid (Ext.refl none' V11)
            refine ⟨In.of XV11.out, ?_⟩
            go_wp2_with fail
            refine (CT2.out _ XV11.out).mono ?_
            rintro e V12 ⟨u2, rfl, hr, E12⟩
            have R12 := hid hr
            have T12 := hid E12
            have XV12 := hid (XV11.out.trans E12)
            have B2 := hid (show wa.heap.size ≤ V11.heap.size from XV11.out.size)
            have G2_12 := hid (E12.heap G2_11.out (fun h => h))
            have BS := hid (show V11.heap.size ≤ V11.heap.size from Q11.out.size)
            have Q12 := hid (Q11.out.trans E12)
            clear hr
            go_wp2_with fail
            refine ⟨In.of XV12.out, ?_⟩
            have S13 := hid (src_at (P := Try.prog) Try.underlying31 G2_12.out rfl rfl rfl)
            obtain ⟨cells13, own13, hr13⟩ := R12.out
            have O13 := hid own13
            have H13 := hid hr13
            have BB := hid T12.out.size
            clear own13 hr13
            refine wpList_app _ rfl (.tmp 77) (.tmp 79) 31 31 rfl V11.heap.size 33 i0 _ 3 48 Try.underlying31 I0.out I1.out I2.out I3.out rfl _ ts.length cells13 rfl O13.out _ 1 _ rfl S13.out ?_ ?_ ?_ ?_
            · unfold maxLen; omega
            · omega
            · exact BB.out
            intro v2 V13 own grow blk _
            have Y2 := hid (typs_app O13.out H13.out (IsTy.of (k := 1) (n := nI) (IsSl.nil _ _ _ _)) own grow blk)
            have XV13 := hid (XV12.out.grown grow (fun g hg => .inr (Nat.le_trans B2.out (R12.out.lt g hg).1)))
            have Q13 := hid (Q12.out.grown grow (fun g hg => .inr (Nat.le_trans BS.out (R12.out.lt g hg).1)))
            clear own grow blk
            refine ⟨In.of XV13.out, ?_⟩
            have Z1 := hid (Y1.out.ext isTy_good Q13.out fun _ _ h => h)
            go_wp2_with fail
            refine (CFM.out _ XV13.out _ _ Z1.out Y2.out).mono ?_
            rintro e VZ ⟨u, rfl, hu, XE, hn, hz⟩
            have XT := hid (XV13.out.trans XE)
            have M := hid (UmMid.mk rfl hu XT.out hn hz)
            clear hu XE hn hz
            go_wp2_with fail
            refine ⟨In.of XT.out, ?_⟩
            go_wp2_with fail
            refine ⟨In.of XT.out, In.of XT.out, ?_⟩
            change wpQuiet _ _ (fun w' => ∃ t : LaterF none' wa, w' = t.w) _ _ _
            repeat (go_big_quiet_step (fail))
            refine wpQuiet_nil ?_
            go_wp2_with fail
            refine ⟨In.of XT.out, ?_⟩
            go_wp2_with fail
            go_meet
            case rel => exact M
        · skip
          obtain ⟨V14, hV14⟩ : ∃ V14, V14 = V1.alloc (.cells #[.int .i64 1, .string ⟨#[105, 110, 116]⟩, .slice none 0 0] 33 (0, 0)) := ⟨_, rfl⟩
          obtain ⟨P2, hP2⟩ : ∃ P2, P2 = V1.heap.size := ⟨_, rfl⟩
          go_wp2_with fail
          rw [← hV14, ← hP2]
          have E14 : Ext none' V1 V14 := by rw [hV14]; exact (Ext.refl _ _).alloc _
          have XV14 : Hid (Ext none' wa V14) := hid (XV1.out.trans E14)
          have G2_14 : Hid (V14.heap[P2]? = some (.cells #[.int .i64 1, .string ⟨#[105, 110, 116]⟩, .slice none 0 0] 33 (0, 0))) := hid (by rw [hV14, hP2]; exact heap_alloc_at rfl _)
          have R14 := hid (R1.out.ext isTy_good E14 (fun _ _ h => h.elim) (fun _ _ h => h))
          have T14 := hid (T1.out.trans E14)
          have NE : Hid (∀ g, Value.ownBlock u1 = some g → g ≠ P2) := hid fun g hg => by have := (R1.out.lt g hg).2; omega
          clear hV14 hP2
          refine ⟨In.of XV14.out, ?_⟩
          obtain ⟨V15, hV15⟩ : ∃ V15, V15 = V14.alloc (.cells #[.int .i64 1, .string ⟨#[105, 110, 116]⟩, .slice none 0 0] 33 (0, 0)) := ⟨_, rfl⟩
          obtain ⟨P1, hP1⟩ : ∃ P1, P1 = V14.heap.size := ⟨_, rfl⟩
          go_wp2_with fail
          rw [← hV15, ← hP1]
          have E15 : Ext none' V14 V15 := by rw [hV15]; exact (Ext.refl _ _).alloc _
          have XV15 : Hid (Ext none' wa V15) := hid (XV14.out.trans E15)
          have G1_15 : Hid (V15.heap[P1]? = some (.cells #[.int .i64 1, .string ⟨#[105, 110, 116]⟩, .slice none 0 0] 33 (0, 0))) := hid (by rw [hV15, hP1]; exact heap_alloc_at rfl _)
          have G2_15 := hid (E15.heap G2_14.out (fun h => h))
          have R15 := hid (R14.out.ext isTy_good E15 (fun _ _ h => h.elim) (fun _ _ h => h))
          have T15 := hid (T14.out.trans E15)
          clear hV15 hP1
          refine ⟨In.of XV15.out, ?_⟩
          have S16 := hid (src_at (P := Try.prog) Try.underlying31 G1_15.out rfl rfl rfl)
          obtain ⟨cells16, own16, hr16⟩ := R15.out
          have O16 := hid own16
          have H16 := hid hr16
          have BB := hid T15.out.size
          clear own16 hr16
          refine wpList_app _ rfl (.tmp 71) (.tmp 73) 31 31 rfl wa.drew.heap.size 33 i0 _ 3 48 Try.underlying31 I0.out I1.out I2.out I3.out rfl _ ps.length cells16 rfl O16.out _ 1 _ rfl S16.out ?_ ?_ ?_ ?_
          · unfold maxLen; omega
          · omega
          · exact BB.out
          intro v1 V16 own grow blk _
          have Y1 := hid (typs_app O16.out H16.out (IsTy.of (k := 1) (n := nI) (IsSl.nil _ _ _ _)) own grow blk)
          have XV16 := hid (XV15.out.grown grow (fun g hg => .inr (Nat.le_trans B1.out (R15.out.lt g hg).1)))
          have G2_16 := hid (((Ext.refl (fun b => Value.ownBlock u1 = some b) V15).grown grow (fun g hg => .inl hg)).heap G2_15.out (fun h => NE.out _ h rfl))
          clear own grow blk
          have Q16 := hid (Ext.refl none' V16)
          refine ⟨In.of XV16.out, ?_⟩
          go_wp2_with fail
          refine (CT2.out _ XV16.out).mono ?_
          rintro e V17 ⟨u2, rfl, hr, E17⟩
          have R17 := hid hr
          have T17 := hid E17
          have XV17 := hid (XV16.out.trans E17)
          have B2 := hid (show wa.heap.size ≤ V16.heap.size from XV16.out.size)
          have G2_17 := hid (E17.heap G2_16.out (fun h => h))
          have BS := hid (show V16.heap.size ≤ V16.heap.size from Q16.out.size)
          have Q17 := hid (Q16.out.trans E17)
          clear hr
          go_wp2_with fail
          refine ⟨In.of XV17.out, ?_⟩
          have S18 := hid (src_at (P := Try.prog) Try.underlying31 G2_17.out rfl rfl rfl)
          obtain ⟨cells18, own18, hr18⟩ := R17.out
          have O18 := hid own18
          have H18 := hid hr18
          have BB := hid T17.out.size
          clear own18 hr18
          refine wpList_app _ rfl (.tmp 77) (.tmp 79) 31 31 rfl V16.heap.size 33 i0 _ 3 48 Try.underlying31 I0.out I1.out I2.out I3.out rfl _ ts.length cells18 rfl O18.out _ 1 _ rfl S18.out ?_ ?_ ?_ ?_
          · unfold maxLen; omega
          · omega
          · exact BB.out
          intro v2 V18 own grow blk _
          have Y2 := hid (typs_app O18.out H18.out (IsTy.of (k := 1) (n := nI) (IsSl.nil _ _ _ _)) own grow blk)
          have XV18 := hid (XV17.out.grown grow (fun g hg => .inr (Nat.le_trans B2.out (R17.out.lt g hg).1)))
          have Q18 := hid (Q17.out.grown grow (fun g hg => .inr (Nat.le_trans BS.out (R17.out.lt g hg).1)))
          clear own grow blk
          refine ⟨In.of XV18.out, ?_⟩
          have Z1 := hid (Y1.out.ext isTy_good Q18.out fun _ _ h => h)
          go_wp2_with fail
          refine (CFM.out _ XV18.out _ _ Z1.out Y2.out).mono ?_
          rintro e VZ ⟨u, rfl, hu, XE, hn, hz⟩
          have XT := hid (XV18.out.trans XE)
          have M := hid (UmMid.mk rfl hu XT.out hn hz)
          clear hu XE hn hz
          go_wp2_with fail
          refine ⟨In.of XT.out, ?_⟩
          go_wp2_with fail
          refine ⟨In.of XT.out, In.of XT.out, ?_⟩
          change wpQuiet _ _ (fun w' => ∃ t : LaterF none' wa, w' = t.w) _ _ _
          repeat (go_big_quiet_step (fail))
          refine wpQuiet_nil ?_
          go_wp2_with fail
          refine ⟨In.of XT.out, ?_⟩
          go_wp2_with fail
          go_meet
          case rel => exact M
      · skip
        obtain ⟨V19, hV19⟩ : ∃ V19, V19 = (wa.alloc (.cells #[.int .i64 1, .string ⟨#[105, 110, 116]⟩, .slice none 0 0] 33 (0, 0))).drew := ⟨_, rfl⟩
        obtain ⟨P1, hP1⟩ : ∃ P1, P1 = wa.heap.size := ⟨_, rfl⟩
        go_wp2_with fail
        rw [← hV19, ← hP1]
        have XV19 : Hid (Ext none' wa V19) := hid (by rw [hV19]; exact ((Ext.refl none' wa).alloc _).drew)
        have G1_19 : Hid (V19.heap[P1]? = some (.cells #[.int .i64 1, .string ⟨#[105, 110, 116]⟩, .slice none 0 0] 33 (0, 0))) := hid (by rw [hV19, hP1]; exact heap_alloc_at rfl _)
        clear hV19 hP1
        refine ⟨In.of XV19.out, ?_⟩
        refine ⟨?_, ?_⟩
        · skip
          go_wp2_with fail
          refine (CT1.out _ XV19.out).mono ?_
          rintro e V20 ⟨u1, rfl, hr, E20⟩
          have R20 := hid hr
          have T20 := hid E20
          have XV20 := hid (XV19.out.trans E20)
          have B1 := hid (show wa.heap.size ≤ V19.heap.size from XV19.out.size)
          have G1_20 := hid (E20.heap G1_19.out (fun h => h))
          clear hr
          go_wp2_with fail
          refine ⟨In.of XV20.out, ?_⟩
          refine ⟨?_, ?_⟩
          · skip
            have S21 := hid (src_at (P := Try.prog) Try.underlying31 G1_20.out rfl rfl rfl)
            obtain ⟨cells21, own21, hr21⟩ := R20.out
            have O21 := hid own21
            have H21 := hid hr21
            have BB := hid T20.out.size
            clear own21 hr21
            refine wpList_app _ rfl (.tmp 71) (.tmp 73) 31 31 rfl V19.heap.size 33 i0 _ 3 48 Try.underlying31 I0.out I1.out I2.out I3.out rfl _ ps.length cells21 rfl O21.out _ 1 _ rfl S21.out ?_ ?_ ?_ ?_
            · unfold maxLen; omega
            · omega
            · exact BB.out
            intro v1 V21 own grow blk _
            have Y1 := hid (typs_app O21.out H21.out (IsTy.of (k := 1) (n := nI) (IsSl.nil _ _ _ _)) own grow blk)
            have XV21 := hid (XV20.out.grown grow (fun g hg => .inr (Nat.le_trans B1.out (R20.out.lt g hg).1)))
            clear own grow blk
            have Q21 := hid (Ext.refl none' V21)
            refine ⟨In.of XV21.out, ?_⟩
            refine ⟨?_, ?_⟩
            · skip
              go_wp2_with fail
              refine (CT2.out _ XV21.out).mono ?_
              rintro e V22 ⟨u2, rfl, hr, E22⟩
              have R22 := hid hr
              have T22 := hid E22
              have XV22 := hid (XV21.out.trans E22)
              have B2 := hid (show wa.heap.size ≤ V21.heap.size from XV21.out.size)
              have BS := hid (show V21.heap.size ≤ V21.heap.size from Q21.out.size)
              have Q22 := hid (Q21.out.trans E22)
              clear hr
              go_wp2_with fail
              refine ⟨In.of XV22.out, ?_⟩
              obtain ⟨V23, hV23⟩ : ∃ V23, V23 = V22.alloc (.cells #[.int .i64 1, .string ⟨#[105, 110, 116]⟩, .slice none 0 0] 33 (0, 0)) := ⟨_, rfl⟩
              obtain ⟨P2, hP2⟩ : ∃ P2, P2 = V22.heap.size := ⟨_, rfl⟩
              go_wp2_with fail
              rw [← hV23, ← hP2]
              have E23 : Ext none' V22 V23 := by rw [hV23]; exact (Ext.refl _ _).alloc _
              have XV23 : Hid (Ext none' wa V23) := hid (XV22.out.trans E23)
              have G2_23 : Hid (V23.heap[P2]? = some (.cells #[.int .i64 1, .string ⟨#[105, 110, 116]⟩, .slice none 0 0] 33 (0, 0))) := hid (by rw [hV23, hP2]; exact heap_alloc_at rfl _)
              have R23 := hid (R22.out.ext isTy_good E23 (fun _ _ h => h.elim) (fun _ _ h => h))
              have T23 := hid (T22.out.trans E23)
              have Q23 := hid (Q22.out.trans E23)
              clear hV23 hP2
              refine ⟨In.of XV23.out, ?_⟩
              have S24 := hid (src_at (P := Try.prog) Try.underlying31 G2_23.out rfl rfl rfl)
              obtain ⟨cells24, own24, hr24⟩ := R23.out
              have O24 := hid own24
              have H24 := hid hr24
              have BB := hid T23.out.size
              clear own24 hr24
              refine wpList_app _ rfl (.tmp 77) (.tmp 79) 31 31 rfl V21.heap.size 33 i0 _ 3 48 Try.underlying31 I0.out I1.out I2.out I3.out rfl _ ts.length cells24 rfl O24.out _ 1 _ rfl S24.out ?_ ?_ ?_ ?_
              · unfold maxLen; omega
              · omega
              · exact BB.out
              intro v2 V24 own grow blk _
              have Y2 := hid (typs_app O24.out H24.out (IsTy.of (k := 1) (n := nI) (IsSl.nil _ _ _ _)) own grow blk)
              have XV24 := hid (XV23.out.grown grow (fun g hg => .inr (Nat.le_trans B2.out (R23.out.lt g hg).1)))
              have Q24 := hid (Q23.out.grown grow (fun g hg => .inr (Nat.le_trans BS.out (R23.out.lt g hg).1)))
              clear own grow blk
              refine ⟨In.of XV24.out, ?_⟩
              have Z1 := hid (Y1.out.ext isTy_good Q24.out fun _ _ h => h)
              go_wp2_with fail
              refine (CFM.out _ XV24.out _ _ Z1.out Y2.out).mono ?_
              rintro e VZ ⟨u, rfl, hu, XE, hn, hz⟩
              have XT := hid (XV24.out.trans XE)
              have M := hid (UmMid.mk rfl hu XT.out hn hz)
              clear hu XE hn hz
              go_wp2_with fail
              refine ⟨In.of XT.out, ?_⟩
              go_wp2_with fail
              refine ⟨In.of XT.out, In.of XT.out, ?_⟩
              change wpQuiet _ _ (fun w' => ∃ t : LaterF none' wa, w' = t.w) _ _ _
              repeat (go_big_quiet_step (fail))
              refine wpQuiet_nil ?_
              go_wp2_with fail
              refine ⟨In.of XT.out, ?_⟩
              go_wp2_with fail
              go_meet
              case rel => exact M
            · skip
              obtain ⟨V25, hV25⟩ : ∃ V25, V25 = V21.alloc (.cells #[.int .i64 1, .string ⟨#[105, 110, 116]⟩, .slice none 0 0] 33 (0, 0)) := ⟨_, rfl⟩
              obtain ⟨P2, hP2⟩ : ∃ P2, P2 = V21.heap.size := ⟨_, rfl⟩
              go_wp2_with fail
              rw [← hV25, ← hP2]
              have E25 : Ext none' V21 V25 := by rw [hV25]; exact (Ext.refl _ _).alloc _
              have XV25 : Hid (Ext none' wa V25) := hid (XV21.out.trans E25)
              have G2_25 : Hid (V25.heap[P2]? = some (.cells #[.int .i64 1, .string ⟨#[105, 110, 116]⟩, .slice none 0 0] 33 (0, 0))) := hid (by rw [hV25, hP2]; exact heap_alloc_at rfl _)
              have Q25 := hid (Q21.out.trans E25)
              clear hV25 hP2
              refine ⟨In.of XV25.out, ?_⟩
              go_wp2_with fail
              refine (CT2.out _ XV25.out).mono ?_
              rintro e V26 ⟨u2, rfl, hr, E26⟩
              have R26 := hid hr
              have T26 := hid E26
              have XV26 := hid (XV25.out.trans E26)
              have B2 := hid (show wa.heap.size ≤ V25.heap.size from XV25.out.size)
              have G2_26 := hid (E26.heap G2_25.out (fun h => h))
              have BS := hid (show V21.heap.size ≤ V25.heap.size from Q25.out.size)
              have Q26 := hid (Q25.out.trans E26)
              clear hr
              go_wp2_with fail
              refine ⟨In.of XV26.out, ?_⟩
              have S27 := hid (src_at (P := Try.prog) Try.underlying31 G2_26.out rfl rfl rfl)
              obtain ⟨cells27, own27, hr27⟩ := R26.out
              have O27 := hid own27
              have H27 := hid hr27
              have BB := hid T26.out.size
              clear own27 hr27
              refine wpList_app _ rfl (.tmp 77) (.tmp 79) 31 31 rfl V25.heap.size 33 i0 _ 3 48 Try.underlying31 I0.out I1.out I2.out I3.out rfl _ ts.length cells27 rfl O27.out _ 1 _ rfl S27.out ?_ ?_ ?_ ?_
              · unfold maxLen; omega
              · omega
              · exact BB.out
              intro v2 V27 own grow blk _
              have Y2 := hid (typs_app O27.out H27.out (IsTy.of (k := 1) (n := nI) (IsSl.nil _ _ _ _)) own grow blk)
              have XV27 := hid (XV26.out.grown grow (fun g hg => .inr (Nat.le_trans B2.out (R26.out.lt g hg).1)))
              have Q27 := hid (Q26.out.grown grow (fun g hg => .inr (Nat.le_trans BS.out (R26.out.lt g hg).1)))
              clear own grow blk
              refine ⟨In.of XV27.out, ?_⟩
              have Z1 := hid (Y1.out.ext isTy_good Q27.out fun _ _ h => h)
              go_wp2_with fail
              refine (CFM.out _ XV27.out _ _ Z1.out Y2.out).mono ?_
              rintro e VZ ⟨u, rfl, hu, XE, hn, hz⟩
              have XT := hid (XV27.out.trans XE)
              have M := hid (UmMid.mk rfl hu XT.out hn hz)
              clear hu XE hn hz
              go_wp2_with fail
              refine ⟨In.of XT.out, ?_⟩
              go_wp2_with fail
              refine ⟨In.of XT.out, In.of XT.out, ?_⟩
              change wpQuiet _ _ (fun w' => ∃ t : LaterF none' wa, w' = t.w) _ _ _
              repeat (go_big_quiet_step (fail))
              refine wpQuiet_nil ?_
              go_wp2_with fail
              refine ⟨In.of XT.out, ?_⟩
              go_wp2_with fail
              go_meet
              case rel => exact M
          · skip
            obtain ⟨V28, hV28⟩ : ∃ V28, V28 = V20.alloc (.cells #[.int .i64 1, .string ⟨#[105, 110, 116]⟩, .slice none 0 0] 33 (0, 0)) := ⟨_, rfl⟩
            obtain ⟨P2, hP2⟩ : ∃ P2, P2 = V20.heap.size := ⟨_, rfl⟩
            go_wp2_with fail
            rw [← hV28, ← hP2]
            have E28 : Ext none' V20 V28 := by rw [hV28]; exact (Ext.refl _ _).alloc _
            have XV28 : Hid (Ext none' wa V28) := hid (XV20.out.trans E28)
            have G2_28 : Hid (V28.heap[P2]? = some (.cells #[.int .i64 1, .string ⟨#[105, 110, 116]⟩, .slice none 0 0] 33 (0, 0))) := hid (by rw [hV28, hP2]; exact heap_alloc_at rfl _)
            have G1_28 := hid (E28.heap G1_20.out (fun h => h))
            have R28 := hid (R20.out.ext isTy_good E28 (fun _ _ h => h.elim) (fun _ _ h => h))
            have T28 := hid (T20.out.trans E28)
            have NE : Hid (∀ g, Value.ownBlock u1 = some g → g ≠ P2) := hid fun g hg => by have := (R20.out.lt g hg).2; omega
            clear hV28 hP2
            refine ⟨In.of XV28.out, ?_⟩
            have S29 := hid (src_at (P := Try.prog) Try.underlying31 G1_28.out rfl rfl rfl)
            obtain ⟨cells29, own29, hr29⟩ := R28.out
            have O29 := hid own29
            have H29 := hid hr29
            have BB := hid T28.out.size
            clear own29 hr29
            refine wpList_app _ rfl (.tmp 71) (.tmp 73) 31 31 rfl V19.heap.size 33 i0 _ 3 48 Try.underlying31 I0.out I1.out I2.out I3.out rfl _ ps.length cells29 rfl O29.out _ 1 _ rfl S29.out ?_ ?_ ?_ ?_
            · unfold maxLen; omega
            · omega
            · exact BB.out
            intro v1 V29 own grow blk _
            have Y1 := hid (typs_app O29.out H29.out (IsTy.of (k := 1) (n := nI) (IsSl.nil _ _ _ _)) own grow blk)
            have XV29 := hid (XV28.out.grown grow (fun g hg => .inr (Nat.le_trans B1.out (R28.out.lt g hg).1)))
            have G2_29 := hid (((Ext.refl (fun b => Value.ownBlock u1 = some b) V28).grown grow (fun g hg => .inl hg)).heap G2_28.out (fun h => NE.out _ h rfl))
            clear own grow blk
            have Q29 := hid (Ext.refl none' V29)
            refine ⟨In.of XV29.out, ?_⟩
            go_wp2_with fail
            refine (CT2.out _ XV29.out).mono ?_
            rintro e V30 ⟨u2, rfl, hr, E30⟩
            have R30 := hid hr
            have T30 := hid E30
            have XV30 := hid (XV29.out.trans E30)
            have B2 := hid (show wa.heap.size ≤ V29.heap.size from XV29.out.size)
            have G2_30 := hid (E30.heap G2_29.out (fun h => h))
            have BS := hid (show V29.heap.size ≤ V29.heap.size from Q29.out.size)
            have Q30 := hid (Q29.out.trans E30)
            clear hr
            go_wp2_with fail
            refine ⟨In.of XV30.out, ?_⟩
            have S31 := hid (src_at (P := Try.prog) Try.underlying31 G2_30.out rfl rfl rfl)
            obtain ⟨cells31, own31, hr31⟩ := R30.out
            have O31 := hid own31
            have H31 := hid hr31
            have BB := hid T30.out.size
            clear own31 hr31
            refine wpList_app _ rfl (.tmp 77) (.tmp 79) 31 31 rfl V29.heap.size 33 i0 _ 3 48 Try.underlying31 I0.out I1.out I2.out I3.out rfl _ ts.length cells31 rfl O31.out _ 1 _ rfl S31.out ?_ ?_ ?_ ?_
            · unfold maxLen; omega
            · omega
            · exact BB.out
            intro v2 V31 own grow blk _
            have Y2 := hid (typs_app O31.out H31.out (IsTy.of (k := 1) (n := nI) (IsSl.nil _ _ _ _)) own grow blk)
            have XV31 := hid (XV30.out.grown grow (fun g hg => .inr (Nat.le_trans B2.out (R30.out.lt g hg).1)))
            have Q31 := hid (Q30.out.grown grow (fun g hg => .inr (Nat.le_trans BS.out (R30.out.lt g hg).1)))
            clear own grow blk
            refine ⟨In.of XV31.out, ?_⟩
            have Z1 := hid (Y1.out.ext isTy_good Q31.out fun _ _ h => h)
            go_wp2_with fail
            refine (CFM.out _ XV31.out _ _ Z1.out Y2.out).mono ?_
            rintro e VZ ⟨u, rfl, hu, XE, hn, hz⟩
            have XT := hid (XV31.out.trans XE)
            have M := hid (UmMid.mk rfl hu XT.out hn hz)
            clear hu XE hn hz
            go_wp2_with fail
            refine ⟨In.of XT.out, ?_⟩
            go_wp2_with fail
            refine ⟨In.of XT.out, In.of XT.out, ?_⟩
            change wpQuiet _ _ (fun w' => ∃ t : LaterF none' wa, w' = t.w) _ _ _
            repeat (go_big_quiet_step (fail))
            refine wpQuiet_nil ?_
            go_wp2_with fail
            refine ⟨In.of XT.out, ?_⟩
            go_wp2_with fail
            go_meet
            case rel => exact M
        · skip
          obtain ⟨V32, hV32⟩ : ∃ V32, V32 = V19.alloc (.cells #[.int .i64 1, .string ⟨#[105, 110, 116]⟩, .slice none 0 0] 33 (0, 0)) := ⟨_, rfl⟩
          obtain ⟨P2, hP2⟩ : ∃ P2, P2 = V19.heap.size := ⟨_, rfl⟩
          go_wp2_with fail
          rw [← hV32, ← hP2]
          have E32 : Ext none' V19 V32 := by rw [hV32]; exact (Ext.refl _ _).alloc _
          have XV32 : Hid (Ext none' wa V32) := hid (XV19.out.trans E32)
          have G2_32 : Hid (V32.heap[P2]? = some (.cells #[.int .i64 1, .string ⟨#[105, 110, 116]⟩, .slice none 0 0] 33 (0, 0))) := hid (by rw [hV32, hP2]; exact heap_alloc_at rfl _)
          have G1_32 := hid (E32.heap G1_19.out (fun h => h))
          clear hV32 hP2
          refine ⟨In.of XV32.out, ?_⟩
          go_wp2_with fail
          refine (CT1.out _ XV32.out).mono ?_
          rintro e V33 ⟨u1, rfl, hr, E33⟩
          have R33 := hid hr
          have T33 := hid E33
          have XV33 := hid (XV32.out.trans E33)
          have B1 := hid (show wa.heap.size ≤ V32.heap.size from XV32.out.size)
          have G1_33 := hid (E33.heap G1_32.out (fun h => h))
          have NE : Hid (∀ g, Value.ownBlock u1 = some g → g ≠ P2) := hid fun g hg => by have := (hr.lt g hg).1; have := heap_lt G2_32.out; omega
          have G2_33 := hid (E33.heap G2_32.out (fun h => h))
          clear hr
          go_wp2_with fail
          refine ⟨In.of XV33.out, ?_⟩
          have S34 := hid (src_at (P := Try.prog) Try.underlying31 G1_33.out rfl rfl rfl)
          obtain ⟨cells34, own34, hr34⟩ := R33.out
          have O34 := hid own34
          have H34 := hid hr34
          have BB := hid T33.out.size
          clear own34 hr34
          refine wpList_app _ rfl (.tmp 71) (.tmp 73) 31 31 rfl V32.heap.size 33 i0 _ 3 48 Try.underlying31 I0.out I1.out I2.out I3.out rfl _ ps.length cells34 rfl O34.out _ 1 _ rfl S34.out ?_ ?_ ?_ ?_
          · unfold maxLen; omega
          · omega
          · exact BB.out
          intro v1 V34 own grow blk _
          have Y1 := hid (typs_app O34.out H34.out (IsTy.of (k := 1) (n := nI) (IsSl.nil _ _ _ _)) own grow blk)
          have XV34 := hid (XV33.out.grown grow (fun g hg => .inr (Nat.le_trans B1.out (R33.out.lt g hg).1)))
          have G2_34 := hid (((Ext.refl (fun b => Value.ownBlock u1 = some b) V33).grown grow (fun g hg => .inl hg)).heap G2_33.out (fun h => NE.out _ h rfl))
          clear own grow blk
          have Q34 := hid (Ext.refl none' V34)
          refine ⟨In.of XV34.out, ?_⟩
          go_wp2_with fail
          refine (CT2.out _ XV34.out).mono ?_
          rintro e V35 ⟨u2, rfl, hr, E35⟩
          have R35 := hid hr
          have T35 := hid E35
          have XV35 := hid (XV34.out.trans E35)
          have B2 := hid (show wa.heap.size ≤ V34.heap.size from XV34.out.size)
          have G2_35 := hid (E35.heap G2_34.out (fun h => h))
          have BS := hid (show V34.heap.size ≤ V34.heap.size from Q34.out.size)
          have Q35 := hid (Q34.out.trans E35)
          clear hr
          go_wp2_with fail
          refine ⟨In.of XV35.out, ?_⟩
          have S36 := hid (src_at (P := Try.prog) Try.underlying31 G2_35.out rfl rfl rfl)
          obtain ⟨cells36, own36, hr36⟩ := R35.out
          have O36 := hid own36
          have H36 := hid hr36
          have BB := hid T35.out.size
          clear own36 hr36
          refine wpList_app _ rfl (.tmp 77) (.tmp 79) 31 31 rfl V34.heap.size 33 i0 _ 3 48 Try.underlying31 I0.out I1.out I2.out I3.out rfl _ ts.length cells36 rfl O36.out _ 1 _ rfl S36.out ?_ ?_ ?_ ?_
          · unfold maxLen; omega
          · omega
          · exact BB.out
          intro v2 V36 own grow blk _
          have Y2 := hid (typs_app O36.out H36.out (IsTy.of (k := 1) (n := nI) (IsSl.nil _ _ _ _)) own grow blk)
          have XV36 := hid (XV35.out.grown grow (fun g hg => .inr (Nat.le_trans B2.out (R35.out.lt g hg).1)))
          have Q36 := hid (Q35.out.grown grow (fun g hg => .inr (Nat.le_trans BS.out (R35.out.lt g hg).1)))
          clear own grow blk
          refine ⟨In.of XV36.out, ?_⟩
          have Z1 := hid (Y1.out.ext isTy_good Q36.out fun _ _ h => h)
          go_wp2_with fail
          refine (CFM.out _ XV36.out _ _ Z1.out Y2.out).mono ?_
          rintro e VZ ⟨u, rfl, hu, XE, hn, hz⟩
          have XT := hid (XV36.out.trans XE)
          have M := hid (UmMid.mk rfl hu XT.out hn hz)
          clear hu XE hn hz
          go_wp2_with fail
          refine ⟨In.of XT.out, ?_⟩
          go_wp2_with fail
          refine ⟨In.of XT.out, In.of XT.out, ?_⟩
          change wpQuiet _ _ (fun w' => ∃ t : LaterF none' wa, w' = t.w) _ _ _
          repeat (go_big_quiet_step (fail))
          refine wpQuiet_nil ?_
          go_wp2_with fail
          refine ⟨In.of XT.out, ?_⟩
          go_wp2_with fail
          go_meet
          case rel => exact M
      · skip
        obtain ⟨V37, hV37⟩ : ∃ V37, V37 = (wa.alloc (.cells #[.int .i64 1, .string ⟨#[105, 110, 116]⟩, .slice none 0 0] 33 (0, 0))).drew := ⟨_, rfl⟩
        obtain ⟨P2, hP2⟩ : ∃ P2, P2 = wa.heap.size := ⟨_, rfl⟩
        go_wp2_with fail
        rw [← hV37, ← hP2]
        have XV37 : Hid (Ext none' wa V37) := hid (by rw [hV37]; exact ((Ext.refl none' wa).alloc _).drew)
        have G2_37 : Hid (V37.heap[P2]? = some (.cells #[.int .i64 1, .string ⟨#[105, 110, 116]⟩, .slice none 0 0] 33 (0, 0))) := hid (by rw [hV37, hP2]; exact heap_alloc_at rfl _)
        clear hV37 hP2
        refine ⟨In.of XV37.out, ?_⟩
        refine ⟨?_, ?_⟩
        · skip
          go_wp2_with fail
          refine (CT1.out _ XV37.out).mono ?_
          rintro e V38 ⟨u1, rfl, hr, E38⟩
          have R38 := hid hr
          have T38 := hid E38
          have XV38 := hid (XV37.out.trans E38)
          have B1 := hid (show wa.heap.size ≤ V37.heap.size from XV37.out.size)
          have NE : Hid (∀ g, Value.ownBlock u1 = some g → g ≠ P2) := hid fun g hg => by have := (hr.lt g hg).1; have := heap_lt G2_37.out; omega
          have G2_38 := hid (E38.heap G2_37.out (fun h => h))
          clear hr
          go_wp2_with fail
          refine ⟨In.of XV38.out, ?_⟩
          obtain ⟨V39, hV39⟩ : ∃ V39, V39 = V38.alloc (.cells #[.int .i64 1, .string ⟨#[105, 110, 116]⟩, .slice none 0 0] 33 (0, 0)) := ⟨_, rfl⟩
          obtain ⟨P1, hP1⟩ : ∃ P1, P1 = V38.heap.size := ⟨_, rfl⟩
          go_wp2_with fail
          rw [← hV39, ← hP1]
          have E39 : Ext none' V38 V39 := by rw [hV39]; exact (Ext.refl _ _).alloc _
          have XV39 : Hid (Ext none' wa V39) := hid (XV38.out.trans E39)
          have G1_39 : Hid (V39.heap[P1]? = some (.cells #[.int .i64 1, .string ⟨#[105, 110, 116]⟩, .slice none 0 0] 33 (0, 0))) := hid (by rw [hV39, hP1]; exact heap_alloc_at rfl _)
          have G2_39 := hid (E39.heap G2_38.out (fun h => h))
          have R39 := hid (R38.out.ext isTy_good E39 (fun _ _ h => h.elim) (fun _ _ h => h))
          have T39 := hid (T38.out.trans E39)
          clear hV39 hP1
          refine ⟨In.of XV39.out, ?_⟩
          have S40 := hid (src_at (P := Try.prog) Try.underlying31 G1_39.out rfl rfl rfl)
          obtain ⟨cells40, own40, hr40⟩ := R39.out
          have O40 := hid own40
          have H40 := hid hr40
          have BB := hid T39.out.size
          clear own40 hr40
          refine wpList_app _ rfl (.tmp 71) (.tmp 73) 31 31 rfl V37.heap.size 33 i0 _ 3 48 Try.underlying31 I0.out I1.out I2.out I3.out rfl _ ps.length cells40 rfl O40.out _ 1 _ rfl S40.out ?_ ?_ ?_ ?_
          · unfold maxLen; omega
          · omega
          · exact BB.out
          intro v1 V40 own grow blk _
          have Y1 := hid (typs_app O40.out H40.out (IsTy.of (k := 1) (n := nI) (IsSl.nil _ _ _ _)) own grow blk)
          have XV40 := hid (XV39.out.grown grow (fun g hg => .inr (Nat.le_trans B1.out (R39.out.lt g hg).1)))
          have G2_40 := hid (((Ext.refl (fun b => Value.ownBlock u1 = some b) V39).grown grow (fun g hg => .inl hg)).heap G2_39.out (fun h => NE.out _ h rfl))
          clear own grow blk
          have Q40 := hid (Ext.refl none' V40)
          refine ⟨In.of XV40.out, ?_⟩
          go_wp2_with fail
          refine (CT2.out _ XV40.out).mono ?_
          rintro e V41 ⟨u2, rfl, hr, E41⟩
          have R41 := hid hr
          have T41 := hid E41
          have XV41 := hid (XV40.out.trans E41)
          have B2 := hid (show wa.heap.size ≤ V40.heap.size from XV40.out.size)
          have G2_41 := hid (E41.heap G2_40.out (fun h => h))
          have BS := hid (show V40.heap.size ≤ V40.heap.size from Q40.out.size)
          have Q41 := hid (Q40.out.trans E41)
          clear hr
          go_wp2_with fail
          refine ⟨In.of XV41.out, ?_⟩
          have S42 := hid (src_at (P := Try.prog) Try.underlying31 G2_41.out rfl rfl rfl)
          obtain ⟨cells42, own42, hr42⟩ := R41.out
          have O42 := hid own42
          have H42 := hid hr42
          have BB := hid T41.out.size
          clear own42 hr42
          refine wpList_app _ rfl (.tmp 77) (.tmp 79) 31 31 rfl V40.heap.size 33 i0 _ 3 48 Try.underlying31 I0.out I1.out I2.out I3.out rfl _ ts.length cells42 rfl O42.out _ 1 _ rfl S42.out ?_ ?_ ?_ ?_
          · unfold maxLen; omega
          · omega
          · exact BB.out
          intro v2 V42 own grow blk _
          have Y2 := hid (typs_app O42.out H42.out (IsTy.of (k := 1) (n := nI) (IsSl.nil _ _ _ _)) own grow blk)
          have XV42 := hid (XV41.out.grown grow (fun g hg => .inr (Nat.le_trans B2.out (R41.out.lt g hg).1)))
          have Q42 := hid (Q41.out.grown grow (fun g hg => .inr (Nat.le_trans BS.out (R41.out.lt g hg).1)))
          clear own grow blk
          refine ⟨In.of XV42.out, ?_⟩
          have Z1 := hid (Y1.out.ext isTy_good Q42.out fun _ _ h => h)
          go_wp2_with fail
          refine (CFM.out _ XV42.out _ _ Z1.out Y2.out).mono ?_
          rintro e VZ ⟨u, rfl, hu, XE, hn, hz⟩
          have XT := hid (XV42.out.trans XE)
          have M := hid (UmMid.mk rfl hu XT.out hn hz)
          clear hu XE hn hz
          go_wp2_with fail
          refine ⟨In.of XT.out, ?_⟩
          go_wp2_with fail
          refine ⟨In.of XT.out, In.of XT.out, ?_⟩
          change wpQuiet _ _ (fun w' => ∃ t : LaterF none' wa, w' = t.w) _ _ _
          repeat (go_big_quiet_step (fail))
          refine wpQuiet_nil ?_
          go_wp2_with fail
          refine ⟨In.of XT.out, ?_⟩
          go_wp2_with fail
          go_meet
          case rel => exact M
        · skip
          obtain ⟨V43, hV43⟩ : ∃ V43, V43 = V37.alloc (.cells #[.int .i64 1, .string ⟨#[105, 110, 116]⟩, .slice none 0 0] 33 (0, 0)) := ⟨_, rfl⟩
          obtain ⟨P1, hP1⟩ : ∃ P1, P1 = V37.heap.size := ⟨_, rfl⟩
          go_wp2_with fail
          rw [← hV43, ← hP1]
          have E43 : Ext none' V37 V43 := by rw [hV43]; exact (Ext.refl _ _).alloc _
          have XV43 : Hid (Ext none' wa V43) := hid (XV37.out.trans E43)
          have G1_43 : Hid (V43.heap[P1]? = some (.cells #[.int .i64 1, .string ⟨#[105, 110, 116]⟩, .slice none 0 0] 33 (0, 0))) := hid (by rw [hV43, hP1]; exact heap_alloc_at rfl _)
          have G2_43 := hid (E43.heap G2_37.out (fun h => h))
          clear hV43 hP1
          refine ⟨In.of XV43.out, ?_⟩
          go_wp2_with fail
          refine (CT1.out _ XV43.out).mono ?_
          rintro e V44 ⟨u1, rfl, hr, E44⟩
          have R44 := hid hr
          have T44 := hid E44
          have XV44 := hid (XV43.out.trans E44)
          have B1 := hid (show wa.heap.size ≤ V43.heap.size from XV43.out.size)
          have G1_44 := hid (E44.heap G1_43.out (fun h => h))
          have NE : Hid (∀ g, Value.ownBlock u1 = some g → g ≠ P2) := hid fun g hg => by have := (hr.lt g hg).1; have := heap_lt G2_43.out; omega
          have G2_44 := hid (E44.heap G2_43.out (fun h => h))
          clear hr
          go_wp2_with fail
          refine ⟨In.of XV44.out, ?_⟩
          have S45 := hid (src_at (P := Try.prog) Try.underlying31 G1_44.out rfl rfl rfl)
          obtain ⟨cells45, own45, hr45⟩ := R44.out
          have O45 := hid own45
          have H45 := hid hr45
          have BB := hid T44.out.size
          clear own45 hr45
          refine wpList_app _ rfl (.tmp 71) (.tmp 73) 31 31 rfl V43.heap.size 33 i0 _ 3 48 Try.underlying31 I0.out I1.out I2.out I3.out rfl _ ps.length cells45 rfl O45.out _ 1 _ rfl S45.out ?_ ?_ ?_ ?_
          · unfold maxLen; omega
          · omega
          · exact BB.out
          intro v1 V45 own grow blk _
          have Y1 := hid (typs_app O45.out H45.out (IsTy.of (k := 1) (n := nI) (IsSl.nil _ _ _ _)) own grow blk)
          have XV45 := hid (XV44.out.grown grow (fun g hg => .inr (Nat.le_trans B1.out (R44.out.lt g hg).1)))
          have G2_45 := hid (((Ext.refl (fun b => Value.ownBlock u1 = some b) V44).grown grow (fun g hg => .inl hg)).heap G2_44.out (fun h => NE.out _ h rfl))
          clear own grow blk
          have Q45 := hid (Ext.refl none' V45)
          refine ⟨In.of XV45.out, ?_⟩
          go_wp2_with fail
          refine (CT2.out _ XV45.out).mono ?_
          rintro e V46 ⟨u2, rfl, hr, E46⟩
          have R46 := hid hr
          have T46 := hid E46
          have XV46 := hid (XV45.out.trans E46)
          have B2 := hid (show wa.heap.size ≤ V45.heap.size from XV45.out.size)
          have G2_46 := hid (E46.heap G2_45.out (fun h => h))
          have BS := hid (show V45.heap.size ≤ V45.heap.size from Q45.out.size)
          have Q46 := hid (Q45.out.trans E46)
          clear hr
          go_wp2_with fail
          refine ⟨In.of XV46.out, ?_⟩
          have S47 := hid (src_at (P := Try.prog) Try.underlying31 G2_46.out rfl rfl rfl)
          obtain ⟨cells47, own47, hr47⟩ := R46.out
          have O47 := hid own47
          have H47 := hid hr47
          have BB := hid T46.out.size
          clear own47 hr47
          refine wpList_app _ rfl (.tmp 77) (.tmp 79) 31 31 rfl V45.heap.size 33 i0 _ 3 48 Try.underlying31 I0.out I1.out I2.out I3.out rfl _ ts.length cells47 rfl O47.out _ 1 _ rfl S47.out ?_ ?_ ?_ ?_
          · unfold maxLen; omega
          · omega
          · exact BB.out
          intro v2 V47 own grow blk _
          have Y2 := hid (typs_app O47.out H47.out (IsTy.of (k := 1) (n := nI) (IsSl.nil _ _ _ _)) own grow blk)
          have XV47 := hid (XV46.out.grown grow (fun g hg => .inr (Nat.le_trans B2.out (R46.out.lt g hg).1)))
          have Q47 := hid (Q46.out.grown grow (fun g hg => .inr (Nat.le_trans BS.out (R46.out.lt g hg).1)))
          clear own grow blk
          refine ⟨In.of XV47.out, ?_⟩
          have Z1 := hid (Y1.out.ext isTy_good Q47.out fun _ _ h => h)
          go_wp2_with fail
          refine (CFM.out _ XV47.out _ _ Z1.out Y2.out).mono ?_
          rintro e VZ ⟨u, rfl, hu, XE, hn, hz⟩
          have XT := hid (XV47.out.trans XE)
          have M := hid (UmMid.mk rfl hu XT.out hn hz)
          clear hu XE hn hz
          go_wp2_with fail
          refine ⟨In.of XT.out, ?_⟩
          go_wp2_with fail
          refine ⟨In.of XT.out, In.of XT.out, ?_⟩
          change wpQuiet _ _ (fun w' => ∃ t : LaterF none' wa, w' = t.w) _ _ _
          repeat (go_big_quiet_step (fail))
          refine wpQuiet_nil ?_
          go_wp2_with fail
          refine ⟨In.of XT.out, ?_⟩
          go_wp2_with fail
          go_meet
          case rel => exact M
    obtain ⟨he, hv, hx, _, _⟩ := hcut.out
    rename World => wb
    rw [HOB.out] at he
    rw [HOL.out] at hv
    subst he
    have HV2 := hid hv
    obtain ⟨ac, cc, rfl, _⟩ := hv
    have HVb := hid (HV.out.ext isTy_good hx fun _ _ h => h)
    have GBb := hid (hx.heap GBa.out (fun h => h))
    have GNb := hid (hx.heap GNa.out (fun h => h))
    have GSb := hid (hx.heap GSa.out (fun h => h))
    have VDb := hid (VDa.out.ext isDf_good hx fun _ _ h => h)
    have XB := hid (XA.out.trans hx)
    clear hx CT1 CT2 CFM
    have CT1 := hid fun (W : World) (X : Ext none' wb W) => C1.out W (XB.out.trans X)
    have CT2 := hid fun (W : World) (X : Ext none' wb W) => C2.out W (XB.out.trans X)
    have CFO := hid fun (W : World) (X : Ext none' wb W) v1 v2 h1 h2 => F3.out W (XB.out.trans X) vd v1 v2 (VDb.out.ext isDf_good X fun _ _ h => h) h1 h2
    go_upto_region 9 with (fail)
    go_cut [12, 13] from 84 to 103 (fun y z wx => Hid (UmMid none wb y z wx))
    case first =>
      have k0 := fun t' : LaterF none' wb => cell_at (t'.x.heap GBb.out (fun h => h)) 0
      have k1 := fun t' : LaterF none' wb => cell_at (t'.x.heap GBb.out (fun h => h)) 1
      have k2 := fun t' : LaterF none' wb => cell_at (t'.x.heap GBb.out (fun h => h)) 2
      have n0 := fun t' : LaterF none' wb => cell_at (t'.x.heap GNb.out (fun h => h)) 0
      have n1 := fun t' : LaterF none' wb => cell_at (t'.x.heap GNb.out (fun h => h)) 1
      have n2 := fun t' : LaterF none' wb => cell_at (t'.x.heap GNb.out (fun h => h)) 2
      have m0 := fun t' : LaterF none' wb => cell_at (t'.x.heap GSb.out (fun h => h)) 0
      have m1 := fun t' : LaterF none' wb => cell_at (t'.x.heap GSb.out (fun h => h)) 1
      have m2 := fun t' : LaterF none' wb => cell_at (t'.x.heap GSb.out (fun h => h)) 2
      simp only [List.getElem?_toArray, List.getElem?_cons_zero, List.getElem?_cons_succ] at k0 k1 k2 n0 n1 n2 m0 m1 m2
      refine region_z none' wb (.qs [0, 1, 2, 3, 4, 6, 9, 10, 12] (.three 5 true (.two 7 true (.two 8 true (.two 11 true (.one 13 true (.one 14 true (.one 15 true (.one 16 true (.qs [17, 18] (.one 19 true (.one 20 false .fin))))))) 13 true (.one 11 true (.one 14 true (.one 15 true (.one 16 true (.qs [17, 18] (.one 19 true (.one 20 false .fin)))))))) 13 true (.one 8 true (.one 11 true (.one 14 true (.one 15 true (.one 16 true (.qs [17, 18] (.one 19 true (.one 20 false .fin))))))))) 13 true (.one 7 true (.one 8 true (.one 11 true (.one 14 true (.one 15 true (.one 16 true (.qs [17, 18] (.one 19 true (.one 20 false .fin)))))))))) 7 true (.two 5 true (.two 8 true (.two 11 true (.one 13 true (.one 14 true (.one 15 true (.one 16 true (.qs [17, 18] (.one 19 true (.one 20 false .fin))))))) 13 true (.one 11 true (.one 14 true (.one 15 true (.one 16 true (.qs [17, 18] (.one 19 true (.one 20 false .fin)))))))) 13 true (.one 8 true (.one 11 true (.one 14 true (.one 15 true (.one 16 true (.qs [17, 18] (.one 19 true (.one 20 false .fin))))))))) 13 true (.one 5 true (.one 8 true (.one 11 true (.one 14 true (.one 15 true (.one 16 true (.qs [17, 18] (.one 19 true (.one 20 false .fin)))))))))) 13 true (.two 5 true (.one 7 true (.one 8 true (.one 11 true (.one 14 true (.one 15 true (.one 16 true (.qs [17, 18] (.one 19 true (.one 20 false .fin))))))))) 7 true (.one 5 true (.one 8 true (.one 11 true (.one 14 true (.one 15 true (.one 16 true (.qs [17, 18] (.one 19 true (.one 20 false .fin)))))))))))) (by kernel_rfl) (by kernel_rfl) (fun dst v c a w h => by cases dst <;> exact h) ?_
      refine ⟨In.of (Ext.refl _ _).drew, ?_⟩
      change wpQuiet _ _ (fun w' => ∃ t : LaterF none' wb, w' = t.w) _ _ _
      simp only [sel, List.getElem?_cons_succ, List.getElem?_cons_zero]
      repeat (go_big_quiet_step (fail))
      refine wpQuiet_nil ?_
      simp only [wpTreeZ, stepT, sel, List.getElem?_cons_succ, List.getElem?_cons_zero]
      clear k0 k1 k2 n0 n1 n2 m0 m1 m2
      have D1 := hid (Ext.refl none' wb).drew
      refine ⟨?_, ?_, ?_⟩
      · skip
        go_wp2_with fail
        refine (CT1.out _ D1.out).mono ?_
        rintro e V1 ⟨u1, rfl, hr, E1⟩
        have R1 := hid hr
        have T1 := hid E1
        have XV1 := hid (D1.out.trans E1)
        have B1 := hid (show wb.heap.size ≤ wb.drew.heap.size from D1.out.size)
        clear hr
        go_wp2_with fail
        refine ⟨In.of XV1.out, ?_⟩
        refine ⟨?_, ?_⟩
        · skip
          obtain ⟨V2, hV2⟩ : ∃ V2, V2 = V1.alloc (.cells #[.int .i64 1, .string ⟨#[105, 110, 116]⟩, .slice none 0 0] 33 (0, 0)) := ⟨_, rfl⟩
          obtain ⟨P1, hP1⟩ : ∃ P1, P1 = V1.heap.size := ⟨_, rfl⟩
          go_wp2_with fail
          rw [← hV2, ← hP1]
          have E2 : Ext none' V1 V2 := by rw [hV2]; exact (Ext.refl _ _).alloc _
          have XV2 : Hid (Ext none' wb V2) := hid (XV1.out.trans E2)
          have G1_2 : Hid (V2.heap[P1]? = some (.cells #[.int .i64 1, .string ⟨#[105, 110, 116]⟩, .slice none 0 0] 33 (0, 0))) := hid (by rw [hV2, hP1]; exact heap_alloc_at rfl _)
          have R2 := hid (R1.out.ext isTy_good E2 (fun _ _ h => h.elim) (fun _ _ h => h))
          have T2 := hid (T1.out.trans E2)
          clear hV2 hP1
          refine ⟨In.of XV2.out, ?_⟩
          refine ⟨?_, ?_⟩
          · skip
            have S3 := hid (src_at (P := Try.prog) Try.underlying31 G1_2.out rfl rfl rfl)
            obtain ⟨cells3, own3, hr3⟩ := R2.out
            have O3 := hid own3
            have H3 := hid hr3
            have BB := hid T2.out.size
            clear own3 hr3
            refine wpList_app _ rfl (.tmp 90) (.tmp 92) 31 31 rfl wb.drew.heap.size 33 i0 _ 3 48 Try.underlying31 I0.out I1.out I2.out I3.out rfl _ ps.length cells3 rfl O3.out _ 1 _ rfl S3.out ?_ ?_ ?_ ?_
            · unfold maxLen; omega
            · omega
            · exact BB.out
            intro v1 V3 own grow blk _
            have Y1 := hid (typs_app O3.out H3.out (IsTy.of (k := 1) (n := nI) (IsSl.nil _ _ _ _)) own grow blk)
            have XV3 := hid (XV2.out.grown grow (fun g hg => .inr (Nat.le_trans B1.out (R2.out.lt g hg).1)))
            clear own grow blk
            have Q3 := hid (Ext.refl none' V3)
            refine ⟨In.of XV3.out, ?_⟩
            refine ⟨?_, ?_⟩
            · skip
              go_wp2_with fail
              refine (CT2.out _ XV3.out).mono ?_
              rintro e V4 ⟨u2, rfl, hr, E4⟩
              have R4 := hid hr
              have T4 := hid E4
              have XV4 := hid (XV3.out.trans E4)
              have B2 := hid (show wb.heap.size ≤ V3.heap.size from XV3.out.size)
              have BS := hid (show V3.heap.size ≤ V3.heap.size from Q3.out.size)
              have Q4 := hid (Q3.out.trans E4)
              clear hr
              go_wp2_with fail
              refine ⟨In.of XV4.out, ?_⟩
              obtain ⟨V5, hV5⟩ : ∃ V5, V5 = V4.alloc (.cells #[.int .i64 1, .string ⟨#[115, 116, 114, 105, 110, 103]⟩, .slice none 0 0] 33 (0, 0)) := ⟨_, rfl⟩
              obtain ⟨P2, hP2⟩ : ∃ P2, P2 = V4.heap.size := ⟨_, rfl⟩
              go_wp2_with fail
              rw [← hV5, ← hP2]
              have E5 : Ext none' V4 V5 := by rw [hV5]; exact (Ext.refl _ _).alloc _
              have XV5 : Hid (Ext none' wb V5) := hid (XV4.out.trans E5)
              have G2_5 : Hid (V5.heap[P2]? = some (.cells #[.int .i64 1, .string ⟨#[115, 116, 114, 105, 110, 103]⟩, .slice none 0 0] 33 (0, 0))) := hid (by rw [hV5, hP2]; exact heap_alloc_at rfl _)
              have R5 := hid (R4.out.ext isTy_good E5 (fun _ _ h => h.elim) (fun _ _ h => h))
              have T5 := hid (T4.out.trans E5)
              have Q5 := hid (Q4.out.trans E5)
              clear hV5 hP2
              refine ⟨In.of XV5.out, ?_⟩
              have S6 := hid (src_at (P := Try.prog) Try.underlying31 G2_5.out rfl rfl rfl)
              obtain ⟨cells6, own6, hr6⟩ := R5.out
              have O6 := hid own6
              have H6 := hid hr6
              have BB := hid T5.out.size
              clear own6 hr6
              refine wpList_app _ rfl (.tmp 96) (.tmp 98) 31 31 rfl V3.heap.size 33 i0 _ 3 48 Try.underlying31 I0.out I1.out I2.out I3.out rfl _ ts.length cells6 rfl O6.out _ 1 _ rfl S6.out ?_ ?_ ?_ ?_
              · unfold maxLen; omega
              · omega
              · exact BB.out
              intro v2 V6 own grow blk _
              have Y2 := hid (typs_app O6.out H6.out (IsTy.of (k := 1) (n := [115, 116, 114, 105, 110, 103]) (IsSl.nil _ _ _ _)) own grow blk)
              have XV6 := hid (XV5.out.grown grow (fun g hg => .inr (Nat.le_trans B2.out (R5.out.lt g hg).1)))
              have Q6 := hid (Q5.out.grown grow (fun g hg => .inr (Nat.le_trans BS.out (R5.out.lt g hg).1)))
              clear own grow blk
              refine ⟨In.of XV6.out, ?_⟩
              have Z1 := hid (Y1.out.ext isTy_good Q6.out fun _ _ h => h)
              go_wp2_with fail
              refine (CFO.out _ XV6.out _ _ Z1.out Y2.out).mono ?_
              rintro e VZ ⟨u, rfl, hu, XE, hn, hz⟩
              have XT := hid (XV6.out.trans XE)
              have M := hid (UmMid.mk rfl hu XT.out hn hz)
              clear hu XE hn hz
              go_wp2_with fail
              refine ⟨In.of XT.out, ?_⟩
              go_wp2_with fail
              refine ⟨In.of XT.out, In.of XT.out, ?_⟩
              change wpQuiet _ _ (fun w' => ∃ t : LaterF none' wb, w' = t.w) _ _ _
              repeat (go_big_quiet_step (fail))
              refine wpQuiet_nil ?_
              go_wp2_with fail
              refine ⟨In.of XT.out, ?_⟩
              go_wp2_with fail
              go_meet
              case rel => exact M
            · skip
              obtain ⟨V7, hV7⟩ : ∃ V7, V7 = V3.alloc (.cells #[.int .i64 1, .string ⟨#[115, 116, 114, 105, 110, 103]⟩, .slice none 0 0] 33 (0, 0)) := ⟨_, rfl⟩
              obtain ⟨P2, hP2⟩ : ∃ P2, P2 = V3.heap.size := ⟨_, rfl⟩
              go_wp2_with fail
              rw [← hV7, ← hP2]
              have E7 : Ext none' V3 V7 := by rw [hV7]; exact (Ext.refl _ _).alloc _
              have XV7 : Hid (Ext none' wb V7) := hid (XV3.out.trans E7)
              have G2_7 : Hid (V7.heap[P2]? = some (.cells #[.int .i64 1, .string ⟨#[115, 116, 114, 105, 110, 103]⟩, .slice none 0 0] 33 (0, 0))) := hid (by rw [hV7, hP2]; exact heap_alloc_at rfl _)
              have Q7 := hid (Q3.out.trans E7)
              clear hV7 hP2
              refine ⟨In.of XV7.out, ?_⟩
              go_wp2_with fail
              refine (CT2.out _ XV7.out).mono ?_
              rintro e V8 ⟨u2, rfl, hr, E8⟩
              have R8 := hid hr
              have T8 := hid E8
              have XV8 := hid (XV7.out.trans E8)
              have B2 := hid (show wb.heap.size ≤ V7.heap.size from XV7.out.size)
              have G2_8 := hid (E8.heap G2_7.out (fun h => h))
              have BS := hid (show V3.heap.size ≤ V7.heap.size from Q7.out.size)
              have Q8 := hid (Q7.out.trans E8)
              clear hr
              go_wp2_with fail
              refine ⟨In.of XV8.out, ?_⟩
              have S9 := hid (src_at (P := Try.prog) Try.underlying31 G2_8.out rfl rfl rfl)
              obtain ⟨cells9, own9, hr9⟩ := R8.out
              have O9 := hid own9
              have H9 := hid hr9
              have BB := hid T8.out.size
              clear own9 hr9
              refine wpList_app _ rfl (.tmp 96) (.tmp 98) 31 31 rfl V7.heap.size 33 i0 _ 3 48 Try.underlying31 I0.out I1.out I2.out I3.out rfl _ ts.length cells9 rfl O9.out _ 1 _ rfl S9.out ?_ ?_ ?_ ?_
              · unfold maxLen; omega
              · omega
              · exact BB.out
              intro v2 V9 own grow blk _
              have Y2 := hid (typs_app O9.out H9.out (IsTy.of (k := 1) (n := [115, 116, 114, 105, 110, 103]) (IsSl.nil _ _ _ _)) own grow blk)
              have XV9 := hid (XV8.out.grown grow (fun g hg => .inr (Nat.le_trans B2.out (R8.out.lt g hg).1)))
              have Q9 := hid (Q8.out.grown grow (fun g hg => .inr (Nat.le_trans BS.out (R8.out.lt g hg).1)))
              clear own grow blk
              refine ⟨In.of XV9.out, ?_⟩
              have Z1 := hid (Y1.out.ext isTy_good Q9.out fun _ _ h => h)
              go_wp2_with fail
              refine (CFO.out _ XV9.out _ _ Z1.out Y2.out).mono ?_
              rintro e VZ ⟨u, rfl, hu, XE, hn, hz⟩
              have XT := hid (XV9.out.trans XE)
              have M := hid (UmMid.mk rfl hu XT.out hn hz)
              clear hu XE hn hz
              go_wp2_with fail
              refine ⟨In.of XT.out, ?_⟩
              go_wp2_with fail
              refine ⟨In.of XT.out, In.of XT.out, ?_⟩
              change wpQuiet _ _ (fun w' => ∃ t : LaterF none' wb, w' = t.w) _ _ _
              repeat (go_big_quiet_step (fail))
              refine wpQuiet_nil ?_
              go_wp2_with fail
              refine ⟨In.of XT.out, ?_⟩
              go_wp2_with fail
              go_meet
              case rel => exact M
          · skip
            obtain ⟨V10, hV10⟩ : ∃ V10, V10 = V2.alloc (.cells #[.int .i64 1, .string ⟨#[115, 116, 114, 105, 110, 103]⟩, .slice none 0 0] 33 (0, 0)) := ⟨_, rfl⟩
            obtain ⟨P2, hP2⟩ : ∃ P2, P2 = V2.heap.size := ⟨_, rfl⟩
            go_wp2_with fail
            rw [← hV10, ← hP2]
            have E10 : Ext none' V2 V10 := by rw [hV10]; exact (Ext.refl _ _).alloc _
            have XV10 : Hid (Ext none' wb V10) := hid (XV2.out.trans E10)
            have G2_10 : Hid (V10.heap[P2]? = some (.cells #[.int .i64 1, .string ⟨#[115, 116, 114, 105, 110, 103]⟩, .slice none 0 0] 33 (0, 0))) := hid (by rw [hV10, hP2]; exact heap_alloc_at rfl _)
            have G1_10 := hid (E10.heap G1_2.out (fun h => h))
            have R10 := hid (R2.out.ext isTy_good E10 (fun _ _ h => h.elim) (fun _ _ h => h))
            have T10 := hid (T2.out.trans E10)
            have NE : Hid (∀ g, Value.ownBlock u1 = some g → g ≠ P2) := hid fun g hg => by have := (R2.out.lt g hg).2; omega
            clear hV10 hP2
            refine ⟨In.of XV10.out, ?_⟩
            have S11 := hid (src_at (P := Try.prog) Try.underlying31 G1_10.out rfl rfl rfl)
            obtain ⟨cells11, own11, hr11⟩ := R10.out
            have O11 := hid own11
            have H11 := hid hr11
            have BB := hid T10.out.size
            clear own11 hr11
            refine wpList_app _ rfl (.tmp 90) (.tmp 92) 31 31 rfl wb.drew.heap.size 33 i0 _ 3 48 Try.underlying31 I0.out I1.out I2.out I3.out rfl _ ps.length cells11 rfl O11.out _ 1 _ rfl S11.out ?_ ?_ ?_ ?_
            · unfold maxLen; omega
            · omega
            · exact BB.out
            intro v1 V11 own grow blk _
            have Y1 := hid (typs_app O11.out H11.out (IsTy.of (k := 1) (n := nI) (IsSl.nil _ _ _ _)) own grow blk)
            have XV11 := hid (XV10.out.grown grow (fun g hg => .inr (Nat.le_trans B1.out (R10.out.lt g hg).1)))
            have G2_11 := hid (((Ext.refl (fun b => Value.ownBlock u1 = some b) V10).grown grow (fun g hg => .inl hg)).heap G2_10.out (fun h => NE.out _ h rfl))
            clear own grow blk
            have Q11 := hid (Ext.refl none' V11)
            refine ⟨In.of XV11.out, ?_⟩
            go_wp2_with fail
            refine (CT2.out _ XV11.out).mono ?_
            rintro e V12 ⟨u2, rfl, hr, E12⟩
            have R12 := hid hr
            have T12 := hid E12
            have XV12 := hid (XV11.out.trans E12)
            have B2 := hid (show wb.heap.size ≤ V11.heap.size from XV11.out.size)
            have G2_12 := hid (E12.heap G2_11.out (fun h => h))
            have BS := hid (show V11.heap.size ≤ V11.heap.size from Q11.out.size)
            have Q12 := hid (Q11.out.trans E12)
            clear hr
            go_wp2_with fail
            refine ⟨In.of XV12.out, ?_⟩
            have S13 := hid (src_at (P := Try.prog) Try.underlying31 G2_12.out rfl rfl rfl)
            obtain ⟨cells13, own13, hr13⟩ := R12.out
            have O13 := hid own13
            have H13 := hid hr13
            have BB := hid T12.out.size
            clear own13 hr13
            refine wpList_app _ rfl (.tmp 96) (.tmp 98) 31 31 rfl V11.heap.size 33 i0 _ 3 48 Try.underlying31 I0.out I1.out I2.out I3.out rfl _ ts.length cells13 rfl O13.out _ 1 _ rfl S13.out ?_ ?_ ?_ ?_
            · unfold maxLen; omega
            · omega
            · exact BB.out
            intro v2 V13 own grow blk _
            have Y2 := hid (typs_app O13.out H13.out (IsTy.of (k := 1) (n := [115, 116, 114, 105, 110, 103]) (IsSl.nil _ _ _ _)) own grow blk)
            have XV13 := hid (XV12.out.grown grow (fun g hg => .inr (Nat.le_trans B2.out (R12.out.lt g hg).1)))
            have Q13 := hid (Q12.out.grown grow (fun g hg => .inr (Nat.le_trans BS.out (R12.out.lt g hg).1)))
            clear own grow blk
            refine ⟨In.of XV13.out, ?_⟩
            have Z1 := hid (Y1.out.ext isTy_good Q13.out fun _ _ h => h)
            go_wp2_with fail
            refine (CFO.out _ XV13.out _ _ Z1.out Y2.out).mono ?_
            rintro e VZ ⟨u, rfl, hu, XE, hn, hz⟩
            have XT := hid (XV13.out.trans XE)
            have M := hid (UmMid.mk rfl hu XT.out hn hz)
            clear hu XE hn hz
            go_wp2_with fail
            refine ⟨In.of XT.out, ?_⟩
            go_wp2_with fail
            refine ⟨In.of XT.out, In.of XT.out, ?_⟩
            change wpQuiet _ _ (fun w' => ∃ t : LaterF none' wb, w' = t.w) _ _ _
            repeat (go_big_quiet_step (fail))
            refine wpQuiet_nil ?_
            go_wp2_with fail
            refine ⟨In.of XT.out, ?_⟩
            go_wp2_with fail
            go_meet
            case rel => exact M
        · skip
          obtain ⟨V14, hV14⟩ : ∃ V14, V14 = V1.alloc (.cells #[.int .i64 1, .string ⟨#[115, 116, 114, 105, 110, 103]⟩, .slice none 0 0] 33 (0, 0)) := ⟨_, rfl⟩
          obtain ⟨P2, hP2⟩ : ∃ P2, P2 = V1.heap.size := ⟨_, rfl⟩
          go_wp2_with fail
          rw [← hV14, ← hP2]
          have E14 : Ext none' V1 V14 := by rw [hV14]; exact (Ext.refl _ _).alloc _
          have XV14 : Hid (Ext none' wb V14) := hid (XV1.out.trans E14)
          have G2_14 : Hid (V14.heap[P2]? = some (.cells #[.int .i64 1, .string ⟨#[115, 116, 114, 105, 110, 103]⟩, .slice none 0 0] 33 (0, 0))) := hid (by rw [hV14, hP2]; exact heap_alloc_at rfl _)
          have R14 := hid (R1.out.ext isTy_good E14 (fun _ _ h => h.elim) (fun _ _ h => h))
          have T14 := hid (T1.out.trans E14)
          have NE : Hid (∀ g, Value.ownBlock u1 = some g → g ≠ P2) := hid fun g hg => by have := (R1.out.lt g hg).2; omega
          clear hV14 hP2
          refine ⟨In.of XV14.out, ?_⟩
          obtain ⟨V15, hV15⟩ : ∃ V15, V15 = V14.alloc (.cells #[.int .i64 1, .string ⟨#[105, 110, 116]⟩, .slice none 0 0] 33 (0, 0)) := ⟨_, rfl⟩
          obtain ⟨P1, hP1⟩ : ∃ P1, P1 = V14.heap.size := ⟨_, rfl⟩
          go_wp2_with fail
          rw [← hV15, ← hP1]
          have E15 : Ext none' V14 V15 := by rw [hV15]; exact (Ext.refl _ _).alloc _
          have XV15 : Hid (Ext none' wb V15) := hid (XV14.out.trans E15)
          have G1_15 : Hid (V15.heap[P1]? = some (.cells #[.int .i64 1, .string ⟨#[105, 110, 116]⟩, .slice none 0 0] 33 (0, 0))) := hid (by rw [hV15, hP1]; exact heap_alloc_at rfl _)
          have G2_15 := hid (E15.heap G2_14.out (fun h => h))
          have R15 := hid (R14.out.ext isTy_good E15 (fun _ _ h => h.elim) (fun _ _ h => h))
          have T15 := hid (T14.out.trans E15)
          clear hV15 hP1
          refine ⟨In.of XV15.out, ?_⟩
          have S16 := hid (src_at (P := Try.prog) Try.underlying31 G1_15.out rfl rfl rfl)
          obtain ⟨cells16, own16, hr16⟩ := R15.out
          have O16 := hid own16
          have H16 := hid hr16
          have BB := hid T15.out.size
          clear own16 hr16
          refine wpList_app _ rfl (.tmp 90) (.tmp 92) 31 31 rfl wb.drew.heap.size 33 i0 _ 3 48 Try.underlying31 I0.out I1.out I2.out I3.out rfl _ ps.length cells16 rfl O16.out _ 1 _ rfl S16.out ?_ ?_ ?_ ?_
          · unfold maxLen; omega
          · omega
          · exact BB.out
          intro v1 V16 own grow blk _
          have Y1 := hid (typs_app O16.out H16.out (IsTy.of (k := 1) (n := nI) (IsSl.nil _ _ _ _)) own grow blk)
          have XV16 := hid (XV15.out.grown grow (fun g hg => .inr (Nat.le_trans B1.out (R15.out.lt g hg).1)))
          have G2_16 := hid (((Ext.refl (fun b => Value.ownBlock u1 = some b) V15).grown grow (fun g hg => .inl hg)).heap G2_15.out (fun h => NE.out _ h rfl))
          clear own grow blk
          have Q16 := hid (Ext.refl none' V16)
          refine ⟨In.of XV16.out, ?_⟩
          go_wp2_with fail
          refine (CT2.out _ XV16.out).mono ?_
          rintro e V17 ⟨u2, rfl, hr, E17⟩
          have R17 := hid hr
          have T17 := hid E17
          have XV17 := hid (XV16.out.trans E17)
          have B2 := hid (show wb.heap.size ≤ V16.heap.size from XV16.out.size)
          have G2_17 := hid (E17.heap G2_16.out (fun h => h))
          have BS := hid (show V16.heap.size ≤ V16.heap.size from Q16.out.size)
          have Q17 := hid (Q16.out.trans E17)
          clear hr
          go_wp2_with fail
          refine ⟨In.of XV17.out, ?_⟩
          have S18 := hid (src_at (P := Try.prog) Try.underlying31 G2_17.out rfl rfl rfl)
          obtain ⟨cells18, own18, hr18⟩ := R17.out
          have O18 := hid own18
          have H18 := hid hr18
          have BB := hid T17.out.size
          clear own18 hr18
          refine wpList_app _ rfl (.tmp 96) (.tmp 98) 31 31 rfl V16.heap.size 33 i0 _ 3 48 Try.underlying31 I0.out I1.out I2.out I3.out rfl _ ts.length cells18 rfl O18.out _ 1 _ rfl S18.out ?_ ?_ ?_ ?_
          · unfold maxLen; omega
          · omega
          · exact BB.out
          intro v2 V18 own grow blk _
          have Y2 := hid (typs_app O18.out H18.out (IsTy.of (k := 1) (n := [115, 116, 114, 105, 110, 103]) (IsSl.nil _ _ _ _)) own grow blk)
          have XV18 := hid (XV17.out.grown grow (fun g hg => .inr (Nat.le_trans B2.out (R17.out.lt g hg).1)))
          have Q18 := hid (Q17.out.grown grow (fun g hg => .inr (Nat.le_trans BS.out (R17.out.lt g hg).1)))
          clear own grow blk
          refine ⟨In.of XV18.out, ?_⟩
          have Z1 := hid (Y1.out.ext isTy_good Q18.out fun _ _ h => h)
          go_wp2_with fail
          refine (CFO.out _ XV18.out _ _ Z1.out Y2.out).mono ?_
          rintro e VZ ⟨u, rfl, hu, XE, hn, hz⟩
          have XT := hid (XV18.out.trans XE)
          have M := hid (UmMid.mk rfl hu XT.out hn hz)
          clear hu XE hn hz
          go_wp2_with fail
          refine ⟨In.of XT.out, ?_⟩
          go_wp2_with fail
          refine ⟨In.of XT.out, In.of XT.out, ?_⟩
          change wpQuiet _ _ (fun w' => ∃ t : LaterF none' wb, w' = t.w) _ _ _
          repeat (go_big_quiet_step (fail))
          refine wpQuiet_nil ?_
          go_wp2_with fail
          refine ⟨In.of XT.out, ?_⟩
          go_wp2_with fail
          go_meet
          case rel => exact M
      · skip
        obtain ⟨V19, hV19⟩ : ∃ V19, V19 = (wb.alloc (.cells #[.int .i64 1, .string ⟨#[105, 110, 116]⟩, .slice none 0 0] 33 (0, 0))).drew := ⟨_, rfl⟩
        obtain ⟨P1, hP1⟩ : ∃ P1, P1 = wb.heap.size := ⟨_, rfl⟩
        go_wp2_with fail
        rw [← hV19, ← hP1]
        have XV19 : Hid (Ext none' wb V19) := hid (by rw [hV19]; exact ((Ext.refl none' wb).alloc _).drew)
        have G1_19 : Hid (V19.heap[P1]? = some (.cells #[.int .i64 1, .string ⟨#[105, 110, 116]⟩, .slice none 0 0] 33 (0, 0))) := hid (by rw [hV19, hP1]; exact heap_alloc_at rfl _)
        clear hV19 hP1
        refine ⟨In.of XV19.out, ?_⟩
        refine ⟨?_, ?_⟩
        · skip
          go_wp2_with fail
          refine (CT1.out _ XV19.out).mono ?_
          rintro e V20 ⟨u1, rfl, hr, E20⟩
          have R20 := hid hr
          have T20 := hid E20
          have XV20 := hid (XV19.out.trans E20)
          have B1 := hid (show wb.heap.size ≤ V19.heap.size from XV19.out.size)
          have G1_20 := hid (E20.heap G1_19.out (fun h => h))
          clear hr
          go_wp2_with fail
          refine ⟨In.of XV20.out, ?_⟩
          refine ⟨?_, ?_⟩
          · skip
            have S21 := hid (src_at (P := Try.prog) Try.underlying31 G1_20.out rfl rfl rfl)
            obtain ⟨cells21, own21, hr21⟩ := R20.out
            have O21 := hid own21
            have H21 := hid hr21
            have BB := hid T20.out.size
            clear own21 hr21
            refine wpList_app _ rfl (.tmp 90) (.tmp 92) 31 31 rfl V19.heap.size 33 i0 _ 3 48 Try.underlying31 I0.out I1.out I2.out I3.out rfl _ ps.length cells21 rfl O21.out _ 1 _ rfl S21.out ?_ ?_ ?_ ?_
            · unfold maxLen; omega
            · omega
            · exact BB.out
            intro v1 V21 own grow blk _
            have Y1 := hid (typs_app O21.out H21.out (IsTy.of (k := 1) (n := nI) (IsSl.nil _ _ _ _)) own grow blk)
            have XV21 := hid (XV20.out.grown grow (fun g hg => .inr (Nat.le_trans B1.out (R20.out.lt g hg).1)))
            clear own grow blk
            have Q21 := hid (Ext.refl none' V21)
            refine ⟨In.of XV21.out, ?_⟩
            refine ⟨?_, ?_⟩
            · skip
              go_wp2_with fail
              refine (CT2.out _ XV21.out).mono ?_
              rintro e V22 ⟨u2, rfl, hr, E22⟩
              have R22 := hid hr
              have T22 := hid E22
              have XV22 := hid (XV21.out.trans E22)
              have B2 := hid (show wb.heap.size ≤ V21.heap.size from XV21.out.size)
              have BS := hid (show V21.heap.size ≤ V21.heap.size from Q21.out.size)
              have Q22 := hid (Q21.out.trans E22)
              clear hr
              go_wp2_with fail
              refine ⟨In.of XV22.out, ?_⟩
              obtain ⟨V23, hV23⟩ : ∃ V23, V23 = V22.alloc (.cells #[.int .i64 1, .string ⟨#[115, 116, 114, 105, 110, 103]⟩, .slice none 0 0] 33 (0, 0)) := ⟨_, rfl⟩
              obtain ⟨P2, hP2⟩ : ∃ P2, P2 = V22.heap.size := ⟨_, rfl⟩
              go_wp2_with fail
              rw [← hV23, ← hP2]
              have E23 : Ext none' V22 V23 := by rw [hV23]; exact (Ext.refl _ _).alloc _
              have XV23 : Hid (Ext none' wb V23) := hid (XV22.out.trans E23)
              have G2_23 : Hid (V23.heap[P2]? = some (.cells #[.int .i64 1, .string ⟨#[115, 116, 114, 105, 110, 103]⟩, .slice none 0 0] 33 (0, 0))) := hid (by rw [hV23, hP2]; exact heap_alloc_at rfl _)
              have R23 := hid (R22.out.ext isTy_good E23 (fun _ _ h => h.elim) (fun _ _ h => h))
              have T23 := hid (T22.out.trans E23)
              have Q23 := hid (Q22.out.trans E23)
              clear hV23 hP2
              refine ⟨In.of XV23.out, ?_⟩
              have S24 := hid (src_at (P := Try.prog) Try.underlying31 G2_23.out rfl rfl rfl)
              obtain ⟨cells24, own24, hr24⟩ := R23.out
              have O24 := hid own24
              have H24 := hid hr24
              have BB := hid T23.out.size
              clear own24 hr24
              refine wpList_app _ rfl (.tmp 96) (.tmp 98) 31 31 rfl V21.heap.size 33 i0 _ 3 48 Try.underlying31 I0.out I1.out I2.out I3.out rfl _ ts.length cells24 rfl O24.out _ 1 _ rfl S24.out ?_ ?_ ?_ ?_
              · unfold maxLen; omega
              · omega
              · exact BB.out
              intro v2 V24 own grow blk _
              have Y2 := hid (typs_app O24.out H24.out (IsTy.of (k := 1) (n := [115, 116, 114, 105, 110, 103]) (IsSl.nil _ _ _ _)) own grow blk)
              have XV24 := hid (XV23.out.grown grow (fun g hg => .inr (Nat.le_trans B2.out (R23.out.lt g hg).1)))
              have Q24 := hid (Q23.out.grown grow (fun g hg => .inr (Nat.le_trans BS.out (R23.out.lt g hg).1)))
              clear own grow blk
              refine ⟨In.of XV24.out, ?_⟩
              have Z1 := hid (Y1.out.ext isTy_good Q24.out fun _ _ h => h)
              go_wp2_with fail
              refine (CFO.out _ XV24.out _ _ Z1.out Y2.out).mono ?_
              rintro e VZ ⟨u, rfl, hu, XE, hn, hz⟩
              have XT := hid (XV24.out.trans XE)
              have M := hid (UmMid.mk rfl hu XT.out hn hz)
              clear hu XE hn hz
              go_wp2_with fail
              refine ⟨In.of XT.out, ?_⟩
              go_wp2_with fail
              refine ⟨In.of XT.out, In.of XT.out, ?_⟩
              change wpQuiet _ _ (fun w' => ∃ t : LaterF none' wb, w' = t.w) _ _ _
              repeat (go_big_quiet_step (fail))
              refine wpQuiet_nil ?_
              go_wp2_with fail
              refine ⟨In.of XT.out, ?_⟩
              go_wp2_with fail
              go_meet
              case rel => exact M
            · skip
              obtain ⟨V25, hV25⟩ : ∃ V25, V25 = V21.alloc (.cells #[.int .i64 1, .string ⟨#[115, 116, 114, 105, 110, 103]⟩, .slice none 0 0] 33 (0, 0)) := ⟨_, rfl⟩
              obtain ⟨P2, hP2⟩ : ∃ P2, P2 = V21.heap.size := ⟨_, rfl⟩
              go_wp2_with fail
              rw [← hV25, ← hP2]
              have E25 : Ext none' V21 V25 := by rw [hV25]; exact (Ext.refl _ _).alloc _
              have XV25 : Hid (Ext none' wb V25) := hid (XV21.out.trans E25)
              have G2_25 : Hid (V25.heap[P2]? = some (.cells #[.int .i64 1, .string ⟨#[115, 116, 114, 105, 110, 103]⟩, .slice none 0 0] 33 (0, 0))) := hid (by rw [hV25, hP2]; exact heap_alloc_at rfl _)
              have Q25 := hid (Q21.out.trans E25)
              clear hV25 hP2
              refine ⟨In.of XV25.out, ?_⟩
              go_wp2_with fail
              refine (CT2.out _ XV25.out).mono ?_
              rintro e V26 ⟨u2, rfl, hr, E26⟩
              have R26 := hid hr
              have T26 := hid E26
              have XV26 := hid (XV25.out.trans E26)
              have B2 := hid (show wb.heap.size ≤ V25.heap.size from XV25.out.size)
              have G2_26 := hid (E26.heap G2_25.out (fun h => h))
              have BS := hid (show V21.heap.size ≤ V25.heap.size from Q25.out.size)
              have Q26 := hid (Q25.out.trans E26)
              clear hr
              go_wp2_with fail
              refine ⟨In.of XV26.out, ?_⟩
              have S27 := hid (src_at (P := Try.prog) Try.underlying31 G2_26.out rfl rfl rfl)
              obtain ⟨cells27, own27, hr27⟩ := R26.out
              have O27 := hid own27
              have H27 := hid hr27
              have BB := hid T26.out.size
              clear own27 hr27
              refine wpList_app _ rfl (.tmp 96) (.tmp 98) 31 31 rfl V25.heap.size 33 i0 _ 3 48 Try.underlying31 I0.out I1.out I2.out I3.out rfl _ ts.length cells27 rfl O27.out _ 1 _ rfl S27.out ?_ ?_ ?_ ?_
              · unfold maxLen; omega
              · omega
              · exact BB.out
              intro v2 V27 own grow blk _
              have Y2 := hid (typs_app O27.out H27.out (IsTy.of (k := 1) (n := [115, 116, 114, 105, 110, 103]) (IsSl.nil _ _ _ _)) own grow blk)
              have XV27 := hid (XV26.out.grown grow (fun g hg => .inr (Nat.le_trans B2.out (R26.out.lt g hg).1)))
              have Q27 := hid (Q26.out.grown grow (fun g hg => .inr (Nat.le_trans BS.out (R26.out.lt g hg).1)))
              clear own grow blk
              refine ⟨In.of XV27.out, ?_⟩
              have Z1 := hid (Y1.out.ext isTy_good Q27.out fun _ _ h => h)
              go_wp2_with fail
              refine (CFO.out _ XV27.out _ _ Z1.out Y2.out).mono ?_
              rintro e VZ ⟨u, rfl, hu, XE, hn, hz⟩
              have XT := hid (XV27.out.trans XE)
              have M := hid (UmMid.mk rfl hu XT.out hn hz)
              clear hu XE hn hz
              go_wp2_with fail
              refine ⟨In.of XT.out, ?_⟩
              go_wp2_with fail
              refine ⟨In.of XT.out, In.of XT.out, ?_⟩
              change wpQuiet _ _ (fun w' => ∃ t : LaterF none' wb, w' = t.w) _ _ _
              repeat (go_big_quiet_step (fail))
              refine wpQuiet_nil ?_
              go_wp2_with fail
              refine ⟨In.of XT.out, ?_⟩
              go_wp2_with fail
              go_meet
              case rel => exact M
          · skip
            obtain ⟨V28, hV28⟩ : ∃ V28, V28 = V20.alloc (.cells #[.int .i64 1, .string ⟨#[115, 116, 114, 105, 110, 103]⟩, .slice none 0 0] 33 (0, 0)) := ⟨_, rfl⟩
            obtain ⟨P2, hP2⟩ : ∃ P2, P2 = V20.heap.size := ⟨_, rfl⟩
            go_wp2_with fail
            rw [← hV28, ← hP2]
            have E28 : Ext none' V20 V28 := by rw [hV28]; exact (Ext.refl _ _).alloc _
            have XV28 : Hid (Ext none' wb V28) := hid (XV20.out.trans E28)
            have G2_28 : Hid (V28.heap[P2]? = some (.cells #[.int .i64 1, .string ⟨#[115, 116, 114, 105, 110, 103]⟩, .slice none 0 0] 33 (0, 0))) := hid (by rw [hV28, hP2]; exact heap_alloc_at rfl _)
            have G1_28 := hid (E28.heap G1_20.out (fun h => h))
            have R28 := hid (R20.out.ext isTy_good E28 (fun _ _ h => h.elim) (fun _ _ h => h))
            have T28 := hid (T20.out.trans E28)
            have NE : Hid (∀ g, Value.ownBlock u1 = some g → g ≠ P2) := hid fun g hg => by have := (R20.out.lt g hg).2; omega
            clear hV28 hP2
            refine ⟨In.of XV28.out, ?_⟩
            have S29 := hid (src_at (P := Try.prog) Try.underlying31 G1_28.out rfl rfl rfl)
            obtain ⟨cells29, own29, hr29⟩ := R28.out
            have O29 := hid own29
            have H29 := hid hr29
            have BB := hid T28.out.size
            clear own29 hr29
            refine wpList_app _ rfl (.tmp 90) (.tmp 92) 31 31 rfl V19.heap.size 33 i0 _ 3 48 Try.underlying31 I0.out I1.out I2.out I3.out rfl _ ps.length cells29 rfl O29.out _ 1 _ rfl S29.out ?_ ?_ ?_ ?_
            · unfold maxLen; omega
            · omega
            · exact BB.out
            intro v1 V29 own grow blk _
            have Y1 := hid (typs_app O29.out H29.out (IsTy.of (k := 1) (n := nI) (IsSl.nil _ _ _ _)) own grow blk)
            have XV29 := hid (XV28.out.grown grow (fun g hg => .inr (Nat.le_trans B1.out (R28.out.lt g hg).1)))
            have G2_29 := hid (((Ext.refl (fun b => Value.ownBlock u1 = some b) V28).grown grow (fun g hg => .inl hg)).heap G2_28.out (fun h => NE.out _ h rfl))
            clear own grow blk
            have Q29 := hid (Ext.refl none' V29)
            refine ⟨In.of XV29.out, ?_⟩
            go_wp2_with fail
            refine (CT2.out _ XV29.out).mono ?_
            rintro e V30 ⟨u2, rfl, hr, E30⟩
            have R30 := hid hr
            have T30 := hid E30
            have XV30 := hid (XV29.out.trans E30)
            have B2 := hid (show wb.heap.size ≤ V29.heap.size from XV29.out.size)
            have G2_30 := hid (E30.heap G2_29.out (fun h => h))
            have BS := hid (show V29.heap.size ≤ V29.heap.size from Q29.out.size)
            have Q30 := hid (Q29.out.trans E30)
            clear hr
            go_wp2_with fail
            refine ⟨In.of XV30.out, ?_⟩
            have S31 := hid (src_at (P := Try.prog) Try.underlying31 G2_30.out rfl rfl rfl)
            obtain ⟨cells31, own31, hr31⟩ := R30.out
            have O31 := hid own31
            have H31 := hid hr31
            have BB := hid T30.out.size
            clear own31 hr31
            refine wpList_app _ rfl (.tmp 96) (.tmp 98) 31 31 rfl V29.heap.size 33 i0 _ 3 48 Try.underlying31 I0.out I1.out I2.out I3.out rfl _ ts.length cells31 rfl O31.out _ 1 _ rfl S31.out ?_ ?_ ?_ ?_
            · unfold maxLen; omega
            · omega
            · exact BB.out
            intro v2 V31 own grow blk _
            have Y2 := hid (typs_app O31.out H31.out (IsTy.of (k := 1) (n := [115, 116, 114, 105, 110, 103]) (IsSl.nil _ _ _ _)) own grow blk)
            have XV31 := hid (XV30.out.grown grow (fun g hg => .inr (Nat.le_trans B2.out (R30.out.lt g hg).1)))
            have Q31 := hid (Q30.out.grown grow (fun g hg => .inr (Nat.le_trans BS.out (R30.out.lt g hg).1)))
            clear own grow blk
            refine ⟨In.of XV31.out, ?_⟩
            have Z1 := hid (Y1.out.ext isTy_good Q31.out fun _ _ h => h)
            go_wp2_with fail
            refine (CFO.out _ XV31.out _ _ Z1.out Y2.out).mono ?_
            rintro e VZ ⟨u, rfl, hu, XE, hn, hz⟩
            have XT := hid (XV31.out.trans XE)
            have M := hid (UmMid.mk rfl hu XT.out hn hz)
            clear hu XE hn hz
            go_wp2_with fail
            refine ⟨In.of XT.out, ?_⟩
            go_wp2_with fail
            refine ⟨In.of XT.out, In.of XT.out, ?_⟩
            change wpQuiet _ _ (fun w' => ∃ t : LaterF none' wb, w' = t.w) _ _ _
            repeat (go_big_quiet_step (fail))
            refine wpQuiet_nil ?_
            go_wp2_with fail
            refine ⟨In.of XT.out, ?_⟩
            go_wp2_with fail
            go_meet
            case rel => exact M
        · skip
          obtain ⟨V32, hV32⟩ : ∃ V32, V32 = V19.alloc (.cells #[.int .i64 1, .string ⟨#[115, 116, 114, 105, 110, 103]⟩, .slice none 0 0] 33 (0, 0)) := ⟨_, rfl⟩
          obtain ⟨P2, hP2⟩ : ∃ P2, P2 = V19.heap.size := ⟨_, rfl⟩
          go_wp2_with fail
          rw [← hV32, ← hP2]
          have E32 : Ext none' V19 V32 := by rw [hV32]; exact (Ext.refl _ _).alloc _
          have XV32 : Hid (Ext none' wb V32) := hid (XV19.out.trans E32)
          have G2_32 : Hid (V32.heap[P2]? = some (.cells #[.int .i64 1, .string ⟨#[115, 116, 114, 105, 110, 103]⟩, .slice none 0 0] 33 (0, 0))) := hid (by rw [hV32, hP2]; exact heap_alloc_at rfl _)
          have G1_32 := hid (E32.heap G1_19.out (fun h => h))
          clear hV32 hP2
          refine ⟨In.of XV32.out, ?_⟩
          go_wp2_with fail
          refine (CT1.out _ XV32.out).mono ?_
          rintro e V33 ⟨u1, rfl, hr, E33⟩
          have R33 := hid hr
          have T33 := hid E33
          have XV33 := hid (XV32.out.trans E33)
          have B1 := hid (show wb.heap.size ≤ V32.heap.size from XV32.out.size)
          have G1_33 := hid (E33.heap G1_32.out (fun h => h))
          have NE : Hid (∀ g, Value.ownBlock u1 = some g → g ≠ P2) := hid fun g hg => by have := (hr.lt g hg).1; have := heap_lt G2_32.out; omega
          have G2_33 := hid (E33.heap G2_32.out (fun h => h))
          clear hr
          go_wp2_with fail
          refine ⟨In.of XV33.out, ?_⟩
          have S34 := hid (src_at (P := Try.prog) Try.underlying31 G1_33.out rfl rfl rfl)
          obtain ⟨cells34, own34, hr34⟩ := R33.out
          have O34 := hid own34
          have H34 := hid hr34
          have BB := hid T33.out.size
          clear own34 hr34
          refine wpList_app _ rfl (.tmp 90) (.tmp 92) 31 31 rfl V32.heap.size 33 i0 _ 3 48 Try.underlying31 I0.out I1.out I2.out I3.out rfl _ ps.length cells34 rfl O34.out _ 1 _ rfl S34.out ?_ ?_ ?_ ?_
          · unfold maxLen; omega
          · omega
          · exact BB.out
          intro v1 V34 own grow blk _
          have Y1 := hid (typs_app O34.out H34.out (IsTy.of (k := 1) (n := nI) (IsSl.nil _ _ _ _)) own grow blk)
          have XV34 := hid (XV33.out.grown grow (fun g hg => .inr (Nat.le_trans B1.out (R33.out.lt g hg).1)))
          have G2_34 := hid (((Ext.refl (fun b => Value.ownBlock u1 = some b) V33).grown grow (fun g hg => .inl hg)).heap G2_33.out (fun h => NE.out _ h rfl))
          clear own grow blk
          have Q34 := hid (Ext.refl none' V34)
          refine ⟨In.of XV34.out, ?_⟩
          go_wp2_with fail
          refine (CT2.out _ XV34.out).mono ?_
          rintro e V35 ⟨u2, rfl, hr, E35⟩
          have R35 := hid hr
          have T35 := hid E35
          have XV35 := hid (XV34.out.trans E35)
          have B2 := hid (show wb.heap.size ≤ V34.heap.size from XV34.out.size)
          have G2_35 := hid (E35.heap G2_34.out (fun h => h))
          have BS := hid (show V34.heap.size ≤ V34.heap.size from Q34.out.size)
          have Q35 := hid (Q34.out.trans E35)
          clear hr
          go_wp2_with fail
          refine ⟨In.of XV35.out, ?_⟩
          have S36 := hid (src_at (P := Try.prog) Try.underlying31 G2_35.out rfl rfl rfl)
          obtain ⟨cells36, own36, hr36⟩ := R35.out
          have O36 := hid own36
          have H36 := hid hr36
          have BB := hid T35.out.size
          clear own36 hr36
          refine wpList_app _ rfl (.tmp 96) (.tmp 98) 31 31 rfl V34.heap.size 33 i0 _ 3 48 Try.underlying31 I0.out I1.out I2.out I3.out rfl _ ts.length cells36 rfl O36.out _ 1 _ rfl S36.out ?_ ?_ ?_ ?_
          · unfold maxLen; omega
          · omega
          · exact BB.out
          intro v2 V36 own grow blk _
          have Y2 := hid (typs_app O36.out H36.out (IsTy.of (k := 1) (n := [115, 116, 114, 105, 110, 103]) (IsSl.nil _ _ _ _)) own grow blk)
          have XV36 := hid (XV35.out.grown grow (fun g hg => .inr (Nat.le_trans B2.out (R35.out.lt g hg).1)))
          have Q36 := hid (Q35.out.grown grow (fun g hg => .inr (Nat.le_trans BS.out (R35.out.lt g hg).1)))
          clear own grow blk
          refine ⟨In.of XV36.out, ?_⟩
          have Z1 := hid (Y1.out.ext isTy_good Q36.out fun _ _ h => h)
          go_wp2_with fail
          refine (CFO.out _ XV36.out _ _ Z1.out Y2.out).mono ?_
          rintro e VZ ⟨u, rfl, hu, XE, hn, hz⟩
          have XT := hid (XV36.out.trans XE)
          have M := hid (UmMid.mk rfl hu XT.out hn hz)
          clear hu XE hn hz
          go_wp2_with fail
          refine ⟨In.of XT.out, ?_⟩
          go_wp2_with fail
          refine ⟨In.of XT.out, In.of XT.out, ?_⟩
          change wpQuiet _ _ (fun w' => ∃ t : LaterF none' wb, w' = t.w) _ _ _
          repeat (go_big_quiet_step (fail))
          refine wpQuiet_nil ?_
          go_wp2_with fail
          refine ⟨In.of XT.out, ?_⟩
          go_wp2_with fail
          go_meet
          case rel => exact M
      · skip
        obtain ⟨V37, hV37⟩ : ∃ V37, V37 = (wb.alloc (.cells #[.int .i64 1, .string ⟨#[115, 116, 114, 105, 110, 103]⟩, .slice none 0 0] 33 (0, 0))).drew := ⟨_, rfl⟩
        obtain ⟨P2, hP2⟩ : ∃ P2, P2 = wb.heap.size := ⟨_, rfl⟩
        go_wp2_with fail
        rw [← hV37, ← hP2]
        have XV37 : Hid (Ext none' wb V37) := hid (by rw [hV37]; exact ((Ext.refl none' wb).alloc _).drew)
        have G2_37 : Hid (V37.heap[P2]? = some (.cells #[.int .i64 1, .string ⟨#[115, 116, 114, 105, 110, 103]⟩, .slice none 0 0] 33 (0, 0))) := hid (by rw [hV37, hP2]; exact heap_alloc_at rfl _)
        clear hV37 hP2
        refine ⟨In.of XV37.out, ?_⟩
        refine ⟨?_, ?_⟩
        · skip
          go_wp2_with fail
          refine (CT1.out _ XV37.out).mono ?_
          rintro e V38 ⟨u1, rfl, hr, E38⟩
          have R38 := hid hr
          have T38 := hid E38
          have XV38 := hid (XV37.out.trans E38)
          have B1 := hid (show wb.heap.size ≤ V37.heap.size from XV37.out.size)
          have NE : Hid (∀ g, Value.ownBlock u1 = some g → g ≠ P2) := hid fun g hg => by have := (hr.lt g hg).1; have := heap_lt G2_37.out; omega
          have G2_38 := hid (E38.heap G2_37.out (fun h => h))
          clear hr
          go_wp2_with fail
          refine ⟨In.of XV38.out, ?_⟩
          obtain ⟨V39, hV39⟩ : ∃ V39, V39 = V38.alloc (.cells #[.int .i64 1, .string ⟨#[105, 110, 116]⟩, .slice none 0 0] 33 (0, 0)) := ⟨_, rfl⟩
          obtain ⟨P1, hP1⟩ : ∃ P1, P1 = V38.heap.size := ⟨_, rfl⟩
          go_wp2_with fail
          rw [← hV39, ← hP1]
          have E39 : Ext none' V38 V39 := by rw [hV39]; exact (Ext.refl _ _).alloc _
          have XV39 : Hid (Ext none' wb V39) := hid (XV38.out.trans E39)
          have G1_39 : Hid (V39.heap[P1]? = some (.cells #[.int .i64 1, .string ⟨#[105, 110, 116]⟩, .slice none 0 0] 33 (0, 0))) := hid (by rw [hV39, hP1]; exact heap_alloc_at rfl _)
          have G2_39 := hid (E39.heap G2_38.out (fun h => h))
          have R39 := hid (R38.out.ext isTy_good E39 (fun _ _ h => h.elim) (fun _ _ h => h))
          have T39 := hid (T38.out.trans E39)
          clear hV39 hP1
          refine ⟨In.of XV39.out, ?_⟩
          have S40 := hid (src_at (P := Try.prog) Try.underlying31 G1_39.out rfl rfl rfl)
          obtain ⟨cells40, own40, hr40⟩ := R39.out
          have O40 := hid own40
          have H40 := hid hr40
          have BB := hid T39.out.size
          clear own40 hr40
          refine wpList_app _ rfl (.tmp 90) (.tmp 92) 31 31 rfl V37.heap.size 33 i0 _ 3 48 Try.underlying31 I0.out I1.out I2.out I3.out rfl _ ps.length cells40 rfl O40.out _ 1 _ rfl S40.out ?_ ?_ ?_ ?_
          · unfold maxLen; omega
          · omega
          · exact BB.out
          intro v1 V40 own grow blk _
          have Y1 := hid (typs_app O40.out H40.out (IsTy.of (k := 1) (n := nI) (IsSl.nil _ _ _ _)) own grow blk)
          have XV40 := hid (XV39.out.grown grow (fun g hg => .inr (Nat.le_trans B1.out (R39.out.lt g hg).1)))
          have G2_40 := hid (((Ext.refl (fun b => Value.ownBlock u1 = some b) V39).grown grow (fun g hg => .inl hg)).heap G2_39.out (fun h => NE.out _ h rfl))
          clear own grow blk
          have Q40 := hid (Ext.refl none' V40)
          refine ⟨In.of XV40.out, ?_⟩
          go_wp2_with fail
          refine (CT2.out _ XV40.out).mono ?_
          rintro e V41 ⟨u2, rfl, hr, E41⟩
          have R41 := hid hr
          have T41 := hid E41
          have XV41 := hid (XV40.out.trans E41)
          have B2 := hid (show wb.heap.size ≤ V40.heap.size from XV40.out.size)
          have G2_41 := hid (E41.heap G2_40.out (fun h => h))
          have BS := hid (show V40.heap.size ≤ V40.heap.size from Q40.out.size)
          have Q41 := hid (Q40.out.trans E41)
          clear hr
          go_wp2_with fail
          refine ⟨In.of XV41.out, ?_⟩
          have S42 := hid (src_at (P := Try.prog) Try.underlying31 G2_41.out rfl rfl rfl)
          obtain ⟨cells42, own42, hr42⟩ := R41.out
          have O42 := hid own42
          have H42 := hid hr42
          have BB := hid T41.out.size
          clear own42 hr42
          refine wpList_app _ rfl (.tmp 96) (.tmp 98) 31 31 rfl V40.heap.size 33 i0 _ 3 48 Try.underlying31 I0.out I1.out I2.out I3.out rfl _ ts.length cells42 rfl O42.out _ 1 _ rfl S42.out ?_ ?_ ?_ ?_
          · unfold maxLen; omega
          · omega
          · exact BB.out
          intro v2 V42 own grow blk _
          have Y2 := hid (typs_app O42.out H42.out (IsTy.of (k := 1) (n := [115, 116, 114, 105, 110, 103]) (IsSl.nil _ _ _ _)) own grow blk)
          have XV42 := hid (XV41.out.grown grow (fun g hg => .inr (Nat.le_trans B2.out (R41.out.lt g hg).1)))
          have Q42 := hid (Q41.out.grown grow (fun g hg => .inr (Nat.le_trans BS.out (R41.out.lt g hg).1)))
          clear own grow blk
          refine ⟨In.of XV42.out, ?_⟩
          have Z1 := hid (Y1.out.ext isTy_good Q42.out fun _ _ h => h)
          go_wp2_with fail
          refine (CFO.out _ XV42.out _ _ Z1.out Y2.out).mono ?_
          rintro e VZ ⟨u, rfl, hu, XE, hn, hz⟩
          have XT := hid (XV42.out.trans XE)
          have M := hid (UmMid.mk rfl hu XT.out hn hz)
          clear hu XE hn hz
          go_wp2_with fail
          refine ⟨In.of XT.out, ?_⟩
          go_wp2_with fail
          refine ⟨In.of XT.out, In.of XT.out, ?_⟩
          change wpQuiet _ _ (fun w' => ∃ t : LaterF none' wb, w' = t.w) _ _ _
          repeat (go_big_quiet_step (fail))
          refine wpQuiet_nil ?_
          go_wp2_with fail
          refine ⟨In.of XT.out, ?_⟩
          go_wp2_with fail
          go_meet
          case rel => exact M
        · skip
          obtain ⟨V43, hV43⟩ : ∃ V43, V43 = V37.alloc (.cells #[.int .i64 1, .string ⟨#[105, 110, 116]⟩, .slice none 0 0] 33 (0, 0)) := ⟨_, rfl⟩
          obtain ⟨P1, hP1⟩ : ∃ P1, P1 = V37.heap.size := ⟨_, rfl⟩
          go_wp2_with fail
          rw [← hV43, ← hP1]
          have E43 : Ext none' V37 V43 := by rw [hV43]; exact (Ext.refl _ _).alloc _
          have XV43 : Hid (Ext none' wb V43) := hid (XV37.out.trans E43)
          have G1_43 : Hid (V43.heap[P1]? = some (.cells #[.int .i64 1, .string ⟨#[105, 110, 116]⟩, .slice none 0 0] 33 (0, 0))) := hid (by rw [hV43, hP1]; exact heap_alloc_at rfl _)
          have G2_43 := hid (E43.heap G2_37.out (fun h => h))
          clear hV43 hP1
          refine ⟨In.of XV43.out, ?_⟩
          go_wp2_with fail
          refine (CT1.out _ XV43.out).mono ?_
          rintro e V44 ⟨u1, rfl, hr, E44⟩
          have R44 := hid hr
          have T44 := hid E44
          have XV44 := hid (XV43.out.trans E44)
          have B1 := hid (show wb.heap.size ≤ V43.heap.size from XV43.out.size)
          have G1_44 := hid (E44.heap G1_43.out (fun h => h))
          have NE : Hid (∀ g, Value.ownBlock u1 = some g → g ≠ P2) := hid fun g hg => by have := (hr.lt g hg).1; have := heap_lt G2_43.out; omega
          have G2_44 := hid (E44.heap G2_43.out (fun h => h))
          clear hr
          go_wp2_with fail
          refine ⟨In.of XV44.out, ?_⟩
          have S45 := hid (src_at (P := Try.prog) Try.underlying31 G1_44.out rfl rfl rfl)
          obtain ⟨cells45, own45, hr45⟩ := R44.out
          have O45 := hid own45
          have H45 := hid hr45
          have BB := hid T44.out.size
          clear own45 hr45
          refine wpList_app _ rfl (.tmp 90) (.tmp 92) 31 31 rfl V43.heap.size 33 i0 _ 3 48 Try.underlying31 I0.out I1.out I2.out I3.out rfl _ ps.length cells45 rfl O45.out _ 1 _ rfl S45.out ?_ ?_ ?_ ?_
          · unfold maxLen; omega
          · omega
          · exact BB.out
          intro v1 V45 own grow blk _
          have Y1 := hid (typs_app O45.out H45.out (IsTy.of (k := 1) (n := nI) (IsSl.nil _ _ _ _)) own grow blk)
          have XV45 := hid (XV44.out.grown grow (fun g hg => .inr (Nat.le_trans B1.out (R44.out.lt g hg).1)))
          have G2_45 := hid (((Ext.refl (fun b => Value.ownBlock u1 = some b) V44).grown grow (fun g hg => .inl hg)).heap G2_44.out (fun h => NE.out _ h rfl))
          clear own grow blk
          have Q45 := hid (Ext.refl none' V45)
          refine ⟨In.of XV45.out, ?_⟩
          go_wp2_with fail
          refine (CT2.out _ XV45.out).mono ?_
          rintro e V46 ⟨u2, rfl, hr, E46⟩
          have R46 := hid hr
          have T46 := hid E46
          have XV46 := hid (XV45.out.trans E46)
          have B2 := hid (show wb.heap.size ≤ V45.heap.size from XV45.out.size)
          have G2_46 := hid (E46.heap G2_45.out (fun h => h))
          have BS := hid (show V45.heap.size ≤ V45.heap.size from Q45.out.size)
          have Q46 := hid (Q45.out.trans E46)
          clear hr
          go_wp2_with fail
          refine ⟨In.of XV46.out, ?_⟩
          have S47 := hid (src_at (P := Try.prog) Try.underlying31 G2_46.out rfl rfl rfl)
          obtain ⟨cells47, own47, hr47⟩ := R46.out
          have O47 := hid own47
          have H47 := hid hr47
          have BB := hid T46.out.size
          clear own47 hr47
          refine wpList_app _ rfl (.tmp 96) (.tmp 98) 31 31 rfl V45.heap.size 33 i0 _ 3 48 Try.underlying31 I0.out I1.out I2.out I3.out rfl _ ts.length cells47 rfl O47.out _ 1 _ rfl S47.out ?_ ?_ ?_ ?_
          · unfold maxLen; omega
          · omega
          · exact BB.out
          intro v2 V47 own grow blk _
          have Y2 := hid (typs_app O47.out H47.out (IsTy.of (k := 1) (n := [115, 116, 114, 105, 110, 103]) (IsSl.nil _ _ _ _)) own grow blk)
          have XV47 := hid (XV46.out.grown grow (fun g hg => .inr (Nat.le_trans B2.out (R46.out.lt g hg).1)))
          have Q47 := hid (Q46.out.grown grow (fun g hg => .inr (Nat.le_trans BS.out (R46.out.lt g hg).1)))
          clear own grow blk
          refine ⟨In.of XV47.out, ?_⟩
          have Z1 := hid (Y1.out.ext isTy_good Q47.out fun _ _ h => h)
          go_wp2_with fail
          refine (CFO.out _ XV47.out _ _ Z1.out Y2.out).mono ?_
          rintro e VZ ⟨u, rfl, hu, XE, hn, hz⟩
          have XT := hid (XV47.out.trans XE)
          have M := hid (UmMid.mk rfl hu XT.out hn hz)
          clear hu XE hn hz
          go_wp2_with fail
          refine ⟨In.of XT.out, ?_⟩
          go_wp2_with fail
          refine ⟨In.of XT.out, In.of XT.out, ?_⟩
          change wpQuiet _ _ (fun w' => ∃ t : LaterF none' wb, w' = t.w) _ _ _
          repeat (go_big_quiet_step (fail))
          refine wpQuiet_nil ?_
          go_wp2_with fail
          refine ⟨In.of XT.out, ?_⟩
          go_wp2_with fail
          go_meet
          case rel => exact M
    obtain ⟨he, hv, hx, _, _⟩ := hcut.out
    rename World => we
    subst he
    have q3 : (ob != ob) = false := by simp
    have q4 : ((l.length : Int) != (l.length : Int)) = false := by simp
    have q5 : (none : Option (List Ty)).isSome = false := rfl
    rw [q5]
    have HV1 := hid (HVb.out.ext isTy_good hx fun _ _ h => h)
    have HV2 := hid (HV2.out.ext isTy_good hx fun _ _ h => h)
    have XW := hid (XB.out.trans hx)
    clear hx q5 hv
    have L0 := hid fun (i : Nat) (hi : i < l.length) => HZ.out _ (List.getElem_mem hi)
    go_upto_region 13 with (fail)
    go_loopw [14] (fun z wr => ∃ (i : Nat), z = .int .i64 (i : Nat) ∧ i ≤ l.length ∧ Hid (Ext none' we wr)) (fun z _ => l.length - (RowKit.intOf z).toNat)
    case atStart => exact ⟨0, rfl, by omega, hid (Ext.refl _ _)⟩
    case round =>
      obtain ⟨i, rfl, hle, HR⟩ := hrel
      by_cases hi : i < l.length
      · obtain ⟨b, off, cs, rfl, _, hbw, hcc, hty⟩ := (HV1.out.ext isTy_good HR.out fun _ _ h => h.elim).at i hi
        obtain ⟨b', off', cs', rfl, _, hbw', hcc', hty'⟩ := (HV2.out.ext isTy_good HR.out fun _ _ h => h.elim).at i hi
        obtain ⟨x', rfl, hx'⟩ := hty.parts
        obtain ⟨y', rfl, hy'⟩ := hty'.parts
        have HX2 := hid hx'
        have HY2 := hid hy'
        obtain ⟨a', cap', rfl, _⟩ := hx'
        obtain ⟨a'', cap'', rfl, _⟩ := hy'
        have hcc := hid hcc
        have hcc' := hid hcc'
        have CS := hid fun (W : World) (X : Ext none' wr W) => alike_any l[i] (L0.out i hi) (.agg #[.int .i64 l[i].kind, .string ⟨l[i].name.toArray⟩, .slice a' l[i].args.length cap']) (.agg #[.int .i64 l[i].kind, .string ⟨l[i].name.toArray⟩, .slice a'' l[i].args.length cap'']) W ⟨_, rfl, HX2.out.ext isTy_good X fun _ _ h => h.elim⟩ ⟨_, rfl, HY2.out.ext isTy_good X fun _ _ h => h.elim⟩
        obtain ⟨t, ht⟩ : ∃ t, l[i] = t := ⟨_, rfl⟩
        rw [ht] at hcc hcc' CS
        clear hty hty' HX2 HY2 ht
        have y0 := fun t' : LaterF none' wr => (t'.x.cell (p := ⟨b, off + i * 3, none⟩) hbw (fun h => h)).trans (by simpa using hcc.out 0 _ rfl)
        have y1 := fun t' : LaterF none' wr => (t'.x.cell (p := ⟨b, off + i * 3 + 1, none⟩) hbw (fun h => h)).trans (hcc.out 1 _ rfl)
        have y2 := fun t' : LaterF none' wr => (t'.x.cell (p := ⟨b, off + i * 3 + 2, none⟩) hbw (fun h => h)).trans (hcc.out 2 _ rfl)
        have z0 := fun t' : LaterF none' wr => (t'.x.cell (p := ⟨b', off' + i * 3, none⟩) hbw' (fun h => h)).trans (by simpa using hcc'.out 0 _ rfl)
        have z1 := fun t' : LaterF none' wr => (t'.x.cell (p := ⟨b', off' + i * 3 + 1, none⟩) hbw' (fun h => h)).trans (hcc'.out 1 _ rfl)
        have z2 := fun t' : LaterF none' wr => (t'.x.cell (p := ⟨b', off' + i * 3 + 2, none⟩) hbw' (fun h => h)).trans (hcc'.out 2 _ rfl)
        go_upto_region 15 with (fail)
        refine region_q none' wr (.qs [0, 1, 2, 3, 4, 5, 6, 7] (.one 8 false (.one 9 false .fin))) (by kernel_rfl) (by kernel_rfl) (fun dst v c a w h => by cases dst <;> exact h) ?_
        refine ⟨In.of (Ext.refl _ _).drew, ?_⟩
        change wpQuiet _ _ (fun w' => ∃ t : LaterF none' wr, w' = t.w) _ _ _
        simp only [sel, List.getElem?_cons_succ, List.getElem?_cons_zero]
        repeat (go_big_quiet_step (fail))
        refine wpQuiet_nil ?_
        simp only [wpTreeQ, stepT, sel, List.getElem?_cons_succ, List.getElem?_cons_zero]
        clear y0 y1 y2 z0 z1 z2
        have D1 := hid (Ext.refl none' wr).drew
        go_wp2_with fail
        refine (CS.out _ D1.out).mono ?_
        rintro e w2 ⟨rfl, X2⟩
        have X2 := hid (HR.out.trans (D1.out.trans X2))
        go_wp2_with fail
        go_roundw
        case rel => exact ⟨i + 1, by go_num, by omega, X2⟩
        case measure => simp [RowKit.intOf]; omega
      · obtain rfl : i = l.length := by omega
        have XW2 := hid (XW.out.trans HR.out)
        go_wp2_with fail
        refine (AW.out _).mono ?_
        rintro e W7 ⟨rfl, X7⟩
        have X7 := hid (XW2.out.trans X7)
        go_wp2_with fail
        go_ret
        exact ⟨rfl, X7.out⟩
  · have q2 : ((ps.length : Int) != (ts.length : Int)) = true := by simp only [bne_iff_ne, ne_eq]; omega
    obtain rfl : ob = false := by rw [← HOB.out, NE0.out hl]; rfl
    clear hl
    go_wp2_with fail
    refine (AW.out _).mono ?_
    rintro e W7 ⟨rfl, X7⟩
    have X7 := hid (XA.out.trans X7)
    go_wp2_with fail
    go_ret
    exact ⟨rfl, X7.out⟩
end Go.Proofs.Ytmlhkgocilpobaa
