import Derived.Test.YtbhpmmofgdppdaaGreatDoorZAu
import Derived.Test.YtbhpmmofgdppdaaGreatDoorZAv
import Derived.Test.YtbhpmmofgdppdaaGreatDoorZAw
import Derived.Test.YtbhpmmofgdppdaaGreatDoorRegionN
/-
  KindsOrder: the law's function.
-/
namespace Go.Proofs.YtbhpmmofgdppdaaGreatDoor
open Go.RowKit Go.Lib Go.BigFrame
def ordP (ds : List Df) (t : Ty) : Bool := (behindP ds t).kind == 1 && (behindP ds t).name != nBoolK
theorem light_fit {ds : List Df} (h : lightP ds = true) : DefsFit ds := by
  unfold lightP at h
  simp only [Bool.and_eq_true, decide_eq_true_eq, List.all_eq_true] at h
  refine ⟨fun d hd => ?_, by omega, fun d hd => ?_⟩
  all_goals
    have h2 := h.2 d hd
    unfold smallP at h2
    simp only [Bool.and_eq_true, decide_eq_true_eq] at h2
    omega
theorem light_len {ds : List Df} (h : lightP ds = true) : ds.length ≤ 1000000 ∧ ∀ d ∈ ds, d.params.length ≤ 1000000 := by
  unfold lightP at h
  simp only [Bool.and_eq_true, decide_eq_true_eq, List.all_eq_true] at h
  refine ⟨by omega, fun d hd => ?_⟩
  have h2 := h.2 d hd
  unfold smallP at h2
  simp only [Bool.and_eq_true, decide_eq_true_eq] at h2
  omega
set_option maxRecDepth 100000 in
theorem Ordered_any (ds : List Df) (hds : DefsFit ds) (t : Ty) (ht : t.size ≤ bigD) (dv v : Value) (w : World) (hd : IsSl 6 IsDf none' w dv ds) (hv : TyV none' w t v) : Calls Tryz.prog 24 #[dv, v] w (BoolP (ordP ds t) w) := by
  have CB := hid fun o => Behind_any ds hds t ht none' dv v (w.alloc o) (hd.ext isDf_good ((Ext.refl none' w).alloc o) fun _ _ h => h.elim) (hv.ext ((Ext.refl none' w).alloc o) fun _ _ h => h.elim) (fun b hb => hb.elim)
  obtain ⟨x, rfl, hx⟩ := hv
  obtain ⟨a0, cap0, rfl, _⟩ := hx
  obtain ⟨ad, capd, rfl, _⟩ := hd
  unfold ordP
  obtain ⟨b, hb⟩ : ∃ b, behindP ds t = b := ⟨_, rfl⟩
  rw [hb] at CB ⊢
  clear hb
  by_cases h1 : b.kind = 1
  · obtain ⟨q, hq⟩ : ∃ q, (b.name != nBoolK) = q := ⟨_, rfl⟩
    rw [hq, h1]
    obtain ⟨bk, hbk⟩ : ∃ k, b.kind = k := ⟨_, rfl⟩
    unfold nBoolK at hq
    go_enter Tryz.func24, Tryz.ntmps24
    go_wp2_with fail
    refine (CB.out _).mono ?_
    rintro e W1 ⟨u, rfl, ⟨y, rfl, hy⟩, X1⟩
    have X1 := hid (((Ext.refl none' w).alloc _).trans X1)
    obtain ⟨a3, cap3, rfl, _⟩ := hy
    go_wp2_with fail
    all_goals
      go_ret
      exact ⟨by cases q <;> simp_all, X1.out.alloc _⟩
  · have q1 : (b.kind == 1) = false := by simpa using h1
    rw [q1]
    go_enter Tryz.func24, Tryz.ntmps24
    go_wp2_with fail
    refine (CB.out _).mono ?_
    rintro e W1 ⟨u, rfl, ⟨y, rfl, hy⟩, X1⟩
    have X1 := hid (((Ext.refl none' w).alloc _).trans X1)
    obtain ⟨a3, cap3, rfl, _⟩ := hy
    go_wp2_with fail
    go_ret
    exact ⟨rfl, X1.out.alloc _⟩
theorem AV.putD {w : World} {p7 p8 : Nat} {ds : List Df} {v : Value} (h : IsSl 6 IsDf (AV false false p7 p8) w v ds) (o : Obj) : IsSl 6 IsDf (AV true false w.heap.size p8) (w.alloc o) v ds :=
  (h.mono (B := AV true false w.heap.size p8) isDf_good fun b hb q => by
    rcases q with ⟨_, e⟩ | ⟨e, _⟩
    · omega
    · cases e).ext isDf_good ((Ext.refl none' w).alloc o) fun _ _ h => h.elim
/-- What holds within the region that makes the definitions and the type. -/
def IP (ds : List Df) (t : Ty) (F : Value → Value → Value → Act) (W1 : World) (i : Nat) (x : Bool) (ac : Act) (w : World) : Prop :=
  ∃ v6 v17 v19 p6, ac = F v6 v17 v19 ∧ Bx W1 w x false p6 0 v6 undef ∧ (1 ≤ i → IsSl 6 IsDf (AV x false p6 0) w v17 ds) ∧ (2 ≤ i → TyV (AV x false p6 0) w t v19)
set_option maxRecDepth 100000 in
set_option maxHeartbeats 6400000 in
theorem law_order (ds : List Df) (t : Ty) (hsz : ∀ d ∈ ds, d.ty.size ≤ bigD) (ht : t.size ≤ bigD) (dv v : Value) (w : World) (hd : IsSl 6 IsDf none' w dv ds) (hv : TyV none' w t v) : Calls Tryz.prog 6 #[dv, v] w (TruePost w) := by
  have HD := hid hd
  have HV := hid hv
  have C1 := hid fun W (X : Ext none' w W) => light_any ds hsz dv W (hd.ext isDf_good X fun _ _ h => h)
  have C2 := hid fun W (X : Ext none' w W) => rsize_any t ht none' _ W (HV.out.ext X fun _ _ h => h)
  obtain ⟨x, rfl, hx⟩ := hv
  obtain ⟨a1, cap1, rfl, _⟩ := hx
  obtain ⟨ad, cd, rfl, _⟩ := hd
  have hts := ht
  unfold bigD at hts
  obtain ⟨B, hB⟩ : ∃ B, B = w.heap.size := ⟨_, rfl⟩
  have G0 := hid (heap_alloc_at (w := w) hB (.cells #[.int .i64 t.kind, .string ⟨t.name.toArray⟩, .slice a1 t.args.length cap1] 25))
  have HB := hid hB
  have HSZ := hid hsz
  clear hB hsz
  obtain ⟨li, hli⟩ : ∃ li, lightP ds = li := ⟨_, rfl⟩
  rw [hli] at C1
  cases li with
  | false =>
    clear hli
    go_enter Tryz.func6, Tryz.ntmps6
    go_wp2_with fail
    refine (C1.out _ ((Ext.refl _ _).alloc _)).mono ?_
    rintro e W1 ⟨rfl, X1⟩
    have X1 := hid (((Ext.refl none' w).alloc _).trans X1)
    go_wp2_with fail
    go_ret
    exact ⟨rfl, X1.out⟩
  | true =>
    have fit := light_fit hli
    obtain ⟨hl1, hl2⟩ := light_len hli
    have C3 := hid fun W (X : Ext none' w W) A (hA : ∀ b, A b → b < W.heap.size) => defs_any ds hl1 (fun d h => ⟨HSZ.out d h, hl2 d h⟩) A _ W (HD.out.ext isDf_good X fun _ _ h => h) hA
    have C4 := hid fun W (X : Ext none' w W) A (hA : ∀ b, A b → b < W.heap.size) => of_tyany t ht A _ W (HV.out.ext X fun _ _ h => h) hA
    have FIT := hid fit
    clear hli hl1 hl2 fit
    by_cases h6 : t.size ≤ 60
    · have z1 : ¬ ((60 : Int) < (t.size : Int)) := by omega
      go_enter Tryz.func6, Tryz.ntmps6
      go_wp2_with fail
      refine (C1.out _ ((Ext.refl _ _).alloc _)).mono ?_
      rintro e W1 ⟨rfl, X1⟩
      have G0 := hid (X1.heap G0.out fun h => h)
      have X1 := hid (((Ext.refl none' w).alloc _).trans X1)
      have c0 := cell_at G0.out 0
      have c1 := cell_at G0.out 1
      have c2 := cell_at G0.out 2
      simp only [List.getElem?_toArray, List.getElem?_cons_zero, List.getElem?_cons_succ] at c0 c1 c2
      rw [HB.out] at c0 c1 c2
      go_wp2_with fail
      refine (C2.out _ X1.out).mono ?_
      rintro e W2 ⟨rfl, X2⟩
      have G0 := hid (X2.heap G0.out fun h => h)
      have X2 := hid (X1.out.trans X2)
      clear c0 c1 c2
      go_upto_region 3 with (fail)
      have y0 := fun t' : LaterF none' W2 => cell_at (t'.x.heap G0.out fun h => h) 0
      have y1 := fun t' : LaterF none' W2 => cell_at (t'.x.heap G0.out fun h => h) 1
      have y2 := fun t' : LaterF none' W2 => cell_at (t'.x.heap G0.out fun h => h) 2
      simp only [List.getElem?_toArray, List.getElem?_cons_zero, List.getElem?_cons_succ] at y0 y1 y2
      rw [HB.out] at y0 y1 y2
      refine region_n none' W2 [0, 2] [1, 3] 4 (.one 5 false (.one 6 false .fin)) (by kernel_rfl) (by kernel_rfl) (fun dst v c a w h => by cases dst <;> exact h) (IP ds t (fun v6 v17 v19 => { tmps := #[.slice ad ds.length cd, .agg #[.int .i64 t.kind, .string ⟨t.name.toArray⟩, .slice a1 t.args.length cap1], undef, .pointer (some ⟨w.heap.size, 0, none⟩), .bool false, undef, v6, undef, .slice ad ds.length cd, .bool true, .bool false, .bool false, .agg #[.int .i64 t.kind, .string ⟨t.name.toArray⟩, .slice a1 t.args.length cap1], .int .i64 (t.size : Nat), .bool (decide ((60 : Int) < (t.size : Int))), .bool (decide ((60 : Int) < (t.size : Int))), .slice ad ds.length cd, v17, .agg #[.int .i64 t.kind, .string ⟨t.name.toArray⟩, .slice a1 t.args.length cap1], v19, undef, undef, undef, undef, undef, undef, undef, undef, undef, undef, undef, undef, undef, undef, undef, undef, undef, undef, undef, undef, undef, undef], defers := [] }) W2) (In.of (Ext.refl _ _).drew) ?_ ?_ ?_ ?_
      · simp only [sel, List.getElem?_cons_succ, List.getElem?_cons_zero]
        repeat (go_big_quiet_step (fail))
        refine wpQuiet_nil ?_
        exact ⟨_, _, _, 0, rfl, ⟨(Ext.refl _ _).drew, (fun h => by cases h), (fun h => by cases h), (fun h => by cases h)⟩, (fun h => by omega), (fun h => by omega)⟩
      all_goals clear y0 y1 y2
      · intro i hi x _ ac W hI
        obtain ⟨v6, v17, v19, p6, rfl, BX, h1, h2⟩ := hI
        have hi' : i < 2 := hi
        have HH1 := hid h1
        have HBX := hid BX
        clear BX h1 h2
        match i, hi' with
        | 0, _ =>
          show stepT _ _ _ _ 1 true _ _ _
          simp only [stepT, sel, List.getElem?_cons_succ, List.getElem?_cons_zero]
          go_wp2_with (fail)
          refine (C3.out W (X2.out.trans HBX.out.ex) (AV x false p6 0) HBX.out.lt).mono ?_
          rintro e W6 ⟨u, rfl, hu, X6⟩
          have HUU := hid hu
          have X6 := hid X6
          clear hu
          go_wp2_with (fail)
          exact ⟨In.of (HBX.out.ex.trans X6.out), _, _, _, p6, rfl, HBX.out.ext X6.out, fun _ => HUU.out, fun h => by omega⟩
        | 1, _ =>
          show stepT _ _ _ _ 3 true _ _ _
          simp only [stepT, sel, List.getElem?_cons_succ, List.getElem?_cons_zero]
          go_wp2_with (fail)
          refine (C4.out W (X2.out.trans HBX.out.ex) (AV x false p6 0) HBX.out.lt).mono ?_
          rintro e W6 ⟨u, rfl, hu, X6⟩
          have HUU := hid hu
          have X6 := hid X6
          clear hu
          go_wp2_with (fail)
          exact ⟨In.of (HBX.out.ex.trans X6.out), _, _, _, p6, rfl, HBX.out.ext X6.out, fun _ => (HH1.out (by decide)).ext isDf_good X6.out fun _ _ h => h.elim, fun _ => HUU.out⟩
      · intro i hi ac W hI
        obtain ⟨v6, v17, v19, p6, rfl, BX, h1, h2⟩ := hI
        have HH1 := hid h1
        have HH2 := hid h2
        have HBX := hid BX
        clear BX h1 h2
        simp only [stepT, sel, List.getElem?_cons_succ, List.getElem?_cons_zero]
        go_wp2_with (fail)
        exact ⟨In.of (HBX.out.ex.alloc _), _, _, _, W.heap.size, rfl, HBX.out.put1, fun h => AV.putD (HH1.out h) _, fun h => AV.put1 (HH2.out h) _⟩
      · rintro ac W ⟨v6, v17, v19, p6, rfl, BX, h1, h2⟩
        have h1 := h1 (by decide)
        have h2 := h2 (by decide)
        obtain ⟨rfl, l6, g6⟩ := BX.one rfl
        have HDS := hid h1
        obtain ⟨x19, rfl, hx19⟩ := h2
        have HX19 := hid hx19
        obtain ⟨a3, cap3, rfl, _⟩ := hx19
        obtain ⟨a5, cap5, rfl, _⟩ := h1
        have f0 := free_at g6 0
        have f1 := free_at g6 1
        have f2 := free_at g6 2
        have e0 := cell_at g6 0
        have e1 := cell_at g6 1
        have e2 := cell_at g6 2
        simp only [zTy, List.getElem?_toArray, List.getElem?_cons_zero, List.getElem?_cons_succ] at e0 e1 e2
        have HG6 := hid g6
        have HL6 := hid l6
        have HBE := hid BX.ex
        clear g6 l6 BX
        simp only [wpTreeQ, stepT, sel, List.getElem?_cons_succ, List.getElem?_cons_zero]
        go_upto_region 4 with (fail)
        obtain ⟨W3, hW3⟩ : ∃ W3, W3 = (((W.setCell ⟨p6, 0, none⟩ (.int .i64 t.kind)).setCell ⟨p6, 1, none⟩ (.string ⟨t.name.toArray⟩)).setCell ⟨p6, 2, none⟩ (.slice a3 t.args.length cap3)) := ⟨_, rfl⟩
        rw [← hW3]
        have XS : Ext (AV true false p6 0) W W3 := by rw [hW3]; exact (Ext.refl _ W).set3 (b := p6) (.inl (.inl ⟨rfl, rfl⟩)) _ _ _
        have X3 := hid (show Ext none' w W3 by rw [hW3]; exact X2.out.trans (HBE.out.set3 (b := p6) (.inr HL6.out) _ _ _))
        have G6 := hid (show W3.heap[p6]? = some (.cells #[.int .i64 t.kind, .string ⟨t.name.toArray⟩, .slice a3 t.args.length cap3] 32 (0, 0)) by rw [hW3]; exact set3 HG6.out _ _ _)
        have VX := hid fun W4 (X : Ext none' W3 W4) => (show TyV none' W4 t (.agg #[.int .i64 t.kind, .string ⟨t.name.toArray⟩, .slice a3 t.args.length cap3]) from ⟨_, rfl, ((HX19.out.ext isTy_good XS fun _ _ h => h).mono isTy_good fun _ _ h => h.elim).ext isTy_good X fun _ _ h => h⟩)
        have VD := hid fun W4 (X : Ext none' W3 W4) => ((HDS.out.ext isDf_good XS fun _ _ h => h).mono (B := none') isDf_good fun _ _ h => h.elim).ext isDf_good X fun _ _ h => h
        clear hW3 XS f0 f1 f2 e0 e1 e2 HBE HG6 HL6 HX19 HDS C3 C4 C1 C2 G0
        have G6w := hid G6.out
        have CO := hid fun W4 (X : Ext none' W3 W4) => Ordered_any ds FIT.out t ht _ _ W4 (VD.out W4 X) (VX.out W4 X)
        have CC := hid fun W4 (X : Ext none' W3 W4) => Comparable_any ds FIT.out t ht none' _ _ W4 (VD.out W4 X) (VX.out W4 X) (fun _ h => h.elim)
        have CB := hid fun W4 (X : Ext none' W3 W4) => Behind_any ds FIT.out t ht none' _ _ W4 (VD.out W4 X) (VX.out W4 X) (fun _ h => h.elim)
        have HO : Hid (ordP ds t = true → ((behindP ds t).kind == 1) = true) := hid fun h => by unfold ordP at h; simp only [Bool.and_eq_true] at h; exact h.1
        obtain ⟨b, hb⟩ : ∃ b, behindP ds t = b := ⟨_, rfl⟩
        rw [hb] at CC CB HO
        obtain ⟨q, hq⟩ : ∃ q, (b.kind == 1) = q := ⟨_, rfl⟩
        obtain ⟨o, ho⟩ : ∃ o, ordP ds t = o := ⟨_, rfl⟩
        rw [hq] at CC HO
        rw [ho] at CO HO
        have HQ := hid hq
        clear hb hq ho
        have c0 := cell_at G6.out 0
        have c1 := cell_at G6.out 1
        have c2 := cell_at G6.out 2
        simp only [List.getElem?_toArray, List.getElem?_cons_zero, List.getElem?_cons_succ] at c0 c1 c2
        go_wp2_with (fail)
        refine (CO.out _ (Ext.refl _ _)).mono ?_
        rintro e W4 ⟨rfl, X4⟩
        have G6 := hid (X4.heap G6.out fun h => h)
        clear c0 c1 c2
        have c0 := cell_at G6.out 0
        have c1 := cell_at G6.out 1
        have c2 := cell_at G6.out 2
        simp only [List.getElem?_toArray, List.getElem?_cons_zero, List.getElem?_cons_succ] at c0 c1 c2
        have X4 := hid X4
        have main : ∀ (hh : o = true → q = true), True := fun _ => trivial
        cases o
        case true =>
          obtain rfl := HO.out rfl
          go_wp2_with (fail)
          refine (CC.out _ X4.out).mono ?_
          rintro e W5 ⟨rfl, X5⟩
          have G6 := hid (X5.heap G6.out fun h => h)
          clear c0 c1 c2
          have c0 := cell_at G6.out 0
          have c1 := cell_at G6.out 1
          have c2 := cell_at G6.out 2
          simp only [List.getElem?_toArray, List.getElem?_cons_zero, List.getElem?_cons_succ] at c0 c1 c2
          have X5 := hid (X4.out.trans X5)
          have G66 := hid G6w.out
          go_wp2_with (fail)
          refine (CB.out _ X5.out).mono ?_
          rintro e W6 ⟨u, rfl, hu, X6⟩
          obtain ⟨xb, rfl, hxb⟩ := hu
          obtain ⟨ab, capb, rfl, _⟩ := hxb
          have X6 := hid (X5.out.trans X6)
          have G6 := hid (X6.out.heap G66.out fun h => h)
          clear c0 c1 c2
          go_upto_region 7 with (fail)
          obtain ⟨W7, hW7⟩ : ∃ W7, W7 = W6.alloc (.cells #[.int .i64 b.kind, .string ⟨b.name.toArray⟩, .slice ab b.args.length capb] 32) := ⟨_, rfl⟩
          rw [← hW7]
          have X67 : Ext none' W6 W7 := by rw [hW7]; exact (Ext.refl _ _).alloc _
          have g7 : W7.heap[W6.heap.size]? = some (.cells #[.int .i64 b.kind, .string ⟨b.name.toArray⟩, .slice ab b.args.length capb] 32 (0, 0)) := by rw [hW7]; exact heap_alloc_at rfl _
          have X7 := hid (X6.out.trans X67)
          have y0 := fun t' : LaterF none' W7 => cell_at ((X67.trans t'.x).heap G6.out fun h => h) 0
          have y1 := fun t' : LaterF none' W7 => cell_at ((X67.trans t'.x).heap G6.out fun h => h) 1
          have y2 := fun t' : LaterF none' W7 => cell_at ((X67.trans t'.x).heap G6.out fun h => h) 2
          have u0 := fun t' : LaterF none' W7 => cell_at (t'.x.heap g7 fun h => h) 0
          simp only [List.getElem?_toArray, List.getElem?_cons_zero, List.getElem?_cons_succ] at y0 y1 y2 u0
          obtain ⟨bk, hbk⟩ : ∃ k, b.kind = k := ⟨_, rfl⟩
          have hq := HQ.out
          rw [hbk] at hq u0
          clear hW7 g7 hbk
          refine region_q none' W7 (.qs [0, 1, 3, 4, 5] (.one 2 true (.qs [6, 7] (.one 8 true (.qs [9, 10] .fin))))) (by kernel_rfl) (by kernel_rfl) (fun dst v c a w h => by cases dst <;> exact h) ?_
          refine ⟨In.of (Ext.refl _ _).drew, ?_⟩
          change wpQuiet _ _ (fun w' => ∃ t : LaterF none' W7, w' = t.w) _ _ _
          simp only [sel, List.getElem?_cons_succ, List.getElem?_cons_zero]
          repeat (go_big_quiet_step (fail))
          refine wpQuiet_nil ?_
          simp only [wpTreeQ, stepT, sel, List.getElem?_cons_succ, List.getElem?_cons_zero]
          have D1 := hid (Ext.refl none' W7).drew
          clear y0 y1 y2 u0 X67
          go_wp2_with fail
          refine (CC.out _ (X7.out.trans D1.out)).mono ?_
          rintro e W8 ⟨rfl, X8⟩
          have X8 := hid (D1.out.trans X8)
          go_wp2_with fail
          refine ⟨In.of X8.out, In.of X8.out, ?_⟩
          change wpQuiet _ _ (fun w' => ∃ t : LaterF none' W7, w' = t.w) _ _ _
          repeat (go_big_quiet_step (fail))
          refine wpQuiet_nil ?_
          go_wp2_with fail
          refine (awake_any _).mono ?_
          rintro e W9 ⟨rfl, X9⟩
          have X9 := hid (X8.out.trans X9)
          go_wp2_with fail
          refine ⟨In.of X9.out, In.of X9.out, ?_⟩
          change wpQuiet _ _ (fun w' => ∃ t : LaterF none' W7, w' = t.w) _ _ _
          repeat (go_big_quiet_step (fail))
          refine wpQuiet_nil ?_
          go_wp2_with fail
          go_ret
          exact ⟨rfl, X3.out.trans (X7.out.trans X9.out)⟩
        case false =>
          have X5 := hid X4.out
          have G66 := hid G6w.out
          go_wp2_with (fail)
          refine (CB.out _ X5.out).mono ?_
          rintro e W6 ⟨u, rfl, hu, X6⟩
          obtain ⟨xb, rfl, hxb⟩ := hu
          obtain ⟨ab, capb, rfl, _⟩ := hxb
          have X6 := hid (X5.out.trans X6)
          have G6 := hid (X6.out.heap G66.out fun h => h)
          clear c0 c1 c2
          go_upto_region 7 with (fail)
          obtain ⟨W7, hW7⟩ : ∃ W7, W7 = W6.alloc (.cells #[.int .i64 b.kind, .string ⟨b.name.toArray⟩, .slice ab b.args.length capb] 32) := ⟨_, rfl⟩
          rw [← hW7]
          have X67 : Ext none' W6 W7 := by rw [hW7]; exact (Ext.refl _ _).alloc _
          have g7 : W7.heap[W6.heap.size]? = some (.cells #[.int .i64 b.kind, .string ⟨b.name.toArray⟩, .slice ab b.args.length capb] 32 (0, 0)) := by rw [hW7]; exact heap_alloc_at rfl _
          have X7 := hid (X6.out.trans X67)
          have y0 := fun t' : LaterF none' W7 => cell_at ((X67.trans t'.x).heap G6.out fun h => h) 0
          have y1 := fun t' : LaterF none' W7 => cell_at ((X67.trans t'.x).heap G6.out fun h => h) 1
          have y2 := fun t' : LaterF none' W7 => cell_at ((X67.trans t'.x).heap G6.out fun h => h) 2
          have u0 := fun t' : LaterF none' W7 => cell_at (t'.x.heap g7 fun h => h) 0
          simp only [List.getElem?_toArray, List.getElem?_cons_zero, List.getElem?_cons_succ] at y0 y1 y2 u0
          obtain ⟨bk, hbk⟩ : ∃ k, b.kind = k := ⟨_, rfl⟩
          have hq := HQ.out
          rw [hbk] at hq u0
          clear hW7 g7 hbk
          refine region_q none' W7 (.qs [0, 1, 3, 4, 5] (.one 2 true (.qs [6, 7] (.one 8 true (.qs [9, 10] .fin))))) (by kernel_rfl) (by kernel_rfl) (fun dst v c a w h => by cases dst <;> exact h) ?_
          refine ⟨In.of (Ext.refl _ _).drew, ?_⟩
          change wpQuiet _ _ (fun w' => ∃ t : LaterF none' W7, w' = t.w) _ _ _
          simp only [sel, List.getElem?_cons_succ, List.getElem?_cons_zero]
          repeat (go_big_quiet_step (fail))
          refine wpQuiet_nil ?_
          simp only [wpTreeQ, stepT, sel, List.getElem?_cons_succ, List.getElem?_cons_zero]
          have D1 := hid (Ext.refl none' W7).drew
          clear y0 y1 y2 u0 X67
          go_wp2_with fail
          refine (CC.out _ (X7.out.trans D1.out)).mono ?_
          rintro e W8 ⟨rfl, X8⟩
          have X8 := hid (D1.out.trans X8)
          go_wp2_with fail
          refine ⟨In.of X8.out, In.of X8.out, ?_⟩
          change wpQuiet _ _ (fun w' => ∃ t : LaterF none' W7, w' = t.w) _ _ _
          repeat (go_big_quiet_step (fail))
          refine wpQuiet_nil ?_
          go_wp2_with fail
          refine (awake_any _).mono ?_
          rintro e W9 ⟨rfl, X9⟩
          have X9 := hid (X8.out.trans X9)
          go_wp2_with fail
          refine ⟨In.of X9.out, In.of X9.out, ?_⟩
          change wpQuiet _ _ (fun w' => ∃ t : LaterF none' W7, w' = t.w) _ _ _
          repeat (go_big_quiet_step (fail))
          refine wpQuiet_nil ?_
          go_wp2_with fail
          go_ret
          exact ⟨rfl, X3.out.trans (X7.out.trans X9.out)⟩
    · have z1 : (60 : Int) < (t.size : Int) := by omega
      go_enter Tryz.func6, Tryz.ntmps6
      go_wp2_with fail
      refine (C1.out _ ((Ext.refl _ _).alloc _)).mono ?_
      rintro e W1 ⟨rfl, X1⟩
      have G0 := hid (X1.heap G0.out fun h => h)
      have X1 := hid (((Ext.refl none' w).alloc _).trans X1)
      have c0 := cell_at G0.out 0
      have c1 := cell_at G0.out 1
      have c2 := cell_at G0.out 2
      simp only [List.getElem?_toArray, List.getElem?_cons_zero, List.getElem?_cons_succ] at c0 c1 c2
      rw [HB.out] at c0 c1 c2
      go_wp2_with fail
      refine (C2.out _ X1.out).mono ?_
      rintro e W2 ⟨rfl, X2⟩
      have X2 := hid (X1.out.trans X2)
      clear c0 c1 c2
      go_wp2_with fail
      go_ret
      exact ⟨rfl, X2.out⟩
end Go.Proofs.YtbhpmmofgdppdaaGreatDoor
