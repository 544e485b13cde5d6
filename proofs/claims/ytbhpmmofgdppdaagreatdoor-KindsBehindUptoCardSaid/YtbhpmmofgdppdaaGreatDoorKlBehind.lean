import Derived.Test.YtbhpmmofgdppdaaGreatDoorKlOrder
import Derived.Test.YtbhpmmofgdppdaaGreatDoorKlOthers
import Derived.Test.YtbhpmmofgdppdaaGreatDoorKlFullP
import Derived.Test.YtbhpmmofgdppdaaGreatDoorKlPlain
/-
  KindsBehind: the law's function.
-/
namespace Go.Proofs.YtbhpmmofgdppdaaGreatDoor
open Go.RowKit Go.Lib Go.BigFrame
theorem behP_le {ds : List Df} (hd : DefsOk ds) : ∀ (f : Nat) (t : Ty), t.size ≤ bigD → (behP ds f t).size ≤ bigD
  | 0, t, _ => by rw [behP]; have : Ty.zero.size = 1 := rfl; unfold bigD; omega
  | f + 1, t, h => by
    rw [behP]
    split
    · exact h
    · split
      · have : Ty.zero.size = 1 := rfl
        unfold bigD; omega
      · rename_i d hf
        split
        · have : Ty.zero.size = 1 := rfl
          unfold bigD; omega
        · exact behP_le hd f _ (beh_size hd hf (by omega))
theorem Behind_again (ds : List Df) (hds : DefsFit ds) (t : Ty) (ht : t.size ≤ bigD) (A : Nat → Prop) (dv v : Value) (w : World) (hd : IsSl 6 IsDf A w dv ds) (hv : TyV A w (behindP ds t) v) (hA : ∀ b, A b → b < w.heap.size) :
    Calls Tryz.prog 14 #[dv, v] w (TyPost none' A w (behindP ds t)) := by
  have h := Behind_any ds hds (behindP ds t) (behP_le hds.ok 100 t ht) A dv v w hd hv hA
  rwa [behindP_again] at h
theorem asg_self (ds : List Df) (t : Ty) (h0 : (fullP ds t).kind ≠ 0) (h2 : (fullP ds t).kind ≠ 2) (hs : sameP 100 (fullP ds t) (fullP ds t) = true) : assignsP ds t t = true := by
  unfold assignsP asgP
  rw [if_neg (by simp [h0]), if_neg h2, hs]
  rfl
set_option maxRecDepth 100000 in
set_option maxHeartbeats 6400000 in
theorem law_behind (ds : List Df) (t : Ty) (hsz : ∀ d ∈ ds, d.ty.size ≤ bigD) (ht : t.size ≤ bigD) (dv v : Value) (w : World) (hd : IsSl 6 IsDf none' w dv ds) (hv : TyV none' w t v) : Calls Tryz.prog 5 #[dv, v] w (TruePost w) := by
  have HD := hid hd
  have HV := hid hv
  have C1 := hid fun W (X : Ext none' w W) => light_any ds hsz dv W (hd.ext isDf_good X fun _ _ h => h)
  have C2 := hid fun W (X : Ext none' w W) => rsize_any t ht none' _ W (HV.out.ext X fun _ _ h => h)
  obtain ⟨x, rfl, hx⟩ := hv
  obtain ⟨a1, cap1, rfl, _⟩ := hx
  obtain ⟨ad, cd, rfl, _⟩ := hd
  have hts := ht
  unfold bigD at hts
  obtain ⟨B, hB⟩ : ∃ B, B = w.heap.size := ⟨_, rfl⟩
  have G0 := hid (heap_alloc_at (w := w) hB (.cells #[.int .i64 t.kind, .string ⟨t.name.toArray⟩, .slice a1 t.args.length cap1] 25))
  have HB := hid hB
  have HSZ := hid hsz
  clear hB hsz
  obtain ⟨li, hli⟩ : ∃ li, lightP ds = li := ⟨_, rfl⟩
  rw [hli] at C1
  cases li with
  | false =>
    clear hli
    go_enter Tryz.func5, Tryz.ntmps5
    go_wp2_with fail
    refine (C1.out _ ((Ext.refl _ _).alloc _)).mono ?_
    rintro e W1 ⟨rfl, X1⟩
    have X1 := hid (((Ext.refl none' w).alloc _).trans X1)
    go_wp2_with fail
    go_ret
    exact ⟨rfl, X1.out⟩
  | true =>
    have fit := light_fit hli
    obtain ⟨hl1, hl2⟩ := light_len hli
    have C3 := hid fun W (X : Ext none' w W) A (hA : ∀ b, A b → b < W.heap.size) => defs_any ds hl1 (fun d h => ⟨HSZ.out d h, hl2 d h⟩) A _ W (HD.out.ext isDf_good X fun _ _ h => h) hA
    have C4 := hid fun W (X : Ext none' w W) A (hA : ∀ b, A b → b < W.heap.size) => of_tyany t ht A _ W (HV.out.ext X fun _ _ h => h) hA
    have FIT := hid fit
    clear hli hl1 hl2 fit
    by_cases h6 : t.size ≤ 60
    · have z1 : ¬ ((60 : Int) < (t.size : Int)) := by omega
      go_enter Tryz.func5, Tryz.ntmps5
      go_wp2_with fail
      refine (C1.out _ ((Ext.refl _ _).alloc _)).mono ?_
      rintro e W1 ⟨rfl, X1⟩
      have G0 := hid (X1.heap G0.out fun h => h)
      have X1 := hid (((Ext.refl none' w).alloc _).trans X1)
      have c0 := cell_at G0.out 0
      have c1 := cell_at G0.out 1
      have c2 := cell_at G0.out 2
      simp only [List.getElem?_toArray, List.getElem?_cons_zero, List.getElem?_cons_succ] at c0 c1 c2
      rw [HB.out] at c0 c1 c2
      go_wp2_with fail
      refine (C2.out _ X1.out).mono ?_
      rintro e W2 ⟨rfl, X2⟩
      have G0 := hid (X2.heap G0.out fun h => h)
      have X2 := hid (X1.out.trans X2)
      clear c0 c1 c2
      go_upto_region 3 with (fail)
      have y0 := fun t' : LaterF none' W2 => cell_at (t'.x.heap G0.out fun h => h) 0
      have y1 := fun t' : LaterF none' W2 => cell_at (t'.x.heap G0.out fun h => h) 1
      have y2 := fun t' : LaterF none' W2 => cell_at (t'.x.heap G0.out fun h => h) 2
      simp only [List.getElem?_toArray, List.getElem?_cons_zero, List.getElem?_cons_succ] at y0 y1 y2
      rw [HB.out] at y0 y1 y2
      refine region_n none' W2 [0, 2] [1, 3] 4 (.one 5 false (.one 6 false .fin)) (by kernel_rfl) (by kernel_rfl) (fun dst v c a w h => by cases dst <;> exact h) (IP ds t (fun v6 v17 v19 => { tmps := #[.slice ad ds.length cd, .agg #[.int .i64 t.kind, .string ⟨t.name.toArray⟩, .slice a1 t.args.length cap1], undef, .pointer (some ⟨w.heap.size, 0, none⟩), .bool false, undef, v6, undef, undef, .slice ad ds.length cd, .bool true, .bool false, .bool false, .agg #[.int .i64 t.kind, .string ⟨t.name.toArray⟩, .slice a1 t.args.length cap1], .int .i64 (t.size : Nat), .bool (decide ((60 : Int) < (t.size : Int))), .bool (decide ((60 : Int) < (t.size : Int))), .slice ad ds.length cd, v17, .agg #[.int .i64 t.kind, .string ⟨t.name.toArray⟩, .slice a1 t.args.length cap1], v19, undef, undef, undef, undef, undef, undef, undef, undef, undef, undef, undef, undef, undef, undef, undef, undef, undef, undef, undef, undef, undef, undef, undef, undef, undef, undef, undef, undef, undef, undef, undef, undef, undef, undef, undef, undef, undef, undef, undef, undef, undef], defers := [] }) W2) (In.of (Ext.refl _ _).drew) ?_ ?_ ?_ ?_
      · simp only [sel, List.getElem?_cons_succ, List.getElem?_cons_zero]
        repeat (go_big_quiet_step (fail))
        refine wpQuiet_nil ?_
        exact ⟨_, _, _, 0, rfl, ⟨(Ext.refl _ _).drew, (fun h => by cases h), (fun h => by cases h), (fun h => by cases h)⟩, (fun h => by omega), (fun h => by omega)⟩
      all_goals clear y0 y1 y2
      · intro i hi x _ ac W hI
        obtain ⟨v6, v17, v19, p6, rfl, BX, h1, h2⟩ := hI
        have hi' : i < 2 := hi
        have HH1 := hid h1
        have HBX := hid BX
        clear BX h1 h2
        match i, hi' with
        | 0, _ =>
          show stepT _ _ _ _ 1 true _ _ _
          simp only [stepT, sel, List.getElem?_cons_succ, List.getElem?_cons_zero]
          go_wp2_with (fail)
          refine (C3.out W (X2.out.trans HBX.out.ex) (AV x false p6 0) HBX.out.lt).mono ?_
          rintro e W6 ⟨u, rfl, hu, X6⟩
          have HUU := hid hu
          have X6 := hid X6
          clear hu
          go_wp2_with (fail)
          exact ⟨In.of (HBX.out.ex.trans X6.out), _, _, _, p6, rfl, HBX.out.ext X6.out, fun _ => HUU.out, fun h => by omega⟩
        | 1, _ =>
          show stepT _ _ _ _ 3 true _ _ _
          simp only [stepT, sel, List.getElem?_cons_succ, List.getElem?_cons_zero]
          go_wp2_with (fail)
          refine (C4.out W (X2.out.trans HBX.out.ex) (AV x false p6 0) HBX.out.lt).mono ?_
          rintro e W6 ⟨u, rfl, hu, X6⟩
          have HUU := hid hu
          have X6 := hid X6
          clear hu
          go_wp2_with (fail)
          exact ⟨In.of (HBX.out.ex.trans X6.out), _, _, _, p6, rfl, HBX.out.ext X6.out, fun _ => (HH1.out (by decide)).ext isDf_good X6.out fun _ _ h => h.elim, fun _ => HUU.out⟩
      · intro i hi ac W hI
        obtain ⟨v6, v17, v19, p6, rfl, BX, h1, h2⟩ := hI
        have HH1 := hid h1
        have HH2 := hid h2
        have HBX := hid BX
        clear BX h1 h2
        simp only [stepT, sel, List.getElem?_cons_succ, List.getElem?_cons_zero]
        go_wp2_with (fail)
        exact ⟨In.of (HBX.out.ex.alloc _), _, _, _, W.heap.size, rfl, HBX.out.put1, fun h => AV.putD (HH1.out h) _, fun h => AV.put1 (HH2.out h) _⟩
      · rintro ac W ⟨v6, v17, v19, p6, rfl, BX, h1, h2⟩
        have h1 := h1 (by decide)
        have h2 := h2 (by decide)
        obtain ⟨rfl, l6, g6⟩ := BX.one rfl
        have HDS := hid h1
        obtain ⟨x19, rfl, hx19⟩ := h2
        have HX19 := hid hx19
        obtain ⟨a3, cap3, rfl, _⟩ := hx19
        obtain ⟨a5, cap5, rfl, _⟩ := h1
        have f0 := free_at g6 0
        have f1 := free_at g6 1
        have f2 := free_at g6 2
        have e0 := cell_at g6 0
        have e1 := cell_at g6 1
        have e2 := cell_at g6 2
        simp only [zTy, List.getElem?_toArray, List.getElem?_cons_zero, List.getElem?_cons_succ] at e0 e1 e2
        have HG6 := hid g6
        have HL6 := hid l6
        have HBE := hid BX.ex
        clear g6 l6 BX
        simp only [wpTreeQ, stepT, sel, List.getElem?_cons_succ, List.getElem?_cons_zero]
        go_upto_region 4 with (fail)
        obtain ⟨W3, hW3⟩ : ∃ W3, W3 = (((W.setCell ⟨p6, 0, none⟩ (.int .i64 t.kind)).setCell ⟨p6, 1, none⟩ (.string ⟨t.name.toArray⟩)).setCell ⟨p6, 2, none⟩ (.slice a3 t.args.length cap3)) := ⟨_, rfl⟩
        rw [← hW3]
        have XS : Ext (AV true false p6 0) W W3 := by rw [hW3]; exact (Ext.refl _ W).set3 (b := p6) (.inl (.inl ⟨rfl, rfl⟩)) _ _ _
        have X3 := hid (show Ext none' w W3 by rw [hW3]; exact X2.out.trans (HBE.out.set3 (b := p6) (.inr HL6.out) _ _ _))
        have G6 := hid (show W3.heap[p6]? = some (.cells #[.int .i64 t.kind, .string ⟨t.name.toArray⟩, .slice a3 t.args.length cap3] 32 (0, 0)) by rw [hW3]; exact set3 HG6.out _ _ _)
        have VX := hid fun W4 (X : Ext none' W3 W4) => (show TyV none' W4 t (.agg #[.int .i64 t.kind, .string ⟨t.name.toArray⟩, .slice a3 t.args.length cap3]) from ⟨_, rfl, ((HX19.out.ext isTy_good XS fun _ _ h => h).mono isTy_good fun _ _ h => h.elim).ext isTy_good X fun _ _ h => h⟩)
        have VD := hid fun W4 (X : Ext none' W3 W4) => ((HDS.out.ext isDf_good XS fun _ _ h => h).mono (B := none') isDf_good fun _ _ h => h.elim).ext isDf_good X fun _ _ h => h
        clear hW3 XS f0 f1 f2 e0 e1 e2 HBE HG6 HL6 HX19 HDS C3 C4 C1 C2 G0
        have CB := hid fun W4 (X : Ext none' W3 W4) => Behind_any ds FIT.out t ht none' _ _ W4 (VD.out W4 X) (VX.out W4 X) (fun _ h => h.elim)
        have CB2 := hid fun x W4 (X : Ext none' W3 W4) hv => Behind_again ds FIT.out t ht none' _ x W4 (VD.out W4 X) hv (fun _ h => h.elim)
        have CF := hid fun W4 (X : Ext none' W3 W4) => Full_any ds FIT.out t ht none' _ _ W4 (VD.out W4 X) (VX.out W4 X) (fun _ h => h.elim)
        have CA := hid fun W4 (X : Ext none' W3 W4) => assigns_any ds FIT.out FIT.out.ok t t ht ht _ _ _ W4 (VD.out W4 X) (VX.out W4 X) (VX.out W4 X)
        have hbl : (behindP ds t).size ≤ bigD := behP_le FIT.out.ok 100 t ht
        have hfl : (fullP ds t).size ≤ bigD := Nat.le_trans (full_size FIT.out.ok t) (by unfold bigD; omega)
        have HAS := hid (asg_self ds t)
        obtain ⟨b, hb⟩ : ∃ b, behindP ds t = b := ⟨_, rfl⟩
        obtain ⟨f, hf⟩ : ∃ f, fullP ds t = f := ⟨_, rfl⟩
        obtain ⟨sg, has⟩ : ∃ sg, assignsP ds t t = sg := ⟨_, rfl⟩
        rw [hb] at CB CB2 hbl
        rw [hf] at CF HAS hfl
        rw [has] at CA HAS
        have CS := hid fun v u W hv hu => Same_any b b hbl hbl v u W hv hu
        have CSF := hid fun v u W hv hu => Same_any f f hfl hfl v u W hv hu
        have HQ := hid (fun h : sameP 100 b b = false => show ¬ b.size < 90 from fun h9 => by rw [sameP_refl 100 b (by omega)] at h; cases h)
        obtain ⟨q, hq⟩ : ∃ q, sameP 100 b b = q := ⟨_, rfl⟩
        obtain ⟨r, hr⟩ : ∃ r, sameP 100 f f = r := ⟨_, rfl⟩
        rw [hq] at CS HQ
        rw [hr] at CSF HAS
        have PL := hid fun v W hv => plain_tyany b hbl none' v W hv (fun _ h => h.elim)
        have PS := hid fun v W hv => rsize_any b hbl none' v W hv
        clear hb hf has hq hr hbl hfl VD VX
        have c0 := cell_at G6.out 0
        have c1 := cell_at G6.out 1
        have c2 := cell_at G6.out 2
        simp only [List.getElem?_toArray, List.getElem?_cons_zero, List.getElem?_cons_succ] at c0 c1 c2
        go_wp2_with (fail)
        refine (CB.out _ (Ext.refl _ _)).mono ?_
        rintro e W4 ⟨u, rfl, hu, X4⟩
        have HBV := hid hu
        obtain ⟨xb, rfl, hxb⟩ := hu
        obtain ⟨ab, capb, rfl, _⟩ := hxb
        have G6 := hid (X4.heap G6.out fun h => h)
        have X4 := hid X4
        clear c0 c1 c2
        go_upto_region 5 with (fail)
        obtain ⟨W5, hW5⟩ : ∃ W5, W5 = W4.alloc (.cells #[.int .i64 b.kind, .string ⟨b.name.toArray⟩, .slice ab b.args.length capb] 32) := ⟨_, rfl⟩
        rw [← hW5]
        have X45 := hid (show Ext none' W4 W5 by rw [hW5]; exact (Ext.refl _ _).alloc _)
        have G7 := hid (show W5.heap[W4.heap.size]? = some (.cells #[.int .i64 b.kind, .string ⟨b.name.toArray⟩, .slice ab b.args.length capb] 32 (0, 0)) by rw [hW5]; exact heap_alloc_at rfl _)
        clear hW5
        have X5 := hid (X4.out.trans X45.out)
        have G6 := hid (X45.out.heap G6.out fun h => h)
        have c0 := cell_at G6.out 0
        have c1 := cell_at G6.out 1
        have c2 := cell_at G6.out 2
        simp only [List.getElem?_toArray, List.getElem?_cons_zero, List.getElem?_cons_succ] at c0 c1 c2
        go_wp2_with (fail)
        refine (CF.out _ X5.out).mono ?_
        rintro e W6 ⟨u, rfl, hu, X6⟩
        have HFV := hid hu
        obtain ⟨xf, rfl, hxf⟩ := hu
        obtain ⟨af, capf, rfl, _⟩ := hxf
        have X6 := hid X6
        have G6 := hid (X6.out.heap G6.out fun h => h)
        have G7 := hid (X6.out.heap G7.out fun h => h)
        clear c0 c1 c2
        go_upto_region 6 with (fail)
        obtain ⟨W7, hW7⟩ : ∃ W7, W7 = W6.alloc (.cells #[.int .i64 f.kind, .string ⟨f.name.toArray⟩, .slice af f.args.length capf] 32) := ⟨_, rfl⟩
        rw [← hW7]
        have X67 := hid (show Ext none' W6 W7 by rw [hW7]; exact (Ext.refl _ _).alloc _)
        have G8 := hid (show W7.heap[W6.heap.size]? = some (.cells #[.int .i64 f.kind, .string ⟨f.name.toArray⟩, .slice af f.args.length capf] 32 (0, 0)) by rw [hW7]; exact heap_alloc_at rfl _)
        clear hW7
        have X7 := hid (X5.out.trans (X6.out.trans X67.out))
        have E47 := hid (X45.out.trans (X6.out.trans X67.out))
        have G6 := hid (X67.out.heap G6.out fun h => h)
        have G7 := hid (X67.out.heap G7.out fun h => h)
        have y0 := fun t' : LaterF none' W7 => cell_at (t'.x.heap G7.out fun h => h) 0
        have y1 := fun t' : LaterF none' W7 => cell_at (t'.x.heap G7.out fun h => h) 1
        have y2 := fun t' : LaterF none' W7 => cell_at (t'.x.heap G7.out fun h => h) 2
        simp only [List.getElem?_toArray, List.getElem?_cons_zero, List.getElem?_cons_succ] at y0 y1 y2
        have HY := hid (And.intro y0 (And.intro y1 y2))
        refine region_q none' W7 (.qs [0, 1, 3] (.one 2 true (.one 4 true (.qs [5, 6, 7] (.one 8 true (.one 9 true (.qs [10, 11] .fin))))))) (by kernel_rfl) (by kernel_rfl) (fun dst v c a w h => by cases dst <;> exact h) ?_
        refine ⟨In.of (Ext.refl _ _).drew, ?_⟩
        change wpQuiet _ _ (fun w' => ∃ t : LaterF none' W7, w' = t.w) _ _ _
        simp only [sel, List.getElem?_cons_succ, List.getElem?_cons_zero]
        repeat (go_big_quiet_step (fail))
        refine wpQuiet_nil ?_
        simp only [wpTreeQ, stepT, sel, List.getElem?_cons_succ, List.getElem?_cons_zero]
        have D1 := hid (Ext.refl none' W7).drew
        clear y0 y1 y2
        go_wp2_with fail
        refine (CB2.out _ _ (X7.out.trans D1.out) (HBV.out.ext (E47.out.trans D1.out) fun _ _ h => h)).mono ?_
        rintro e W8 ⟨u8, rfl, hu8, X8⟩
        have H8 := hid hu8
        clear hu8
        have X8 := hid (D1.out.trans X8)
        go_wp2_with fail
        refine ⟨In.of X8.out, ?_⟩
        go_wp2_with fail
        refine (CS.out _ _ _ H8.out (HBV.out.ext (E47.out.trans X8.out) fun _ _ h => h)).mono ?_
        rintro e W9 ⟨rfl, X9⟩
        have X9 := hid (X8.out.trans X9)
        cases q with
        | true =>
          go_wp2_with fail
          refine ⟨In.of X9.out, In.of X9.out, ?_⟩
          change wpQuiet _ _ (fun w' => ∃ t : LaterF none' W7, w' = t.w) _ _ _
          repeat (go_big_quiet_step (fail))
          refine wpQuiet_nil ?_
          go_wp2_with fail
          refine ⟨In.of X9.out, ?_⟩
          go_wp2_with fail
          refine ⟨In.of X9.out, In.of X9.out, ?_⟩
          change wpQuiet _ _ (fun w' => ∃ t : LaterF none' W7, w' = t.w) _ _ _
          repeat (go_big_quiet_step (fail))
          refine wpQuiet_nil ?_
          have XX := hid (X7.out.trans X9.out)
          have X47 := hid (E47.out.trans X9.out)
          have g8 := X9.out.heap G8.out fun h => h
          have g6 := X9.out.heap G6.out fun h => h
          have HG6 := hid g6
          have c0 := cell_at g8 0
          have c1 := cell_at g8 1
          have c2 := cell_at g8 2
          simp only [List.getElem?_toArray, List.getElem?_cons_zero, List.getElem?_cons_succ] at c0 c1 c2
          have d0 := cell_at g6 0
          have d1 := cell_at g6 1
          have d2 := cell_at g6 2
          simp only [List.getElem?_toArray, List.getElem?_cons_zero, List.getElem?_cons_succ] at d0 d1 d2
          clear g8 g6
          by_cases k0 : f.kind = 0
          · rw [k0] at c0
            clear k0
            go_wp2_with fail
            refine (awake_any _).mono ?_
            rintro e WZ ⟨rfl, XZ⟩
            have XZ := hid (XX.out.trans XZ)
            go_wp2_with fail
            go_ret
            exact ⟨rfl, X3.out.trans XZ.out⟩
          · by_cases k2 : f.kind = 2
            · rw [k2] at c0
              clear k0 k2
              go_wp2_with fail
              refine (awake_any _).mono ?_
              rintro e WZ ⟨rfl, XZ⟩
              have XZ := hid (XX.out.trans XZ)
              go_wp2_with fail
              go_ret
              exact ⟨rfl, X3.out.trans XZ.out⟩
            · have KK := hid (And.intro k0 k2)
              have e0 : (f.kind == 0) = false := by simpa using k0
              have e2 : (f.kind == 2) = false := by simpa using k2
              clear k0 k2
              go_wp2_with fail
              refine (CSF.out _ _ _ (HFV.out.ext (X67.out.trans X9.out) fun _ _ h => h) (HFV.out.ext (X67.out.trans X9.out) fun _ _ h => h)).mono ?_
              rintro e WS ⟨rfl, XS⟩
              have g6 := XS.heap HG6.out fun h => h
              have XX := hid (XX.out.trans XS)
              clear c0 c1 c2 d0 d1 d2 e0 e2
              have d0 := cell_at g6 0
              have d1 := cell_at g6 1
              have d2 := cell_at g6 2
              simp only [List.getElem?_toArray, List.getElem?_cons_zero, List.getElem?_cons_succ] at d0 d1 d2
              clear g6
              cases r with
              | false =>
                go_wp2_with fail
                refine (awake_any _).mono ?_
                rintro e WZ ⟨rfl, XZ⟩
                have XZ := hid (XX.out.trans XZ)
                go_wp2_with fail
                go_ret
                exact ⟨rfl, X3.out.trans XZ.out⟩
              | true =>
                obtain rfl := HAS.out KK.out.1 KK.out.2 rfl
                go_wp2_with fail
                refine (CA.out _ XX.out).mono ?_
                rintro e WA ⟨rfl, XA⟩
                have XX := hid (XX.out.trans XA)
                clear d0 d1 d2
                go_wp2_with fail
                refine (awake_any _).mono ?_
                rintro e WZ ⟨rfl, XZ⟩
                have XZ := hid (XX.out.trans XZ)
                go_wp2_with fail
                go_ret
                exact ⟨rfl, X3.out.trans XZ.out⟩
        | false =>
          have z9 := HQ.out rfl
          go_wp2_with fail
          refine ⟨In.of X9.out, In.of X9.out, ?_⟩
          have y0 := HY.out.1
          have y1 := HY.out.2.1
          have y2 := HY.out.2.2
          change wpQuiet _ _ (fun w' => ∃ t : LaterF none' W7, w' = t.w) _ _ _
          repeat (go_big_quiet_step (fail))
          refine wpQuiet_nil ?_
          clear y0 y1 y2
          go_wp2_with fail
          refine (PL.out _ _ (HBV.out.ext (E47.out.trans X9.out) fun _ _ h => h)).mono ?_
          rintro e W10 ⟨u10, rfl, hu10, X10⟩
          have H10 := hid hu10
          clear hu10
          have X10 := hid (X9.out.trans X10)
          go_wp2_with fail
          refine ⟨In.of X10.out, ?_⟩
          go_wp2_with fail
          refine (PS.out _ _ H10.out).mono ?_
          rintro e W11 ⟨rfl, X11⟩
          have X11 := hid (X10.out.trans X11)
          go_wp2_with fail
          refine ⟨In.of X11.out, In.of X11.out, ?_⟩
          have z8 : decide ((b.size : Int) < 90) = false := by simp; omega
          change wpQuiet _ _ (fun w' => ∃ t : LaterF none' W7, w' = t.w) _ _ _
          repeat (go_big_quiet_step (fail))
          refine wpQuiet_nil ?_
          have XX := hid (X7.out.trans X11.out)
          have X47 := hid (E47.out.trans X11.out)
          have g8 := X11.out.heap G8.out fun h => h
          have g6 := X11.out.heap G6.out fun h => h
          have HG6 := hid g6
          have c0 := cell_at g8 0
          have c1 := cell_at g8 1
          have c2 := cell_at g8 2
          simp only [List.getElem?_toArray, List.getElem?_cons_zero, List.getElem?_cons_succ] at c0 c1 c2
          have d0 := cell_at g6 0
          have d1 := cell_at g6 1
          have d2 := cell_at g6 2
          simp only [List.getElem?_toArray, List.getElem?_cons_zero, List.getElem?_cons_succ] at d0 d1 d2
          clear g8 g6
          by_cases k0 : f.kind = 0
          · rw [k0] at c0
            clear k0
            go_wp2_with fail
            refine (awake_any _).mono ?_
            rintro e WZ ⟨rfl, XZ⟩
            have XZ := hid (XX.out.trans XZ)
            go_wp2_with fail
            go_ret
            exact ⟨rfl, X3.out.trans XZ.out⟩
          · by_cases k2 : f.kind = 2
            · rw [k2] at c0
              clear k0 k2
              go_wp2_with fail
              refine (awake_any _).mono ?_
              rintro e WZ ⟨rfl, XZ⟩
              have XZ := hid (XX.out.trans XZ)
              go_wp2_with fail
              go_ret
              exact ⟨rfl, X3.out.trans XZ.out⟩
            · have KK := hid (And.intro k0 k2)
              have e0 : (f.kind == 0) = false := by simpa using k0
              have e2 : (f.kind == 2) = false := by simpa using k2
              clear k0 k2
              go_wp2_with fail
              refine (CSF.out _ _ _ (HFV.out.ext (X67.out.trans X11.out) fun _ _ h => h) (HFV.out.ext (X67.out.trans X11.out) fun _ _ h => h)).mono ?_
              rintro e WS ⟨rfl, XS⟩
              have g6 := XS.heap HG6.out fun h => h
              have XX := hid (XX.out.trans XS)
              clear c0 c1 c2 d0 d1 d2 e0 e2
              have d0 := cell_at g6 0
              have d1 := cell_at g6 1
              have d2 := cell_at g6 2
              simp only [List.getElem?_toArray, List.getElem?_cons_zero, List.getElem?_cons_succ] at d0 d1 d2
              clear g6
              cases r with
              | false =>
                go_wp2_with fail
                refine (awake_any _).mono ?_
                rintro e WZ ⟨rfl, XZ⟩
                have XZ := hid (XX.out.trans XZ)
                go_wp2_with fail
                go_ret
                exact ⟨rfl, X3.out.trans XZ.out⟩
              | true =>
                obtain rfl := HAS.out KK.out.1 KK.out.2 rfl
                go_wp2_with fail
                refine (CA.out _ XX.out).mono ?_
                rintro e WA ⟨rfl, XA⟩
                have XX := hid (XX.out.trans XA)
                clear d0 d1 d2
                go_wp2_with fail
                refine (awake_any _).mono ?_
                rintro e WZ ⟨rfl, XZ⟩
                have XZ := hid (XX.out.trans XZ)
                go_wp2_with fail
                go_ret
                exact ⟨rfl, X3.out.trans XZ.out⟩
    · have z1 : (60 : Int) < (t.size : Int) := by omega
      go_enter Tryz.func5, Tryz.ntmps5
      go_wp2_with fail
      refine (C1.out _ ((Ext.refl _ _).alloc _)).mono ?_
      rintro e W1 ⟨rfl, X1⟩
      have G0 := hid (X1.heap G0.out fun h => h)
      have X1 := hid (((Ext.refl none' w).alloc _).trans X1)
      have c0 := cell_at G0.out 0
      have c1 := cell_at G0.out 1
      have c2 := cell_at G0.out 2
      simp only [List.getElem?_toArray, List.getElem?_cons_zero, List.getElem?_cons_succ] at c0 c1 c2
      rw [HB.out] at c0 c1 c2
      go_wp2_with fail
      refine (C2.out _ X1.out).mono ?_
      rintro e W2 ⟨rfl, X2⟩
      have X2 := hid (X1.out.trans X2)
      clear c0 c1 c2
      go_wp2_with fail
      go_ret
      exact ⟨rfl, X2.out⟩
end Go.Proofs.YtbhpmmofgdppdaaGreatDoor
