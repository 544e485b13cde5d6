import Derived.Test.YtmlhkgocilpobaaKiBeh
namespace Go.Proofs.Ytmlhkgocilpobaa
open Go.RowKit Go.Lib Go.BigFrame
structure BehRel (ds : List Df) (p : Ty) (D : Nat → Prop) (B : Nat) (w wr : World) (t : Ty) (x : Value) (i : Nat) : Prop where
  g0 : wr.heap[B]? = some (.cells #[.int .i64 t.kind, .string ⟨t.name.toArray⟩, x] 33 (0, 0))
  g1 : wr.heap[B + 1]? = some (.cells #[.int .i64 0, .string ⟨#[]⟩, .slice none 0 0] 33 (0, 0))
  hx : Ext none' w wr
  rep : IsSl 3 IsTy D wr x t.args
  sz : t.size ≤ bigD
  res : p = behP ds (100 - i) t
set_option maxRecDepth 100000 in
set_option maxHeartbeats 3200000 in
theorem Behind_any (ds : List Df) (hds : DefsFit ds) (t : Ty) (ht : t.size ≤ bigD) (A : Nat → Prop) (dv v : Value) (w : World) (hd : IsSl 6 IsDf A w dv ds) (hv : TyV A w t v) (hA : ∀ b, A b → b < w.heap.size) :
    Calls Try.prog 25 #[dv, v] w (TyPost none' A w (behindP ds t)) := by
  obtain ⟨p, hp⟩ : ∃ p, p = behindP ds t := ⟨_, rfl⟩
  rw [← hp]
  unfold behindP at hp
  obtain ⟨x, rfl, hx⟩ := hv
  obtain ⟨B, hB⟩ : ∃ B, B = w.heap.size := ⟨_, rfl⟩
  obtain ⟨D, hD⟩ : ∃ D, D = and1 (and1 A B) (B + 1) := ⟨_, rfl⟩
  have dn : ∀ b, b < w.heap.size → D b → A b := fun b hb h => by
    rw [hD] at h
    rcases h with (h | h) | h
    · exact h
    · omega
    · omega
  have HD := hid (hd.mono isDf_good dn)
  have hx1 := hx.mono isTy_good dn
  have HX := hid hx1
  have hDA : Hid (∀ b, and1 A (B + 1) b → D b) := hid (fun b h => by rw [hD]; exact h.elim (fun h => .inl (.inl h)) .inr)
  have hDB : Hid (D B) := hid (by rw [hD]; exact .inl (.inr rfl))
  have hDlt : Hid (∀ (W : World), B + 2 ≤ W.heap.size → ∀ b, D b → b < W.heap.size) := hid (fun W hW b h => by
    rw [hD] at h
    rcases h with (h | h) | h
    · have := hA b h; omega
    · omega
    · omega)
  obtain ⟨a0, cap0, rfl, _⟩ := hx
  obtain ⟨ad, capd, rfl, _⟩ := hd
  have R0 : Hid (∀ wr, wr = (w.alloc (.cells #[.int .i64 t.kind, .string ⟨t.name.toArray⟩, .slice a0 t.args.length cap0] 33)).alloc (.cells #[.int .i64 0, .string ⟨#[]⟩, .slice none 0 0] 33) → BehRel ds p D B w wr t (.slice a0 t.args.length cap0) 0) := hid (fun wr hwr => by
    subst hwr
    exact ⟨heap_alloc_keep (heap_alloc_at hB _) _, heap_alloc_at (by rw [hB]; simp) _, ((Ext.refl _ _).alloc _).alloc _, HX.out.ext isTy_good (((Ext.refl none' _).alloc _).alloc _) fun _ _ h => h.elim, ht, hp⟩)
  have HB := hid hB
  have HDD := hid hD
  clear hp hx1 dn hD
  go_enter Try.func25, Try.ntmps25
  go_wp2_with fail
  rw [← hB]
  clear hB
  go_loopw [6] (fun z wr => ∃ (i : Nat) (t' : Ty) (x : Value), z = .int .i64 (i : Nat) ∧ i ≤ 100 ∧ Hid (BehRel ds p D B w wr t' x i)) (fun z _ => 100 - (RowKit.intOf z).toNat)
  case atStart => exact ⟨0, t, _, rfl, by omega, hid (R0.out _ rfl)⟩
  case round =>
    obtain ⟨i, t', x, rfl, hle, R⟩ := hrel
    have hrep := R.out.rep
    obtain ⟨a3, cap3, rfl, _⟩ := hrep
    have c0 := cell_at R.out.g0 0
    have c1 := cell_at R.out.g0 1
    have c2 := cell_at R.out.g0 2
    have e0 := cell_at R.out.g1 0
    have e1 := cell_at R.out.g1 1
    have e2 := cell_at R.out.g1 2
    have f0 := free_at R.out.g1 0
    have f1 := free_at R.out.g1 1
    have f2 := free_at R.out.g1 2
    simp only [List.getElem?_toArray, List.getElem?_cons_zero, List.getElem?_cons_succ] at c0 c1 c2 e0 e1 e2
    have hsz := hid (show B + 2 ≤ wr.heap.size by have := heap_lt R.out.g1; omega)
    by_cases hi : i < 100
    · obtain ⟨g, hg⟩ : ∃ g, 100 - i = g + 1 := ⟨99 - i, by omega⟩
      have HRES : Hid (p = if t'.kind ≠ 3 then t' else match findD ds t' with
        | none => Ty.zero
        | some d => if 1000 < sizeW t' then Ty.zero else behP ds g (withT d.params t'.args d.ty)) := hid (by rw [R.out.res, hg]; rfl)
      by_cases hk : t'.kind = 3
      · have HRES2 := hid (HRES.out.trans (if_neg (fun h => h hk)))
        have HTV : Hid (∀ W, Ext none' wr W → TyV D W t' (.agg #[.int .i64 3, .string ⟨t'.name.toArray⟩, .slice a3 t'.args.length cap3])) := hid (fun W X => ⟨_, by rw [hk], R.out.rep.ext isTy_good X fun _ _ h => h.elim⟩)
        have CF := hid (find_any ds hds.len t' D (.slice ad ds.length capd) _ wr (HD.out.ext isDf_good R.out.hx fun _ _ h => h.elim) (HTV.out wr (Ext.refl _ _)))
        rw [hk] at c0
        obtain ⟨fd, hfd⟩ : ∃ fd, findD ds t' = fd := ⟨_, rfl⟩
        rw [hfd] at CF HRES2
        have HFD := hid hfd
        have HK := hid hk
        clear hfd hk
        go_wp2_with fail
        refine CF.out.mono ?_
        rintro e' W1 ⟨q, rfl, X1, hq0, hq⟩
        have X1' := hid X1
        have g0 := X1.heap R.out.g0 (fun h => h)
        have g1 := X1.heap R.out.g1 (fun h => h)
        clear c0 c1 c2 e0 e1 e2 f0 f1 f2
        have c0 := cell_at g0 0
        have c1 := cell_at g0 1
        have c2 := cell_at g0 2
        have e0 := cell_at g1 0
        have e1 := cell_at g1 1
        have e2 := cell_at g1 2
        have f0 := free_at g1 0
        have f1 := free_at g1 1
        have f2 := free_at g1 2
        have k0 := free_at g0 0
        have k1 := free_at g0 1
        have k2 := free_at g0 2
        simp only [List.getElem?_toArray, List.getElem?_cons_zero, List.getElem?_cons_succ] at c0 c1 c2 e0 e1 e2
        rw [HK.out] at c0
        have G0 := hid g0
        have G1 := hid g1
        have X1t := hid (R.out.hx.trans X1)
        cases fd with
        | none =>
          obtain rfl := hq0 rfl
          have e3 : Hid (p = Ty.zero) := hid HRES2.out
          go_wp2_with fail
          refine ret_ty rfl rfl (set3 G1.out _ _ _) rfl ?_
          rw [e3.out]
          exact ⟨_, rfl, ⟨.slice none 0 0, rfl, IsSl.nil _ _ _ _⟩, (X1t.out).set3 (b := B + 1) (.inr (by have := HB.out; omega)) _ _ _⟩
        | some d =>
          obtain ⟨b, off, cs, rfl, hAb, hbw, hcc, hdf⟩ := hq d rfl
          obtain ⟨pv, tv, rfl, hpv, htv⟩ := hdf
          have hcc := hid hcc
          have y1 := (hcc.out.ext (F := none') X1 hbw (fun h => h)) 1 _ rfl
          have y2 := (hcc.out.ext (F := none') X1 hbw (fun h => h)) 2 _ rfl
          have y3 := (hcc.out.ext (F := none') X1 hbw (fun h => h)) 3 _ rfl
          have y4 := (hcc.out.ext (F := none') X1 hbw (fun h => h)) 4 _ rfl
          have HPV := hid hpv
          have HTV2 := hid htv
          have hmem := findD_mem HFD.out
          have hdty := hid (hds.ok _ hmem)
          have hdps := hid (hds.pars _ hmem)
          obtain ⟨a1, cap1, rfl, _⟩ := hpv
          obtain ⟨a2, cap2, rfl, _⟩ := htv
          obtain ⟨dn, dp, dt, da⟩ := d
          simp only at y1 y2 y3 y4 HPV HTV2
          have CS := hid (size_any t' R.out.sz D _ W1 (HTV.out W1 X1))
          have hbs := fun h => beh_size hds.ok HFD.out h
          have hsw := sizeW_le t'
          have hsw2 := R.out.sz
          obtain ⟨sw, hsw'⟩ : ∃ sw, sizeW t' = sw := ⟨_, rfl⟩
          rw [hsw'] at CS HRES2 hbs hsw
          have hsw3 : sw ≤ 20000000000 := by unfold bigD at hsw2; omega
          have HBS := hid hbs
          have HW := hid hbw
          clear hsw' hsw hsw2 hbs hmem hq hq0 hAb hbw
          by_cases hbig : 1000 < sw
          · have e3 : Hid (p = Ty.zero) := hid (HRES2.out.trans (if_pos hbig))
            have q2 : decide (1000 < (sw : Int)) = true := by simp; omega
            go_wp2_with fail
            refine CS.out.mono ?_
            rintro e' W2 ⟨rfl, X2⟩
            have g1 := X2.heap G1.out (fun h => h)
            clear e0 e1 e2 f0 f1 f2
            have e0 := cell_at g1 0
            have e1 := cell_at g1 1
            have e2 := cell_at g1 2
            have f0 := free_at g1 0
            have f1 := free_at g1 1
            have f2 := free_at g1 2
            simp only [List.getElem?_toArray, List.getElem?_cons_zero, List.getElem?_cons_succ] at e0 e1 e2
            have G1 := hid g1
            have X1t := hid (X1t.out.trans X2)
            clear g1 X2
            go_wp2_with fail
            refine ret_ty rfl rfl (set3 G1.out _ _ _) rfl ?_
            rw [e3.out]
            exact ⟨_, rfl, ⟨.slice none 0 0, rfl, IsSl.nil _ _ _ _⟩, (X1t.out).set3 (b := B + 1) (.inr (by have := HB.out; omega)) _ _ _⟩
          · have e3 : Hid (p = behP ds g (withT dp t'.args dt)) := hid (HRES2.out.trans (if_neg hbig))
            have q2 : decide (1000 < (sw : Int)) = false := by simp; omega
            have hnew := hid (HBS.out (by omega))
            go_wp2_with fail
            refine CS.out.mono ?_
            rintro e' W2 ⟨rfl, X2⟩
            have X1w := hid (X1'.out.trans X2)
            have CW := hid fun W (X : Ext none' W2 W) => with_any dp t'.args (by have := hdps.out; exact this) dt (by have := hdty.out; omega) D (.agg #[.int .i64 dt.kind, .string ⟨dt.name.toArray⟩, .slice a2 dt.args.length cap2]) (.slice a1 dp.length cap1) (.slice a3 t'.args.length cap3) W
              ⟨_, rfl, (HTV2.out.ext isTy_good X1w.out fun _ _ h => h.elim).ext isTy_good X fun _ _ h => h.elim⟩ ((HPV.out.ext isStr_good X1w.out fun _ _ h => h.elim).ext isStr_good X fun _ _ h => h.elim) ((R.out.rep.ext isTy_good X1w.out fun _ _ h => h.elim).ext isTy_good X fun _ _ h => h.elim) (hDlt.out W (by have := hsz.out; have := X1w.out.size; have := X.size; omega))
            have r2 := fun t : LaterF none' W2 => cell_at ((X2.trans t.x).heap G0.out (fun h => h)) 2
            have r4 := fun t : LaterF none' W2 => ((X1w.out.trans t.x).cell (p := ⟨b, off + 1, none⟩) HW.out (fun h => h)).trans (hcc.out 1 _ rfl)
            have r5 := fun t : LaterF none' W2 => ((X1w.out.trans t.x).cell (p := ⟨b, off + 2, none⟩) HW.out (fun h => h)).trans (hcc.out 2 _ rfl)
            have r6 := fun t : LaterF none' W2 => ((X1w.out.trans t.x).cell (p := ⟨b, off + 3, none⟩) HW.out (fun h => h)).trans (hcc.out 3 _ rfl)
            have r7 := fun t : LaterF none' W2 => ((X1w.out.trans t.x).cell (p := ⟨b, off + 4, none⟩) HW.out (fun h => h)).trans (hcc.out 4 _ rfl)
            simp only [List.getElem?_toArray, List.getElem?_cons_zero, List.getElem?_cons_succ] at r2 r4 r5 r6 r7
            have g0 := X2.heap G0.out (fun h => h)
            have g1 := X2.heap G1.out (fun h => h)
            have G0 := hid g0
            have G1 := hid g1
            have X2t := hid (X1t.out.trans X2)
            clear c0 c1 c2 e0 e1 e2 f0 f1 f2 k0 k1 k2 y1 y2 y3 y4 g0 g1 X1 X2
            go_upto_region 8 with (fail)
            refine region_tree none' W2 [0, 1, 2, 3, 4, 5, 6, 7, 8, 9] (.one 10 false (.one 11 false .fin)) (by kernel_rfl) (by kernel_rfl) (fun dst v c a w h => by cases dst <;> exact h) (Ext.refl _ _) ?_
            simp only [sel, List.getElem?_cons_succ, List.getElem?_cons_zero]
            repeat (go_big_quiet_step (fail))
            refine wpQuiet_nil ?_
            simp only [wpTree, stepT, sel, List.getElem?_cons_succ, List.getElem?_cons_zero]
            clear r2 r4 r5 r6 r7
            go_wp2_with fail
            refine (CW.out _ (Ext.refl _ _).drew).mono ?_
            rintro e' W3 ⟨u, rfl, ⟨y, rfl, hy⟩, X3⟩
            have X3 : Ext none' W2 W3 := (Ext.refl _ _).drew.trans X3
            have HY := hid hy
            obtain ⟨a5, cap5, rfl, _⟩ := hy
            have g0 := X3.heap G0.out (fun h => h)
            have g1 := X3.heap G1.out (fun h => h)
            have c0 := cell_at g0 0
            have c1 := cell_at g0 1
            have c2 := cell_at g0 2
            have k0 := free_at g0 0
            have k1 := free_at g0 1
            have k2 := free_at g0 2
            simp only [List.getElem?_toArray, List.getElem?_cons_zero, List.getElem?_cons_succ] at c0 c1 c2
            have N : Hid (BehRel ds p D B w (((W3.setCell ⟨B, 0, none⟩ (.int .i64 (withT dp t'.args dt).kind)).setCell ⟨B, 1, none⟩ (.string ⟨(withT dp t'.args dt).name.toArray⟩)).setCell ⟨B, 2, none⟩ (.slice a5 (withT dp t'.args dt).args.length cap5)) (withT dp t'.args dt) (.slice a5 (withT dp t'.args dt).args.length cap5) (i + 1)) := hid
              ⟨set3 g0 _ _ _, heap_setCell_other (heap_setCell_other (heap_setCell_other g1 (by simp) _) (by simp) _) (by simp) _, (X2t.out.trans X3).set3 (b := B) (.inr (by have := HB.out; omega)) _ _ _,
                HY.out.ext isTy_good (Ext.self3 _ _ _ _ _) (fun b _ h => by have h' : b = B := h; rw [h']; exact hDB.out), hnew.out, by rw [e3.out]; congr 1; omega⟩
            clear g0 g1 X3
            obtain ⟨nt, hnt⟩ : ∃ nt, withT dp t'.args dt = nt := ⟨_, rfl⟩
            rw [hnt] at N ⊢
            clear hnt
            go_wp2_with fail
            go_roundw
            case rel => exact ⟨i + 1, nt, _, by go_num, by omega, N⟩
            case measure => simp [RowKit.intOf]; omega
      · have e3 : Hid (p = t') := hid (by rw [HRES.out, if_pos hk])
        have q1 : (t'.kind != 3) = true := by simp [hk]
        clear hk
        go_wp2_with fail
        refine ret_ty rfl rfl (set3 R.out.g1 _ _ _) rfl ?_
        rw [e3.out]
        refine ⟨_, rfl, TyV.stored (R.out.rep.mono isTy_good fun b _ h => hDA.out b h) _ _ _, R.out.hx.set3 (b := B + 1) (.inr (by have := HB.out; omega)) _ _ _⟩
    · obtain rfl : i = 100 := by omega
      have e3 : Hid (p = Ty.zero) := hid (by rw [R.out.res]; rfl)
      go_wp2_with fail
      refine ret_ty rfl rfl (set3 R.out.g1 _ _ _) rfl ?_
      rw [e3.out]
      exact ⟨_, rfl, ⟨.slice none 0 0, rfl, IsSl.nil _ _ _ _⟩, R.out.hx.set3 (b := B + 1) (.inr (by have := HB.out; omega)) _ _ _⟩
end Go.Proofs.Ytmlhkgocilpobaa
