import Derived.Test.YtmlhkgocilpobaaUnFull
import Derived.Deep.Cut
import Derived.Deep.CutRange
/-
  unify.Find.
-/
namespace Go.Proofs.Ytmlhkgocilpobaa
open Go.RowKit Go.Lib Go.BigFrame
def UFindPost (o : Option (List Ty)) (w : World) (e : Ending) (w' : World) : Prop := ∃ u, e = .returned (.tuple #[u, .bool o.isSome]) ∧ IsSl 3 IsTy none' w' u (o.getD []) ∧ Ext none' w w'
def UFindPostZ (o : Option (List Ty)) (w : World) (e : Ending) (w' : World) : Prop := ∃ u, e = .returned (.tuple #[u, .bool o.isSome]) ∧ IsSl 3 IsTy none' w' u (o.getD []) ∧ Ext none' w w' ∧ (o.getD []).length ≤ 1000000 ∧ ∀ x ∈ o.getD [], x.size ≤ bigD
theorem nofun_mem {x : Ty} (h : x ∈ (none : Option (List Ty)).getD []) : x.size ≤ bigD := by cases h
structure FnRel (ds : List Df) (row : List (List UInt8)) (ps ts : List Ty) (S base : Nat) (dv rv bv : Value) (w wr : World) (i : Nat) : Prop where
  at' : ∃ b, findAt ds row ps ts (by0 ds row) i = some b ∧ St ds row b S base dv rv bv wr ∧ ∀ x ∈ b, x.size ≤ bigD
  hx : Ext none' w wr
set_option maxRecDepth 100000 in
set_option maxHeartbeats 6400000 in
theorem Find_anyZ (ds : List Df) (hds : DefsFit ds) (row : List (List UInt8)) (hrl : row.length ≤ 1000000) (ps ts : List Ty) (hpl : ps.length ≤ 1000000) (htl : ts.length ≤ 1000000) (hpz : ∀ x ∈ ps, x.size ≤ bigD) (htz : ∀ x ∈ ts, x.size ≤ bigD) (dv rv pv tv : Value) (w : World)
    (hd : IsSl 6 IsDf none' w dv ds) (hr : IsStrs none' w rv row) (hp : IsSl 3 IsTy none' w pv ps) (ht : IsSl 3 IsTy none' w tv ts) : Calls Try.prog 8 #[dv, rv, pv, tv] w (UFindPostZ (findP ds row ps ts) w) := by
  have HD := hid hd
  have HRW := hid hr
  have HP := hid hp
  have HT := hid ht
  have HPZ := hid hpz
  have HTZ := hid htz
  obtain ⟨ad, capd, rfl, _⟩ := hd
  obtain ⟨ar, capr, rfl, _⟩ := hr
  obtain ⟨a1, cap1, rfl, _⟩ := hp
  obtain ⟨a2, cap2, rfl, _⟩ := ht
  obtain ⟨i0, hi0, hz0, hz1, hz2⟩ := info_parts infoTy
  have hmk : ∀ u : World, (Instr.makeSlice 31 (.int .i64 (row.length : Nat)) (.int .i64 (row.length : Nat))).run Try.prog u = .ok (.slice (some ⟨u.heap.size, 0, none⟩) row.length row.length) (u.alloc (.cells (madeCells #[.int .i64 0, .string ⟨#[]⟩, .slice none 0 0] (3 * row.length)) 33)) := fun u => by
    have h := run_make (P := Try.prog) u 31 33 i0 _ Try.underlying31 hi0 hz0 .i64 .i64 (row.length : Nat) (row.length : Nat) (by omega) (Int.le_refl _) (by rw [hz2]; omega) (by omega)
    rw [Int.toNat_natCast, hz1, Nat.mul_comm] at h
    exact h
  obtain ⟨W1, hW1⟩ : ∃ W1, W1 = w.alloc (.cells (madeCells #[.int .i64 0, .string ⟨#[]⟩, .slice none 0 0] (3 * row.length)) 33) := ⟨_, rfl⟩
  have X1 : Hid (Ext none' w W1) := hid (by rw [hW1]; exact (Ext.refl _ _).alloc _)
  have CB := hid (begin_any ds hds row hrl (List.replicate row.length Ty.zero) (by simpa using hrl) (fun t ht => by rw [List.eq_of_mem_replicate ht]; simp [Ty.zero, Ty.size, Ty.sizeL, bigD]) (.slice ad ds.length capd) (.slice ar row.length capr) (.slice (some ⟨w.heap.size, 0, none⟩) row.length row.length) W1 (HD.out.ext isDf_good X1.out fun _ _ h => h.elim) (HRW.out.ext isStr_good X1.out fun _ _ h => h.elim) (made_sl none' (fun h => h) (by rw [hW1]; exact heap_alloc_at rfl _)))
  obtain ⟨o, ho⟩ : ∃ o, o = findP ds row ps ts := ⟨_, rfl⟩
  rw [← ho]
  have HO := hid ho
  clear ho hpz htz hi0 hz0 hz1 hz2
  go_enter Try.func8, Try.ntmps8
  go_wp2_with fail
  rw [← hW1]
  clear hW1 hmk
  refine CB.out.mono ?_
  rintro e W2 hB
  unfold BeginPost at hB
  by_cases htw : twiceP row = true
  · rw [if_pos (.inr htw)] at hB
    obtain ⟨rfl, X2⟩ := hB
    have X2 := hid (X1.out.trans X2)
    have HN : Hid (o = none) := hid (by rw [HO.out, findP, if_pos (.inl htw)])
    clear htw
    go_wp2_with fail
    refine bodyPost_ret (results_tmp2 rfl _ _ _) rfl ?_
    rw [HN.out]
    exact ⟨_, rfl, IsSl.nil _ _ _ _, X2.out, by simp, fun _ => nofun_mem⟩
  · rw [if_neg (by simpa using htw)] at hB
    obtain ⟨S, bv, rfl, hst, X2, hSw⟩ := hB
    have hst : St ds row (by0 ds row) S (S + 1) (.slice ad ds.length capd) (.slice ar row.length capr) bv W2 := hst
    have X2 := hid (X1.out.trans X2)
    have HST := hid hst
    have HSW := hid (show w.heap.size ≤ S by have := X1.out.size; omega)
    have HTW := hid htw
    clear hst hSw htw
    by_cases hl : ps.length = ts.length
    · have q0 : ((ps.length : Int) != (ts.length : Int)) = false := by simp only [bne_eq_false_iff_eq]; omega
      have HL := hid hl
      have HF : Hid (o = tailP row ps ts (findAt ds row ps ts (by0 ds row) ts.length)) := hid (by rw [HO.out, findP, if_neg (by rw [not_or]; exact ⟨HTW.out, fun h => h hl⟩)])
      clear hl
      go_wp2_with fail
      go_loopw [37] (fun z wr => ∃ (i : Nat), z = .int .i64 (i : Nat) ∧ i ≤ ts.length ∧ Hid (FnRel ds row ps ts S (S + 1) (.slice ad ds.length capd) (.slice ar row.length capr) bv w wr i)) (fun z _ => ts.length - (RowKit.intOf z).toNat)
      case atStart => exact ⟨0, rfl, by omega, hid ⟨⟨_, rfl, HST.out, fun x hx => by obtain ⟨y, _, rfl⟩ := List.mem_map.1 hx; have := full_size hds.ok y; unfold bigD; omega⟩, X2.out⟩⟩
      case round =>
        obtain ⟨i, rfl, hle, R⟩ := hrel
        obtain ⟨b, hat, hsb, hbz⟩ := R.out.at'
        have SB := hid hsb
        have BZ := hid hbz
        have HAT := hid hat
        clear hat hsb hbz
        by_cases hi : i < ts.length
        · have hip : i < ps.length := by have := HL.out; omega
          obtain ⟨tb, toff, tcs, e1, _, htw, htc, hty⟩ := HT.out.at i hi
          obtain ⟨x, rfl, hx⟩ := hty.parts
          obtain ⟨pb, poff, pcs, e2, _, hpw, hpc, hpy⟩ := HP.out.at i hip
          obtain ⟨x', rfl, hx'⟩ := hpy.parts
          have HX := hid hx
          have HX' := hid hx'
          obtain ⟨a3, cap3, rfl, _⟩ := hx
          obtain ⟨a4, cap4, rfl, _⟩ := hx'
          subst e1 e2
          have HTC := hid (htc.ext R.out.hx htw (fun h => h))
          have HPC := hid (hpc.ext R.out.hx hpw (fun h => h))
          have hpw' := hid (Nat.lt_of_lt_of_le hpw R.out.hx.size)
          have HNX : Hid (findAt ds row ps ts (by0 ds row) (i + 1) = pairStep ds row ps[i] ts[i] b) := hid (by
            rw [findAt, HAT.out]
            simp only
            rw [List.getD_eq_getElem?_getD, List.getElem?_eq_getElem hip, List.getD_eq_getElem?_getD, List.getElem?_eq_getElem hi]
            rfl)
          obtain ⟨p, hpp⟩ : ∃ p, ps[i] = p := ⟨_, rfl⟩
          obtain ⟨t, htt⟩ : ∃ t, ts[i] = t := ⟨_, rfl⟩
          have hpsz : p.size ≤ bigD := by rw [← hpp]; exact HPZ.out _ (List.getElem_mem hip)
          have htsz : t.size ≤ bigD := by rw [← htt]; exact HTZ.out _ (List.getElem_mem hi)
          rw [hpp] at HPC HX' HNX
          rw [htt] at HTC HX HNX
          unfold pairStep at HNX
          have HPS := hid hpsz
          have HTS := hid htsz
          have c0 := HTC.out 0 _ rfl
          have c1 := HTC.out 1 _ rfl
          have c2 := HTC.out 2 _ rfl
          simp only [Nat.add_zero] at c0
          clear htc hpc hty hpy hpp htt hpw htw hpsz htsz
          by_cases hk : t.kind = 2
          · have q2 : (t.kind == 2) = true := by simpa using hk
            have N := hid fun (W : World) (X : Ext none' wr W) => (show FnRel ds row ps ts S (S + 1) (.slice ad ds.length capd) (.slice ar row.length capr) bv w W (i + 1) from ⟨⟨b, by rw [HNX.out, if_pos hk], SB.out.ext X, BZ.out⟩, R.out.hx.trans X⟩)
            clear hk
            go_wp2_with fail
            go_roundw
            case rel => exact ⟨i + 1, by go_num, by omega, hid (N.out _ ((Ext.refl _ _).alloc _))⟩
            case measure => simp [RowKit.intOf]; omega
          · have q2 : (t.kind == 2) = false := by simpa using hk
            have HNX : Hid (findAt ds row ps ts (by0 ds row) (i + 1) = if (fullP ds p).kind ≠ 0 ∧ (fullP ds t).kind ≠ 0 then if (fitsP ds row 100 (fullP ds p) (fullP ds t) b).1 then some (fitsP ds row 100 (fullP ds p) (fullP ds t) b).2 else none else none) := hid (by rw [HNX.out, if_neg hk])
            clear hk
            go_upto_region 8 with (fail)
            obtain ⟨W1, hW1⟩ : ∃ W1, W1 = wr.alloc (.cells #[.int .i64 t.kind, .string ⟨t.name.toArray⟩, .slice a3 t.args.length cap3] 33) := ⟨_, rfl⟩
            obtain ⟨T, hT⟩ : ∃ T, T = wr.heap.size := ⟨_, rfl⟩
            have X1 : Hid (Ext none' wr W1) := hid (by rw [hW1]; exact (Ext.refl _ _).alloc _)
            have GT : Hid (W1.heap[T]? = some (.cells #[.int .i64 t.kind, .string ⟨t.name.toArray⟩, .slice a3 t.args.length cap3] 33 (0, 0))) := hid (by rw [hW1]; exact heap_alloc_at hT _)
            rw [← hW1, ← hT]
            clear hW1 hT c0 c1 c2
            have HOB := hid fun q (h : plus none' bv q) => (show q < wr.heap.size from h.elim (fun h => h.elim) fun h => (SB.out.b.lt q h).2)
            have HOW := hid fun q (h : plus none' bv q) => (show S + 1 ≤ q from h.elim (fun h => h.elim) fun h => (HST.out.b.lt q h).1)
            have XW1 := hid (R.out.hx.trans X1.out)
            have CF2 := hid fun (A : Nat → Prop) (W : World) (X : Ext none' W1 W) (hA : ∀ q, A q → q < W.heap.size) (hAi : ∀ q, A q → plus none' bv q ∨ W1.heap.size ≤ q) => full2_any hds (SB.out.ext (X1.out.trans X)) p t HPS.out HTS.out (.agg #[.int .i64 p.kind, .string ⟨p.name.toArray⟩, .slice a4 p.args.length cap4]) (.agg #[.int .i64 t.kind, .string ⟨t.name.toArray⟩, .slice a3 t.args.length cap3]) A hA
              ((HD.out.mono (B := A) isDf_good fun q hq h => (hAi q h).elim (fun h => by have := HOW.out q h; have := HSW.out; omega) fun h => by have := XW1.out.size; omega).ext isDf_good (XW1.out.trans X) fun _ _ h => h.elim)
              ⟨_, rfl, (HX'.out.mono (B := A) isTy_good fun q hq h => (hAi q h).elim (fun h => by have := HOW.out q h; have := HSW.out; omega) fun h => by have := XW1.out.size; omega).ext isTy_good (XW1.out.trans X) fun _ _ h => h.elim⟩
              ⟨_, rfl, (HX.out.mono (B := A) isTy_good fun q hq h => (hAi q h).elim (fun h => by have := HOW.out q h; have := HSW.out; omega) fun h => by have := XW1.out.size; omega).ext isTy_good (XW1.out.trans X) fun _ _ h => h.elim⟩
            obtain ⟨p', hp'⟩ : ∃ p', fullP ds p = p' := ⟨_, rfl⟩
            obtain ⟨t', ht'⟩ : ∃ t', fullP ds t = t' := ⟨_, rfl⟩
            have HPS' := hid (show p'.size ≤ bigD by rw [← hp']; have := full_size hds.ok p; unfold bigD; omega)
            have HTS' := hid (show t'.size ≤ bigD by rw [← ht']; have := full_size hds.ok t; unfold bigD; omega)
            rw [hp', ht'] at CF2 HNX
            clear hp' ht'
            go_cut [14, 15, 16] from 45 to 55 (fun y z u wx => Hid (FdMid bv p' t' W1 y z u wx))
            case first =>
              have k0 := fun t' : LaterF none' W1 => cell_at (t'.x.heap GT.out (fun h => h)) 0
              have k1 := fun t' : LaterF none' W1 => cell_at (t'.x.heap GT.out (fun h => h)) 1
              have k2 := fun t' : LaterF none' W1 => cell_at (t'.x.heap GT.out (fun h => h)) 2
              have y0 := fun t' : LaterF none' W1 => ((X1.out.trans t'.x).cell (p := ⟨pb, poff + i * 3, none⟩) hpw'.out (fun h => h)).trans (by simpa using HPC.out 0 _ rfl)
              have y1 := fun t' : LaterF none' W1 => ((X1.out.trans t'.x).cell (p := ⟨pb, poff + i * 3 + 1, none⟩) hpw'.out (fun h => h)).trans (HPC.out 1 _ rfl)
              have y2 := fun t' : LaterF none' W1 => ((X1.out.trans t'.x).cell (p := ⟨pb, poff + i * 3 + 2, none⟩) hpw'.out (fun h => h)).trans (HPC.out 2 _ rfl)
              simp only [List.getElem?_toArray, List.getElem?_cons_zero, List.getElem?_cons_succ] at k0 k1 k2
              refine region_z none' W1 (.qs [0, 1, 2, 3, 4, 5] (.three 6 true (.qs [7, 8, 9, 10] (.two 11 true (.one 12 true (.one 13 true (.one 14 true (.one 15 false .fin)))) 12 true (.one 11 true (.one 13 true (.one 14 true (.one 15 false .fin)))))) 11 true (.two 6 true (.qs [7, 8, 9, 10] (.one 12 true (.one 13 true (.one 14 true (.one 15 false .fin))))) 12 true (.one 6 true (.qs [7, 8, 9, 10] (.one 13 true (.one 14 true (.one 15 false .fin)))))) 12 true (.two 6 true (.qs [7, 8, 9, 10] (.one 11 true (.one 13 true (.one 14 true (.one 15 false .fin))))) 11 true (.one 6 true (.qs [7, 8, 9, 10] (.one 13 true (.one 14 true (.one 15 false .fin)))))))) (by kernel_rfl) (by kernel_rfl) (fun dst v c a w h => by cases dst <;> exact h) ?_
              refine ⟨In.of (Ext.refl _ _).drew, ?_⟩
              change wpQuiet _ _ (fun w' => ∃ t : LaterF none' W1, w' = t.w) _ _ _
              simp only [sel, List.getElem?_cons_succ, List.getElem?_cons_zero]
              repeat (go_big_quiet_step (fail))
              refine wpQuiet_nil ?_
              simp only [wpTreeZ, stepT, sel, List.getElem?_cons_succ, List.getElem?_cons_zero]
              clear k0 k1 k2 y0 y1 y2
              have D1 := hid (Ext.refl none' W1).drew
              refine ⟨?_, ?_, ?_⟩
              · skip
                go_wp2_with fail
                refine (CF2.out (plus none' bv) _ D1.out (fun b h => by have := HOB.out b h; have := D1.out.size; have := X1.out.size; omega) (fun b h => .inl h)).mono ?_
                rintro e V1 ⟨u1, u2, rfl, ⟨px, rfl, hpx⟩, ⟨tx, rfl, htx⟩, E1⟩
                have U1 := hid hpx
                have T1 := hid htx
                obtain ⟨a5, cap5, rfl, _⟩ := hpx
                obtain ⟨a6, cap6, rfl, _⟩ := htx
                have XV1 := hid (D1.out.trans E1)
                go_wp2_with fail
                refine ⟨In.of XV1.out, In.of XV1.out, ?_⟩
                change wpQuiet _ _ (fun w' => ∃ t : LaterF none' W1, w' = t.w) _ _ _
                repeat (go_big_quiet_step (fail))
                refine wpQuiet_nil ?_
                refine ⟨?_, ?_⟩
                · skip
                  obtain ⟨V2, hV2⟩ : ∃ V2, V2 = V1.alloc (.cells #[.int .i64 0, .string ⟨#[]⟩, .slice none 0 0] 33 (0, 0)) := ⟨_, rfl⟩
                  obtain ⟨P2, hP2⟩ : ∃ P2, P2 = V1.heap.size := ⟨_, rfl⟩
                  go_wp2_with fail
                  rw [← hV2, ← hP2]
                  have XV2 : Hid (Ext none' W1 V2) := hid (by rw [hV2]; exact XV1.out.alloc _)
                  have GP2 : Hid (V2.heap[P2]? = some (.cells #[.int .i64 0, .string ⟨#[]⟩, .slice none 0 0] 33 (0, 0))) := hid (by rw [hV2, hP2]; exact heap_alloc_at rfl _)
                  have LP2 := hid (show W1.heap.size ≤ P2 by rw [hP2]; exact XV1.out.size)
                  have U2 : Hid (IsSl 3 IsTy (and1 (plus none' bv) P2) V2 (.slice a5 p'.args.length cap5) p'.args) := hid (by rw [hV2, hP2]; exact IsSl.fresh U1.out _)
                  have T2 : Hid (IsSl 3 IsTy (and1 (plus none' bv) P2) V2 (.slice a6 t'.args.length cap6) t'.args) := hid (by rw [hV2, hP2]; exact IsSl.fresh T1.out _)
                  clear hV2
                  clear hP2
                  refine ⟨In.of XV2.out, ?_⟩
                  obtain ⟨V3, hV3⟩ : ∃ V3, V3 = V2.alloc (.cells #[.int .i64 0, .string ⟨#[]⟩, .slice none 0 0] 33 (0, 0)) := ⟨_, rfl⟩
                  obtain ⟨Q3, hQ3⟩ : ∃ Q3, Q3 = V2.heap.size := ⟨_, rfl⟩
                  go_wp2_with fail
                  rw [← hV3, ← hQ3]
                  have XV3 : Hid (Ext none' W1 V3) := hid (by rw [hV3]; exact XV2.out.alloc _)
                  have GQ3 : Hid (V3.heap[Q3]? = some (.cells #[.int .i64 0, .string ⟨#[]⟩, .slice none 0 0] 33 (0, 0))) := hid (by rw [hV3, hQ3]; exact heap_alloc_at rfl _)
                  have LQ3 := hid (show W1.heap.size ≤ Q3 by rw [hQ3]; exact XV2.out.size)
                  have GP3 : Hid (V3.heap[P2]? = some (.cells #[.int .i64 0, .string ⟨#[]⟩, .slice none 0 0] 33 (0, 0))) := hid (by rw [hV3]; exact heap_alloc_keep GP2.out _)
                  have N3 := hid (show P2 ≠ Q3 by have := heap_lt GP2.out; omega)
                  have U3 : Hid (IsSl 3 IsTy (and1 (and1 (plus none' bv) P2) Q3) V3 (.slice a5 p'.args.length cap5) p'.args) := hid (by rw [hV3, hQ3]; exact IsSl.fresh U2.out _)
                  have T3 : Hid (IsSl 3 IsTy (and1 (and1 (plus none' bv) P2) Q3) V3 (.slice a6 t'.args.length cap6) t'.args) := hid (by rw [hV3, hQ3]; exact IsSl.fresh T2.out _)
                  clear hV3
                  clear hQ3
                  refine ⟨In.of XV3.out, ?_⟩
                  have HA : Hid (∀ b, avo bv P2 Q3 b → (and1 (and1 (plus none' bv) P2) Q3) b) := hid fun b h => by rcases h with h | rfl | rfl; (first | exact .inl h | exact .inl (.inl h)); all_goals (first | exact .inr rfl | exact .inl (.inr rfl))
                  have U0 := hid (U3.out.mono isTy_good fun b _ h => HA.out b h)
                  have T0 := hid (T3.out.mono isTy_good fun b _ h => HA.out b h)
                  have NE : Hid (P2 ≠ Q3) := hid N3.out
                  have M := hid (FdMid.mk1 XV3.out GP3.out GQ3.out NE.out LP2.out LQ3.out U0.out T0.out)
                  have f0 := free_at GP3.out 0
                  have f1 := free_at GP3.out 1
                  have f2 := free_at GP3.out 2
                  have e0 := cell_at GP3.out 0
                  have e1 := cell_at GP3.out 1
                  have e2 := cell_at GP3.out 2
                  simp only [List.getElem?_toArray, List.getElem?_cons_zero, List.getElem?_cons_succ] at e0 e1 e2
                  obtain ⟨W7, hW7⟩ : ∃ W7, W7 = ((V3.setCell ⟨P2, 0, none⟩ (.int .i64 p'.kind)).setCell ⟨P2, 1, none⟩ (.string ⟨p'.name.toArray⟩)).setCell ⟨P2, 2, none⟩ (.slice a5 p'.args.length cap5) := ⟨_, rfl⟩
                  rw [← hW7] at M
                  have X7 : Hid (Ext none' W1 W7) := hid (by rw [hW7]; exact XV3.out.set3 (.inr LP2.out) _ _ _)
                  have GQ7 : Hid (W7.heap[Q3]? = some (.cells #[.int .i64 0, .string ⟨#[]⟩, .slice none 0 0] 33 (0, 0))) := hid (by rw [hW7]; exact (Ext.self3 V3 P2 _ _ _).heap GQ3.out (fun h => NE.out h.symm))
                  go_wp2_with fail
                  rw [← hW7]
                  clear hW7 f0 f1 f2 e0 e1 e2
                  refine ⟨In.of X7.out, ?_⟩
                  have f0 := free_at GQ7.out 0
                  have f1 := free_at GQ7.out 1
                  have f2 := free_at GQ7.out 2
                  have e0 := cell_at GQ7.out 0
                  have e1 := cell_at GQ7.out 1
                  have e2 := cell_at GQ7.out 2
                  simp only [List.getElem?_toArray, List.getElem?_cons_zero, List.getElem?_cons_succ] at e0 e1 e2
                  go_wp2_with fail
                  refine ⟨In.of (X7.out.set3 (.inr LQ3.out) _ _ _), ?_⟩
                  go_wp2_with fail
                  go_meet
                  case rel => exact M
                · skip
                  obtain ⟨V4, hV4⟩ : ∃ V4, V4 = V1.alloc (.cells #[.int .i64 0, .string ⟨#[]⟩, .slice none 0 0] 33 (0, 0)) := ⟨_, rfl⟩
                  obtain ⟨Q4, hQ4⟩ : ∃ Q4, Q4 = V1.heap.size := ⟨_, rfl⟩
                  go_wp2_with fail
                  rw [← hV4, ← hQ4]
                  have XV4 : Hid (Ext none' W1 V4) := hid (by rw [hV4]; exact XV1.out.alloc _)
                  have GQ4 : Hid (V4.heap[Q4]? = some (.cells #[.int .i64 0, .string ⟨#[]⟩, .slice none 0 0] 33 (0, 0))) := hid (by rw [hV4, hQ4]; exact heap_alloc_at rfl _)
                  have LQ4 := hid (show W1.heap.size ≤ Q4 by rw [hQ4]; exact XV1.out.size)
                  have U4 : Hid (IsSl 3 IsTy (and1 (plus none' bv) Q4) V4 (.slice a5 p'.args.length cap5) p'.args) := hid (by rw [hV4, hQ4]; exact IsSl.fresh U1.out _)
                  have T4 : Hid (IsSl 3 IsTy (and1 (plus none' bv) Q4) V4 (.slice a6 t'.args.length cap6) t'.args) := hid (by rw [hV4, hQ4]; exact IsSl.fresh T1.out _)
                  clear hV4
                  clear hQ4
                  refine ⟨In.of XV4.out, ?_⟩
                  obtain ⟨V5, hV5⟩ : ∃ V5, V5 = V4.alloc (.cells #[.int .i64 0, .string ⟨#[]⟩, .slice none 0 0] 33 (0, 0)) := ⟨_, rfl⟩
                  obtain ⟨P5, hP5⟩ : ∃ P5, P5 = V4.heap.size := ⟨_, rfl⟩
                  go_wp2_with fail
                  rw [← hV5, ← hP5]
                  have XV5 : Hid (Ext none' W1 V5) := hid (by rw [hV5]; exact XV4.out.alloc _)
                  have GP5 : Hid (V5.heap[P5]? = some (.cells #[.int .i64 0, .string ⟨#[]⟩, .slice none 0 0] 33 (0, 0))) := hid (by rw [hV5, hP5]; exact heap_alloc_at rfl _)
                  have LP5 := hid (show W1.heap.size ≤ P5 by rw [hP5]; exact XV4.out.size)
                  have GQ5 : Hid (V5.heap[Q4]? = some (.cells #[.int .i64 0, .string ⟨#[]⟩, .slice none 0 0] 33 (0, 0))) := hid (by rw [hV5]; exact heap_alloc_keep GQ4.out _)
                  have N5 := hid (show Q4 ≠ P5 by have := heap_lt GQ4.out; omega)
                  have U5 : Hid (IsSl 3 IsTy (and1 (and1 (plus none' bv) Q4) P5) V5 (.slice a5 p'.args.length cap5) p'.args) := hid (by rw [hV5, hP5]; exact IsSl.fresh U4.out _)
                  have T5 : Hid (IsSl 3 IsTy (and1 (and1 (plus none' bv) Q4) P5) V5 (.slice a6 t'.args.length cap6) t'.args) := hid (by rw [hV5, hP5]; exact IsSl.fresh T4.out _)
                  clear hV5
                  clear hP5
                  refine ⟨In.of XV5.out, ?_⟩
                  have HA : Hid (∀ b, avo bv P5 Q4 b → (and1 (and1 (plus none' bv) Q4) P5) b) := hid fun b h => by rcases h with h | rfl | rfl; (first | exact .inl h | exact .inl (.inl h)); all_goals (first | exact .inr rfl | exact .inl (.inr rfl))
                  have U0 := hid (U5.out.mono isTy_good fun b _ h => HA.out b h)
                  have T0 := hid (T5.out.mono isTy_good fun b _ h => HA.out b h)
                  have NE : Hid (P5 ≠ Q4) := hid (fun h => N5.out h.symm)
                  have M := hid (FdMid.mk1 XV5.out GP5.out GQ5.out NE.out LP5.out LQ4.out U0.out T0.out)
                  have f0 := free_at GP5.out 0
                  have f1 := free_at GP5.out 1
                  have f2 := free_at GP5.out 2
                  have e0 := cell_at GP5.out 0
                  have e1 := cell_at GP5.out 1
                  have e2 := cell_at GP5.out 2
                  simp only [List.getElem?_toArray, List.getElem?_cons_zero, List.getElem?_cons_succ] at e0 e1 e2
                  obtain ⟨W7, hW7⟩ : ∃ W7, W7 = ((V5.setCell ⟨P5, 0, none⟩ (.int .i64 p'.kind)).setCell ⟨P5, 1, none⟩ (.string ⟨p'.name.toArray⟩)).setCell ⟨P5, 2, none⟩ (.slice a5 p'.args.length cap5) := ⟨_, rfl⟩
                  rw [← hW7] at M
                  have X7 : Hid (Ext none' W1 W7) := hid (by rw [hW7]; exact XV5.out.set3 (.inr LP5.out) _ _ _)
                  have GQ7 : Hid (W7.heap[Q4]? = some (.cells #[.int .i64 0, .string ⟨#[]⟩, .slice none 0 0] 33 (0, 0))) := hid (by rw [hW7]; exact (Ext.self3 V5 P5 _ _ _).heap GQ5.out (fun h => NE.out h.symm))
                  go_wp2_with fail
                  rw [← hW7]
                  clear hW7 f0 f1 f2 e0 e1 e2
                  refine ⟨In.of X7.out, ?_⟩
                  have f0 := free_at GQ7.out 0
                  have f1 := free_at GQ7.out 1
                  have f2 := free_at GQ7.out 2
                  have e0 := cell_at GQ7.out 0
                  have e1 := cell_at GQ7.out 1
                  have e2 := cell_at GQ7.out 2
                  simp only [List.getElem?_toArray, List.getElem?_cons_zero, List.getElem?_cons_succ] at e0 e1 e2
                  go_wp2_with fail
                  refine ⟨In.of (X7.out.set3 (.inr LQ4.out) _ _ _), ?_⟩
                  go_wp2_with fail
                  go_meet
                  case rel => exact M
              · skip
                obtain ⟨V6, hV6⟩ : ∃ V6, V6 = (W1.alloc (.cells #[.int .i64 0, .string ⟨#[]⟩, .slice none 0 0] 33 (0, 0))).drew := ⟨_, rfl⟩
                obtain ⟨P6, hP6⟩ : ∃ P6, P6 = W1.heap.size := ⟨_, rfl⟩
                go_wp2_with fail
                rw [← hV6, ← hP6]
                have XV6 : Hid (Ext none' W1 V6) := hid (by rw [hV6]; exact ((Ext.refl none' W1).alloc _).drew)
                have GP6 : Hid (V6.heap[P6]? = some (.cells #[.int .i64 0, .string ⟨#[]⟩, .slice none 0 0] 33 (0, 0))) := hid (by rw [hV6, hP6]; exact heap_alloc_at rfl _)
                have LP6 := hid (show W1.heap.size ≤ P6 by rw [hP6]; exact Nat.le_refl _)
                clear hV6
                clear hP6
                refine ⟨In.of XV6.out, ?_⟩
                refine ⟨?_, ?_⟩
                · skip
                  go_wp2_with fail
                  refine (CF2.out (and1 (plus none' bv) P6) _ XV6.out (fun b h => h.elim (fun h => by have := HOB.out b h; have := XV6.out.size; have := X1.out.size; omega) fun h => by rw [h]; exact heap_lt GP6.out) (fun b h => h.elim .inl fun h => .inr (by rw [h]; exact LP6.out))).mono ?_
                  rintro e V7 ⟨u1, u2, rfl, ⟨px, rfl, hpx⟩, ⟨tx, rfl, htx⟩, E7⟩
                  have U7 := hid hpx
                  have T7 := hid htx
                  obtain ⟨a5, cap5, rfl, _⟩ := hpx
                  obtain ⟨a6, cap6, rfl, _⟩ := htx
                  have XV7 := hid (XV6.out.trans E7)
                  have GP7c := hid (E7.heap GP6.out (fun h => h))
                  go_wp2_with fail
                  refine ⟨In.of XV7.out, In.of XV7.out, ?_⟩
                  change wpQuiet _ _ (fun w' => ∃ t : LaterF none' W1, w' = t.w) _ _ _
                  repeat (go_big_quiet_step (fail))
                  refine wpQuiet_nil ?_
                  obtain ⟨V8, hV8⟩ : ∃ V8, V8 = V7.alloc (.cells #[.int .i64 0, .string ⟨#[]⟩, .slice none 0 0] 33 (0, 0)) := ⟨_, rfl⟩
                  obtain ⟨Q8, hQ8⟩ : ∃ Q8, Q8 = V7.heap.size := ⟨_, rfl⟩
                  go_wp2_with fail
                  rw [← hV8, ← hQ8]
                  have XV8 : Hid (Ext none' W1 V8) := hid (by rw [hV8]; exact XV7.out.alloc _)
                  have GQ8 : Hid (V8.heap[Q8]? = some (.cells #[.int .i64 0, .string ⟨#[]⟩, .slice none 0 0] 33 (0, 0))) := hid (by rw [hV8, hQ8]; exact heap_alloc_at rfl _)
                  have LQ8 := hid (show W1.heap.size ≤ Q8 by rw [hQ8]; exact XV7.out.size)
                  have GP8 : Hid (V8.heap[P6]? = some (.cells #[.int .i64 0, .string ⟨#[]⟩, .slice none 0 0] 33 (0, 0))) := hid (by rw [hV8]; exact heap_alloc_keep GP7c.out _)
                  have N8 := hid (show P6 ≠ Q8 by have := heap_lt GP7c.out; omega)
                  have U8 : Hid (IsSl 3 IsTy (and1 (and1 (plus none' bv) P6) Q8) V8 (.slice a5 p'.args.length cap5) p'.args) := hid (by rw [hV8, hQ8]; exact IsSl.fresh U7.out _)
                  have T8 : Hid (IsSl 3 IsTy (and1 (and1 (plus none' bv) P6) Q8) V8 (.slice a6 t'.args.length cap6) t'.args) := hid (by rw [hV8, hQ8]; exact IsSl.fresh T7.out _)
                  clear hV8
                  clear hQ8
                  refine ⟨In.of XV8.out, ?_⟩
                  have HA : Hid (∀ b, avo bv P6 Q8 b → (and1 (and1 (plus none' bv) P6) Q8) b) := hid fun b h => by rcases h with h | rfl | rfl; (first | exact .inl h | exact .inl (.inl h)); all_goals (first | exact .inr rfl | exact .inl (.inr rfl))
                  have U0 := hid (U8.out.mono isTy_good fun b _ h => HA.out b h)
                  have T0 := hid (T8.out.mono isTy_good fun b _ h => HA.out b h)
                  have NE : Hid (P6 ≠ Q8) := hid N8.out
                  have M := hid (FdMid.mk1 XV8.out GP8.out GQ8.out NE.out LP6.out LQ8.out U0.out T0.out)
                  have f0 := free_at GP8.out 0
                  have f1 := free_at GP8.out 1
                  have f2 := free_at GP8.out 2
                  have e0 := cell_at GP8.out 0
                  have e1 := cell_at GP8.out 1
                  have e2 := cell_at GP8.out 2
                  simp only [List.getElem?_toArray, List.getElem?_cons_zero, List.getElem?_cons_succ] at e0 e1 e2
                  obtain ⟨W7, hW7⟩ : ∃ W7, W7 = ((V8.setCell ⟨P6, 0, none⟩ (.int .i64 p'.kind)).setCell ⟨P6, 1, none⟩ (.string ⟨p'.name.toArray⟩)).setCell ⟨P6, 2, none⟩ (.slice a5 p'.args.length cap5) := ⟨_, rfl⟩
                  rw [← hW7] at M
                  have X7 : Hid (Ext none' W1 W7) := hid (by rw [hW7]; exact XV8.out.set3 (.inr LP6.out) _ _ _)
                  have GQ7 : Hid (W7.heap[Q8]? = some (.cells #[.int .i64 0, .string ⟨#[]⟩, .slice none 0 0] 33 (0, 0))) := hid (by rw [hW7]; exact (Ext.self3 V8 P6 _ _ _).heap GQ8.out (fun h => NE.out h.symm))
                  go_wp2_with fail
                  rw [← hW7]
                  clear hW7 f0 f1 f2 e0 e1 e2
                  refine ⟨In.of X7.out, ?_⟩
                  have f0 := free_at GQ7.out 0
                  have f1 := free_at GQ7.out 1
                  have f2 := free_at GQ7.out 2
                  have e0 := cell_at GQ7.out 0
                  have e1 := cell_at GQ7.out 1
                  have e2 := cell_at GQ7.out 2
                  simp only [List.getElem?_toArray, List.getElem?_cons_zero, List.getElem?_cons_succ] at e0 e1 e2
                  go_wp2_with fail
                  refine ⟨In.of (X7.out.set3 (.inr LQ8.out) _ _ _), ?_⟩
                  go_wp2_with fail
                  go_meet
                  case rel => exact M
                · skip
                  obtain ⟨V9, hV9⟩ : ∃ V9, V9 = V6.alloc (.cells #[.int .i64 0, .string ⟨#[]⟩, .slice none 0 0] 33 (0, 0)) := ⟨_, rfl⟩
                  obtain ⟨Q9, hQ9⟩ : ∃ Q9, Q9 = V6.heap.size := ⟨_, rfl⟩
                  go_wp2_with fail
                  rw [← hV9, ← hQ9]
                  have XV9 : Hid (Ext none' W1 V9) := hid (by rw [hV9]; exact XV6.out.alloc _)
                  have GQ9 : Hid (V9.heap[Q9]? = some (.cells #[.int .i64 0, .string ⟨#[]⟩, .slice none 0 0] 33 (0, 0))) := hid (by rw [hV9, hQ9]; exact heap_alloc_at rfl _)
                  have LQ9 := hid (show W1.heap.size ≤ Q9 by rw [hQ9]; exact XV6.out.size)
                  have GP9 : Hid (V9.heap[P6]? = some (.cells #[.int .i64 0, .string ⟨#[]⟩, .slice none 0 0] 33 (0, 0))) := hid (by rw [hV9]; exact heap_alloc_keep GP6.out _)
                  have N9 := hid (show P6 ≠ Q9 by have := heap_lt GP6.out; omega)
                  clear hV9
                  clear hQ9
                  refine ⟨In.of XV9.out, ?_⟩
                  go_wp2_with fail
                  refine (CF2.out (and1 (and1 (plus none' bv) P6) Q9) _ XV9.out (fun b h => h.elim (fun h => h.elim (fun h => by have := HOB.out b h; have := XV9.out.size; have := X1.out.size; omega) fun h => by rw [h]; exact heap_lt GP9.out) fun h => by rw [h]; exact heap_lt GQ9.out) (fun b h => h.elim (fun h => h.elim .inl fun h => .inr (by rw [h]; exact LP6.out)) fun h => .inr (by rw [h]; exact LQ9.out))).mono ?_
                  rintro e V10 ⟨u1, u2, rfl, ⟨px, rfl, hpx⟩, ⟨tx, rfl, htx⟩, E10⟩
                  have U10 := hid hpx
                  have T10 := hid htx
                  obtain ⟨a5, cap5, rfl, _⟩ := hpx
                  obtain ⟨a6, cap6, rfl, _⟩ := htx
                  have XV10 := hid (XV9.out.trans E10)
                  have GP10c := hid (E10.heap GP9.out (fun h => h))
                  have GQ10c := hid (E10.heap GQ9.out (fun h => h))
                  go_wp2_with fail
                  refine ⟨In.of XV10.out, In.of XV10.out, ?_⟩
                  change wpQuiet _ _ (fun w' => ∃ t : LaterF none' W1, w' = t.w) _ _ _
                  repeat (go_big_quiet_step (fail))
                  refine wpQuiet_nil ?_
                  have HA : Hid (∀ b, avo bv P6 Q9 b → (and1 (and1 (plus none' bv) P6) Q9) b) := hid fun b h => by rcases h with h | rfl | rfl; (first | exact .inl h | exact .inl (.inl h)); all_goals (first | exact .inr rfl | exact .inl (.inr rfl))
                  have U0 := hid (U10.out.mono isTy_good fun b _ h => HA.out b h)
                  have T0 := hid (T10.out.mono isTy_good fun b _ h => HA.out b h)
                  have NE : Hid (P6 ≠ Q9) := hid N9.out
                  have M := hid (FdMid.mk1 XV10.out GP10c.out GQ10c.out NE.out LP6.out LQ9.out U0.out T0.out)
                  have f0 := free_at GP10c.out 0
                  have f1 := free_at GP10c.out 1
                  have f2 := free_at GP10c.out 2
                  have e0 := cell_at GP10c.out 0
                  have e1 := cell_at GP10c.out 1
                  have e2 := cell_at GP10c.out 2
                  simp only [List.getElem?_toArray, List.getElem?_cons_zero, List.getElem?_cons_succ] at e0 e1 e2
                  obtain ⟨W7, hW7⟩ : ∃ W7, W7 = ((V10.setCell ⟨P6, 0, none⟩ (.int .i64 p'.kind)).setCell ⟨P6, 1, none⟩ (.string ⟨p'.name.toArray⟩)).setCell ⟨P6, 2, none⟩ (.slice a5 p'.args.length cap5) := ⟨_, rfl⟩
                  rw [← hW7] at M
                  have X7 : Hid (Ext none' W1 W7) := hid (by rw [hW7]; exact XV10.out.set3 (.inr LP6.out) _ _ _)
                  have GQ7 : Hid (W7.heap[Q9]? = some (.cells #[.int .i64 0, .string ⟨#[]⟩, .slice none 0 0] 33 (0, 0))) := hid (by rw [hW7]; exact (Ext.self3 V10 P6 _ _ _).heap GQ10c.out (fun h => NE.out h.symm))
                  go_wp2_with fail
                  rw [← hW7]
                  clear hW7 f0 f1 f2 e0 e1 e2
                  refine ⟨In.of X7.out, ?_⟩
                  have f0 := free_at GQ7.out 0
                  have f1 := free_at GQ7.out 1
                  have f2 := free_at GQ7.out 2
                  have e0 := cell_at GQ7.out 0
                  have e1 := cell_at GQ7.out 1
                  have e2 := cell_at GQ7.out 2
                  simp only [List.getElem?_toArray, List.getElem?_cons_zero, List.getElem?_cons_succ] at e0 e1 e2
                  go_wp2_with fail
                  refine ⟨In.of (X7.out.set3 (.inr LQ9.out) _ _ _), ?_⟩
                  go_wp2_with fail
                  go_meet
                  case rel => exact M
              · skip
                obtain ⟨V11, hV11⟩ : ∃ V11, V11 = (W1.alloc (.cells #[.int .i64 0, .string ⟨#[]⟩, .slice none 0 0] 33 (0, 0))).drew := ⟨_, rfl⟩
                obtain ⟨Q11, hQ11⟩ : ∃ Q11, Q11 = W1.heap.size := ⟨_, rfl⟩
                go_wp2_with fail
                rw [← hV11, ← hQ11]
                have XV11 : Hid (Ext none' W1 V11) := hid (by rw [hV11]; exact ((Ext.refl none' W1).alloc _).drew)
                have GQ11 : Hid (V11.heap[Q11]? = some (.cells #[.int .i64 0, .string ⟨#[]⟩, .slice none 0 0] 33 (0, 0))) := hid (by rw [hV11, hQ11]; exact heap_alloc_at rfl _)
                have LQ11 := hid (show W1.heap.size ≤ Q11 by rw [hQ11]; exact Nat.le_refl _)
                clear hV11
                clear hQ11
                refine ⟨In.of XV11.out, ?_⟩
                refine ⟨?_, ?_⟩
                · skip
                  go_wp2_with fail
                  refine (CF2.out (and1 (plus none' bv) Q11) _ XV11.out (fun b h => h.elim (fun h => by have := HOB.out b h; have := XV11.out.size; have := X1.out.size; omega) fun h => by rw [h]; exact heap_lt GQ11.out) (fun b h => h.elim .inl fun h => .inr (by rw [h]; exact LQ11.out))).mono ?_
                  rintro e V12 ⟨u1, u2, rfl, ⟨px, rfl, hpx⟩, ⟨tx, rfl, htx⟩, E12⟩
                  have U12 := hid hpx
                  have T12 := hid htx
                  obtain ⟨a5, cap5, rfl, _⟩ := hpx
                  obtain ⟨a6, cap6, rfl, _⟩ := htx
                  have XV12 := hid (XV11.out.trans E12)
                  have GQ12c := hid (E12.heap GQ11.out (fun h => h))
                  go_wp2_with fail
                  refine ⟨In.of XV12.out, In.of XV12.out, ?_⟩
                  change wpQuiet _ _ (fun w' => ∃ t : LaterF none' W1, w' = t.w) _ _ _
                  repeat (go_big_quiet_step (fail))
                  refine wpQuiet_nil ?_
                  obtain ⟨V13, hV13⟩ : ∃ V13, V13 = V12.alloc (.cells #[.int .i64 0, .string ⟨#[]⟩, .slice none 0 0] 33 (0, 0)) := ⟨_, rfl⟩
                  obtain ⟨P13, hP13⟩ : ∃ P13, P13 = V12.heap.size := ⟨_, rfl⟩
                  go_wp2_with fail
                  rw [← hV13, ← hP13]
                  have XV13 : Hid (Ext none' W1 V13) := hid (by rw [hV13]; exact XV12.out.alloc _)
                  have GP13 : Hid (V13.heap[P13]? = some (.cells #[.int .i64 0, .string ⟨#[]⟩, .slice none 0 0] 33 (0, 0))) := hid (by rw [hV13, hP13]; exact heap_alloc_at rfl _)
                  have LP13 := hid (show W1.heap.size ≤ P13 by rw [hP13]; exact XV12.out.size)
                  have GQ13 : Hid (V13.heap[Q11]? = some (.cells #[.int .i64 0, .string ⟨#[]⟩, .slice none 0 0] 33 (0, 0))) := hid (by rw [hV13]; exact heap_alloc_keep GQ12c.out _)
                  have N13 := hid (show Q11 ≠ P13 by have := heap_lt GQ12c.out; omega)
                  have U13 : Hid (IsSl 3 IsTy (and1 (and1 (plus none' bv) Q11) P13) V13 (.slice a5 p'.args.length cap5) p'.args) := hid (by rw [hV13, hP13]; exact IsSl.fresh U12.out _)
                  have T13 : Hid (IsSl 3 IsTy (and1 (and1 (plus none' bv) Q11) P13) V13 (.slice a6 t'.args.length cap6) t'.args) := hid (by rw [hV13, hP13]; exact IsSl.fresh T12.out _)
                  clear hV13
                  clear hP13
                  refine ⟨In.of XV13.out, ?_⟩
                  have HA : Hid (∀ b, avo bv P13 Q11 b → (and1 (and1 (plus none' bv) Q11) P13) b) := hid fun b h => by rcases h with h | rfl | rfl; (first | exact .inl h | exact .inl (.inl h)); all_goals (first | exact .inr rfl | exact .inl (.inr rfl))
                  have U0 := hid (U13.out.mono isTy_good fun b _ h => HA.out b h)
                  have T0 := hid (T13.out.mono isTy_good fun b _ h => HA.out b h)
                  have NE : Hid (P13 ≠ Q11) := hid (fun h => N13.out h.symm)
                  have M := hid (FdMid.mk1 XV13.out GP13.out GQ13.out NE.out LP13.out LQ11.out U0.out T0.out)
                  have f0 := free_at GP13.out 0
                  have f1 := free_at GP13.out 1
                  have f2 := free_at GP13.out 2
                  have e0 := cell_at GP13.out 0
                  have e1 := cell_at GP13.out 1
                  have e2 := cell_at GP13.out 2
                  simp only [List.getElem?_toArray, List.getElem?_cons_zero, List.getElem?_cons_succ] at e0 e1 e2
                  obtain ⟨W7, hW7⟩ : ∃ W7, W7 = ((V13.setCell ⟨P13, 0, none⟩ (.int .i64 p'.kind)).setCell ⟨P13, 1, none⟩ (.string ⟨p'.name.toArray⟩)).setCell ⟨P13, 2, none⟩ (.slice a5 p'.args.length cap5) := ⟨_, rfl⟩
                  rw [← hW7] at M
                  have X7 : Hid (Ext none' W1 W7) := hid (by rw [hW7]; exact XV13.out.set3 (.inr LP13.out) _ _ _)
                  have GQ7 : Hid (W7.heap[Q11]? = some (.cells #[.int .i64 0, .string ⟨#[]⟩, .slice none 0 0] 33 (0, 0))) := hid (by rw [hW7]; exact (Ext.self3 V13 P13 _ _ _).heap GQ13.out (fun h => NE.out h.symm))
                  go_wp2_with fail
                  rw [← hW7]
                  clear hW7 f0 f1 f2 e0 e1 e2
                  refine ⟨In.of X7.out, ?_⟩
                  have f0 := free_at GQ7.out 0
                  have f1 := free_at GQ7.out 1
                  have f2 := free_at GQ7.out 2
                  have e0 := cell_at GQ7.out 0
                  have e1 := cell_at GQ7.out 1
                  have e2 := cell_at GQ7.out 2
                  simp only [List.getElem?_toArray, List.getElem?_cons_zero, List.getElem?_cons_succ] at e0 e1 e2
                  go_wp2_with fail
                  refine ⟨In.of (X7.out.set3 (.inr LQ11.out) _ _ _), ?_⟩
                  go_wp2_with fail
                  go_meet
                  case rel => exact M
                · skip
                  obtain ⟨V14, hV14⟩ : ∃ V14, V14 = V11.alloc (.cells #[.int .i64 0, .string ⟨#[]⟩, .slice none 0 0] 33 (0, 0)) := ⟨_, rfl⟩
                  obtain ⟨P14, hP14⟩ : ∃ P14, P14 = V11.heap.size := ⟨_, rfl⟩
                  go_wp2_with fail
                  rw [← hV14, ← hP14]
                  have XV14 : Hid (Ext none' W1 V14) := hid (by rw [hV14]; exact XV11.out.alloc _)
                  have GP14 : Hid (V14.heap[P14]? = some (.cells #[.int .i64 0, .string ⟨#[]⟩, .slice none 0 0] 33 (0, 0))) := hid (by rw [hV14, hP14]; exact heap_alloc_at rfl _)
                  have LP14 := hid (show W1.heap.size ≤ P14 by rw [hP14]; exact XV11.out.size)
                  have GQ14 : Hid (V14.heap[Q11]? = some (.cells #[.int .i64 0, .string ⟨#[]⟩, .slice none 0 0] 33 (0, 0))) := hid (by rw [hV14]; exact heap_alloc_keep GQ11.out _)
                  have N14 := hid (show Q11 ≠ P14 by have := heap_lt GQ11.out; omega)
                  clear hV14
                  clear hP14
                  refine ⟨In.of XV14.out, ?_⟩
                  go_wp2_with fail
                  refine (CF2.out (and1 (and1 (plus none' bv) Q11) P14) _ XV14.out (fun b h => h.elim (fun h => h.elim (fun h => by have := HOB.out b h; have := XV14.out.size; have := X1.out.size; omega) fun h => by rw [h]; exact heap_lt GQ14.out) fun h => by rw [h]; exact heap_lt GP14.out) (fun b h => h.elim (fun h => h.elim .inl fun h => .inr (by rw [h]; exact LQ11.out)) fun h => .inr (by rw [h]; exact LP14.out))).mono ?_
                  rintro e V15 ⟨u1, u2, rfl, ⟨px, rfl, hpx⟩, ⟨tx, rfl, htx⟩, E15⟩
                  have U15 := hid hpx
                  have T15 := hid htx
                  obtain ⟨a5, cap5, rfl, _⟩ := hpx
                  obtain ⟨a6, cap6, rfl, _⟩ := htx
                  have XV15 := hid (XV14.out.trans E15)
                  have GP15c := hid (E15.heap GP14.out (fun h => h))
                  have GQ15c := hid (E15.heap GQ14.out (fun h => h))
                  go_wp2_with fail
                  refine ⟨In.of XV15.out, In.of XV15.out, ?_⟩
                  change wpQuiet _ _ (fun w' => ∃ t : LaterF none' W1, w' = t.w) _ _ _
                  repeat (go_big_quiet_step (fail))
                  refine wpQuiet_nil ?_
                  have HA : Hid (∀ b, avo bv P14 Q11 b → (and1 (and1 (plus none' bv) Q11) P14) b) := hid fun b h => by rcases h with h | rfl | rfl; (first | exact .inl h | exact .inl (.inl h)); all_goals (first | exact .inr rfl | exact .inl (.inr rfl))
                  have U0 := hid (U15.out.mono isTy_good fun b _ h => HA.out b h)
                  have T0 := hid (T15.out.mono isTy_good fun b _ h => HA.out b h)
                  have NE : Hid (P14 ≠ Q11) := hid (fun h => N14.out h.symm)
                  have M := hid (FdMid.mk1 XV15.out GP15c.out GQ15c.out NE.out LP14.out LQ11.out U0.out T0.out)
                  have f0 := free_at GP15c.out 0
                  have f1 := free_at GP15c.out 1
                  have f2 := free_at GP15c.out 2
                  have e0 := cell_at GP15c.out 0
                  have e1 := cell_at GP15c.out 1
                  have e2 := cell_at GP15c.out 2
                  simp only [List.getElem?_toArray, List.getElem?_cons_zero, List.getElem?_cons_succ] at e0 e1 e2
                  obtain ⟨W7, hW7⟩ : ∃ W7, W7 = ((V15.setCell ⟨P14, 0, none⟩ (.int .i64 p'.kind)).setCell ⟨P14, 1, none⟩ (.string ⟨p'.name.toArray⟩)).setCell ⟨P14, 2, none⟩ (.slice a5 p'.args.length cap5) := ⟨_, rfl⟩
                  rw [← hW7] at M
                  have X7 : Hid (Ext none' W1 W7) := hid (by rw [hW7]; exact XV15.out.set3 (.inr LP14.out) _ _ _)
                  have GQ7 : Hid (W7.heap[Q11]? = some (.cells #[.int .i64 0, .string ⟨#[]⟩, .slice none 0 0] 33 (0, 0))) := hid (by rw [hW7]; exact (Ext.self3 V15 P14 _ _ _).heap GQ15c.out (fun h => NE.out h.symm))
                  go_wp2_with fail
                  rw [← hW7]
                  clear hW7 f0 f1 f2 e0 e1 e2
                  refine ⟨In.of X7.out, ?_⟩
                  have f0 := free_at GQ7.out 0
                  have f1 := free_at GQ7.out 1
                  have f2 := free_at GQ7.out 2
                  have e0 := cell_at GQ7.out 0
                  have e1 := cell_at GQ7.out 1
                  have e2 := cell_at GQ7.out 2
                  simp only [List.getElem?_toArray, List.getElem?_cons_zero, List.getElem?_cons_succ] at e0 e1 e2
                  go_wp2_with fail
                  refine ⟨In.of (X7.out.set3 (.inr LQ11.out) _ _ _), ?_⟩
                  go_wp2_with fail
                  go_meet
                  case rel => exact M
            obtain ⟨P, px, rfl, gP, hpx⟩ := hcut.out.y
            obtain ⟨Qb, qx, rfl, gQ, hqx⟩ := hcut.out.z
            have hu := hcut.out.u
            have XC := hid (X1.out.trans hcut.out.x)
            have SBc := hid (SB.out.ext XC.out)
            have HPX := hid hpx
            have HQX := hid hqx
            obtain ⟨a5, cap5, rfl, _⟩ := hpx
            obtain ⟨a6, cap6, rfl, _⟩ := hqx
            have CFI := hid (fits_any hds (by omega) 100 (by omega) p' t' b (.agg #[.int .i64 p'.kind, .string ⟨p'.name.toArray⟩, .slice a5 p'.args.length cap5]) (.agg #[.int .i64 t'.kind, .string ⟨t'.name.toArray⟩, .slice a6 t'.args.length cap6]) wc HPS'.out HTS'.out BZ.out SBc.out ⟨_, rfl, HPX.out⟩ ⟨_, rfl, HQX.out⟩)
            obtain ⟨fr, hfr⟩ : ∃ fr, fitsP ds row 100 p' t' b = fr := ⟨_, rfl⟩
            rw [hfr] at CFI HNX
            have c0 := cell_at gP 0
            have c1 := cell_at gP 1
            have c2 := cell_at gP 2
            have d0 := cell_at gQ 0
            have d1 := cell_at gQ 1
            have d2 := cell_at gQ 2
            simp only [List.getElem?_toArray, List.getElem?_cons_zero, List.getElem?_cons_succ] at c0 c1 c2 d0 d1 d2
            obtain ⟨qq, hqq⟩ : ∃ qq, (p'.kind != 0 && t'.kind != 0) = qq := ⟨_, rfl⟩
            rw [hqq] at hu
            have HNONE := hid fun (h : findAt ds row ps ts (by0 ds row) (i + 1) = none) => (show o = none by rw [HF.out, findAt_none h ts.length (by omega)]; rfl)
            have HQQ := hid hqq
            clear hfr hqq gP gQ
            subst hu
            have XWc := hid (R.out.hx.trans XC.out)
            cases qq with
            | false =>
              have HN := hid (HNONE.out (by rw [HNX.out, if_neg (fun h => by have := HQQ.out; simp [h.1, h.2] at this)]))
              go_wp2_with fail
              refine bodyPost_ret (results_tmp2 rfl _ _ _) rfl ?_
              rw [HN.out]
              exact ⟨_, rfl, IsSl.nil _ _ _ _, XWc.out, by simp, fun _ => nofun_mem⟩
            | true =>
              have HN2 : Hid (findAt ds row ps ts (by0 ds row) (i + 1) = if fr.1 then some fr.2 else none) := hid (by rw [HNX.out, if_pos (by have := HQQ.out; simpa using this)])
              go_wp2_with fail
              refine CFI.out.mono ?_
              rintro e W5 ⟨rfl, S5, X5, Z5⟩
              have XW5 := hid (XWc.out.trans' X5 fun q hq h => by have := HOW.out q h; have := HSW.out; omega)
              have HS5 := hid S5
              have HZ5 := hid Z5
              clear S5 X5 Z5
              obtain ⟨f1, f2⟩ := fr
              simp only at HN2 HS5 HZ5 ⊢
              cases f1 with
              | true =>
                have N : Hid (FnRel ds row ps ts S (S + 1) (.slice ad ds.length capd) (.slice ar row.length capr) bv w W5 (i + 1)) := hid ⟨⟨f2, by rw [HN2.out]; rfl, HS5.out, HZ5.out⟩, XW5.out⟩
                go_wp2_with fail
                go_roundw
                case rel => exact ⟨i + 1, by go_num, by omega, N⟩
                case measure => simp [RowKit.intOf]; omega
              | false =>
                have HN := hid (HNONE.out (by rw [HN2.out]; rfl))
                go_wp2_with fail
                refine bodyPost_ret (results_tmp2 rfl _ _ _) rfl ?_
                rw [HN.out]
                exact ⟨_, rfl, IsSl.nil _ _ _ _, XW5.out, by simp, fun _ => nofun_mem⟩
        · obtain rfl : i = ts.length := by omega
          have HOW := hid fun q (h : plus none' bv q) => (show S + 1 ≤ q from h.elim (fun h => h.elim) fun h => (HST.out.b.lt q h).1)
          have CU := hid (untyped_any (by omega) ps ts b HL.out htl HTZ.out BZ.out (.slice a1 ps.length cap1) (.slice a2 ts.length cap2) wr SB.out ((HP.out.mono (B := plus none' bv) isTy_good fun q hq h => by have := HOW.out q h; have := HSW.out; omega).ext isTy_good R.out.hx fun _ _ h => h.elim) ((HT.out.mono (B := plus none' bv) isTy_good fun q hq h => by have := HOW.out q h; have := HSW.out; omega).ext isTy_good R.out.hx fun _ _ h => h.elim))
          have HF2 : Hid (o = endP (untypedAt row ps ts b ts.length)) := hid (by rw [HF.out, HAT.out]; rfl)
          obtain ⟨uu, huu⟩ : ∃ uu, untypedAt row ps ts b ts.length = uu := ⟨_, rfl⟩
          rw [huu] at CU HF2
          clear huu
          go_wp2_with fail
          refine CU.out.mono ?_
          rintro e W3 ⟨rfl, X3', H3⟩
          have X3 := hid (R.out.hx.trans' X3' fun q hq h => by have := HOW.out q h; have := HSW.out; omega)
          clear X3'
          cases uu with
          | none =>
            have HN : Hid (o = none) := hid (by rw [HF2.out]; rfl)
            clear H3
            go_wp2_with fail
            refine bodyPost_ret (results_tmp2 rfl _ _ _) rfl ?_
            rw [HN.out]
            exact ⟨_, rfl, IsSl.nil _ _ _ _, X3.out, by simp, fun _ => nofun_mem⟩
          | some cl =>
            obtain ⟨c, l⟩ := cl
            obtain ⟨S3, S3z⟩ := H3 c l rfl
            have HCZ := hid S3z
            have HCL := hid (show c.length ≤ 1000000 by have := S3.len; omega)
            clear S3z
            have HS3 := hid S3
            obtain ⟨ab, cb, rfl⟩ := S3.b.shape
            have s2 := cell_at S3.s 2
            simp only [List.getElem?_toArray, List.getElem?_cons_zero, List.getElem?_cons_succ] at s2
            have HSL := hid (S3.b.sl (A := none') isTy_good fun _ _ h => h)
            have hcl : c.length ≤ 1000000000 := by have := S3.len; omega
            have CC := hid (cty_any 20 #[] (fun t => t.kind == 0) none' c _ W3 hcl HSL.out (fun i hi w' x X hx => none1_any c[i] none' x w' hx) enter_find1u)
            obtain ⟨hs, hhs⟩ : ∃ hs, hasI (fun t : Ty => t.kind == 0) c = hs := ⟨_, rfl⟩
            rw [hhs] at CC
            have HF3 : Hid (o = if hs = true then none else some c) := hid (by rw [HF2.out, endP, hhs])
            clear H3 S3 hhs hcl
            go_wp2_with fail
            refine CC.out.mono ?_
            rintro e W4 ⟨rfl, X4⟩
            have s2 := cell_at (X4.heap HS3.out.s (fun h => h)) 2
            simp only [List.getElem?_toArray, List.getElem?_cons_zero, List.getElem?_cons_succ] at s2
            have HSL4 := hid (HSL.out.ext isTy_good X4 fun _ _ h => h.elim)
            have X4 := hid (X3.out.trans X4)
            cases hs with
            | true =>
              have HN : Hid (o = none) := hid (by rw [HF3.out]; rfl)
              go_wp2_with fail
              refine bodyPost_ret (results_tmp2 rfl _ _ _) rfl ?_
              rw [HN.out]
              exact ⟨_, rfl, IsSl.nil _ _ _ _, X4.out, by simp, fun _ => nofun_mem⟩
            | false =>
              have HN : Hid (o = some c) := hid (by rw [HF3.out]; rfl)
              go_wp2_with fail
              refine bodyPost_ret (results_tmp2 rfl _ _ _) rfl ?_
              rw [HN.out]
              exact ⟨_, rfl, HSL4.out, X4.out, HCL.out, HCZ.out⟩
    · have q0 : ((ps.length : Int) != (ts.length : Int)) = true := by simp only [bne_iff_ne, ne_eq]; omega
      have HN : Hid (o = none) := hid (by rw [HO.out, findP, if_pos (.inr hl)])
      clear hl
      go_wp2_with fail
      refine bodyPost_ret (results_tmp2 rfl _ _ _) rfl ?_
      rw [HN.out]
      exact ⟨_, rfl, IsSl.nil _ _ _ _, X2.out, by simp, fun _ => nofun_mem⟩
theorem Find_any (ds : List Df) (hds : DefsFit ds) (row : List (List UInt8)) (hrl : row.length ≤ 1000000) (ps ts : List Ty) (hpl : ps.length ≤ 1000000) (htl : ts.length ≤ 1000000) (hpz : ∀ x ∈ ps, x.size ≤ bigD) (htz : ∀ x ∈ ts, x.size ≤ bigD) (dv rv pv tv : Value) (w : World)
    (hd : IsSl 6 IsDf none' w dv ds) (hr : IsStrs none' w rv row) (hp : IsSl 3 IsTy none' w pv ps) (ht : IsSl 3 IsTy none' w tv ts) : Calls Try.prog 8 #[dv, rv, pv, tv] w (UFindPost (findP ds row ps ts) w) :=
  (Find_anyZ ds hds row hrl ps ts hpl htl hpz htz dv rv pv tv w hd hr hp ht).mono fun _ _ ⟨u, h1, h2, h3, _⟩ => ⟨u, h1, h2, h3⟩
end Go.Proofs.Ytmlhkgocilpobaa
