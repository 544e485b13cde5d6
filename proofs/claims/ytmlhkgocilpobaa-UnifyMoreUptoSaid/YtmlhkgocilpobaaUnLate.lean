import Derived.Test.YtmlhkgocilpobaaUnMap
import Derived.WideMake
/-
  (*unify.state).untyped.
-/
namespace Go.Proofs.Ytmlhkgocilpobaa
open Go.RowKit Go.Lib Go.BigFrame
theorem St.of_row {ds : List Df} {row : List (List UInt8)} {bs b : List Ty} {S base : Nat} {dv rv bv : Value} {w wr : World} (h : St ds row bs S base dv rv bv w) (X : Ext (plus none' bv) w wr) (hb : RowOf 3 33 IsTy none' wr base bv b) (hl : b.length = row.length) : St ds row b S base dv rv bv wr :=
  ⟨X.heap h.s (fun q => q.elim (fun q => q.elim) fun q => by have := (h.b.lt S q).1; have := h.lt; omega), h.d.ext isDf_good X fun _ _ q => q, h.r.ext isStr_good X fun _ _ q => q, hb, h.lt, hl⟩
structure LtRel (ds : List Df) (row : List (List UInt8)) (ps ts bs : List Ty) (S base M : Nat) (dv rv bv : Value) (w wr : World) (i : Nat) : Prop where
  at' : ∃ b late, untypedAt row ps ts bs i = some (b, late) ∧ RowOf 3 33 IsTy (one M) wr base bv b ∧ (∀ x ∈ b, x.size ≤ bigD) ∧ ∃ es clock, wr.heap[M]? = some (.map es clock) ∧ LateIs late es.toList
  hx : Ext (plus none' bv) w wr
def LtPost (ds : List Df) (row : List (List UInt8)) (S base : Nat) (dv rv bv : Value) (o : Option (List Ty × List Nat)) (w : World) (e : Ending) (w' : World) : Prop :=
  e = .returned (.bool o.isSome) ∧ Ext (plus none' bv) w w' ∧ ∀ b l, o = some (b, l) → St ds row b S base dv rv bv w' ∧ ∀ x ∈ b, x.size ≤ bigD
set_option maxRecDepth 100000 in
set_option maxHeartbeats 6400000 in
theorem untyped_any {ds : List Df} {row : List (List UInt8)} {S base : Nat} {dv rv bv : Value} (hrl : row.length ≤ 1000000000) (ps ts bs : List Ty) (hlen : ps.length = ts.length) (htl : ts.length ≤ 1000000) (htz : ∀ x ∈ ts, x.size ≤ bigD) (hbz : ∀ x ∈ bs, x.size ≤ bigD) (pv tv : Value) (w : World)
    (hst : St ds row bs S base dv rv bv w) (hpv : IsSl 3 IsTy (plus none' bv) w pv ps) (htv : IsSl 3 IsTy (plus none' bv) w tv ts) :
    Calls Try.prog 18 #[.pointer (some ⟨S, 0, none⟩), pv, tv] w (LtPost ds row S base dv rv bv (untypedAt row ps ts bs ts.length) w) := by
  have HST := hid hst
  have HP := hid hpv
  have HT := hid htv
  have HTZ := hid htz
  have HBZ := hid hbz
  have HLEN := hid hlen
  obtain ⟨a1, cap1, rfl, _⟩ := hpv
  obtain ⟨a2, cap2, rfl, _⟩ := htv
  have HBV := hid (show ∀ b, plus none' bv b → b < w.heap.size from fun b hb => hb.elim (fun h => h.elim) fun h' => (hst.b.lt b h').2)
  obtain ⟨r, hr⟩ : ∃ r, r = untypedAt row ps ts bs ts.length := ⟨_, rfl⟩
  rw [← hr]
  have HR := hid hr
  have hmm := @run_makeMap Try.prog
  obtain ⟨M, hM⟩ : ∃ M, M = w.heap.size := ⟨_, rfl⟩
  have HM := hid hM
  clear hr hst hlen htz hbz
  go_enter Try.func18, Try.ntmps18
  go_wp2_with fail
  rw [← hM]
  clear hM
  go_loopw [15] (fun z wr => ∃ (i : Nat), z = .int .i64 (i : Nat) ∧ i ≤ ts.length ∧ Hid (LtRel ds row ps ts bs S base M dv rv bv w wr i)) (fun z _ => ts.length - (RowKit.intOf z).toNat)
  case atStart => exact ⟨0, rfl, by omega, hid ⟨⟨bs, [], rfl, (HST.out.b.mono isTy_good fun q hq h => by have h : q = M := h; have := HM.out; omega).ext isTy_good ((Ext.refl none' w).alloc _) (fun _ _ h => h.elim) (fun _ _ h => h), HBZ.out, #[], 0, heap_alloc_at HM.out _, trivial⟩, (Ext.refl _ _).alloc _⟩⟩
  case round =>
    obtain ⟨i, rfl, hle, R⟩ := hrel
    obtain ⟨b, late, hat, hsb, hbz, es, clock, hmap, hlate⟩ := R.out.at'
    have RB := hid hsb
    have SB := hid (HST.out.of_row R.out.hx (hsb.mono isTy_good fun _ _ h => h.elim) (untypedAt_inv HST.out.len i hat).1)
    have BZ := hid hbz
    have MP := hid hmap
    have LT := hid hlate
    have HAT := hid hat
    clear hat hsb hbz hmap hlate
    by_cases hi : i < ts.length
    · have hip : i < ps.length := by have := HLEN.out; omega
      obtain ⟨tb, toff, tcs, rfl, _, htw, hcc, hty⟩ := (HT.out.ext isTy_good R.out.hx fun _ _ h => h).at i hi
      obtain ⟨x, rfl, hx⟩ := hty.parts
      obtain ⟨pb, poff, pcs, rfl, _, hpw, hpc, hpy⟩ := (HP.out.ext isTy_good R.out.hx fun _ _ h => h).at i hip
      obtain ⟨x', rfl, hx'⟩ := hpy.parts
      have c0 := hcc 0 _ rfl
      have c1 := hcc 1 _ rfl
      have c2 := hcc 2 _ rfl
      simp only [Nat.add_zero] at c0
      have HX := hid hx
      have HX' := hid hx'
      obtain ⟨a3, cap3, rfl, _⟩ := hx
      obtain ⟨a4, cap4, rfl, _⟩ := hx'
      have hpc := hid hpc
      have HNX : Hid (untypedAt row ps ts bs (i + 1) = lateStep row ps[i] ts[i] b late) := hid (by
        rw [untypedAt, HAT.out]
        simp only
        rw [List.getD_eq_getElem?_getD, List.getElem?_eq_getElem hip, List.getD_eq_getElem?_getD, List.getElem?_eq_getElem hi]
        rfl)
      obtain ⟨p, hp⟩ : ∃ p, ps[i] = p := ⟨_, rfl⟩
      obtain ⟨t, ht⟩ : ∃ t, ts[i] = t := ⟨_, rfl⟩
      have htz : t.size ≤ bigD := by rw [← ht]; exact HTZ.out _ (List.getElem_mem hi)
      rw [hp] at hpc HX' HNX
      rw [ht] at c0 c1 c2 HX HNX
      have CO := hid fun (W : World) (X : Ext none' wr W) => own_any hrl (SB.out.ext X) p (.agg #[.int .i64 p.kind, .string ⟨p.name.toArray⟩, .slice a4 p.args.length cap4]) ⟨_, rfl, (HX'.out.mono (B := none') isTy_good fun _ _ h => h.elim).ext isTy_good X fun _ _ h => h⟩
      have hinv := (untypedAt_inv HST.out.len i HAT.out).2
      have hoz := own_lt (row := row) (t := p)
      unfold lateStep at HNX
      obtain ⟨z, hz⟩ : ∃ z, ownP row p = z := ⟨_, rfl⟩
      rw [hz] at CO hoz HNX
      have HTZ1 := hid htz
      clear hcc hty hpy hp ht hz htz
      go_upto_region 5 with (fail)
      obtain ⟨W1, hW1⟩ : ∃ W1, W1 = wr.alloc (.cells #[.int .i64 t.kind, .string ⟨t.name.toArray⟩, .slice a3 t.args.length cap3] 33) := ⟨_, rfl⟩
      obtain ⟨T, hT⟩ : ∃ T, T = wr.heap.size := ⟨_, rfl⟩
      have X1 : Hid (Ext none' wr W1) := hid (by rw [hW1]; exact (Ext.refl _ _).alloc _)
      have GT : Hid (W1.heap[T]? = some (.cells #[.int .i64 t.kind, .string ⟨t.name.toArray⟩, .slice a3 t.args.length cap3] 33 (0, 0))) := hid (by rw [hW1]; exact heap_alloc_at hT _)
      rw [← hW1, ← hT]
      clear hW1 hT c0 c1 c2
      have y0 := (X1.out.cell (p := ⟨pb, poff + i * 3, none⟩) hpw (fun h => h)).trans (by simpa using hpc.out 0 _ rfl)
      have y1 := (X1.out.cell (p := ⟨pb, poff + i * 3 + 1, none⟩) hpw (fun h => h)).trans (hpc.out 1 _ rfl)
      have y2 := (X1.out.cell (p := ⟨pb, poff + i * 3 + 2, none⟩) hpw (fun h => h)).trans (hpc.out 2 _ rfl)
      go_wp2_with fail
      refine (CO.out _ X1.out).mono ?_
      rintro e W2 ⟨rfl, X2⟩
      have GT2 := hid (X2.heap GT.out (fun h => h))
      have X2 := hid (X1.out.trans X2)
      have c0 := cell_at GT2.out 0
      have c1 := cell_at GT2.out 1
      simp only [List.getElem?_toArray, List.getElem?_cons_zero, List.getElem?_cons_succ] at c0 c1
      have NXT : Hid (untypedAt row ps ts bs (i + 1) = some (b, late) → ∀ W, Ext none' wr W → LtRel ds row ps ts bs S base M dv rv bv w W (i + 1)) := hid fun h W X =>
        ⟨⟨b, late, h, RB.out.ext isTy_good X (fun _ _ h => h.elim) (fun _ _ h => h), BZ.out, es, clock, X.heap MP.out (fun h => h), LT.out⟩, R.out.hx.trans (X.mono fun _ _ h => h.elim)⟩
      clear y0 y1 y2
      by_cases hk2 : t.kind = 2
      · have q2 : (t.kind != 2) = false := by simpa using hk2
        by_cases hz0 : z < 0
        · have q3 : decide (z < 0) = true := decide_eq_true hz0
          have N := hid (NXT.out (by rw [HNX.out, if_pos (.inr hz0)]) W2 X2.out)
          clear hk2 hz0 hoz
          go_wp2_with fail
          go_roundw
          case rel => exact ⟨i + 1, by go_num, by omega, N⟩
          case measure => simp [RowKit.intOf]; omega
        · have q3 : decide (z < 0) = false := decide_eq_false hz0
          have hj := hoz (by omega)
          obtain ⟨j, rfl⟩ : ∃ j : Nat, z = j := ⟨z.toNat, by omega⟩
          rw [Int.toNat_natCast] at hj HNX
          have hjb : j < b.length := by have := SB.out.len; omega
          have ST2 := hid (SB.out.ext X2.out)
          obtain ⟨g, cap5, v0, v1, v2, cur, hbv, hbg, hRj, hg, k0, k1, k2⟩ := ST2.out.b.cell isTy_good hjb
          obtain ⟨vx, e3, hvx⟩ := hRj.parts
          injection e3 with e30 e31
          injection e31 with e31 e32
          injection e32 with e32 _
          subst e30 e31 e32
          have HVX := hid hvx
          obtain ⟨a5, cap6, rfl, _⟩ := hvx
          obtain ⟨bj, hbj⟩ : ∃ bj, b[j] = bj := ⟨_, rfl⟩
          have hgd : b.getD j Ty.zero = bj := by rw [List.getD_eq_getElem?_getD, List.getElem?_eq_getElem hjb, ← hbj]; rfl
          have HN2 : Hid (untypedAt row ps ts bs (i + 1) = if bj.kind = 0 then some (b.set j (basicT t), late ++ [j]) else if j ∈ late ∧ sameP 100 bj (basicT t) = false then none else some (b, late)) := hid (by rw [HNX.out, if_neg (by omega), hgd])
          have hbjs : bj.size ≤ bigD := by rw [← hbj]; exact BZ.out _ (List.getElem_mem hjb)
          have hinvj : j ∈ late → bj.kind = 1 := fun h => by have := hinv j h; rw [hgd] at this; exact this
          rw [hbj] at k0 k1 k2 HVX
          subst hbv
          have HG2 := hid hg
          have HK0 := hid k0
          have HK1 := hid k1
          have HK2 := hid k2
          have HJB := hid hjb
          have HSS := hid ST2.out.s
          have hgne := hid (show S ≠ g by have := ST2.out.lt; omega)
          have MP2 := hid (X2.out.heap MP.out (fun h => h))
          have hMg : M ≠ g := fun e => by rw [← e, MP2.out] at hg; cases hg
          have HMG := hid hMg
          obtain ⟨W3, hW3⟩ : ∃ W3, W3 = W2.alloc (.cells #[.int .i64 1, .string ⟨t.name.toArray⟩, .slice none 0 0] 33) := ⟨_, rfl⟩
          obtain ⟨Qb, hQ⟩ : ∃ Qb, Qb = W2.heap.size := ⟨_, rfl⟩
          have X3 : Hid (Ext none' W2 W3) := hid (by rw [hW3]; exact (Ext.refl _ _).alloc _)
          have GQ : Hid (W3.heap[Qb]? = some (.cells #[.int .i64 1, .string ⟨t.name.toArray⟩, .slice none 0 0] 33 (0, 0))) := hid (by rw [hW3]; exact heap_alloc_at hQ _)
          have hQg := hid (show Qb ≠ g by have := heap_lt hg; omega)
          have m0 := (cell_at (X3.out.heap HG2.out (fun h => h)) (j * 3)).trans HK0.out
          have s2 := cell_at (X3.out.heap HSS.out (fun h => h)) 2
          simp only [List.getElem?_toArray, List.getElem?_cons_zero, List.getElem?_cons_succ] at s2
          clear hbj hgd hg k0 k1 k2 hj hoz hinv hMg hz0 hk2
          go_upto_region 8 with (fail)
          rw [← hW3, ← hQ]
          clear hW3 hQ c0 c1
          have X3w := hid (X2.out.trans X3.out)
          have ST3 := hid (SB.out.ext X3w.out)
          by_cases hb0 : bj.kind = 0
          · have q4 : (bj.kind == 0) = true := by simpa using hb0
            have hnl : j ∉ late := fun h => by have := hinvj h; omega
            have HN3 : Hid (untypedAt row ps ts bs (i + 1) = some (b.set j (basicT t), late ++ [j])) := hid (by rw [HN2.out, if_pos hb0])
            have HNL := hid hnl
            clear hb0 hnl hinvj
            go_upto_region 9 with (fail)
            have GS3 := hid (X3.out.heap HSS.out (fun h => h))
            have GG3 := hid (X3.out.heap HG2.out (fun h => h))
            have MP3 := hid (X3.out.heap MP2.out (fun h => h))
            have u2 := fun t' : LaterF (one g) W3 => cell_at (t'.x.heap GS3.out (fun h => hgne.out h)) 2
            have w0 := fun t' : LaterF (one g) W3 => cell_at (t'.x.heap GQ.out (fun h => hQg.out h)) 0
            have w1 := fun t' : LaterF (one g) W3 => cell_at (t'.x.heap GQ.out (fun h => hQg.out h)) 1
            have w2 := fun t' : LaterF (one g) W3 => cell_at (t'.x.heap GQ.out (fun h => hQg.out h)) 2
            simp only [List.getElem?_toArray, List.getElem?_cons_zero, List.getElem?_cons_succ] at u2 w0 w1 w2
            refine region_q (one g) W3 (.qs [0, 1, 2, 3, 4, 5, 6, 7, 8] (.one 9 true (.one 10 false .fin))) (by kernel_rfl) (by kernel_rfl) (fun dst v c a w h => by cases dst <;> exact h) ?_
            refine ⟨In.of (Ext.refl _ _).drew, ?_⟩
            change wpQuiet _ _ (fun w' => ∃ t : LaterF (one g) W3, w' = t.w) _ _ _
            simp only [sel, List.getElem?_cons_succ, List.getElem?_cons_zero]
            repeat (go_big_quiet_step (fail))
            refine wpQuiet_nil ?_
            simp only [wpTreeQ, stepT, sel, List.getElem?_cons_succ, List.getElem?_cons_zero]
            clear u2 w0 w1 w2 m0 s2
            have m0 := (cell_at GG3.out (j * 3)).trans HK0.out
            have m1 := (cell_at GG3.out (j * 3 + 1)).trans HK1.out
            have m2 := (cell_at GG3.out (j * 3 + 2)).trans HK2.out
            have f0 := free_at GG3.out (j * 3)
            have f1 := free_at GG3.out (j * 3 + 1)
            have f2 := free_at GG3.out (j * 3 + 2)
            obtain ⟨W4, hW4⟩ : ∃ W4, W4 = (put3 W3 g j (.int .i64 1) (.string ⟨t.name.toArray⟩) (.slice none 0 0)).drew := ⟨_, rfl⟩
            have X4 : Hid (Ext (one g) W3 W4) := hid (by rw [hW4]; exact (put3_ext _ _ _ _ _ _).drew)
            have RB4 : Hid (RowOf 3 33 IsTy (one M) W4 base (.slice (some ⟨g, 0, none⟩) b.length cap5) (b.set j (basicT t))) := hid (by
              rw [hW4]
              exact (RowOf.put isTy_good (RB.out.ext isTy_good X3w.out (fun _ _ h => h.elim) (fun _ _ h => h)) HJB.out (IsTy.of (k := 1) (n := t.name) (IsSl.nil _ _ _ _))).ext isTy_good (Ext.refl none' _).drew (fun _ _ h => h.elim) (fun _ _ h => h))
            have MP4 := hid (X4.out.heap MP3.out (fun h => HMG.out h))
            have hins := run_insI (k := j) MP4.out (fun d _ => (LT.out.find j 0).elim (fun h => h.1) fun ⟨_, _, h⟩ => absurd h HNL.out)
            have HW4 := hid hW4
            unfold put3 at hW4
            have HW4' := hid hW4
            clear hW4
            go_wp2_with fail
            rw [← HW4'.out]
            refine ⟨In.of X4.out, ?_⟩
            clear m0 m1 m2 f0 f1 f2
            go_wp2_with fail
            have N : Hid (LtRel ds row ps ts bs S base M dv rv (.slice (some ⟨g, 0, none⟩) b.length cap5) w (putOM W4 M (.map (es.push ⟨.int .i64 (j : Nat), .bool true, clock⟩) (clock + 1))) (i + 1)) := hid (by
              have XM : Ext (one M) W4 (putOM W4 M (.map (es.push ⟨.int .i64 (j : Nat), .bool true, clock⟩) (clock + 1))) := (Ext.refl (one M) W4).putOM (.inl rfl) _
              have hMw : w.heap.size ≤ M := by have := HM.out; omega
              refine ⟨⟨b.set j (basicT t), late ++ [j], HN3.out, RB4.out.ext isTy_good XM (fun _ _ h => h) (fun q hq h => by have h : q = M := h; have hq : (some g : Option Nat) = some q := hq; injection hq with hq; exact HMG.out (by omega)), fun x hx => ?_, _, _, putOM_at MP4.out, by simpa using LT.out.snoc j clock⟩, ?_⟩
              · rcases List.mem_or_eq_of_mem_set hx with h | h
                · exact BZ.out x h
                · rw [h]; have := HTZ1.out; simp [basicT, Ty.size, Ty.sizeL, bigD]
              · exact ((R.out.hx.trans (X3w.out.mono fun _ _ h => h.elim)).trans (X4.out.mono fun q _ h => .inr (by have h : q = g := h; rw [h]; rfl))).trans' XM fun q hq h => by have h : q = M := h; omega)
            go_roundw
            case rel => exact ⟨i + 1, by go_num, by omega, N⟩
            case measure => simp [RowKit.intOf]; omega
          · have q4 : (bj.kind == 0) = false := by simpa using hb0
            have HN3 : Hid (untypedAt row ps ts bs (i + 1) = if j ∈ late ∧ sameP 100 bj (basicT t) = false then none else some (b, late)) := hid (by rw [HN2.out, if_neg hb0])
            clear hb0 hinvj
            have GS3 := hid (X3.out.heap HSS.out (fun h => h))
            have GG3 := hid (X3.out.heap HG2.out (fun h => h))
            have MP3 := hid (X3.out.heap MP2.out (fun h => h))
            have hlk := look_late (w := W3.drew) (k := j) MP3.out LT.out
            have u2 := fun t' : LaterF none' W3 => cell_at (t'.x.heap GS3.out (fun h => h)) 2
            have w0 := fun t' : LaterF none' W3 => cell_at (t'.x.heap GQ.out (fun h => h)) 0
            have w1 := fun t' : LaterF none' W3 => cell_at (t'.x.heap GQ.out (fun h => h)) 1
            have w2 := fun t' : LaterF none' W3 => cell_at (t'.x.heap GQ.out (fun h => h)) 2
            have n0 := fun t' : LaterF none' W3 => (cell_at (t'.x.heap GG3.out (fun h => h)) (j * 3)).trans HK0.out
            have n1 := fun t' : LaterF none' W3 => (cell_at (t'.x.heap GG3.out (fun h => h)) (j * 3 + 1)).trans HK1.out
            have n2 := fun t' : LaterF none' W3 => (cell_at (t'.x.heap GG3.out (fun h => h)) (j * 3 + 2)).trans HK2.out
            simp only [List.getElem?_toArray, List.getElem?_cons_zero, List.getElem?_cons_succ] at u2 w0 w1 w2
            by_cases hin : j ∈ late
            · rw [decide_eq_true hin] at hlk
              have hbt : (basicT t).size ≤ bigD := by simp [basicT, Ty.size, Ty.sizeL, bigD]
              have CSA := hid fun (W : World) (X : Ext none' W3 W) => Same_any bj (basicT t) hbjs hbt (.agg #[.int .i64 bj.kind, .string ⟨bj.name.toArray⟩, .slice a5 bj.args.length cap6]) (.agg #[.int .i64 1, .string ⟨t.name.toArray⟩, .slice none 0 0]) W ⟨_, rfl, (HVX.out.mono (B := none') isTy_good fun _ _ h => h.elim).ext isTy_good (X3.out.trans X) fun _ _ h => h⟩ ⟨_, rfl, IsSl.nil _ _ _ _⟩
              obtain ⟨q, hq⟩ : ∃ q, sameP 100 bj (basicT t) = q := ⟨_, rfl⟩
              rw [hq] at CSA HN3
              have HIN := hid hin
              clear hq hin hbt
              go_upto_region 10 with (fail)
              refine region_q none' W3 (.qs [0, 1] (.one 2 true (.qs [3, 4, 5, 6, 7, 8, 9, 10, 11] (.one 12 false (.one 13 false (.one 14 false (.one 15 false .fin))))))) (by kernel_rfl) (by kernel_rfl) (fun dst v c a w h => by cases dst <;> exact h) ?_
              refine ⟨In.of (Ext.refl _ _).drew, ?_⟩
              change wpQuiet _ _ (fun w' => ∃ t : LaterF none' W3, w' = t.w) _ _ _
              simp only [sel, List.getElem?_cons_succ, List.getElem?_cons_zero]
              repeat (go_big_quiet_step (fail))
              refine wpQuiet_nil ?_
              simp only [wpTreeQ, stepT, sel, List.getElem?_cons_succ, List.getElem?_cons_zero]
              go_wp2_with fail
              refine ⟨In.of (Ext.refl none' W3).drew, In.of (Ext.refl none' W3).drew, ?_⟩
              change wpQuiet _ _ (fun w' => ∃ t : LaterF none' W3, w' = t.w) _ _ _
              repeat (go_big_quiet_step (fail))
              refine wpQuiet_nil ?_
              clear u2 w0 w1 w2 n0 n1 n2 m0 s2 hlk
              go_wp2_with fail
              refine (CSA.out _ (Ext.refl _ _).drew).mono ?_
              rintro e W5 ⟨rfl, X5⟩
              have X5 := hid (X3w.out.trans ((Ext.refl none' W3).drew.trans X5))
              cases q with
              | true =>
                have N := hid (NXT.out (by rw [HN3.out, if_neg (by simp)]) W5 X5.out)
                go_wp2_with fail
                go_roundw
                case rel => exact ⟨i + 1, by go_num, by omega, N⟩
                case measure => simp [RowKit.intOf]; omega
              | false =>
                have HRS : Hid (r = none) := hid (by rw [HR.out]; exact untypedAt_none (by rw [HN3.out, if_pos ⟨HIN.out, rfl⟩]) _ (by omega))
                go_wp2_with fail
                go_ret
                rw [HRS.out]
                exact ⟨rfl, R.out.hx.trans (X5.out.mono fun _ _ h => h.elim), fun b' l' e => by cases e⟩
            · rw [decide_eq_false hin] at hlk
              have N := hid (NXT.out (by rw [HN3.out, if_neg (fun h => hin h.1)]) W3.drew X3w.out.drew)
              clear hin
              go_upto_region 10 with (fail)
              refine region_q none' W3 (.qs [0, 1] (.one 2 true (.qs [3, 4, 5, 6, 7, 8, 9, 10, 11] (.one 12 false (.one 13 false (.one 14 false (.one 15 false .fin))))))) (by kernel_rfl) (by kernel_rfl) (fun dst v c a w h => by cases dst <;> exact h) ?_
              refine ⟨In.of (Ext.refl _ _).drew, ?_⟩
              change wpQuiet _ _ (fun w' => ∃ t : LaterF none' W3, w' = t.w) _ _ _
              simp only [sel, List.getElem?_cons_succ, List.getElem?_cons_zero]
              repeat (go_big_quiet_step (fail))
              refine wpQuiet_nil ?_
              simp only [wpTreeQ, stepT, sel, List.getElem?_cons_succ, List.getElem?_cons_zero]
              go_wp2_with fail
              refine ⟨In.of (Ext.refl none' W3).drew, In.of (Ext.refl none' W3).drew, ?_⟩
              change wpQuiet _ _ (fun w' => ∃ t : LaterF none' W3, w' = t.w) _ _ _
              repeat (go_big_quiet_step (fail))
              refine wpQuiet_nil ?_
              clear u2 w0 w1 w2 n0 n1 n2 m0 s2 hlk
              go_wp2_with fail
              go_roundw
              case rel => exact ⟨i + 1, by go_num, by omega, N⟩
              case measure => simp [RowKit.intOf]; omega
      · have q2 : (t.kind != 2) = true := by simpa using hk2
        have N := hid (NXT.out (by rw [HNX.out, if_pos (.inl hk2)]) W2 X2.out)
        clear hk2 hoz
        go_wp2_with fail
        go_roundw
        case rel => exact ⟨i + 1, by go_num, by omega, N⟩
        case measure => simp [RowKit.intOf]; omega
    · obtain rfl : i = ts.length := by omega
      have HRS : Hid (r = some (b, late)) := hid (by rw [HR.out, HAT.out])
      go_wp2_with fail
      go_ret
      rw [HRS.out]
      exact ⟨rfl, R.out.hx, fun b' l' e => by injection e with e; injection e with e1 e2; subst e1; exact ⟨SB.out, BZ.out⟩⟩
end Go.Proofs.Ytmlhkgocilpobaa
