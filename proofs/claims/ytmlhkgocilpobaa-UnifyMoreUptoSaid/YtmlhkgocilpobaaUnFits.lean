import Derived.Test.YtmlhkgocilpobaaUnParts
/-
  (*unify.state).fits.
-/
namespace Go.Proofs.Ytmlhkgocilpobaa
open Go.RowKit Go.Lib Go.BigFrame
theorem behind_size {ds : List Df} (hd : DefsOk ds) : ∀ (f : Nat) (t : Ty), t.size ≤ bigD → (behP ds f t).size ≤ bigD
  | 0, t, _ => by simp [behP, Ty.zero, Ty.size, Ty.sizeL, bigD]
  | f + 1, t, h => by
    rw [behP]
    split
    · exact h
    · cases hf : findD ds t with
      | none => simp [Ty.zero, Ty.size, Ty.sizeL, bigD]
      | some d =>
        simp only
        split
        · simp [Ty.zero, Ty.size, Ty.sizeL, bigD]
        · rename_i hs
          exact behind_size hd f _ (beh_size hd hf (by omega))
theorem open_size {ds : List Df} (hd : DefsOk ds) (t : Ty) (h : t.size ≤ bigD) : (openP ds t).size ≤ bigD := by
  unfold openP
  split
  · have := full_size hd (behindP ds t); unfold bigD; omega
  · exact h
theorem own_lt {row : List (List UInt8)} {t : Ty} (h : 0 ≤ ownP row t) : (ownP row t).toNat < row.length := by
  unfold ownP at h ⊢
  split at h
  · omega
  · rename_i h4
    rw [if_neg h4]
    rcases fstI_cases (fun x => x == t.name) row with ⟨e, _⟩ | ⟨i, hi, e, _⟩
    · rw [e] at h; omega
    · rw [e]; simpa using hi
structure FMid (A : Nat → Prop) (p t : Ty) (a1 : Option Addr) (cap1 B : Nat) (w wx : World) : Prop where
  g0 : wx.heap[B]? = some (.cells #[.int .i64 p.kind, .string ⟨p.name.toArray⟩, .slice a1 p.args.length cap1] 33 (0, 0))
  g1 : ∃ x, wx.heap[B + 1]? = some (.cells #[.int .i64 t.kind, .string ⟨t.name.toArray⟩, x] 33 (0, 0)) ∧ IsSl 3 IsTy A wx x t.args
  x : Ext none' w wx
set_option maxRecDepth 100000 in
set_option maxHeartbeats 6400000 in
theorem fits_any {ds : List Df} {row : List (List UInt8)} {S base : Nat} {dv rv bv : Value} (hds : DefsFit ds) (hrl : row.length ≤ 1000000000) : ∀ (f : Nat), f ≤ 1000 → FitAt 17 ds row S base dv rv bv f (fitsP ds row f) := by
  intro f
  induction f with
  | zero =>
    intro _ p t by' pv tv w hp ht hby hst hpv htv
    have HST := hid hst
    have HBY := hid hby
    have HPV := hid hpv
    obtain ⟨x, rfl, hx⟩ := hpv
    obtain ⟨y, rfl, hy⟩ := htv
    obtain ⟨a1, cap1, rfl, _⟩ := hx
    obtain ⟨a2, cap2, rfl, _⟩ := hy
    have CO := hid fun (W : World) (X : Ext none' w W) => own_any hrl (HST.out.ext X) p (.agg #[.int .i64 p.kind, .string ⟨p.name.toArray⟩, .slice a1 p.args.length cap1]) ((HPV.out.mono (B := none') fun _ _ h => h.elim).ext X fun _ _ h => h)
    have k0 := cell_at (heap_alloc_keep (heap_alloc_at (w := w) rfl (.cells #[.int .i64 p.kind, .string ⟨p.name.toArray⟩, .slice a1 p.args.length cap1] 33)) (.cells #[.int .i64 t.kind, .string ⟨t.name.toArray⟩, .slice a2 t.args.length cap2] 33)) 0
    have k1 := cell_at (heap_alloc_keep (heap_alloc_at (w := w) rfl (.cells #[.int .i64 p.kind, .string ⟨p.name.toArray⟩, .slice a1 p.args.length cap1] 33)) (.cells #[.int .i64 t.kind, .string ⟨t.name.toArray⟩, .slice a2 t.args.length cap2] 33)) 1
    have k2 := cell_at (heap_alloc_keep (heap_alloc_at (w := w) rfl (.cells #[.int .i64 p.kind, .string ⟨p.name.toArray⟩, .slice a1 p.args.length cap1] 33)) (.cells #[.int .i64 t.kind, .string ⟨t.name.toArray⟩, .slice a2 t.args.length cap2] 33)) 2
    simp only [List.getElem?_toArray, List.getElem?_cons_zero, List.getElem?_cons_succ] at k0 k1 k2
    obtain ⟨z, hz⟩ : ∃ z, ownP row p = z := ⟨_, rfl⟩
    rw [hz] at CO
    clear hz hst hby hp ht
    go_enter Try.func17, Try.ntmps17
    go_wp2_with fail
    refine (CO.out _ (((Ext.refl _ _).alloc _).alloc _)).mono ?_
    rintro e W2 ⟨rfl, X2⟩
    have X2 := hid ((((Ext.refl none' w).alloc _).alloc _).trans X2)
    go_wp2_with fail
    go_ret
    exact ⟨rfl, HST.out.ext X2.out, X2.out.mono fun _ _ h => h.elim, HBY.out⟩
  | succ f ih =>
    intro hf p t by' pv tv w hp ht hby hst hpv htv
    have PA := hid (parts_any (by omega) (ih (by omega)))
    have HST := hid hst
    have HBY := hid hby
    have HPS := hid hp
    have HTS := hid ht
    have HPV := hid hpv
    have HTV := hid htv
    have HBV := hid (show ∀ b, plus none' bv b → b < w.heap.size from fun b hb => hb.elim (fun h => h.elim) fun h' => (hst.b.lt b h').2)
    obtain ⟨x, rfl, hx⟩ := hpv
    obtain ⟨y, rfl, hy⟩ := htv
    have HY := hid hy
    obtain ⟨a1, cap1, rfl, _⟩ := hx
    obtain ⟨a2, cap2, rfl, _⟩ := hy
    have CO := hid fun (W : World) (X : Ext none' w W) => own_any hrl (HST.out.ext X) p (.agg #[.int .i64 p.kind, .string ⟨p.name.toArray⟩, .slice a1 p.args.length cap1]) ((HPV.out.mono (B := none') fun _ _ h => h.elim).ext X fun _ _ h => h)
    obtain ⟨r, hr⟩ : ∃ r, r = fitsP ds row (f + 1) p t by' := ⟨_, rfl⟩
    rw [← hr]
    rw [fitsP] at hr
    have hoz := own_lt (row := row) (t := p)
    have hoz2 : ownP row p < 0 → ownP row p = -1 := fun h => by
      unfold ownP at h ⊢
      split
      · rfl
      · rename_i h4
        rw [if_neg h4] at h
        rcases fstI_cases (fun x => x == p.name) row with ⟨e, _⟩ | ⟨i, hi, e, _⟩
        · exact e
        · rw [e] at h; omega
    obtain ⟨z, hz⟩ : ∃ z, ownP row p = z := ⟨_, rfl⟩
    rw [hz] at CO hr hoz hoz2
    have HR := hid hr
    obtain ⟨B, hB⟩ : ∃ B, B = w.heap.size := ⟨_, rfl⟩
    obtain ⟨W1, hW1⟩ : ∃ W1, W1 = (w.alloc (.cells #[.int .i64 p.kind, .string ⟨p.name.toArray⟩, .slice a1 p.args.length cap1] 33)).alloc (.cells #[.int .i64 t.kind, .string ⟨t.name.toArray⟩, .slice a2 t.args.length cap2] 33) := ⟨_, rfl⟩
    have X1 : Hid (Ext none' w W1) := hid (by rw [hW1]; exact ((Ext.refl _ _).alloc _).alloc _)
    have G0 : Hid (W1.heap[B]? = some (.cells #[.int .i64 p.kind, .string ⟨p.name.toArray⟩, .slice a1 p.args.length cap1] 33 (0, 0))) := hid (by rw [hW1]; exact heap_alloc_keep (heap_alloc_at hB _) _)
    have G1 : Hid (W1.heap[B + 1]? = some (.cells #[.int .i64 t.kind, .string ⟨t.name.toArray⟩, .slice a2 t.args.length cap2] 33 (0, 0))) := hid (by rw [hW1]; exact heap_alloc_at (by rw [hB]; simp) _)
    have HB := hid hB
    have hF0 : (((f + 1 : Nat) : Int) == 0) = false := by simp only [beq_eq_false_iff_ne]; omega
    have PA2 := hid fun (q u : Ty) (qv uv : Value) (W : World) (h1 : q.size ≤ bigD) (h2 : u.size ≤ bigD) (h3 : St ds row by' S base dv rv bv W) h4 h5 => PA.out q u by' qv uv W h1 h2 HBY.out h3 h4 h5
    clear PA
    obtain ⟨F, hF⟩ : ∃ F : Int, F = ((f + 1 : Nat) : Int) := ⟨_, rfl⟩
    rw [← hF] at hF0 PA2 ⊢
    have c0 := cell_at G0.out 0
    have c1 := cell_at G0.out 1
    have c2 := cell_at G0.out 2
    simp only [List.getElem?_toArray, List.getElem?_cons_zero, List.getElem?_cons_succ] at c0 c1 c2
    clear hF hr hz ih hst hby hp ht hf
    go_enter Try.func17, Try.ntmps17
    go_upto_region 1 with (fail)
    rw [← hB, ← hW1]
    clear hB hW1
    go_wp2_with fail
    refine (CO.out _ X1.out).mono ?_
    rintro e W2 ⟨rfl, X2⟩
    have GB0 := hid (X2.heap G0.out (fun h => h))
    have GB1 := hid (X2.heap G1.out (fun h => h))
    have X2 := hid (X1.out.trans X2)
    have ST2 := hid (HST.out.ext X2.out)
    have PV2 := hid (HPV.out.ext X2.out fun _ _ h => h.elim)
    have TV2 := hid (HTV.out.ext X2.out fun _ _ h => h.elim)
    clear c0 c1 c2
    have c0 := cell_at GB0.out 0
    have c1 := cell_at GB0.out 1
    have c2 := cell_at GB0.out 2
    have d0 := cell_at GB1.out 0
    have d1 := cell_at GB1.out 1
    have d2 := cell_at GB1.out 2
    simp only [List.getElem?_toArray, List.getElem?_cons_zero, List.getElem?_cons_succ] at c0 c1 c2 d0 d1 d2
    by_cases hz0 : 0 ≤ z
    · have hj := hoz hz0
      obtain ⟨j, rfl⟩ : ∃ j : Nat, z = j := ⟨z.toNat, by omega⟩
      rw [Int.toNat_natCast] at hj
      have hjb : j < by'.length := by have := HST.out.len; omega
      obtain ⟨g, cap, y0, y1, y2, cur, hbv, hbg, hRj, hg, k0, k1, k2⟩ := ST2.out.b.cell isTy_good hjb
      obtain ⟨vx, e3, hvx⟩ := hRj.parts
      injection e3 with e30 e31
      injection e31 with e31 e32
      injection e32 with e32 _
      subst e30 e31 e32
      have HVX := hid hvx
      obtain ⟨a5, cap5, rfl, _⟩ := hvx
      obtain ⟨bj, hbj⟩ : ∃ bj, by'[j] = bj := ⟨_, rfl⟩
      have hgd : by'.getD j Ty.zero = bj := by rw [List.getD_eq_getElem?_getD, List.getElem?_eq_getElem hjb, ← hbj]; rfl
      have HRJ : Hid (r = if bj.kind = 0 then (true, by'.set j t) else (sameP 100 bj t, by')) := hid (by rw [HR.out, if_pos hz0, Int.toNat_natCast, hgd])
      have hbjs : bj.size ≤ bigD := by rw [← hbj]; exact HBY.out _ (List.getElem_mem hjb)
      rw [hbj] at k0 k1 k2 HVX
      subst hbv
      have hlt := ST2.out.lt
      have HG := hid hg
      have HK0 := hid k0
      have HK1 := hid k1
      have HK2 := hid k2
      have HBG := hid hbg
      have HJB := hid hjb
      have hss := ST2.out.s
      have m0 := cell_at hg (j * 3)
      rw [k0] at m0
      have s2 := cell_at hss 2
      simp only [List.getElem?_toArray, List.getElem?_cons_zero, List.getElem?_cons_succ] at s2
      have HSS := hid hss
      clear hbj hgd hoz hoz2 hg k0 k1 k2 hss hz0 hj hbg
      by_cases hk : bj.kind = 0
      · have q1 : (bj.kind == 0) = true := by simpa using hk
        have HRJ : Hid (r = (true, by'.set j t)) := hid (by rw [HRJ.out, if_pos hk])
        clear hk
        go_upto_region 5 with (fail)
        have u2 := fun t' : LaterF none' W2 => cell_at (t'.x.heap HSS.out (fun h => h)) 2
        have v0 := fun t' : LaterF none' W2 => cell_at (t'.x.heap GB1.out (fun h => h)) 0
        have v1 := fun t' : LaterF none' W2 => cell_at (t'.x.heap GB1.out (fun h => h)) 1
        have v2 := fun t' : LaterF none' W2 => cell_at (t'.x.heap GB1.out (fun h => h)) 2
        simp only [List.getElem?_toArray, List.getElem?_cons_zero, List.getElem?_cons_succ] at u2 v0 v1 v2
        refine region_q none' W2 (.qs [0, 1, 2, 3, 4, 5, 6] (.one 7 false .fin)) (by kernel_rfl) (by kernel_rfl) (fun dst v c a w h => by cases dst <;> exact h) ?_
        refine ⟨In.of (Ext.refl _ _).drew, ?_⟩
        change wpQuiet _ _ (fun w' => ∃ t : LaterF none' W2, w' = t.w) _ _ _
        simp only [sel, List.getElem?_cons_succ, List.getElem?_cons_zero]
        repeat (go_big_quiet_step (fail))
        refine wpQuiet_nil ?_
        simp only [wpTreeQ, stepT, sel, List.getElem?_cons_succ, List.getElem?_cons_zero]
        clear u2 v0 v1 v2 m0 s2
        have m0 := cell_at HG.out (j * 3)
        have m1 := cell_at HG.out (j * 3 + 1)
        have m2 := cell_at HG.out (j * 3 + 2)
        rw [HK0.out] at m0
        rw [HK1.out] at m1
        rw [HK2.out] at m2
        have f0 := free_at HG.out (j * 3)
        have f1 := free_at HG.out (j * 3 + 1)
        have f2 := free_at HG.out (j * 3 + 2)
        go_wp2_with fail
        go_ret
        rw [HRJ.out]
        refine ⟨rfl, (St.put ST2.out HJB.out (t := t) (HY.out.ext isTy_good X2.out fun _ _ h => h.elim)).ext (Ext.refl none' _).drew, ((X2.out.mono fun _ _ h => h.elim).trans ((put3_ext W2 g j (.int .i64 t.kind) (.string ⟨t.name.toArray⟩) (.slice a2 t.args.length cap2)).mono fun b _ e => .inr (by have e : b = g := e; rw [e]; rfl))).drew, fun x hx => ?_⟩
        rcases List.mem_or_eq_of_mem_set hx with h | h
        · exact HBY.out x h
        · rw [h]; exact HTS.out
      · have q1 : (bj.kind == 0) = false := by simpa using hk
        have HRJ : Hid (r = (sameP 100 bj t, by')) := hid (by rw [HRJ.out, if_neg hk])
        clear hk
        have CSA := hid fun (W : World) (X : Ext none' W2 W) => Same_any bj t hbjs HTS.out (.agg #[.int .i64 bj.kind, .string ⟨bj.name.toArray⟩, .slice a5 bj.args.length cap5]) (.agg #[.int .i64 t.kind, .string ⟨t.name.toArray⟩, .slice a2 t.args.length cap2]) W ⟨_, rfl, (HVX.out.mono (B := none') isTy_good fun _ _ h => h.elim).ext isTy_good X fun _ _ h => h⟩ ((TV2.out.mono (B := none') fun _ _ h => h.elim).ext X fun _ _ h => h)
        obtain ⟨q, hq⟩ : ∃ q, sameP 100 bj t = q := ⟨_, rfl⟩
        rw [hq] at CSA HRJ
        clear hq
        go_upto_region 8 with (fail)
        have u2 := fun t' : LaterF none' W2 => cell_at (t'.x.heap HSS.out (fun h => h)) 2
        have v0 := fun t' : LaterF none' W2 => cell_at (t'.x.heap GB1.out (fun h => h)) 0
        have v1 := fun t' : LaterF none' W2 => cell_at (t'.x.heap GB1.out (fun h => h)) 1
        have v2 := fun t' : LaterF none' W2 => cell_at (t'.x.heap GB1.out (fun h => h)) 2
        have n0 := fun t' : LaterF none' W2 => (cell_at (t'.x.heap HG.out (fun h => h)) (j * 3)).trans HK0.out
        have n1 := fun t' : LaterF none' W2 => (cell_at (t'.x.heap HG.out (fun h => h)) (j * 3 + 1)).trans HK1.out
        have n2 := fun t' : LaterF none' W2 => (cell_at (t'.x.heap HG.out (fun h => h)) (j * 3 + 2)).trans HK2.out
        simp only [List.getElem?_toArray, List.getElem?_cons_zero, List.getElem?_cons_succ] at u2 v0 v1 v2
        refine region_q none' W2 (.qs [0, 1, 2, 3, 4, 5, 6, 7] (.one 8 true (.one 9 false .fin))) (by kernel_rfl) (by kernel_rfl) (fun dst v c a w h => by cases dst <;> exact h) ?_
        refine ⟨In.of (Ext.refl _ _).drew, ?_⟩
        change wpQuiet _ _ (fun w' => ∃ t : LaterF none' W2, w' = t.w) _ _ _
        simp only [sel, List.getElem?_cons_succ, List.getElem?_cons_zero]
        repeat (go_big_quiet_step (fail))
        refine wpQuiet_nil ?_
        simp only [wpTreeQ, stepT, sel, List.getElem?_cons_succ, List.getElem?_cons_zero]
        clear u2 v0 v1 v2 n0 n1 n2 m0 s2
        go_wp2_with fail
        refine (CSA.out _ (Ext.refl _ _).drew).mono ?_
        rintro e W3 ⟨rfl, X3⟩
        have X3 := hid ((Ext.refl none' W2).drew.trans X3)
        go_wp2_with fail
        refine ⟨In.of X3.out, ?_⟩
        go_wp2_with fail
        go_ret
        rw [HRJ.out]
        exact ⟨rfl, ST2.out.ext X3.out, (X2.out.trans X3.out).mono fun _ _ h => h.elim, HBY.out⟩
    · have hz1 := hoz2 (by omega)
      subst hz1
      have HRN : Hid (r = if p.kind = 5 ∨ p.kind = 6 then if (openP ds t).kind = p.kind then partsP (fitsP ds row f) p (openP ds t) by' else (false, by') else if p.kind = 3 then if t.kind = 3 ∧ t.name = p.name then partsP (fitsP ds row f) p t by' else (false, by') else (sameP 100 p t, by')) := hid (by rw [HR.out, if_neg (by omega)])
      clear hoz hoz2 hz0
      have hss := ST2.out.s
      have s0 := cell_at hss 0
      simp only [List.getElem?_toArray, List.getElem?_cons_zero] at s0
      have HSS := hid hss
      clear hss
      by_cases hk : p.kind = 5 ∨ p.kind = 6
      · go_upto_region 9 with (fail)
        go_cut [49] from 50 to 57 (fun y wx => y = .bool true ∧ wx = W2)
        case first =>
          by_cases h5 : p.kind = 5
          · have q5 : (p.kind == 5) = true := by simpa using h5
            clear h5 hk
            go_wp2_with fail
            go_meet
            case rel => exact ⟨rfl, rfl⟩
          · have q5 : (p.kind == 5) = false := by simpa using h5
            have h6 : p.kind = 6 := by omega
            have q6 : (p.kind == 6) = true := by simpa using h6
            clear h5 h6 hk
            go_wp2_with fail
            go_meet
            case rel => exact ⟨rfl, rfl⟩
        obtain ⟨rfl, rfl⟩ := hcut
        have HRN : Hid (r = if (openP ds t).kind = p.kind then partsP (fitsP ds row f) p (openP ds t) by' else (false, by')) := hid (by rw [HRN.out, if_pos hk])
        clear hk
        by_cases h3 : t.kind = 3
        · have q3 : (t.kind == 3) = true := by simpa using h3
          have HOP : Hid (openP ds t = fullP ds (behindP ds t)) := hid (by unfold openP; rw [if_pos h3])
          have HOS := hid (open_size hds.ok t HTS.out)
          have HBS := hid (behind_size hds.ok 100 t HTS.out)
          obtain ⟨t2, ht2⟩ : ∃ t2, openP ds t = t2 := ⟨_, rfl⟩
          rw [ht2] at HOP HOS HRN
          clear h3 ht2
          have hBs : B + 2 ≤ wc.heap.size := heap_lt GB1.out
          obtain ⟨A', hA'⟩ : ∃ A' : Nat → Prop, A' = and1 (plus none' bv) (B + 1) := ⟨_, rfl⟩
          have HA1 := hid (show ∀ b, b < w.heap.size → A' b → plus none' bv b from fun b hb h => by rw [hA'] at h; exact h.elim id fun h => by have := HB.out; omega)
          have HA2 := hid (show ∀ b, plus none' bv b → A' b from fun b h => by rw [hA']; exact .inl h)
          have HA3 := hid (show A' (B + 1) by rw [hA']; exact .inr rfl)
          have HA4 := hid (show ∀ b, A' b → b < wc.heap.size from fun b h => by rw [hA'] at h; exact h.elim (fun h => by have := HBV.out b h; have := X2.out.size; omega) fun h => by omega)
          have CB := hid fun (W : World) (X : Ext none' wc W) => Behind_any ds hds t HTS.out A' dv (.agg #[.int .i64 t.kind, .string ⟨t.name.toArray⟩, .slice a2 t.args.length cap2]) W ((HST.out.d.mono isDf_good HA1.out).ext isDf_good (X2.out.trans X) fun _ _ h => h.elim) ((HTV.out.mono HA1.out).ext (X2.out.trans X) fun _ _ h => h.elim) (fun b h => Nat.lt_of_lt_of_le (HA4.out b h) X.size)
          have CFU := hid fun (W : World) (v : Value) (X : Ext none' wc W) (hv : TyV A' W (behindP ds t) v) => Full_any ds hds (behindP ds t) HBS.out A' dv v W ((HST.out.d.mono isDf_good HA1.out).ext isDf_good (X2.out.trans X) fun _ _ h => h.elim) hv (fun b h => Nat.lt_of_lt_of_le (HA4.out b h) X.size)
          rw [← HOP.out] at CFU
          obtain ⟨t1, ht1⟩ : ∃ t1, behindP ds t = t1 := ⟨_, rfl⟩
          rw [ht1] at CB CFU
          clear hA' ht1 hBs
          obtain ⟨ad, nd, capd, hdv⟩ : ∃ a n c, dv = .slice a n c := by obtain ⟨a, c, e, _⟩ := HST.out.d; exact ⟨a, _, c, e⟩
          subst hdv
          go_upto_region 11 with (fail)
          go_cut [6] from 61 to 71 (fun y wx => y = .pointer (some ⟨B + 1, 0, none⟩) ∧ Hid (FMid (plus none' bv) p t2 a1 cap1 B w wx))
          case first =>
            have u0 := fun t' : LaterF none' wc => cell_at (t'.x.heap HSS.out (fun h => h)) 0
            have v0 := fun t' : LaterF none' wc => cell_at (t'.x.heap GB1.out (fun h => h)) 0
            have v1 := fun t' : LaterF none' wc => cell_at (t'.x.heap GB1.out (fun h => h)) 1
            have v2 := fun t' : LaterF none' wc => cell_at (t'.x.heap GB1.out (fun h => h)) 2
            simp only [List.getElem?_toArray, List.getElem?_cons_zero, List.getElem?_cons_succ] at u0 v0 v1 v2
            refine region_q none' wc (.qs [0, 1, 2, 3, 4, 5, 6, 7, 8] (.one 9 true (.one 10 false (.one 11 false .fin)))) (by kernel_rfl) (by kernel_rfl) (fun dst v c a w h => by cases dst <;> exact h) ?_
            refine ⟨In.of (Ext.refl _ _).drew, ?_⟩
            change wpQuiet _ _ (fun w' => ∃ t : LaterF none' wc, w' = t.w) _ _ _
            simp only [sel, List.getElem?_cons_succ, List.getElem?_cons_zero]
            repeat (go_big_quiet_step (fail))
            refine wpQuiet_nil ?_
            simp only [wpTreeQ, stepT, sel, List.getElem?_cons_succ, List.getElem?_cons_zero]
            clear u0 v0 v1 v2
            go_wp2_with fail
            refine (CB.out _ (Ext.refl _ _).drew).mono ?_
            rintro e W3 ⟨u, rfl, hu, X3⟩
            have HU := hid hu
            obtain ⟨ux, rfl, hux⟩ := hu
            obtain ⟨a6, cap6, rfl, _⟩ := hux
            have X3 := hid ((Ext.refl none' wc).drew.trans X3)
            go_wp2_with fail
            refine ⟨In.of X3.out, ?_⟩
            go_wp2_with fail
            refine (CFU.out _ _ X3.out HU.out).mono ?_
            rintro e W4 ⟨u, rfl, ⟨vx, rfl, hvx⟩, X4⟩
            have HVX := hid hvx
            obtain ⟨a7, cap7, rfl, _⟩ := hvx
            have X4 := hid (X3.out.trans X4)
            have K0 := hid (X4.out.heap GB0.out (fun h => h))
            have K1 := hid (X4.out.heap GB1.out (fun h => h))
            have f0 := free_at K1.out 0
            have f1 := free_at K1.out 1
            have f2 := free_at K1.out 2
            have e0 := cell_at K1.out 0
            have e1 := cell_at K1.out 1
            have e2 := cell_at K1.out 2
            simp only [List.getElem?_toArray, List.getElem?_cons_zero, List.getElem?_cons_succ] at e0 e1 e2
            go_wp2_with fail
            go_meet
            case rel =>
              have XS := Ext.self3 W4 (B + 1) (.int .i64 t2.kind) (.string ⟨t2.name.toArray⟩) (.slice a7 t2.args.length cap7)
              exact ⟨rfl, hid ⟨XS.heap K0.out (by unfold one; omega), ⟨_, set3 K1.out _ _ _, (HVX.out.ext isTy_good XS fun b _ e => by have e : b = B + 1 := e; rw [e]; exact HA3.out).mono isTy_good fun b _ h => HA2.out b h⟩, (X2.out.trans X4.out).set3 (.inr (by have := HB.out; omega)) _ _ _⟩⟩
          obtain ⟨rfl, M⟩ := hcut
          obtain ⟨tx, g1, htx⟩ := M.out.g1
          have HTX := hid htx
          obtain ⟨a7, cap7, rfl, _⟩ := htx
          have hg0 := M.out.g0
          clear c0 c1 c2 d0 d1 d2 s0
          have c0 := cell_at hg0 0
          have c1 := cell_at hg0 1
          have c2 := cell_at hg0 2
          have d0 := cell_at g1 0
          have d1 := cell_at g1 1
          have d2 := cell_at g1 2
          simp only [List.getElem?_toArray, List.getElem?_cons_zero, List.getElem?_cons_succ] at c0 c1 c2 d0 d1 d2
          clear hg0 g1
          by_cases h5 : t2.kind = p.kind
          · have q5 : (t2.kind == p.kind) = true := by simpa using h5
            have HRN : Hid (r = partsP (fitsP ds row f) p t2 by') := hid (by rw [HRN.out, if_pos h5])
            clear h5
            go_wp2_with fail
            refine (PA2.out p t2 _ _ _ HPS.out HOS.out (HST.out.ext M.out.x) (HPV.out.ext M.out.x fun _ _ h => h.elim) ⟨_, rfl, HTX.out⟩).mono ?_
            rintro e W3 ⟨rfl, S3, X3, Z3⟩
            rw [← HRN.out] at S3 Z3 ⊢
            have FIN := hid (show FitPost ds row S base _ rv bv r w (.returned (.bool r.1)) W3 from ⟨rfl, S3, (M.out.x.mono fun _ _ h => h.elim).trans X3, Z3⟩)
            clear S3 X3 Z3
            go_wp2_with fail
            go_ret
            exact FIN.out
          · have q5 : (t2.kind == p.kind) = false := by simpa using h5
            have HRN : Hid (r = (false, by')) := hid (by rw [HRN.out, if_neg h5])
            clear h5
            go_wp2_with fail
            go_ret
            rw [HRN.out]
            exact ⟨rfl, HST.out.ext M.out.x, M.out.x.mono fun _ _ h => h.elim, HBY.out⟩
        · have q3 : (t.kind == 3) = false := by simpa using h3
          have HRN : Hid (r = if t.kind = p.kind then partsP (fitsP ds row f) p t by' else (false, by')) := hid (by
            have e : openP ds t = t := by unfold openP; rw [if_neg h3]
            have := HRN.out
            rw [e] at this
            exact this)
          clear h3
          by_cases h5 : t.kind = p.kind
          · have q5 : (t.kind == p.kind) = true := by simpa using h5
            have HRN : Hid (r = partsP (fitsP ds row f) p t by') := hid (by rw [HRN.out, if_pos h5])
            clear h5
            go_wp2_with fail
            refine (PA2.out p t _ _ wc HPS.out HTS.out ST2.out PV2.out TV2.out).mono ?_
            rintro e W3 ⟨rfl, S3, X3, Z3⟩
            rw [← HRN.out] at S3 Z3 ⊢
            have FIN := hid (show FitPost ds row S base _ rv bv r w (.returned (.bool r.1)) W3 from ⟨rfl, S3, (X2.out.mono fun _ _ h => h.elim).trans X3, Z3⟩)
            clear S3 X3 Z3
            go_wp2_with fail
            go_ret
            exact FIN.out
          · have q5 : (t.kind == p.kind) = false := by simpa using h5
            have HRN : Hid (r = (false, by')) := hid (by rw [HRN.out, if_neg h5])
            clear h5
            go_wp2_with fail
            go_ret
            rw [HRN.out]
            exact ⟨rfl, ST2.out, X2.out.mono fun _ _ h => h.elim, HBY.out⟩
      · have hq5 : (p.kind == 5) = false := by simp only [beq_eq_false_iff_ne]; omega
        have hq6 : (p.kind == 6) = false := by simp only [beq_eq_false_iff_ne]; omega
        have HRN : Hid (r = if p.kind = 3 then if t.kind = 3 ∧ t.name = p.name then partsP (fitsP ds row f) p t by' else (false, by') else (sameP 100 p t, by')) := hid (by rw [HRN.out, if_neg hk])
        clear hk
        by_cases h3 : p.kind = 3
        · have q3 : (p.kind == 3) = true := by simpa using h3
          have HRN : Hid (r = if t.kind = 3 ∧ t.name = p.name then partsP (fitsP ds row f) p t by' else (false, by')) := hid (by rw [HRN.out, if_pos h3])
          clear h3
          by_cases h4 : t.kind = 3
          · have q4 : (t.kind == 3) = true := by simpa using h4
            by_cases h5 : t.name = p.name
            · have q5 : (t.name == p.name) = true := by simpa using h5
              have HRN : Hid (r = partsP (fitsP ds row f) p t by') := hid (by rw [HRN.out, if_pos ⟨h4, h5⟩])
              clear h4 h5
              go_wp2_with fail
              refine (PA2.out p t _ _ W2 HPS.out HTS.out ST2.out PV2.out TV2.out).mono ?_
              rintro e W3 ⟨rfl, S3, X3, Z3⟩
              rw [← HRN.out] at S3 Z3 ⊢
              have FIN := hid (show FitPost ds row S base _ rv bv r w (.returned (.bool r.1)) W3 from ⟨rfl, S3, (X2.out.mono fun _ _ h => h.elim).trans X3, Z3⟩)
              clear S3 X3 Z3
              go_wp2_with fail
              go_ret
              exact FIN.out
            · have q5 : (t.name == p.name) = false := by simpa using h5
              have HRN : Hid (r = (false, by')) := hid (by rw [HRN.out, if_neg (fun h => h5 h.2)])
              clear h4 h5
              go_wp2_with fail
              go_ret
              rw [HRN.out]
              exact ⟨rfl, ST2.out, X2.out.mono fun _ _ h => h.elim, HBY.out⟩
          · have q4 : (t.kind == 3) = false := by simpa using h4
            have HRN : Hid (r = (false, by')) := hid (by rw [HRN.out, if_neg (fun h => h4 h.1)])
            clear h4
            go_wp2_with fail
            go_ret
            rw [HRN.out]
            exact ⟨rfl, ST2.out, X2.out.mono fun _ _ h => h.elim, HBY.out⟩
        · have q3 : (p.kind == 3) = false := by simpa using h3
          have HRN : Hid (r = (sameP 100 p t, by')) := hid (by rw [HRN.out, if_neg h3])
          clear h3
          have CSA := hid (Same_any p t HPS.out HTS.out (.agg #[.int .i64 p.kind, .string ⟨p.name.toArray⟩, .slice a1 p.args.length cap1]) (.agg #[.int .i64 t.kind, .string ⟨t.name.toArray⟩, .slice a2 t.args.length cap2]) W2 (PV2.out.mono (B := none') fun _ _ h => h.elim) (TV2.out.mono (B := none') fun _ _ h => h.elim))
          obtain ⟨q, hq⟩ : ∃ q, sameP 100 p t = q := ⟨_, rfl⟩
          rw [hq] at CSA HRN
          clear hq
          go_wp2_with fail
          refine CSA.out.mono ?_
          rintro e W3 ⟨rfl, X3⟩
          have X3 := hid X3
          go_wp2_with fail
          go_ret
          rw [HRN.out]
          exact ⟨rfl, ST2.out.ext X3.out, (X2.out.trans X3.out).mono fun _ _ h => h.elim, HBY.out⟩
end Go.Proofs.Ytmlhkgocilpobaa
