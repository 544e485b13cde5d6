import Derived.Test.YtmlhkgocilpobaaUnRow
import Derived.Deep.Cut
import Derived.Deep.CutRange
/-
  (*unify.state).own, .full.
-/
namespace Go.Proofs.Ytmlhkgocilpobaa
open Go.RowKit Go.Lib Go.BigFrame
set_option maxRecDepth 100000 in
set_option maxHeartbeats 1600000 in
theorem own_any {ds : List Df} {row : List (List UInt8)} {by' : List Ty} {S base : Nat} {dv rv bv : Value} {w : World} (hrl : row.length ≤ 1000000000) (h : St ds row by' S base dv rv bv w) (t : Ty) (v : Value) (hv : TyV none' w t v) :
    Calls Try.prog 24 #[.pointer (some ⟨S, 0, none⟩), v] w (IntP (ownP row t) w) := by
  have H := hid h
  obtain ⟨x, rfl, hx⟩ := hv
  obtain ⟨a1, cap1, rfl, _⟩ := hx
  have hr := h.r
  have hs := h.s
  have HR := hid hr
  obtain ⟨a2, cap2, rfl, _⟩ := hr
  have CI := hid fun (W : World) (X : Ext none' w W) => index_any (plus none' bv) row t.name _ W (HR.out.ext isStr_good X fun _ _ h => h.elim) (by omega)
  obtain ⟨r, hr⟩ : ∃ r, r = ownP row t := ⟨_, rfl⟩
  rw [← hr]
  unfold ownP at hr
  obtain ⟨z, hz⟩ : ∃ z, fstI (· == t.name) row = z := ⟨_, rfl⟩
  rw [hz] at CI hr
  have HRR := hid hr
  have HS := hid hs
  clear hz hr hs h
  by_cases h4 : t.kind = 4
  · have q : (t.kind != 4) = false := by simpa using h4
    have e1 : Hid (r = z) := hid (by rw [HRR.out, if_neg (by simpa using h4)])
    clear h4
    obtain ⟨W1, hW1⟩ : ∃ W1, W1 = w.alloc (.cells #[.int .i64 t.kind, .string ⟨t.name.toArray⟩, .slice a1 t.args.length cap1] 33) := ⟨_, rfl⟩
    obtain ⟨B, hB⟩ : ∃ B, B = w.heap.size := ⟨_, rfl⟩
    have X1 : Hid (Ext none' w W1) := hid (by rw [hW1]; exact (Ext.refl _ _).alloc _)
    have G0 : Hid (W1.heap[B]? = some (.cells #[.int .i64 t.kind, .string ⟨t.name.toArray⟩, .slice a1 t.args.length cap1] 33 (0, 0))) := hid (by rw [hW1]; exact heap_alloc_at hB _)
    have GS := hid (X1.out.heap HS.out (fun h => h))
    have c0 := cell_at G0.out 0
    have y1 := fun t' : LaterF none' W1 => cell_at (t'.x.heap GS.out (fun h => h)) 1
    have k1 := fun t' : LaterF none' W1 => cell_at (t'.x.heap G0.out (fun h => h)) 1
    simp only [List.getElem?_toArray, List.getElem?_cons_zero, List.getElem?_cons_succ] at c0 y1 k1
    go_enter Try.func24, Try.ntmps24
    go_upto_region 1 with (fail)
    rw [← hB, ← hW1]
    clear hB hW1
    go_upto_region 3 with (fail)
    refine region_q none' W1 (.qs [0, 1, 2, 3, 4, 5] (.one 6 true (.one 7 false .fin))) (by kernel_rfl) (by kernel_rfl) (fun dst v c a w h => by cases dst <;> exact h) ?_
    refine ⟨In.of (Ext.refl _ _).drew, ?_⟩
    change wpQuiet _ _ (fun w' => ∃ t : LaterF none' W1, w' = t.w) _ _ _
    simp only [sel, List.getElem?_cons_succ, List.getElem?_cons_zero]
    repeat (go_big_quiet_step (fail))
    refine wpQuiet_nil ?_
    simp only [wpTreeQ, stepT, sel, List.getElem?_cons_succ, List.getElem?_cons_zero]
    clear c0 y1 k1
    go_wp2_with fail
    refine (CI.out _ X1.out.drew).mono ?_
    rintro e W2 ⟨rfl, X2⟩
    have X2 := hid ((Ext.refl none' W1).drew.trans X2)
    go_wp2_with fail
    refine ⟨In.of X2.out, ?_⟩
    go_wp2_with fail
    go_ret
    exact ⟨by rw [e1.out]; rfl, X1.out.trans X2.out⟩
  · have q : (t.kind != 4) = true := by simpa using h4
    have e1 : Hid (r = -1) := hid (by rw [HRR.out, if_pos h4])
    clear h4
    go_enter Try.func24, Try.ntmps24
    go_wp2_with fail
    go_ret
    exact ⟨by rw [e1.out]; rfl, (Ext.refl _ _).alloc _⟩
theorem results_cct {fn : Func} {p q u : Tmp} {ty tz : TypeId} (h : fn.results = #[.cell p ty, .cell q tz, .tmp u]) (tmps : Array Value) (P : Program) (w : World) :
    (results fn tmps).run P w = ((asAddr (tmps.getD p undef)).run P w).andThen fun a w₁ => ((loadVar ty a).run P w₁).andThen fun v w₂ => ((asAddr (tmps.getD q undef)).run P w₂).andThen fun a2 w₃ => ((loadVar tz a2).run P w₃).andThen fun v2 w₄ => .ok (.tuple #[v, v2, tmps.getD u undef]) w₄ := by
  simp only [results, h]
  simp [Sem.run_bind, Result.andThen]
theorem ret_ty3 {fn : Func} {p q u : Tmp} (h : fn.results = #[.cell p 33, .cell q 33, .tmp u]) {R : Ending → World → Prop} {a : Act} {w : World} {g g' : Nat} {y0 y1 y2 z0 z1 z2 z : Value} {t t' : TypeId} {fr fr' : Nat × Nat} (hp : a.tmps.getD p undef = .pointer (some ⟨g, 0, none⟩)) (hq : a.tmps.getD q undef = .pointer (some ⟨g', 0, none⟩))
    (hg : w.heap[g]? = some (.cells #[y0, y1, y2] t fr)) (hg' : w.heap[g']? = some (.cells #[z0, z1, z2] t' fr')) (hz : a.tmps.getD u undef = z)
    (hd : a.defers = []) (hR : R (.returned (.tuple #[.agg #[y0, y1, y2], .agg #[z0, z1, z2], z])) w) : bodyPost Try.prog fn R .ret a w := by
  have hl := run_loadVar_row (P := Try.prog) w g t 33 #[y0, y1, y2] fr _ hg Try.underlying33 rfl (by kernel_rfl)
  have hl' := run_loadVar_row (P := Try.prog) w g' t' 33 #[z0, z1, z2] fr' _ hg' Try.underlying33 rfl (by kernel_rfl)
  refine bodyPost_ret (v := .tuple #[.agg #[y0, y1, y2], .agg #[z0, z1, z2], z]) ?_ hd hR
  rw [results_cct h, hp, hq, hz]
  simp [asAddr, hl, hl', Result.andThen]
def Full2Post (A : Nat → Prop) (w : World) (p t : Ty) (e : Ending) (w' : World) : Prop := ∃ u1 u2, e = .returned (.tuple #[u1, u2, .bool (p.kind != 0 && t.kind != 0)]) ∧ TyV A w' p u1 ∧ TyV A w' t u2 ∧ Ext none' w w'
structure F2Mid (A : Nat → Prop) (p t : Ty) (B : Nat) (w wx : World) : Prop where
  g0 : ∃ x, wx.heap[B]? = some (.cells #[.int .i64 p.kind, .string ⟨p.name.toArray⟩, x] 33 (0, 0)) ∧ IsSl 3 IsTy A wx x p.args
  g1 : ∃ x, wx.heap[B + 1]? = some (.cells #[.int .i64 t.kind, .string ⟨t.name.toArray⟩, x] 33 (0, 0)) ∧ IsSl 3 IsTy A wx x t.args
  g2 : wx.heap[B + 1 + 1]? = some (.cells #[.int .i64 0, .string ⟨#[]⟩, .slice none 0 0] 33 (0, 0))
  g3 : wx.heap[B + 1 + 1 + 1]? = some (.cells #[.int .i64 0, .string ⟨#[]⟩, .slice none 0 0] 33 (0, 0))
  x : Ext none' w wx
set_option maxRecDepth 100000 in
set_option maxHeartbeats 3200000 in
theorem full2_any {ds : List Df} {row : List (List UInt8)} {by' : List Ty} {S base : Nat} {dv rv bv : Value} {w : World} (hds : DefsFit ds) (h : St ds row by' S base dv rv bv w) (p t : Ty) (hp : p.size ≤ bigD) (ht : t.size ≤ bigD) (pv tv : Value) (A : Nat → Prop) (hbv : ∀ b, A b → b < w.heap.size) (hdA : IsSl 6 IsDf A w dv ds) (hpv : TyV A w p pv) (htv : TyV A w t tv) :
    Calls Try.prog 16 #[.pointer (some ⟨S, 0, none⟩), pv, tv] w (Full2Post A w (fullP ds p) (fullP ds t)) := by
  have hs := h.s
  have HS := hid hs
  have HD := hid hdA
  have hd := hdA
  obtain ⟨ad, capd, rfl, _⟩ := hd
  have HPV := hid hpv
  have HTV := hid htv
  obtain ⟨x, rfl, hx⟩ := hpv
  obtain ⟨y, rfl, hy⟩ := htv
  obtain ⟨a1, cap1, rfl, _⟩ := hx
  obtain ⟨a2, cap2, rfl, _⟩ := hy
  obtain ⟨B, hB⟩ : ∃ B, B = w.heap.size := ⟨_, rfl⟩
  obtain ⟨A', hA'⟩ : ∃ A' : Nat → Prop, A' = fun b => A b ∨ (B ≤ b ∧ b < B + 4) := ⟨_, rfl⟩
  have HA1 := hid (show ∀ b, b < w.heap.size → A' b → A b from fun b hb h => by rw [hA'] at h; exact h.elim id fun h => by omega)
  have HA2 := hid (show ∀ b, A b → A' b from fun b h => by rw [hA']; exact .inl h)
  have HA3 := hid (show ∀ b, B ≤ b → b < B + 4 → A' b from fun b h1 h2 => by rw [hA']; exact .inr ⟨h1, h2⟩)
  have HA4 := hid (show ∀ b, A' b → b < B + 4 from fun b h => by rw [hA'] at h; exact h.elim (fun h => by have := hbv b h; omega) fun h => h.2)
  have CP := hid fun (W : World) (X : Ext none' w W) (hz : B + 4 ≤ W.heap.size) => Full_any ds hds p hp A' (.slice ad ds.length capd) (.agg #[.int .i64 p.kind, .string ⟨p.name.toArray⟩, .slice a1 p.args.length cap1]) W ((HD.out.mono isDf_good HA1.out).ext isDf_good X fun _ _ h => h.elim) ((HPV.out.mono HA1.out).ext X fun _ _ h => h.elim) (fun b h => by have := HA4.out b h; omega)
  have CT := hid fun (W : World) (X : Ext none' w W) (hz : B + 4 ≤ W.heap.size) => Full_any ds hds t ht A' (.slice ad ds.length capd) (.agg #[.int .i64 t.kind, .string ⟨t.name.toArray⟩, .slice a2 t.args.length cap2]) W ((HD.out.mono isDf_good HA1.out).ext isDf_good X fun _ _ h => h.elim) ((HTV.out.mono HA1.out).ext X fun _ _ h => h.elim) (fun b h => by have := HA4.out b h; omega)
  obtain ⟨p', hp'⟩ : ∃ p', fullP ds p = p' := ⟨_, rfl⟩
  obtain ⟨t', ht'⟩ : ∃ t', fullP ds t = t' := ⟨_, rfl⟩
  rw [hp'] at CP ⊢
  rw [ht'] at CT ⊢
  obtain ⟨W1, hW1⟩ : ∃ W1, W1 = (((w.alloc (.cells #[.int .i64 p.kind, .string ⟨p.name.toArray⟩, .slice a1 p.args.length cap1] 33)).alloc (.cells #[.int .i64 t.kind, .string ⟨t.name.toArray⟩, .slice a2 t.args.length cap2] 33)).alloc (.cells #[.int .i64 0, .string ⟨#[]⟩, .slice none 0 0] 33)).alloc (.cells #[.int .i64 0, .string ⟨#[]⟩, .slice none 0 0] 33) := ⟨_, rfl⟩
  have X1 : Hid (Ext none' w W1) := hid (by rw [hW1]; exact ((((Ext.refl _ _).alloc _).alloc _).alloc _).alloc _)
  have G0 : Hid (W1.heap[B]? = some (.cells #[.int .i64 p.kind, .string ⟨p.name.toArray⟩, .slice a1 p.args.length cap1] 33 (0, 0))) := hid (by rw [hW1]; exact heap_alloc_keep (heap_alloc_keep (heap_alloc_keep (heap_alloc_at hB _) _) _) _)
  have G1 : Hid (W1.heap[B + 1]? = some (.cells #[.int .i64 t.kind, .string ⟨t.name.toArray⟩, .slice a2 t.args.length cap2] 33 (0, 0))) := hid (by rw [hW1]; exact heap_alloc_keep (heap_alloc_keep (heap_alloc_at (by rw [hB]; simp) _) _) _)
  have G2 : Hid (W1.heap[B + 1 + 1]? = some (.cells #[.int .i64 0, .string ⟨#[]⟩, .slice none 0 0] 33 (0, 0))) := hid (by rw [hW1]; exact heap_alloc_keep (heap_alloc_at (by rw [hB]; simp) _) _)
  have G3 : Hid (W1.heap[B + 1 + 1 + 1]? = some (.cells #[.int .i64 0, .string ⟨#[]⟩, .slice none 0 0] 33 (0, 0))) := hid (by rw [hW1]; exact heap_alloc_at (by rw [hB]; simp) _)
  have HB := hid hB
  have HZ := hid (show B + 4 ≤ W1.heap.size from heap_lt G3.out)
  have GS := hid (X1.out.heap HS.out (fun h => h))
  clear hA' hp' ht' hs hp ht hbv h hdA
  go_enter Try.func16, Try.ntmps16
  go_upto_region 1 with (fail)
  rw [← hB, ← hW1]
  clear hB hW1
  go_cut [4, 5] from 9 to 20 (fun y z wx => y = .pointer (some ⟨B, 0, none⟩) ∧ z = .pointer (some ⟨B + 1, 0, none⟩) ∧ Hid (F2Mid A' p' t' B w wx))
  case first =>
    have s0 := fun t' : LaterF none' W1 => cell_at (t'.x.heap GS.out (fun h => h)) 0
    have c0 := fun t' : LaterF none' W1 => cell_at (t'.x.heap G0.out (fun h => h)) 0
    have c1 := fun t' : LaterF none' W1 => cell_at (t'.x.heap G0.out (fun h => h)) 1
    have c2 := fun t' : LaterF none' W1 => cell_at (t'.x.heap G0.out (fun h => h)) 2
    have d0 := fun t' : LaterF none' W1 => cell_at (t'.x.heap G1.out (fun h => h)) 0
    have d1 := fun t' : LaterF none' W1 => cell_at (t'.x.heap G1.out (fun h => h)) 1
    have d2 := fun t' : LaterF none' W1 => cell_at (t'.x.heap G1.out (fun h => h)) 2
    simp only [List.getElem?_toArray, List.getElem?_cons_zero, List.getElem?_cons_succ] at s0 c0 c1 c2 d0 d1 d2
    refine region_q none' W1 (.qs [0, 1, 2, 3, 4, 6, 7, 8, 9, 10] (.one 5 true (.one 11 false (.one 12 false (.one 13 false .fin))))) (by kernel_rfl) (by kernel_rfl) (fun dst v c a w h => by cases dst <;> exact h) ?_
    refine ⟨In.of (Ext.refl _ _).drew, ?_⟩
    change wpQuiet _ _ (fun w' => ∃ t : LaterF none' W1, w' = t.w) _ _ _
    simp only [sel, List.getElem?_cons_succ, List.getElem?_cons_zero]
    repeat (go_big_quiet_step (fail))
    refine wpQuiet_nil ?_
    simp only [wpTreeQ, stepT, sel, List.getElem?_cons_succ, List.getElem?_cons_zero]
    clear s0 c0 c1 c2 d0 d1 d2
    have D2 := hid (Ext.refl none' W1).drew
    go_wp2_with fail
    refine (CP.out _ X1.out.drew (by have := HZ.out; have := D2.out.size; omega)).mono ?_
    rintro e W2 ⟨u, rfl, ⟨px, rfl, hpx⟩, X2⟩
    have X2 := hid (D2.out.trans X2)
    have HPX := hid hpx
    obtain ⟨a3, cap3, rfl, _⟩ := hpx
    go_wp2_with fail
    refine ⟨In.of X2.out, ?_⟩
    go_wp2_with fail
    refine (CT.out _ (X1.out.trans X2.out) (by have := HZ.out; have := X2.out.size; omega)).mono ?_
    rintro e W3 ⟨u, rfl, ⟨tx, rfl, htx⟩, X3⟩
    have HPX3 := hid (HPX.out.ext isTy_good X3 fun _ _ h => h.elim)
    have X3 := hid (X2.out.trans X3)
    have HTX := hid htx
    obtain ⟨a4, cap4, rfl, _⟩ := htx
    have K0 := hid (X3.out.heap G0.out (fun h => h))
    have K1 := hid (X3.out.heap G1.out (fun h => h))
    have f0 := free_at K0.out 0
    have f1 := free_at K0.out 1
    have f2 := free_at K0.out 2
    have e0 := cell_at K0.out 0
    have e1 := cell_at K0.out 1
    have e2 := cell_at K0.out 2
    simp only [List.getElem?_toArray, List.getElem?_cons_zero, List.getElem?_cons_succ] at e0 e1 e2
    obtain ⟨W4, hW4⟩ : ∃ W4, W4 = ((W3.setCell ⟨B, 0, none⟩ (.int .i64 p'.kind)).setCell ⟨B, 1, none⟩ (.string ⟨p'.name.toArray⟩)).setCell ⟨B, 2, none⟩ (.slice a3 p'.args.length cap3) := ⟨_, rfl⟩
    have XS : Hid (Ext (one B) W3 W4) := hid (by rw [hW4]; exact Ext.self3 _ _ _ _ _)
    have K0' : Hid (W4.heap[B]? = some (.cells #[.int .i64 p'.kind, .string ⟨p'.name.toArray⟩, .slice a3 p'.args.length cap3] 33 (0, 0))) := hid (by rw [hW4]; exact set3 K0.out _ _ _)
    have K1' := hid (XS.out.heap K1.out (by unfold one; omega))
    have g0 := free_at K1'.out 0
    have g1 := free_at K1'.out 1
    have g2 := free_at K1'.out 2
    have h0 := cell_at K1'.out 0
    have h1 := cell_at K1'.out 1
    have h2 := cell_at K1'.out 2
    simp only [List.getElem?_toArray, List.getElem?_cons_zero, List.getElem?_cons_succ] at h0 h1 h2
    have HW4 := hid hW4
    subst hW4
    go_wp2_with fail
    go_meet
    case rel =>
      have hB1 := HA3.out B (by omega) (by omega)
      have hB2 := HA3.out (B + 1) (by omega) (by omega)
      have XT := Ext.self3 (((W3.setCell ⟨B, 0, none⟩ (.int .i64 p'.kind)).setCell ⟨B, 1, none⟩ (.string ⟨p'.name.toArray⟩)).setCell ⟨B, 2, none⟩ (.slice a3 p'.args.length cap3)) (B + 1) (.int .i64 t'.kind) (.string ⟨t'.name.toArray⟩) (.slice a4 t'.args.length cap4)
      have e0 : ∀ b, one B b → A' b := fun b e => by have e : b = B := e; rw [e]; exact hB1
      have e1 : ∀ b, one (B + 1) b → A' b := fun b e => by have e : b = B + 1 := e; rw [e]; exact hB2
      have hBw := HB.out
      exact ⟨rfl, rfl, hid ⟨⟨_, XT.heap K0'.out (by unfold one; omega), (HPX3.out.ext isTy_good XS.out fun b _ h => e0 b h).ext isTy_good XT fun b _ h => e1 b h⟩, ⟨_, set3 K1'.out _ _ _, (HTX.out.ext isTy_good XS.out fun b _ h => e0 b h).ext isTy_good XT fun b _ h => e1 b h⟩,
        XT.heap (XS.out.heap (X3.out.heap G2.out (fun h => h)) (by unfold one; omega)) (by unfold one; omega), XT.heap (XS.out.heap (X3.out.heap G3.out (fun h => h)) (by unfold one; omega)) (by unfold one; omega), ((X1.out.trans X3.out).set3 (.inr (by omega)) _ _ _).set3 (.inr (by omega)) _ _ _⟩⟩
  obtain ⟨rfl, rfl, M⟩ := hcut
  obtain ⟨px, gp, hpx⟩ := M.out.g0
  obtain ⟨tx, gt, htx⟩ := M.out.g1
  have GP := hid gp
  have GT := hid gt
  have HPX := hid hpx
  have HTX := hid htx
  have GR := hid M.out.g2
  have GQ := hid M.out.g3
  obtain ⟨a3, cap3, rfl, _⟩ := hpx
  obtain ⟨a4, cap4, rfl, _⟩ := htx
  obtain ⟨U, hU⟩ : ∃ U : Nat → Prop, U = fun b => b = B + 1 + 1 ∨ b = B + 1 + 1 + 1 := ⟨_, rfl⟩
  have u0 : Hid (¬ U B ∧ ¬ U (B + 1) ∧ U (B + 1 + 1) ∧ U (B + 1 + 1 + 1)) := hid (by rw [hU]; refine ⟨by omega, by omega, .inl rfl, .inr rfl⟩)
  have HUA := hid (show ∀ b, U b → A' b from fun b h => by rw [hU] at h; rcases h with rfl | rfl <;> exact HA3.out _ (by omega) (by omega))
  have HBw := hid (show w.heap.size ≤ B by have := HB.out; omega)
  have c0 := fun t' : LaterF U wc => cell_at (t'.x.heap GP.out u0.out.1) 0
  have c1 := fun t' : LaterF U wc => cell_at (t'.x.heap GP.out u0.out.1) 1
  have c2 := fun t' : LaterF U wc => cell_at (t'.x.heap GP.out u0.out.1) 2
  have d0 := fun t' : LaterF U wc => cell_at (t'.x.heap GT.out u0.out.2.1) 0
  have d1 := fun t' : LaterF U wc => cell_at (t'.x.heap GT.out u0.out.2.1) 1
  have d2 := fun t' : LaterF U wc => cell_at (t'.x.heap GT.out u0.out.2.1) 2
  simp only [List.getElem?_toArray, List.getElem?_cons_zero, List.getElem?_cons_succ] at c0 c1 c2 d0 d1 d2
  obtain ⟨q1, hq1⟩ : ∃ q, (p'.kind != 0) = q := ⟨_, rfl⟩
  obtain ⟨q2, hq2⟩ : ∃ q, (t'.kind != 0) = q := ⟨_, rfl⟩
  have HQ : Hid ((p'.kind != 0 && t'.kind != 0) = (q1 && q2)) := hid (by rw [hq1, hq2])
  clear hU gp gt
  obtain ⟨W4, hW4⟩ : ∃ W4, W4 = (((wc.setCell ⟨B + 1 + 1, 0, none⟩ (.int .i64 p'.kind)).setCell ⟨B + 1 + 1, 1, none⟩ (.string ⟨p'.name.toArray⟩)).setCell ⟨B + 1 + 1, 2, none⟩ (.slice a3 p'.args.length cap3)).drew := ⟨_, rfl⟩
  have XS : Hid (Ext (one (B + 1 + 1)) wc W4) := hid (by rw [hW4]; exact ((Ext.refl (one (B + 1 + 1)) wc).set3 (.inl rfl) _ _ _).drew)
  have XU : Hid (Ext U wc W4) := hid (XS.out.mono fun b _ h => by have h : b = B + 1 + 1 := h; rw [h]; exact u0.out.2.2.1)
  have KR : Hid (W4.heap[B + 1 + 1]? = some (.cells #[.int .i64 p'.kind, .string ⟨p'.name.toArray⟩, .slice a3 p'.args.length cap3] 33 (0, 0))) := hid (by rw [hW4]; exact set3 GR.out _ _ _)
  have KQ := hid (XS.out.heap GQ.out (by unfold one; omega))
  have XT := hid (Ext.self3 W4 (B + 1 + 1 + 1) (.int .i64 t'.kind) (.string ⟨t'.name.toArray⟩) (.slice a4 t'.args.length cap4))
  have KR2 := hid (XT.out.heap KR.out (by unfold one; omega))
  have KQ2 := hid (set3 KQ.out (.int .i64 t'.kind) (.string ⟨t'.name.toArray⟩) (.slice a4 t'.args.length cap4))
  have XTU := hid (XU.out.trans (XT.out.mono fun b _ h => by have h : b = B + 1 + 1 + 1 := h; rw [h]; exact u0.out.2.2.2))
  have FIN : Hid (Full2Post A w p' t' (.returned (.tuple #[.agg #[.int .i64 p'.kind, .string ⟨p'.name.toArray⟩, .slice a3 p'.args.length cap3], .agg #[.int .i64 t'.kind, .string ⟨t'.name.toArray⟩, .slice a4 t'.args.length cap4], .bool (q1 && q2)])) (((W4.setCell ⟨B + 1 + 1 + 1, 0, none⟩ (.int .i64 t'.kind)).setCell ⟨B + 1 + 1 + 1, 1, none⟩ (.string ⟨t'.name.toArray⟩)).setCell ⟨B + 1 + 1 + 1, 2, none⟩ (.slice a4 t'.args.length cap4))) := hid (by
    refine ⟨_, _, by rw [HQ.out], ⟨_, rfl, (HPX.out.ext isTy_good XTU.out fun b _ h => HUA.out b h).mono isTy_good fun b _ h => HA2.out b h⟩, ⟨_, rfl, (HTX.out.ext isTy_good XTU.out fun b _ h => HUA.out b h).mono isTy_good fun b _ h => HA2.out b h⟩, ?_⟩
    rw [hW4]
    exact ((M.out.x.set3 (.inr (by have := HBw.out; omega)) _ _ _).drew).set3 (.inr (by have := HBw.out; omega)) _ _ _)
  have HW4 := hid hW4
  clear hW4
  go_upto_region 2 with (fail)
  refine region_q U wc (.qs [0, 1, 2, 3, 4, 5, 6, 7, 8, 9] (.one 10 true (.one 11 true (.one 12 false .fin)))) (by kernel_rfl) (by kernel_rfl) (fun dst v c a w h => by cases dst <;> exact h) ?_
  refine ⟨In.of (Ext.refl _ _).drew, ?_⟩
  change wpQuiet _ _ (fun w' => ∃ t : LaterF U wc, w' = t.w) _ _ _
  simp only [sel, List.getElem?_cons_succ, List.getElem?_cons_zero]
  have f0 := free_at GR.out 0
  have f1 := free_at GR.out 1
  have f2 := free_at GR.out 2
  have e0 := cell_at GR.out 0
  have e1 := cell_at GR.out 1
  have e2 := cell_at GR.out 2
  simp only [List.getElem?_toArray, List.getElem?_cons_zero, List.getElem?_cons_succ] at e0 e1 e2
  cases q1 with
  | true =>
    repeat (go_big_quiet_step (fail))
    refine wpQuiet_nil ?_
    simp only [wpTreeQ, stepT, sel, List.getElem?_cons_succ, List.getElem?_cons_zero]
    clear c0 c1 c2 d0 d1 d2
    go_wp2_with fail
    rw [← HW4.out]
    refine ⟨In.of XU.out, ?_⟩
    have g0 := free_at KQ.out 0
    have g1 := free_at KQ.out 1
    have g2 := free_at KQ.out 2
    have h0 := cell_at KQ.out 0
    have h1 := cell_at KQ.out 1
    have h2 := cell_at KQ.out 2
    simp only [List.getElem?_toArray, List.getElem?_cons_zero, List.getElem?_cons_succ] at h0 h1 h2
    clear e0 e1 e2 f0 f1 f2
    go_wp2_with fail
    refine ⟨In.of XTU.out, ?_⟩
    go_wp2_with fail
    refine ret_ty3 rfl rfl rfl KR2.out KQ2.out rfl rfl ?_
    exact FIN.out
  | false =>
    repeat (go_big_quiet_step (fail))
    refine wpQuiet_nil ?_
    simp only [wpTreeQ, stepT, sel, List.getElem?_cons_succ, List.getElem?_cons_zero]
    clear c0 c1 c2 d0 d1 d2
    go_wp2_with fail
    rw [← HW4.out]
    refine ⟨In.of XU.out, ?_⟩
    have g0 := free_at KQ.out 0
    have g1 := free_at KQ.out 1
    have g2 := free_at KQ.out 2
    have h0 := cell_at KQ.out 0
    have h1 := cell_at KQ.out 1
    have h2 := cell_at KQ.out 2
    simp only [List.getElem?_toArray, List.getElem?_cons_zero, List.getElem?_cons_succ] at h0 h1 h2
    clear e0 e1 e2 f0 f1 f2
    go_wp2_with fail
    refine ⟨In.of XTU.out, ?_⟩
    go_wp2_with fail
    refine ret_ty3 rfl rfl rfl KR2.out KQ2.out rfl rfl ?_
    exact FIN.out
end Go.Proofs.Ytmlhkgocilpobaa
