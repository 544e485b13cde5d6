import Derived.Test.YthoeengfgkfchaaSeROf2
import Derived.Test.YthoeengfgkfchaaSeBounds
import Derived.Deep.Cut
import Derived.Deep.CutRange
/-
  SetsOf: the law's function.
-/
namespace Go.Proofs.Ythoeengfgkfchaa
open Go.RowKit Go.Lib Go.BigFrame
theorem sizeD_pos (f : Nat) (t : Nd) : 1 ≤ sizeD (f + 1) t := by rw [sizeD]; omega
theorem sizeD_kids (f : Nat) (n : Nd) : n.kids.length < sizeD (f + 2) n := by
  have h : ∀ l : List Nd, l.length ≤ (l.map (sizeD (f + 1))).sum := by
    intro l
    induction l with
    | nil => simp
    | cons a r ih => have := sizeD_pos f a; rw [List.map_cons, List.sum_cons, List.length_cons]; omega
  have := h n.kids
  rw [sizeD]
  omega
theorem find_len {given : List Bd} {n : List UInt8} {m : Nat} (h : ∀ b ∈ given, b.set.terms.length ≤ m) : ((findC given n).getD cn0).terms.length ≤ m := by
  unfold findC
  cases hf : given.find? (fun b => b.name == n) with
  | none => simp [cn0]
  | some b => exact h b (List.mem_of_find?_eq_some hf)
theorem of_len {given : List Bd} {n : Nd} {m : Nat} (h : ∀ b ∈ given, b.set.terms.length ≤ m) (hk : n.kids.length ≤ m) : (ofPair given n).1.terms.length ≤ m := by
  rw [ofPair_eq]
  split
  · unfold pairU unionP
    by_cases hb : n.kids.all termB = true
    · rw [if_pos hb]; simpa using hk
    · rw [if_neg hb]; simp [cn0]
  · split
    · simp [cn0]
    · unfold foundP
      have := find_len (n := n.text) h
      cases hf : findC given n.text with
      | none => simp
      | some c => rw [hf] at this; exact this
/-- A constraint in a block of its own, and a truth. -/
structure CnB (T : TypeId) (p : Cn × Bool) (W2 : World) (y z : Value) (wx : World) : Prop where
  y : ∃ Y x, y = .pointer (some ⟨Y, 0, none⟩) ∧ wx.heap[Y]? = some (.cells #[.bool p.1.all, .bool p.1.cmp, x] T (0, 0)) ∧ IsSl 2 IsTm none' wx x p.1.terms
  z : z = .bool p.2
  x : Ext none' W2 wx
theorem CnB.mk' {T : TypeId} {p : Cn × Bool} {W2 w : World} {x y0 y1 y2 : Value} {Y : Nat} (hx : IsSl 2 IsTm (and1 none' Y) w x p.1.terms) (X : Ext none' W2 w) (hY : W2.heap.size ≤ Y) (g : w.heap[Y]? = some (.cells #[y0, y1, y2] T (0, 0))) :
    CnB T p W2 (.pointer (some ⟨Y, 0, none⟩)) (.bool p.2) (((w.setCell ⟨Y, 0, none⟩ (.bool p.1.all)).setCell ⟨Y, 1, none⟩ (.bool p.1.cmp)).setCell ⟨Y, 2, none⟩ x) :=
  ⟨⟨Y, x, rfl, set3 g _ _ _, (hx.ext isTm_good (Ext.self3 _ _ _ _ _) fun _ _ q => .inr q).mono isTm_good fun _ _ q => .inl q⟩, rfl, X.set3 (.inr hY) _ _ _⟩
theorem CnB.mk1 {T : TypeId} {p : Cn × Bool} {W2 w : World} {x : Value} (hx : IsSl 2 IsTm none' w x p.1.terms) (X : Ext none' W2 w) :
    CnB T p W2 (.pointer (some ⟨w.heap.size, 0, none⟩)) (.bool p.2) (w.alloc (.cells #[.bool p.1.all, .bool p.1.cmp, x] T (0, 0))) :=
  ⟨⟨_, x, rfl, heap_alloc_at rfl _, hx.ext isTm_good ((Ext.refl none' w).alloc _) fun _ _ q => q.elim⟩, rfl, X.alloc _⟩
set_option maxRecDepth 100000 in
set_option maxHeartbeats 3200000 in
theorem law_of_true (n : Nd) (bs : List Bd) (name : List UInt8) (hsz : n.size ≤ bigD) (v bv : Value) (w : World) (hv : NdV none' w n v) (hb : IsSl 4 IsBd none' w bv bs) (h : 200 < sizeD 1000 n ∨ 20 < bs.length) :
    Calls Try.prog 6 #[v, bv, .string ⟨name.toArray⟩] w (TruePost w) := by
  obtain ⟨x, rfl, hx⟩ := hv
  have HX := hid hx
  obtain ⟨a, cap, rfl, _⟩ := hx
  obtain ⟨a3, cap3, rfl, _⟩ := hb
  have CS := hid fun (W : World) (X : Ext none' w W) => nsize_any 1000 (by omega) n hsz none' (.agg #[.int .i64 n.kind, .string ⟨n.text.toArray⟩, .slice a n.kids.length cap, .int .i64 n.pos]) W ⟨_, rfl, HX.out.ext isNd_good X fun _ _ h => h.elim⟩
  have hsd := sizeD_le 1000 n
  obtain ⟨p, hp⟩ : ∃ p, sizeD 1000 n = p := ⟨_, rfl⟩
  obtain ⟨m, hm⟩ : ∃ m, bs.length = m := ⟨_, rfl⟩
  rw [hm]
  rw [hp] at CS hsd
  rw [hp, hm] at h
  unfold bigD at hsz
  clear hp hm
  by_cases h5 : 200 < p
  · have q1 : decide (200 < (p : Int)) = true := decide_eq_true (by omega)
    go_enter Try.func6, Try.ntmps6
    go_wp2_with fail
    refine (CS.out _ ((Ext.refl _ _).alloc _)).mono ?_
    rintro e W1 ⟨rfl, X1⟩
    have X1 := hid X1
    go_wp2_with fail
    go_ret
    exact ⟨rfl, ((Ext.refl _ _).alloc _).trans X1.out⟩
  · have h6 : 20 < m := by omega
    have q1 : decide (200 < (p : Int)) = false := decide_eq_false (by omega)
    have q2 : decide (20 < (m : Int)) = true := decide_eq_true (by omega)
    go_enter Try.func6, Try.ntmps6
    go_wp2_with fail
    refine (CS.out _ ((Ext.refl _ _).alloc _)).mono ?_
    rintro e W1 ⟨rfl, X1⟩
    have X1 := hid X1
    go_wp2_with fail
    go_ret
    exact ⟨rfl, ((Ext.refl _ _).alloc _).trans X1.out⟩
set_option maxRecDepth 100000 in
set_option maxHeartbeats 6400000 in
theorem law_of (n : Nd) (bs : List Bd) (name : List UInt8) (hsz : n.size ≤ bigD) (hbs : ∀ b ∈ bs, b.set.terms.length ≤ 1000000) (v bv : Value) (w : World) (hv : NdV none' w n v) (hb : IsSl 4 IsBd none' w bv bs) (hn : sizeD 1000 n ≤ 200) (hbl : bs.length ≤ 20) :
    Calls Try.prog 6 #[v, bv, .string ⟨name.toArray⟩] w (TruePost w) := by
  obtain ⟨x, rfl, hx⟩ := hv
  have HX := hid hx
  obtain ⟨a, cap, rfl, _⟩ := hx
  have HB := hid hb
  obtain ⟨a3, cap3, rfl, _⟩ := hb
  have hk : n.kids.length ≤ 1000000 := by have : n.kids.length < sizeD 1000 n := sizeD_kids 998 n; omega
  have hol := of_len (n := n) hbs hk
  have hfl := find_len (n := name) hbs
  have CS := hid fun (W : World) (X : Ext none' w W) => nsize_any 1000 (by omega) n hsz none' (.agg #[.int .i64 n.kind, .string ⟨n.text.toArray⟩, .slice a n.kids.length cap, .int .i64 n.pos]) W ⟨_, rfl, HX.out.ext isNd_good X fun _ _ h => h.elim⟩
  have CB := hid fun (A : Nat → Prop) (W : World) (X : Ext none' w W) (hA : ∀ b, A b → b < W.heap.size) => bounds_any bs (by omega) hbs A (.slice a3 bs.length cap3) W (HB.out.ext isBd_good X fun _ _ h => h.elim) hA
  have CO := hid fun (A : Nat → Prop) (gv : Value) (W : World) (X : Ext none' w W) (hg : IsSl 4 IsBd A W gv bs) (hA : ∀ b, A b → b < W.heap.size) => Of_any n bs hk (by omega) (fun b hb => by have := hbs b hb; omega) A (.agg #[.int .i64 n.kind, .string ⟨n.text.toArray⟩, .slice a n.kids.length cap, .int .i64 n.pos]) gv W ⟨_, rfl, HX.out.ext isNd_good X fun _ _ h => h.elim⟩ hg hA
  have CRO := hid fun (W : World) (X : Ext none' w W) => rof_any n bs hk (by omega) (.agg #[.int .i64 n.kind, .string ⟨n.text.toArray⟩, .slice a n.kids.length cap, .int .i64 n.pos]) (.slice a3 bs.length cap3) W ⟨_, rfl, HX.out.ext isNd_good X fun _ _ h => h.elim⟩ (HB.out.ext isBd_good X fun _ _ h => h.elim)
  have CF := hid fun (gv : Value) (W : World) (hg : IsSl 4 IsBd none' W gv bs) => FindC_any bs name (by omega) (fun b hb => by have := hbs b hb; omega) none' gv W hg (fun _ h => h.elim)
  have CRF := hid fun (W : World) (X : Ext none' w W) => rfind_any bs name (by omega) none' (.slice a3 bs.length cap3) W (HB.out.ext isBd_good X fun _ _ h => h.elim)
  have AW := hid fun W => awake_any W
  have g0 := heap_alloc_at (w := w) rfl (.cells #[.int .i64 n.kind, .string ⟨n.text.toArray⟩, .slice a n.kids.length cap, .int .i64 n.pos] 59)
  have G0 := hid fun (W : World) (X : Ext none' (w.alloc (.cells #[.int .i64 n.kind, .string ⟨n.text.toArray⟩, .slice a n.kids.length cap, .int .i64 n.pos] 59)) W) => X.heap g0 (fun h => h)
  obtain ⟨p, hp⟩ : ∃ p, sizeD 1000 n = p := ⟨_, rfl⟩
  rw [hp] at CS hn
  obtain ⟨q, hq⟩ : ∃ q, ofPair bs n = q := ⟨_, rfl⟩
  rw [hq] at CO CRO hol
  obtain ⟨o, ho⟩ : ∃ o, findC bs name = o := ⟨_, rfl⟩
  rw [ho] at CF CRF hfl
  have TO := hid fun (v u : Value) (W : World) => told_any q.1 hol v u W
  have TF := hid fun (v u : Value) (W : World) => told_any (o.getD cn0) hfl v u W
  have q1 : decide (200 < (p : Int)) = false := decide_eq_false (by omega)
  have q2 : decide (20 < (bs.length : Int)) = false := decide_eq_false (by omega)
  clear hp g0 hbs hbl hsz hk hq ho hol hfl
  obtain ⟨qc, qb⟩ := q
  go_enter Try.func6, Try.ntmps6
  go_wp2_with fail
  refine (CS.out _ ((Ext.refl _ _).alloc _)).mono ?_
  rintro e W2 ⟨rfl, X1⟩
  have GB := hid fun (W : World) (X : Ext none' W2 W) => G0.out _ (X1.trans X)
  have X2 := hid (((Ext.refl none' w).alloc _).trans X1)
  clear X1
  go_upto_region 3 with (fail)
  go_cut [7, 8] from 23 to 29 (fun y z wx => Hid (CnB 45 (qc, qb) W2 y z wx))
  case first =>
    have c0 := fun t' : LaterF none' W2 => cell_at (GB.out _ t'.x) 0
    have c1 := fun t' : LaterF none' W2 => cell_at (GB.out _ t'.x) 1
    have c2 := fun t' : LaterF none' W2 => cell_at (GB.out _ t'.x) 2
    have c3 := fun t' : LaterF none' W2 => cell_at (GB.out _ t'.x) 3
    simp only [List.getElem?_toArray, List.getElem?_cons_zero, List.getElem?_cons_succ] at c0 c1 c2 c3
    refine region_q none' W2 (.qs [0, 1] (.two 2 true (.two 3 true (.qs [4, 5, 6] (.one 7 true (.one 8 true (.one 9 false .fin)))) 7 true (.one 3 true (.qs [4, 5, 6] (.one 8 true (.one 9 false .fin))))) 7 true (.one 2 true (.one 3 true (.qs [4, 5, 6] (.one 8 true (.one 9 false .fin))))))) (by kernel_rfl) (by kernel_rfl) (fun dst v c a w h => by cases dst <;> exact h) ?_
    refine ⟨In.of (Ext.refl _ _).drew, ?_⟩
    change wpQuiet _ _ (fun w' => ∃ t : LaterF none' W2, w' = t.w) _ _ _
    simp only [sel, List.getElem?_cons_succ, List.getElem?_cons_zero]
    repeat (go_big_quiet_step (fail))
    refine wpQuiet_nil ?_
    simp only [wpTreeQ, stepT, sel, List.getElem?_cons_succ, List.getElem?_cons_zero]
    clear c0 c1 c2 c3
    have D2 := hid (Ext.refl none' W2).drew
    refine ⟨?_, ?_⟩
    · go_wp2_with fail
      refine (CB.out none' _ (X2.out.trans D2.out) (fun _ h => h.elim)).mono ?_
      rintro e V1 ⟨u, rfl, hu, E1⟩
      have HU := hid hu
      obtain ⟨a4, cap4, rfl, _⟩ := hu
      have X3 := hid (D2.out.trans E1)
      go_wp2_with fail
      refine ⟨In.of X3.out, ?_, ?_⟩
      · go_wp2_with fail
        refine (CO.out none' _ _ (X2.out.trans X3.out) HU.out (fun _ h => h.elim)).mono ?_
        rintro e V2 ⟨u, rfl, ⟨x', rfl, hx'⟩, E2⟩
        have HX' := hid hx'
        obtain ⟨a5, cap5, rfl, _⟩ := hx'
        have X4 := hid (X3.out.trans E2)
        go_wp2_with fail
        refine ⟨In.of X4.out, In.of X4.out, ?_⟩
        change wpQuiet _ _ (fun w' => ∃ t : LaterF none' W2, w' = t.w) _ _ _
        repeat (go_big_quiet_step (fail))
        refine wpQuiet_nil ?_
        go_wp2_with fail
        refine ⟨In.of (X4.out.alloc _), ?_⟩
        go_wp2_with fail
        refine ⟨In.of (X4.out.alloc _), ?_⟩
        go_wp2_with fail
        go_meet
        case rel => exact hid (CnB.mk1 (p := (qc, qb)) HX'.out X4.out)
      · go_wp2_with fail
        have GA := hid (heap_alloc_at (w := V1) (k := V1.heap.size) rfl (.cells #[.bool false, .bool false, .slice none 0 0] 45 (0, 0)))
        have HUA := hid ((HU.out.mono (B := and1 none' V1.heap.size) isBd_good (and1.down (Nat.le_refl _))).ext isBd_good ((Ext.refl none' V1).alloc (.cells #[.bool false, .bool false, .slice none 0 0] 45 (0, 0))) fun _ _ h => h.elim)
        have HY := hid X3.out.size
        have XA := hid (X3.out.alloc (.cells #[.bool false, .bool false, .slice none 0 0] 45 (0, 0)))
        refine ⟨In.of XA.out, ?_⟩
        go_wp2_with fail
        refine (CO.out (and1 none' V1.heap.size) _ _ (X2.out.trans XA.out) HUA.out (fun b hb => hb.elim (fun h => h.elim) fun h => by rw [h]; exact heap_lt GA.out)).mono ?_
        rintro e V2 ⟨u, rfl, ⟨x', rfl, hx'⟩, E2⟩
        have HX' := hid hx'
        obtain ⟨a5, cap5, rfl, _⟩ := hx'
        have GY := hid (E2.heap GA.out (fun h => h))
        have X4 := hid (XA.out.trans E2)
        go_wp2_with fail
        refine ⟨In.of X4.out, In.of X4.out, ?_⟩
        change wpQuiet _ _ (fun w' => ∃ t : LaterF none' W2, w' = t.w) _ _ _
        repeat (go_big_quiet_step (fail))
        refine wpQuiet_nil ?_
        have f0 := free_at GY.out 0
        have f1 := free_at GY.out 1
        have f2 := free_at GY.out 2
        have e0 := cell_at GY.out 0
        have e1 := cell_at GY.out 1
        have e2 := cell_at GY.out 2
        simp only [List.getElem?_toArray, List.getElem?_cons_zero, List.getElem?_cons_succ] at e0 e1 e2
        go_wp2_with fail
        refine ⟨In.of (X4.out.set3 (.inr HY.out) _ _ _), ?_⟩
        go_wp2_with fail
        go_meet
        case rel => exact hid (CnB.mk' (p := (qc, qb)) HX'.out X4.out HY.out GY.out)
    · go_wp2_with fail
      have GA0 := hid (heap_alloc_at (w := W2.drew) (k := W2.heap.size) rfl (.cells #[.bool false, .bool false, .slice none 0 0] 45 (0, 0)))
      have XA0 := hid (D2.out.alloc (.cells #[.bool false, .bool false, .slice none 0 0] 45 (0, 0)))
      have HY := hid (Nat.le_refl W2.heap.size)
      refine ⟨In.of XA0.out, ?_⟩
      go_wp2_with fail
      refine (CB.out (and1 none' W2.heap.size) _ (X2.out.trans XA0.out) (fun b hb => hb.elim (fun h => h.elim) fun h => by rw [h]; exact heap_lt GA0.out)).mono ?_
      rintro e V1 ⟨u, rfl, hu, E1⟩
      have HUA := hid hu
      obtain ⟨a4, cap4, rfl, _⟩ := hu
      have GA := hid (E1.heap GA0.out (fun h => h))
      have XA := hid (XA0.out.trans E1)
      go_wp2_with fail
      refine ⟨In.of XA.out, ?_⟩
      go_wp2_with fail
      refine (CO.out (and1 none' W2.heap.size) _ _ (X2.out.trans XA.out) HUA.out (fun b hb => hb.elim (fun h => h.elim) fun h => by rw [h]; exact heap_lt GA.out)).mono ?_
      rintro e V2 ⟨u, rfl, ⟨x', rfl, hx'⟩, E2⟩
      have HX' := hid hx'
      obtain ⟨a5, cap5, rfl, _⟩ := hx'
      have GY := hid (E2.heap GA.out (fun h => h))
      have X4 := hid (XA.out.trans E2)
      go_wp2_with fail
      refine ⟨In.of X4.out, In.of X4.out, ?_⟩
      change wpQuiet _ _ (fun w' => ∃ t : LaterF none' W2, w' = t.w) _ _ _
      repeat (go_big_quiet_step (fail))
      refine wpQuiet_nil ?_
      have f0 := free_at GY.out 0
      have f1 := free_at GY.out 1
      have f2 := free_at GY.out 2
      have e0 := cell_at GY.out 0
      have e1 := cell_at GY.out 1
      have e2 := cell_at GY.out 2
      simp only [List.getElem?_toArray, List.getElem?_cons_zero, List.getElem?_cons_succ] at e0 e1 e2
      go_wp2_with fail
      refine ⟨In.of (X4.out.set3 (.inr HY.out) _ _ _), ?_⟩
      go_wp2_with fail
      go_meet
      case rel => exact hid (CnB.mk' (p := (qc, qb)) HX'.out X4.out HY.out GY.out)
  obtain ⟨Y, yx, rfl, gY, hyx⟩ := hcut.out.y
  obtain rfl := hcut.out.z
  have HYX := hid hyx
  have XC := hid (X2.out.trans hcut.out.x)
  have GBc := hid fun (W : World) (X : Ext none' wc W) => GB.out W (hcut.out.x.trans X)
  have GYc := hid fun (W : World) (X : Ext none' wc W) => X.heap gY (fun h => h)
  obtain ⟨a5, cap5, rfl, _⟩ := hyx
  have d0 := cell_at (GBc.out wc (Ext.refl _ _)) 0
  have d1 := cell_at (GBc.out wc (Ext.refl _ _)) 1
  have d2 := cell_at (GBc.out wc (Ext.refl _ _)) 2
  have d3 := cell_at (GBc.out wc (Ext.refl _ _)) 3
  simp only [List.getElem?_toArray, List.getElem?_cons_zero, List.getElem?_cons_succ] at d0 d1 d2 d3
  clear gY
  go_upto_region 4 with (fail)
  go_cut [9, 10] from 30 to 35 (fun y z wx => Hid (CnB 26 (qc, qb) wc y z wx))
  case first =>
    go_wp2_with fail
    refine (CRO.out _ XC.out).mono ?_
    rintro e V1 ⟨u, rfl, ⟨x', rfl, hx'⟩, E1⟩
    have HX' := hid hx'
    obtain ⟨a6, cap6, rfl, _⟩ := hx'
    have E1 := hid E1
    go_wp2_with fail
    go_meet
    case rel => exact hid (CnB.mk1 (p := (qc, qb)) HX'.out E1.out)
  clear d0 d1 d2 d3
  obtain ⟨R, rx, rfl, gR, hrx⟩ := hcut.out.y
  obtain rfl := hcut.out.z
  have HRX := hid hrx
  have XD := hid hcut.out.x
  obtain ⟨a6, cap6, rfl, _⟩ := hrx
  have GRc := hid fun (W : World) (X : Ext none' wc W) => X.heap gR (fun h => h)
  have GYd := hid fun (W : World) (X : Ext none' wc W) => GYc.out W (XD.out.trans X)
  have HYd := hid (HYX.out.ext isTm_good XD.out fun _ _ h => h.elim)
  have XE := hid (XC.out.trans XD.out)
  clear gR
  go_upto_region 5 with (fail)
  go_cut [11, 12] from 36 to 42 (fun y z wx => Hid (CnB 45 (o.getD cn0, o.isSome) wc y z wx))
  case first =>
    go_wp2_with fail
    refine (CB.out none' _ XE.out (fun _ h => h.elim)).mono ?_
    rintro e V1 ⟨u, rfl, hu, E1⟩
    have HU := hid hu
    obtain ⟨a4, cap4, rfl, _⟩ := hu
    have E1 := hid E1
    go_wp2_with fail
    refine (CF.out _ _ HU.out).mono ?_
    rintro e V2 ⟨u, rfl, ⟨x', rfl, hx'⟩, E2⟩
    have HX' := hid hx'
    obtain ⟨a7, cap7, rfl, _⟩ := hx'
    have E2 := hid (E1.out.trans E2)
    go_wp2_with fail
    go_meet
    case rel => exact hid (CnB.mk1 (p := (o.getD cn0, o.isSome)) HX'.out E2.out)
  obtain ⟨F, fx, rfl, gF, hfx⟩ := hcut.out.y
  obtain rfl := hcut.out.z
  have HFX := hid hfx
  have XF := hid hcut.out.x
  obtain ⟨a7, cap7, rfl, _⟩ := hfx
  have GFe := hid fun (W : World) (X : Ext none' wc W) => X.heap gF (fun h => h)
  have GRe := hid fun (W : World) (X : Ext none' wc W) => GRc.out W (XF.out.trans X)
  have GYe := hid fun (W : World) (X : Ext none' wc W) => GYd.out W (XF.out.trans X)
  have HYe := hid (HYd.out.ext isTm_good XF.out fun _ _ h => h.elim)
  have HRe := hid (HRX.out.ext isTm_good XF.out fun _ _ h => h.elim)
  have XG := hid (XE.out.trans XF.out)
  clear gF
  go_upto_region 6 with (fail)
  go_cut [13, 14] from 43 to 48 (fun y z wx => Hid (CnB 26 (o.getD cn0, o.isSome) wc y z wx))
  case first =>
    go_wp2_with fail
    refine (CRF.out _ XG.out).mono ?_
    rintro e V2 ⟨u, rfl, ⟨x', rfl, hx'⟩, E2⟩
    have HX' := hid hx'
    obtain ⟨a8, cap8, rfl, _⟩ := hx'
    have E2 := hid E2
    go_wp2_with fail
    go_meet
    case rel => exact hid (CnB.mk1 (p := (o.getD cn0, o.isSome)) HX'.out E2.out)
  obtain ⟨T, tx, rfl, gT, htx⟩ := hcut.out.y
  obtain rfl := hcut.out.z
  have HTX := hid htx
  have XH := hid hcut.out.x
  obtain ⟨a8, cap8, rfl, _⟩ := htx
  have GTf := hid fun (W : World) (X : Ext none' wc W) => X.heap gT (fun h => h)
  have GFf := hid fun (W : World) (X : Ext none' wc W) => GFe.out W (XH.out.trans X)
  have HFf := hid (HFX.out.ext isTm_good XH.out fun _ _ h => h.elim)
  have HYf := hid (HYe.out.ext isTm_good XH.out fun _ _ h => h.elim)
  have HRf := hid (HRe.out.ext isTm_good XH.out fun _ _ h => h.elim)
  have XI := hid (XG.out.trans XH.out)
  have y0 := cell_at (GYe.out _ XH.out) 0
  have y1 := cell_at (GYe.out _ XH.out) 1
  have y2 := cell_at (GYe.out _ XH.out) 2
  have r0 := cell_at (GRe.out _ XH.out) 0
  have r1 := cell_at (GRe.out _ XH.out) 1
  have r2 := cell_at (GRe.out _ XH.out) 2
  simp only [List.getElem?_toArray, List.getElem?_cons_zero, List.getElem?_cons_succ] at y0 y1 y2 r0 r1 r2
  clear gT
  have q3 : (qb == qb) = true := by simp
  have q4 : (o.isSome == o.isSome) = true := by simp
  go_wp2_with fail
  refine (TO.out _ _ _ ⟨_, rfl, HYf.out⟩ ⟨_, rfl, HRf.out⟩).mono ?_
  rintro e W5 ⟨rfl, X5⟩
  have X5 := hid X5
  clear y0 y1 y2 r0 r1 r2
  have y0 := cell_at (GFf.out _ X5.out) 0
  have y1 := cell_at (GFf.out _ X5.out) 1
  have y2 := cell_at (GFf.out _ X5.out) 2
  have r0 := cell_at (GTf.out _ X5.out) 0
  have r1 := cell_at (GTf.out _ X5.out) 1
  have r2 := cell_at (GTf.out _ X5.out) 2
  simp only [List.getElem?_toArray, List.getElem?_cons_zero, List.getElem?_cons_succ] at y0 y1 y2 r0 r1 r2
  go_wp2_with fail
  refine (TF.out _ _ _ ⟨_, rfl, HFf.out.ext isTm_good X5.out fun _ _ h => h.elim⟩ ⟨_, rfl, HTX.out.ext isTm_good X5.out fun _ _ h => h.elim⟩).mono ?_
  rintro e W6 ⟨rfl, X6⟩
  have X6 := hid (X5.out.trans X6)
  go_wp2_with fail
  refine (AW.out _).mono ?_
  rintro e W7 ⟨rfl, X7⟩
  have X7 := hid (XI.out.trans (X6.out.trans X7))
  go_wp2_with fail
  go_ret
  exact ⟨rfl, X7.out⟩
end Go.Proofs.Ythoeengfgkfchaa
