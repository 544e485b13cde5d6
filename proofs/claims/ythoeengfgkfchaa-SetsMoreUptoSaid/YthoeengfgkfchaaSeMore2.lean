import Derived.Test.YthoeengfgkfchaaSeMore
import Derived.Deep.Cut
import Derived.Deep.CutRange
namespace Go.Proofs.Ythoeengfgkfchaa
open Go.RowKit Go.Lib Go.BigFrame
/-- Behind the third region: the definitions, the constraints and the type as the program's. -/
structure MoMid (ds : List Df) (bs : List Bd) (t : Ty) (W2 : World) (v b y : Value) (wx : World) : Prop where
  d : IsSl 6 IsDf none' wx v ds
  b : IsSl 4 IsBd none' wx b bs
  y : ∃ Y x, y = .pointer (some ⟨Y, 0, none⟩) ∧ wx.heap[Y]? = some (.cells #[.int .i64 t.kind, .string ⟨t.name.toArray⟩, x] 41 (0, 0)) ∧ IsSl 3 IsTy none' wx x t.args
  x : Ext none' W2 wx
theorem MoMid.mk' {ds : List Df} {bs : List Bd} {t : Ty} {W2 w : World} {v b x : Value} {Y : Nat} {y0 y1 y2 : Value} (hd : IsSl 6 IsDf (and1 none' Y) w v ds) (hb : IsSl 4 IsBd (and1 none' Y) w b bs) (hx : IsSl 3 IsTy (and1 none' Y) w x t.args) (X : Ext none' W2 w) (hY : W2.heap.size ≤ Y) (g : w.heap[Y]? = some (.cells #[y0, y1, y2] 41 (0, 0))) :
    MoMid ds bs t W2 v b (.pointer (some ⟨Y, 0, none⟩)) (((w.setCell ⟨Y, 0, none⟩ (.int .i64 t.kind)).setCell ⟨Y, 1, none⟩ (.string ⟨t.name.toArray⟩)).setCell ⟨Y, 2, none⟩ x) :=
  ⟨(hd.ext isDf_good (Ext.self3 _ _ _ _ _) fun _ _ q => .inr q).mono isDf_good fun _ _ q => .inl q, (hb.ext isBd_good (Ext.self3 _ _ _ _ _) fun _ _ q => .inr q).mono isBd_good fun _ _ q => .inl q, ⟨Y, x, rfl, set3 g _ _ _, (hx.ext isTy_good (Ext.self3 _ _ _ _ _) fun _ _ q => .inr q).mono isTy_good fun _ _ q => .inl q⟩, X.set3 (.inr hY) _ _ _⟩
theorem duo_src {P : Program} {tx e' : TypeId} (hk : P.underlying tx = some (.slice e')) (w : World) (u0 u1 u2 u3 : Value) (t : TypeId) (h : ∀ u ∈ [u0, u1, u2, u3], u.oneCell' = true) :
    Src P 2 tx (.slice (some ⟨w.heap.size, 0, none⟩) 2 2) 2 [u0, u1, u2, u3] (w.alloc (.cells #[u0, u1, u2, u3] t)) :=
  Src.ofSlice _ hk _ 2 2 [u0, u1, u2, u3] rfl (fun j u hj => by
    have e : (⟨w.heap.size, 0, none⟩ : Addr).add j = ⟨w.heap.size, j, none⟩ := by unfold Addr.add; split <;> simp_all
    rw [e, cell_at (heap_alloc_at rfl _)]
    exact (List.getElem?_toArray ..).trans hj) h
/-- A constraint in a block of its own. -/
structure CnMid (s : Cn) (W2 : World) (y : Value) (wx : World) : Prop where
  y : ∃ Y x, y = .pointer (some ⟨Y, 0, none⟩) ∧ wx.heap[Y]? = some (.cells #[.bool s.all, .bool s.cmp, x] 45 (0, 0)) ∧ IsSl 2 IsTm none' wx x s.terms
  x : Ext none' W2 wx
theorem CnMid.mk' {s : Cn} {W2 w : World} {x : Value} (hx : IsSl 2 IsTm none' w x s.terms) (X : Ext none' W2 w) :
    CnMid s W2 (.pointer (some ⟨w.heap.size, 0, none⟩)) (w.alloc (.cells #[.bool s.all, .bool s.cmp, x] 45 (0, 0))) :=
  ⟨⟨_, x, rfl, heap_alloc_at rfl _, hx.ext isTm_good ((Ext.refl none' w).alloc _) fun _ _ q => q.elim⟩, X.alloc _⟩
set_option maxRecDepth 100000 in
set_option maxHeartbeats 6400000 in
theorem law_more (ds : List Df) (bs : List Bd) (s : Cn) (t : Ty) (hsz : ∀ d ∈ ds, d.ty.size ≤ bigD) (hbs : ∀ b ∈ bs, b.set.terms.length ≤ 1000000) (dv : Value) (bv : Value) (a0 a1 a2 : Option Addr) (n2 c0 c1 c2 : Nat) (w : World) (hd : IsSl 6 IsDf none' w dv ds) (hb : IsSl 4 IsBd none' w bv bs)
    (hs : IsSl 2 IsTm none' w (.slice a0 s.terms.length c0) s.terms) (hv : IsSl 3 IsTy none' w (.slice a1 t.args.length c1) t.args) (hli : lightP ds = true) (hbl : bs.length ≤ 20) (hsl : s.terms.length ≤ 20) (ht : t.size ≤ 60) :
    Calls Try.prog 3 #[dv, bv, .agg #[.bool s.all, .bool s.cmp, .slice a0 s.terms.length c0, .int .i64 t.kind, .string ⟨t.name.toArray⟩, .slice a1 t.args.length c1, .slice a2 n2 c2]] w (TruePost w) := by
  have HD := hid hd
  obtain ⟨a, cap, rfl, _⟩ := hd
  have HB := hid hb
  obtain ⟨a3, cap3, rfl, _⟩ := hb
  have HS := hid hs
  have HX := hid hv
  have hle : ds.length ≤ 20 ∧ ∀ d ∈ ds, d.ty.size ≤ 20 ∧ d.params.length ≤ 10 := by
    unfold lightP at hli
    simp only [Bool.and_eq_true, decide_eq_true_eq, List.all_eq_true] at hli
    exact ⟨hli.1, fun d hd => by have := hli.2 d hd; unfold smallP at this; simpa using this⟩
  have HLE := hid hle
  have HBS := hid hbs
  have HTB : Hid (t.size ≤ bigD) := hid (by unfold bigD; omega)
  have htb : t.size ≤ bigD := by unfold bigD; omega
  have CL := hid fun (W : World) (X : Ext none' w W) => light_any ds hsz (.slice a ds.length cap) W (HD.out.ext isDf_good X fun _ _ h => h.elim)
  have CS := hid fun (W : World) (X : Ext none' w W) => rsize_any t htb none' (.agg #[.int .i64 t.kind, .string ⟨t.name.toArray⟩, .slice a1 t.args.length c1]) W ⟨_, rfl, HX.out.ext isTy_good X fun _ _ h => h.elim⟩
  have CD := hid fun (A : Nat → Prop) (W : World) (X : Ext none' w W) (hA : ∀ b, A b → b < W.heap.size) => defs_any ds (by have := HLE.out.1; omega) (fun d hd => by have := HLE.out.2 d hd; unfold bigD; omega) A (.slice a ds.length cap) W (HD.out.ext isDf_good X fun _ _ h => h.elim) hA
  have CB := hid fun (A : Nat → Prop) (W : World) (X : Ext none' w W) (hA : ∀ b, A b → b < W.heap.size) => bounds_any bs (by omega) hbs A (.slice a3 bs.length cap3) W (HB.out.ext isBd_good X fun _ _ h => h.elim) hA
  have CT := hid fun (A : Nat → Prop) (W : World) (X : Ext none' w W) (hA : ∀ b, A b → b < W.heap.size) => typ_any t htb A (.agg #[.int .i64 t.kind, .string ⟨t.name.toArray⟩, .slice a1 t.args.length c1]) W ⟨_, rfl, HX.out.ext isTy_good X fun _ _ h => h.elim⟩ hA
  have CO := hid fun (W : World) (X : Ext none' w W) => lof_any s (by omega) none' (.agg #[.bool s.all, .bool s.cmp, .slice a0 s.terms.length c0]) W ⟨_, rfl, HS.out.ext isTm_good X fun _ _ h => h.elim⟩ (fun _ h => h.elim)
  rw [hli] at CL
  have g0 := heap_alloc_at (w := w) rfl (.cells #[.bool s.all, .bool s.cmp, .slice a0 s.terms.length c0, .int .i64 t.kind, .string ⟨t.name.toArray⟩, .slice a1 t.args.length c1, .slice a2 n2 c2] 32)
  have G0 := hid fun (W : World) (X : Ext none' (w.alloc (.cells #[.bool s.all, .bool s.cmp, .slice a0 s.terms.length c0, .int .i64 t.kind, .string ⟨t.name.toArray⟩, .slice a1 t.args.length c1, .slice a2 n2 c2] 32)) W) => X.heap g0 (fun h => h)
  obtain ⟨p, hp⟩ : ∃ p, t.size = p := ⟨_, rfl⟩
  rw [hp] at CS ht
  have HSL := hid hsl
  have HBL := hid hbl
  have q1 : decide (20 < (bs.length : Int)) = false := decide_eq_false (by omega)
  have q2 : decide (20 < (s.terms.length : Int)) = false := decide_eq_false (by omega)
  have q3 : decide (60 < (p : Int)) = false := decide_eq_false (by omega)
  clear hp hle htb hli g0 hsz hbs hbl hsl hs hv
  go_enter Try.func3, Try.ntmps3
  go_wp2_with fail
  refine (CL.out _ ((Ext.refl _ _).alloc _)).mono ?_
  rintro e W1 ⟨rfl, X1⟩
  have g := G0.out _ X1
  have c2 := cell_at g 2
  have c3 := cell_at g 3
  have c4 := cell_at g 4
  have c5 := cell_at g 5
  simp only [List.getElem?_toArray, List.getElem?_cons_zero, List.getElem?_cons_succ] at c2 c3 c4 c5
  have G1 := hid g
  have X1 := hid (((Ext.refl none' w).alloc _).trans X1)
  clear g
  go_wp2_with fail
  refine (CS.out _ X1.out).mono ?_
  rintro e W2 ⟨rfl, X2⟩
  have GB := hid fun (W : World) (X : Ext none' W2 W) => (X2.trans X).heap G1.out (fun h => h)
  have X2 := hid (X1.out.trans X2)
  clear c2 c3 c4 c5
  go_upto_region 3 with (fail)
  go_cut [7, 8, 9] from 33 to 39 (fun v b y wx => Hid (MoMid ds bs t W2 v b y wx))
  case first =>
    have c3 := fun t' : LaterF none' W2 => cell_at (GB.out _ t'.x) 3
    have c4 := fun t' : LaterF none' W2 => cell_at (GB.out _ t'.x) 4
    have c5 := fun t' : LaterF none' W2 => cell_at (GB.out _ t'.x) 5
    simp only [List.getElem?_toArray, List.getElem?_cons_zero, List.getElem?_cons_succ] at c3 c4 c5
    refine region_tree none' W2 [0, 2, 4, 5] (.two 1 true (.two 3 true (.two 6 true (.one 7 true (.one 8 false (.one 9 false (.one 10 false .fin)))) 7 true (.one 6 true (.one 8 false (.one 9 false (.one 10 false .fin))))) 7 true (.one 3 true (.one 6 true (.one 8 false (.one 9 false (.one 10 false .fin)))))) 7 true (.one 1 true (.one 3 true (.one 6 true (.one 8 false (.one 9 false (.one 10 false .fin))))))) (by kernel_rfl) (by kernel_rfl) (fun dst v c a w h => by cases dst <;> exact h) (Ext.refl _ _) ?_
    simp only [sel, List.getElem?_cons_succ, List.getElem?_cons_zero]
    repeat (go_big_quiet_step (fail))
    refine wpQuiet_nil ?_
    simp only [wpTree, stepT, sel, List.getElem?_cons_succ, List.getElem?_cons_zero]
    clear c3 c4 c5
    have D2 := hid (Ext.refl none' W2).drew
    refine ⟨?_, ?_⟩
    · skip
      go_wp2_with fail
      refine (CD.out none' _ (X2.out.trans D2.out) (fun _ h => h.elim)).mono ?_
      rintro e V1 ⟨u, rfl, hxx, E1⟩
      have X101 := hid (D2.out.trans E1)
      have HD1 := hid hxx
      obtain ⟨a101, cap101, rfl, _⟩ := hxx
      go_wp2_with fail
      refine ⟨In.of X101.out, ?_, ?_⟩
      · skip
        go_wp2_with fail
        refine (CB.out none' _ (X2.out.trans X101.out) (fun _ h => h.elim)).mono ?_
        rintro e V2 ⟨u, rfl, hxx, E2⟩
        have HD2 := hid (HD1.out.ext isDf_good E2 (fun _ _ h => h.elim))
        have X102 := hid (X101.out.trans E2)
        have HB2 := hid hxx
        obtain ⟨a102, cap102, rfl, _⟩ := hxx
        go_wp2_with fail
        refine ⟨In.of X102.out, ?_, ?_⟩
        · skip
          go_wp2_with fail
          refine (CT.out none' _ (X2.out.trans X102.out) (fun _ h => h.elim)).mono ?_
          rintro e V3 ⟨u, rfl, ⟨xx, rfl, hxx⟩, E3⟩
          have HD3 := hid (HD2.out.ext isDf_good E3 (fun _ _ h => h.elim))
          have HB3 := hid (HB2.out.ext isBd_good E3 (fun _ _ h => h.elim))
          have X103 := hid (X102.out.trans E3)
          have HT3 := hid hxx
          obtain ⟨a103, cap103, rfl, _⟩ := hxx
          go_wp2_with fail
          refine ⟨In.of X103.out, ?_⟩
          go_wp2_with fail
          refine ⟨In.of (X103.out.alloc _), ?_⟩
          go_wp2_with fail
          go_meet
          case rel => exact hid ⟨HD3.out.ext isDf_good ((Ext.refl none' V3).alloc _) fun _ _ h => h.elim, HB3.out.ext isBd_good ((Ext.refl none' V3).alloc _) fun _ _ h => h.elim, ⟨V3.heap.size, _, rfl, heap_alloc_at rfl _, HT3.out.ext isTy_good ((Ext.refl none' V3).alloc _) fun _ _ h => h.elim⟩, X103.out.alloc _⟩
        · skip
          go_wp2_with fail
          have G4 := hid (heap_alloc_at (w := V2) (k := V2.heap.size) rfl (.cells #[.int .i64 0, .string ⟨#[]⟩, .slice none 0 0] 41 (0, 0)))
          have HD4 := hid ((HD2.out.mono (B := and1 none' V2.heap.size) isDf_good (and1.down (Nat.le_refl _))).ext isDf_good ((Ext.refl none' V2).alloc (.cells #[.int .i64 0, .string ⟨#[]⟩, .slice none 0 0] 41 (0, 0))) fun _ _ h => h.elim)
          have HB4 := hid ((HB2.out.mono (B := and1 none' V2.heap.size) isBd_good (and1.down (Nat.le_refl _))).ext isBd_good ((Ext.refl none' V2).alloc (.cells #[.int .i64 0, .string ⟨#[]⟩, .slice none 0 0] 41 (0, 0))) fun _ _ h => h.elim)
          have HY4 := hid X102.out.size
          have X104 := hid (X102.out.alloc (.cells #[.int .i64 0, .string ⟨#[]⟩, .slice none 0 0] 41 (0, 0)))
          refine ⟨In.of X104.out, ?_⟩
          go_wp2_with fail
          refine (CT.out (and1 none' V2.heap.size) _ (X2.out.trans X104.out) (fun b hb => hb.elim (fun h => h.elim) fun h => by rw [h]; exact heap_lt G4.out)).mono ?_
          rintro e V5 ⟨u, rfl, ⟨xx, rfl, hxx⟩, E5⟩
          have G5 := hid (E5.heap G4.out (fun h => h))
          have HD5 := hid (HD4.out.ext isDf_good E5 (fun _ _ h => h.elim))
          have HB5 := hid (HB4.out.ext isBd_good E5 (fun _ _ h => h.elim))
          have X105 := hid (X104.out.trans E5)
          have HT5 := hid hxx
          obtain ⟨a105, cap105, rfl, _⟩ := hxx
          go_wp2_with fail
          refine ⟨In.of X105.out, ?_⟩
          have f0 := free_at G5.out 0
          have f1 := free_at G5.out 1
          have f2 := free_at G5.out 2
          have e0 := cell_at G5.out 0
          have e1 := cell_at G5.out 1
          have e2 := cell_at G5.out 2
          simp only [List.getElem?_toArray, List.getElem?_cons_zero, List.getElem?_cons_succ] at e0 e1 e2
          go_wp2_with fail
          go_meet
          case rel => exact hid (MoMid.mk' HD5.out HB5.out HT5.out X105.out HY4.out G5.out)
      · skip
        go_wp2_with fail
        have G6 := hid (heap_alloc_at (w := V1) (k := V1.heap.size) rfl (.cells #[.int .i64 0, .string ⟨#[]⟩, .slice none 0 0] 41 (0, 0)))
        have HD6 := hid ((HD1.out.mono (B := and1 none' V1.heap.size) isDf_good (and1.down (Nat.le_refl _))).ext isDf_good ((Ext.refl none' V1).alloc (.cells #[.int .i64 0, .string ⟨#[]⟩, .slice none 0 0] 41 (0, 0))) fun _ _ h => h.elim)
        have HY6 := hid X101.out.size
        have X106 := hid (X101.out.alloc (.cells #[.int .i64 0, .string ⟨#[]⟩, .slice none 0 0] 41 (0, 0)))
        refine ⟨In.of X106.out, ?_⟩
        go_wp2_with fail
        refine (CB.out (and1 none' V1.heap.size) _ (X2.out.trans X106.out) (fun b hb => hb.elim (fun h => h.elim) fun h => by rw [h]; exact heap_lt G6.out)).mono ?_
        rintro e V7 ⟨u, rfl, hxx, E7⟩
        have G7 := hid (E7.heap G6.out (fun h => h))
        have HD7 := hid (HD6.out.ext isDf_good E7 (fun _ _ h => h.elim))
        have X107 := hid (X106.out.trans E7)
        have HB7 := hid hxx
        obtain ⟨a107, cap107, rfl, _⟩ := hxx
        go_wp2_with fail
        refine ⟨In.of X107.out, ?_⟩
        go_wp2_with fail
        refine (CT.out (and1 none' V1.heap.size) _ (X2.out.trans X107.out) (fun b hb => hb.elim (fun h => h.elim) fun h => by rw [h]; exact heap_lt G7.out)).mono ?_
        rintro e V8 ⟨u, rfl, ⟨xx, rfl, hxx⟩, E8⟩
        have G8 := hid (E8.heap G7.out (fun h => h))
        have HD8 := hid (HD7.out.ext isDf_good E8 (fun _ _ h => h.elim))
        have HB8 := hid (HB7.out.ext isBd_good E8 (fun _ _ h => h.elim))
        have X108 := hid (X107.out.trans E8)
        have HT8 := hid hxx
        obtain ⟨a108, cap108, rfl, _⟩ := hxx
        go_wp2_with fail
        refine ⟨In.of X108.out, ?_⟩
        have f0 := free_at G8.out 0
        have f1 := free_at G8.out 1
        have f2 := free_at G8.out 2
        have e0 := cell_at G8.out 0
        have e1 := cell_at G8.out 1
        have e2 := cell_at G8.out 2
        simp only [List.getElem?_toArray, List.getElem?_cons_zero, List.getElem?_cons_succ] at e0 e1 e2
        go_wp2_with fail
        go_meet
        case rel => exact hid (MoMid.mk' HD8.out HB8.out HT8.out X108.out HY6.out G8.out)
    · skip
      go_wp2_with fail
      have G9 := hid (heap_alloc_at (w := W2.drew) (k := W2.heap.size) rfl (.cells #[.int .i64 0, .string ⟨#[]⟩, .slice none 0 0] 41 (0, 0)))
      have HY9 := hid D2.out.size
      have X109 := hid (D2.out.alloc (.cells #[.int .i64 0, .string ⟨#[]⟩, .slice none 0 0] 41 (0, 0)))
      refine ⟨In.of X109.out, ?_⟩
      go_wp2_with fail
      refine (CD.out (and1 none' W2.heap.size) _ (X2.out.trans X109.out) (fun b hb => hb.elim (fun h => h.elim) fun h => by rw [h]; exact heap_lt G9.out)).mono ?_
      rintro e V10 ⟨u, rfl, hxx, E10⟩
      have G10 := hid (E10.heap G9.out (fun h => h))
      have X110 := hid (X109.out.trans E10)
      have HD10 := hid hxx
      obtain ⟨a110, cap110, rfl, _⟩ := hxx
      go_wp2_with fail
      refine ⟨In.of X110.out, ?_⟩
      go_wp2_with fail
      refine (CB.out (and1 none' W2.heap.size) _ (X2.out.trans X110.out) (fun b hb => hb.elim (fun h => h.elim) fun h => by rw [h]; exact heap_lt G10.out)).mono ?_
      rintro e V11 ⟨u, rfl, hxx, E11⟩
      have G11 := hid (E11.heap G10.out (fun h => h))
      have HD11 := hid (HD10.out.ext isDf_good E11 (fun _ _ h => h.elim))
      have X111 := hid (X110.out.trans E11)
      have HB11 := hid hxx
      obtain ⟨a111, cap111, rfl, _⟩ := hxx
      go_wp2_with fail
      refine ⟨In.of X111.out, ?_⟩
      go_wp2_with fail
      refine (CT.out (and1 none' W2.heap.size) _ (X2.out.trans X111.out) (fun b hb => hb.elim (fun h => h.elim) fun h => by rw [h]; exact heap_lt G11.out)).mono ?_
      rintro e V12 ⟨u, rfl, ⟨xx, rfl, hxx⟩, E12⟩
      have G12 := hid (E12.heap G11.out (fun h => h))
      have HD12 := hid (HD11.out.ext isDf_good E12 (fun _ _ h => h.elim))
      have HB12 := hid (HB11.out.ext isBd_good E12 (fun _ _ h => h.elim))
      have X112 := hid (X111.out.trans E12)
      have HT12 := hid hxx
      obtain ⟨a112, cap112, rfl, _⟩ := hxx
      go_wp2_with fail
      refine ⟨In.of X112.out, ?_⟩
      have f0 := free_at G12.out 0
      have f1 := free_at G12.out 1
      have f2 := free_at G12.out 2
      have e0 := cell_at G12.out 0
      have e1 := cell_at G12.out 1
      have e2 := cell_at G12.out 2
      simp only [List.getElem?_toArray, List.getElem?_cons_zero, List.getElem?_cons_succ] at e0 e1 e2
      go_wp2_with fail
      go_meet
      case rel => exact hid (MoMid.mk' HD12.out HB12.out HT12.out X112.out HY9.out G12.out)
  obtain ⟨a8, cap8, rfl, _⟩ := hcut.out.d
  obtain ⟨a7, cap7, rfl, _⟩ := hcut.out.b
  obtain ⟨Y, xx, rfl, gY, hxx⟩ := hcut.out.y
  have HDc := hid hcut.out.d
  have HBc := hid hcut.out.b
  have HTc := hid hxx
  obtain ⟨a9, cap9, rfl, _⟩ := hxx
  have XC := hid (X2.out.trans hcut.out.x)
  have AW := hid fun W => awake_any W
  have GYc := hid fun (W : World) (X : Ext none' wc W) => X.heap gY (fun h => h)
  have LETS : Hid (∀ (c : Cn) (x : Value) (W : World), c.terms.length ≤ 1000000000 → Ext none' wc W → IsSl 2 IsTm none' W x c.terms → Calls Try.prog 13 #[.slice a8 ds.length cap8, .slice a7 bs.length cap7, .agg #[.bool c.all, .bool c.cmp, x], .agg #[.int .i64 t.kind, .string ⟨t.name.toArray⟩, .slice a9 t.args.length cap9]] W (BoolP (letsP ds bs c t) W)) := hid fun c x W hc X g =>
    Lets_any ds ⟨(fun d hd => by have := HLE.out.2 d hd; omega), by have := HLE.out.1; omega, (fun d hd => by have := HLE.out.2 d hd; omega)⟩ bs (by have := HBL.out; omega) (fun b hb => by have := HBS.out b hb; omega) c hc t HTB.out none' _ _ _ _ W (HDc.out.ext isDf_good X fun _ _ h => h.elim) (HBc.out.ext isBd_good X fun _ _ h => h.elim) ⟨_, rfl, g⟩ ⟨_, rfl, HTc.out.ext isTy_good X fun _ _ h => h.elim⟩ (fun b hb => hb.elim)
  have P1 := hid (lets_all (ds := ds) (sc := bs) (s := s) (t := t))
  have P2 := hid (lets_cmp (ds := ds) (sc := bs) (s := s) (t := t))
  have P3 := hid (lets_more (ds := ds) (sc := bs) (s := s) (t := t))
  have d0 := cell_at (GB.out wc hcut.out.x) 0
  have d1 := cell_at (GB.out wc hcut.out.x) 1
  have d2 := cell_at (GB.out wc hcut.out.x) 2
  simp only [List.getElem?_toArray, List.getElem?_cons_zero, List.getElem?_cons_succ] at d0 d1 d2
  clear gY
  go_upto_region 4 with (fail)
  go_cut [10] from 40 to 42 (fun y wx => Hid (CnMid s wc y wx))
  case first =>
    go_wp2_with fail
    refine (CO.out _ XC.out).mono ?_
    rintro e W4 ⟨u, rfl, ⟨x6, rfl, h6⟩, X4⟩
    have H6 := hid h6
    have X4 := hid X4
    obtain ⟨a6, cap6, rfl, _⟩ := h6
    go_wp2_with fail
    go_meet
    case rel => exact hid (CnMid.mk' H6.out X4.out)
  obtain ⟨S, sx, rfl, gS, hsx⟩ := hcut.out.y
  have XS := hid hcut.out.x
  have HSX := hid hsx
  obtain ⟨a6, cap6, rfl, _⟩ := hsx
  have GS := hid fun (W : World) (X : Ext none' wc W) => X.heap gS (fun h => h)
  have GY2 := hid fun (W : World) (X : Ext none' wc W) => GYc.out W (XS.out.trans X)
  have LE := hid (fun c x W hc X g => LETS.out c x W hc (XS.out.trans X) g)
  have XW := hid (XC.out.trans XS.out)
  obtain ⟨la, hla⟩ : ∃ la, letsP ds bs s t = la := ⟨_, rfl⟩
  have LS := LE.out s (.slice a6 s.terms.length cap6) wc (by have := HSL.out; omega) (Ext.refl _ _) HSX.out
  rw [hla] at LS
  have LS := hid LS
  have HLA := hid hla
  have b0 := cell_at (GY2.out wc (Ext.refl _ _)) 0
  have b1 := cell_at (GY2.out wc (Ext.refl _ _)) 1
  have b2 := cell_at (GY2.out wc (Ext.refl _ _)) 2
  have s0 := cell_at gS 0
  have s1 := cell_at gS 1
  have s2 := cell_at gS 2
  simp only [List.getElem?_toArray, List.getElem?_cons_zero, List.getElem?_cons_succ] at b0 b1 b2 s0 s1 s2
  clear gS hla d0 d1 d2
  go_wp2_with fail
  refine (LS.out).mono ?_
  rintro e W5 ⟨rfl, X5⟩
  have X5 := hid X5
  clear b0 b1 b2 s0 s1 s2
  cases la with
  | false =>
    go_wp2_with fail
    refine (AW.out _).mono ?_
    rintro e W6 ⟨rfl, X6⟩
    have X6 := hid (XW.out.trans (X5.out.trans X6))
    go_wp2_with fail
    go_ret
    exact ⟨rfl, X6.out⟩
  | true =>
    have LA : Hid (∀ W : World, Ext none' wc W → Calls Try.prog 13 #[.slice a8 ds.length cap8, .slice a7 bs.length cap7, .agg #[.bool true, .bool false, .slice none 0 0], .agg #[.int .i64 t.kind, .string ⟨t.name.toArray⟩, .slice a9 t.args.length cap9]] W (BoolP true W)) := hid fun W X => by
      have := LE.out cnAll (.slice none 0 0) W (by simp [cnAll]) X (IsSl.nil _ _ _ _)
      rw [P1.out HLA.out] at this
      exact this
    have s2 := cell_at (GS.out W5 X5.out) 2
    simp only [List.getElem?_toArray, List.getElem?_cons_zero, List.getElem?_cons_succ] at s2
    by_cases hm : s.terms.length = 0
    · have b0 := cell_at (GY2.out W5 X5.out) 0
      have b1 := cell_at (GY2.out W5 X5.out) 1
      have b2 := cell_at (GY2.out W5 X5.out) 2
      simp only [List.getElem?_toArray, List.getElem?_cons_zero, List.getElem?_cons_succ] at b0 b1 b2
      rw [hm] at s2
      have HM := hid hm
      clear hm
      go_wp2_with fail
      refine (LA.out _ X5.out).mono ?_
      rintro e W6 ⟨rfl, X6⟩
      have X6 := hid (X5.out.trans X6)
      have s2 := cell_at (GS.out W6 X6.out) 2
      simp only [List.getElem?_toArray, List.getElem?_cons_zero, List.getElem?_cons_succ] at s2
      rw [HM.out] at s2
      go_wp2_with fail
      refine (AW.out _).mono ?_
      rintro e W7 ⟨rfl, X7⟩
      have X7 := hid (XW.out.trans (X6.out.trans X7))
      go_wp2_with fail
      go_ret
      exact ⟨rfl, X7.out⟩
    · have LC : Hid (∀ W : World, Ext none' wc W → Calls Try.prog 13 #[.slice a8 ds.length cap8, .slice a7 bs.length cap7, .agg #[.bool false, .bool true, .slice none 0 0], .agg #[.int .i64 t.kind, .string ⟨t.name.toArray⟩, .slice a9 t.args.length cap9]] W (BoolP true W)) := hid fun W X => by
        have := LE.out cnCmp (.slice none 0 0) W (by simp [cnCmp]) X (IsSl.nil _ _ _ _)
        rw [P2.out HLA.out hm] at this
        exact this
      have LM : Hid (∀ (x : Value) (W : World), Ext none' wc W → IsSl 2 IsTm none' W x (s.terms ++ [⟨false, nBool⟩, ⟨true, nInt⟩]) → Calls Try.prog 13 #[.slice a8 ds.length cap8, .slice a7 bs.length cap7, .agg #[.bool false, .bool false, x], .agg #[.int .i64 t.kind, .string ⟨t.name.toArray⟩, .slice a9 t.args.length cap9]] W (BoolP true W)) := hid fun x W X g => by
        have := LE.out (moreC s) x W (by unfold moreC; simp; have := HSL.out; omega) X g
        rw [P3.out HLA.out hm] at this
        exact this
      have z1 : 0 < s.terms.length := by omega
      have z2 : (0 : Int) < (s.terms.length : Int) := by omega
      have z3 : decide (0 < (s.terms.length : Int)) = true := decide_eq_true z2
      have r2 := cell_at (heap_alloc_keep (GS.out W5 X5.out) (.cells #[] 50)) 2
      simp only [List.getElem?_toArray, List.getElem?_cons_zero, List.getElem?_cons_succ] at r2
      obtain ⟨i0, hi0, hz0, hz1, hz2⟩ := info_parts infoTm
      have I0 := hid hi0
      have I1 := hid hz0
      have I2 := hid hz1
      have I3 := hid hz2
      have HMM := hid hm
      clear hi0 hz0 hz1 hz2 hm
      have OB : Hid ((W5.alloc (.cells #[] 50 (0, 0))).ownsRow W5.heap.size 50 2 (.slice (some ⟨W5.heap.size, 0, none⟩) 0 0) 0 []) := hid ⟨rfl, .inr ⟨W5.heap.size, 0, #[], rfl, Nat.le_refl _, heap_alloc_at rfl (.cells #[] 50 (0, 0)), Nat.le_refl _, by unfold maxLen; omega, rfl, rfl⟩⟩
      have XB := hid (X5.out.alloc (.cells #[] 50 (0, 0)))
      have SB := hid (tm_src (P := Try.prog) Try.underlying43 (HSX.out.ext isTm_good XB.out (fun _ _ h => h.elim)))
      have HSZ := hid (Nat.le_of_lt (heap_lt (heap_alloc_at (w := W5) (k := W5.heap.size) rfl (.cells #[] 50 (0, 0)))))
      have HSL2 := HSL.out
      go_wp2_with (at_builtin; refine wpList_app _ rfl (.tmp 54) (.tmp 56) 43 43 rfl W5.heap.size 50 i0 _ 2 24 Try.underlying43 I0.out I1.out I2.out I3.out rfl _ 0 [] rfl OB.out _ s.terms.length _ rfl SB.out ?_ ?_ ?_ ?_)
      · unfold maxLen; omega
      · omega
      · exact HSZ.out
      intro v6 W6 own6 grow6 blk6 _
      have X6 := hid (XB.out.grown grow6 (fun g hg => .inr (by have := (OB.out.lt g hg).1; have := X5.out.size; omega)))
      have OC : Hid ((W6.alloc (.cells #[.bool false, .string ⟨#[98, 111, 111, 108]⟩, .bool true, .string ⟨#[105, 110, 116]⟩] 50 (0, 0))).ownsRow W5.heap.size 50 2 v6 s.terms.length (tmVals s.terms)) := hid (ownsRow_ext own6 ((Ext.refl none' W6).alloc _) (fun _ _ h => h))
      have S2 : Hid (Src Try.prog 2 43 (.slice (some ⟨W6.heap.size, 0, none⟩) 2 2) 2 [.bool false, .string ⟨#[98, 111, 111, 108]⟩, .bool true, .string ⟨#[105, 110, 116]⟩] (W6.alloc (.cells #[.bool false, .string ⟨#[98, 111, 111, 108]⟩, .bool true, .string ⟨#[105, 110, 116]⟩] 50 (0, 0)))) := hid (duo_src (P := Try.prog) Try.underlying43 W6 _ _ _ _ 50 (by intro u hu; simp at hu; rcases hu with rfl | rfl | rfl | rfl <;> rfl))
      have HSZ6 := hid (show W5.heap.size ≤ (W6.alloc (.cells #[.bool false, .string ⟨#[98, 111, 111, 108]⟩, .bool true, .string ⟨#[105, 110, 116]⟩] 50 (0, 0))).heap.size by have := heap_lt (heap_alloc_at (w := W6) (k := W6.heap.size) rfl (.cells #[.bool false, .string ⟨#[98, 111, 111, 108]⟩, .bool true, .string ⟨#[105, 110, 116]⟩] 50 (0, 0))); have h2 := grow6.size; rw [World.size_alloc] at h2; omega)
      have XB6 := hid (X6.out.alloc (.cells #[.bool false, .string ⟨#[98, 111, 111, 108]⟩, .bool true, .string ⟨#[105, 110, 116]⟩] 50 (0, 0)))
      clear own6 grow6 blk6 r2 s2
      go_wp2_with (at_builtin; refine wpList_app _ rfl (.tmp 57) (.tmp 60) 43 43 rfl W5.heap.size 50 i0 _ 2 24 Try.underlying43 I0.out I1.out I2.out I3.out rfl _ _ _ rfl OC.out _ 2 _ rfl S2.out ?_ ?_ ?_ ?_)
      · unfold maxLen; omega
      · omega
      · exact HSZ6.out
      intro v7 W7 own7 grow7 blk7 _
      have X7 := hid (XB6.out.grown grow7 (fun g hg => .inr (by have := (OC.out.lt g hg).1; have := X5.out.size; omega)))
      have HI : Hid (IsSl 2 IsTm none' W7 v7 (s.terms ++ [⟨false, nBool⟩, ⟨true, nInt⟩])) := hid ((tm_row (A := none') (l := s.terms ++ [⟨false, nBool⟩, ⟨true, nInt⟩]) (by simpa [tmVals, nBool, nInt] using own7)).sl isTm_good (fun _ _ h => h))
      obtain ⟨a11, cap11, rfl⟩ := own_slice own7
      have b0 := cell_at (heap_alloc_keep (GY2.out W7 X7.out) (.cells #[.bool false, .bool false, .slice a11 (s.terms.length + 2) cap11] 45)) 0
      have b1 := cell_at (heap_alloc_keep (GY2.out W7 X7.out) (.cells #[.bool false, .bool false, .slice a11 (s.terms.length + 2) cap11] 45)) 1
      have b2 := cell_at (heap_alloc_keep (GY2.out W7 X7.out) (.cells #[.bool false, .bool false, .slice a11 (s.terms.length + 2) cap11] 45)) 2
      simp only [List.getElem?_toArray, List.getElem?_cons_zero, List.getElem?_cons_succ] at b0 b1 b2
      clear own7 grow7 blk7
      go_wp2_with fail
      refine (LM.out _ _ (X7.out.alloc _) (HI.out.ext isTm_good ((Ext.refl none' W7).alloc _) fun _ _ h => h.elim)).mono ?_
      rintro e W8 ⟨rfl, X8⟩
      have X8 := hid ((X7.out.alloc _).trans X8)
      have b0 := cell_at (GY2.out W8 X8.out) 0
      have b1 := cell_at (GY2.out W8 X8.out) 1
      have b2 := cell_at (GY2.out W8 X8.out) 2
      simp only [List.getElem?_toArray, List.getElem?_cons_zero, List.getElem?_cons_succ] at b0 b1 b2
      go_wp2_with fail
      refine (LA.out _ X8.out).mono ?_
      rintro e W9 ⟨rfl, X9⟩
      have X9 := hid (X8.out.trans X9)
      have b0 := cell_at (GY2.out W9 X9.out) 0
      have b1 := cell_at (GY2.out W9 X9.out) 1
      have b2 := cell_at (GY2.out W9 X9.out) 2
      have s2 := cell_at (GS.out W9 X9.out) 2
      simp only [List.getElem?_toArray, List.getElem?_cons_zero, List.getElem?_cons_succ] at b0 b1 b2 s2
      have z4 : ((s.terms.length : Int) == 0) = false := by simp only [beq_eq_false_iff_ne]; omega
      go_wp2_with fail
      refine (LC.out _ X9.out).mono ?_
      rintro e W10 ⟨rfl, X10⟩
      have X10 := hid (X9.out.trans X10)
      go_wp2_with fail
      refine (AW.out _).mono ?_
      rintro e W11 ⟨rfl, X11⟩
      have X11 := hid (XW.out.trans (X10.out.trans X11))
      go_wp2_with fail
      go_ret
      exact ⟨rfl, X11.out⟩
end Go.Proofs.Ythoeengfgkfchaa
