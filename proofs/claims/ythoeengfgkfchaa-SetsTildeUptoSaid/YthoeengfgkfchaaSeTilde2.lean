import Derived.Test.YthoeengfgkfchaaSeTilde
import Derived.Deep.Cut
import Derived.Deep.CutRange
namespace Go.Proofs.Ythoeengfgkfchaa
open Go.RowKit Go.Lib Go.BigFrame
/-- Behind the third region: the definitions and the type as the program's. -/
structure TiMid (ds : List Df) (t : Ty) (W2 : World) (v y : Value) (wx : World) : Prop where
  d : IsSl 6 IsDf none' wx v ds
  y : ∃ Y x, y = .pointer (some ⟨Y, 0, none⟩) ∧ wx.heap[Y]? = some (.cells #[.int .i64 t.kind, .string ⟨t.name.toArray⟩, x] 41 (0, 0)) ∧ IsSl 3 IsTy none' wx x t.args
  x : Ext none' W2 wx
theorem TiMid.mk' {ds : List Df} {t : Ty} {W2 w : World} {v x : Value} {Y : Nat} {y0 y1 y2 : Value} (hd : IsSl 6 IsDf (and1 none' Y) w v ds) (hx : IsSl 3 IsTy (and1 none' Y) w x t.args) (X : Ext none' W2 w) (hY : W2.heap.size ≤ Y) (g : w.heap[Y]? = some (.cells #[y0, y1, y2] 41 (0, 0))) :
    TiMid ds t W2 v (.pointer (some ⟨Y, 0, none⟩)) (((w.setCell ⟨Y, 0, none⟩ (.int .i64 t.kind)).setCell ⟨Y, 1, none⟩ (.string ⟨t.name.toArray⟩)).setCell ⟨Y, 2, none⟩ x) :=
  ⟨(hd.ext isDf_good (Ext.self3 _ _ _ _ _) fun _ _ q => .inr q).mono isDf_good fun _ _ q => .inl q, ⟨Y, x, rfl, set3 g _ _ _, (hx.ext isTy_good (Ext.self3 _ _ _ _ _) fun _ _ q => .inr q).mono isTy_good fun _ _ q => .inl q⟩, X.set3 (.inr hY) _ _ _⟩
set_option maxRecDepth 100000 in
set_option maxHeartbeats 3200000 in
theorem law_tilde (ds : List Df) (t : Ty) (name : List UInt8) (hsz : ∀ d ∈ ds, d.ty.size ≤ bigD) (dv tv : Value) (w : World) (hd : IsSl 6 IsDf none' w dv ds) (hv : TyV none' w t tv)
    (hli : lightP ds = true) (ht : t.size ≤ 60) (hn : name.length ≤ 20) : Calls Try.prog 4 #[dv, tv, .string ⟨name.toArray⟩] w (TruePost w) := by
  have HD := hid hd
  obtain ⟨a, cap, rfl, _⟩ := hd
  obtain ⟨x, rfl, hx⟩ := hv
  have HX := hid hx
  obtain ⟨a1, cap1, rfl, _⟩ := hx
  have hle : ds.length ≤ 20 ∧ ∀ d ∈ ds, d.ty.size ≤ 20 ∧ d.params.length ≤ 10 := by
    unfold lightP at hli
    simp only [Bool.and_eq_true, decide_eq_true_eq, List.all_eq_true] at hli
    exact ⟨hli.1, fun d hd => by have := hli.2 d hd; unfold smallP at this; simpa using this⟩
  have HLE := hid hle
  have HTB : Hid (t.size ≤ bigD) := hid (by unfold bigD; omega)
  have htb : t.size ≤ bigD := by unfold bigD; omega
  have CL := hid fun (W : World) (X : Ext none' w W) => light_any ds hsz (.slice a ds.length cap) W (HD.out.ext isDf_good X fun _ _ h => h.elim)
  have CS := hid fun (W : World) (X : Ext none' w W) => rsize_any t htb none' (.agg #[.int .i64 t.kind, .string ⟨t.name.toArray⟩, .slice a1 t.args.length cap1]) W ⟨_, rfl, HX.out.ext isTy_good X fun _ _ h => h.elim⟩
  have CD := hid fun (A : Nat → Prop) (W : World) (X : Ext none' w W) (hA : ∀ b, A b → b < W.heap.size) => defs_any ds (by have := HLE.out.1; omega) (fun d hd => by have := HLE.out.2 d hd; unfold bigD; omega) A (.slice a ds.length cap) W (HD.out.ext isDf_good X fun _ _ h => h.elim) hA
  have CT := hid fun (A : Nat → Prop) (W : World) (X : Ext none' w W) (hA : ∀ b, A b → b < W.heap.size) => typ_any t htb A (.agg #[.int .i64 t.kind, .string ⟨t.name.toArray⟩, .slice a1 t.args.length cap1]) W ⟨_, rfl, HX.out.ext isTy_good X fun _ _ h => h.elim⟩ hA
  rw [hli] at CL
  have g0 := heap_alloc_at (w := w) rfl (.cells #[.int .i64 t.kind, .string ⟨t.name.toArray⟩, .slice a1 t.args.length cap1] 29)
  have G0 := hid fun (W : World) (X : Ext none' (w.alloc (.cells #[.int .i64 t.kind, .string ⟨t.name.toArray⟩, .slice a1 t.args.length cap1] 29)) W) => X.heap g0 (fun h => h)
  obtain ⟨p, hp⟩ : ∃ p, t.size = p := ⟨_, rfl⟩
  rw [hp] at CS ht
  have hsz : (⟨name.toArray⟩ : ByteArray).size = name.length := bsize name
  have q1 : decide (60 < (p : Int)) = false := decide_eq_false (by omega)
  have q2 : decide (20 < (name.length : Int)) = false := decide_eq_false (by omega)
  clear hp hle htb hli g0
  go_enter Try.func4, Try.ntmps4
  go_wp2_with fail
  refine (CL.out _ ((Ext.refl _ _).alloc _)).mono ?_
  rintro e W1 ⟨rfl, X1⟩
  have g := G0.out _ X1
  have c0 := cell_at g 0
  have c1 := cell_at g 1
  have c2 := cell_at g 2
  simp only [List.getElem?_toArray, List.getElem?_cons_zero, List.getElem?_cons_succ] at c0 c1 c2
  have G1 := hid g
  have X1 := hid (((Ext.refl none' w).alloc _).trans X1)
  clear g
  go_wp2_with fail
  refine (CS.out _ X1.out).mono ?_
  rintro e W2 ⟨rfl, X2⟩
  have GB := hid fun (W : World) (X : Ext none' W2 W) => (X2.trans X).heap G1.out (fun h => h)
  have X2 := hid (X1.out.trans X2)
  clear c0 c1 c2
  go_upto_region 3 with (fail)
  go_cut [7, 8] from 7 to 27 (fun v y wx => Hid (TiMid ds t W2 v y wx))
  case first =>
    have c0 := fun t' : LaterF none' W2 => cell_at (GB.out _ t'.x) 0
    have c1 := fun t' : LaterF none' W2 => cell_at (GB.out _ t'.x) 1
    have c2 := fun t' : LaterF none' W2 => cell_at (GB.out _ t'.x) 2
    simp only [List.getElem?_toArray, List.getElem?_cons_zero, List.getElem?_cons_succ] at c0 c1 c2
    refine region_tree none' W2 [0, 2] (.two 1 true (.two 3 true (.one 4 true (.one 5 false (.one 6 false .fin))) 4 true (.one 3 true (.one 5 false (.one 6 false .fin)))) 4 true (.one 1 true (.one 3 true (.one 5 false (.one 6 false .fin))))) (by kernel_rfl) (by kernel_rfl) (fun dst v c a w h => by cases dst <;> exact h) (Ext.refl _ _) ?_
    simp only [sel, List.getElem?_cons_succ, List.getElem?_cons_zero]
    repeat (go_big_quiet_step (fail))
    refine wpQuiet_nil ?_
    simp only [wpTree, stepT, sel, List.getElem?_cons_succ, List.getElem?_cons_zero]
    clear c0 c1 c2
    have D2 := hid (Ext.refl none' W2).drew
    refine ⟨?_, ?_⟩
    · go_wp2_with fail
      refine (CD.out none' _ (X2.out.trans D2.out) (fun _ h => h.elim)).mono ?_
      rintro e W3 ⟨u, rfl, hu, X3⟩
      have X3 := hid (D2.out.trans X3)
      have HU := hid hu
      obtain ⟨a5, cap5, rfl, _⟩ := hu
      go_wp2_with fail
      refine ⟨In.of X3.out, ?_, ?_⟩
      · go_wp2_with fail
        refine (CT.out none' _ (X2.out.trans X3.out) (fun _ h => h.elim)).mono ?_
        rintro e W4 ⟨u, rfl, ⟨xx, rfl, hxx⟩, X4⟩
        have HU4 := hid (HU.out.ext isDf_good X4 (fun _ _ h => h.elim))
        have X4 := hid (X3.out.trans X4)
        have HT4 := hid hxx
        obtain ⟨a6, cap6, rfl, _⟩ := hxx
        go_wp2_with fail
        refine ⟨In.of X4.out, ?_⟩
        go_wp2_with fail
        refine ⟨In.of (X4.out.alloc _), ?_⟩
        go_wp2_with fail
        go_meet
        case rel => exact hid ⟨HU4.out.ext isDf_good ((Ext.refl none' W4).alloc _) fun _ _ h => h.elim, ⟨W4.heap.size, _, rfl, heap_alloc_at rfl _, HT4.out.ext isTy_good ((Ext.refl none' W4).alloc _) fun _ _ h => h.elim⟩, X4.out.alloc _⟩
      · go_wp2_with fail
        refine ⟨In.of (X3.out.alloc _), ?_⟩
        have XA := hid (X3.out.alloc (.cells #[.int .i64 0, .string ⟨#[]⟩, .slice none 0 0] 41 (0, 0)))
        have gY := heap_alloc_at (w := W3) rfl (.cells #[.int .i64 0, .string ⟨#[]⟩, .slice none 0 0] 41 (0, 0))
        have HU3 := hid ((HU.out.mono (B := and1 none' W3.heap.size) isDf_good (and1.down (Nat.le_refl _))).ext isDf_good ((Ext.refl none' W3).alloc (.cells #[.int .i64 0, .string ⟨#[]⟩, .slice none 0 0] 41 (0, 0))) fun _ _ h => h.elim)
        go_wp2_with fail
        refine (CT.out (and1 none' W3.heap.size) _ (X2.out.trans XA.out) (fun b hb => hb.elim (fun h => h.elim) fun h => by rw [h, World.size_alloc]; omega)).mono ?_
        rintro e W4 ⟨u, rfl, ⟨xx, rfl, hxx⟩, X4⟩
        have HV := hid (HU3.out.ext isDf_good X4 (fun _ _ h => h.elim))
        have GY := hid (X4.heap gY (fun h => h))
        have XX := hid (XA.out.trans X4)
        have HT := hid hxx
        have HYY := hid X3.out.size
        obtain ⟨a6, cap6, rfl, _⟩ := hxx
        go_wp2_with fail
        refine ⟨In.of XX.out, ?_⟩
        clear gY
        have f0 := free_at GY.out 0
        have f1 := free_at GY.out 1
        have f2 := free_at GY.out 2
        have e0 := cell_at GY.out 0
        have e1 := cell_at GY.out 1
        have e2 := cell_at GY.out 2
        simp only [List.getElem?_toArray, List.getElem?_cons_zero, List.getElem?_cons_succ] at e0 e1 e2
        go_wp2_with fail
        go_meet
        case rel => exact hid (TiMid.mk' HV.out HT.out XX.out HYY.out GY.out)
    · go_wp2_with fail
      refine ⟨In.of (D2.out.alloc _), ?_⟩
      have XA := hid (D2.out.alloc (.cells #[.int .i64 0, .string ⟨#[]⟩, .slice none 0 0] 41 (0, 0)))
      have gY := heap_alloc_at (w := W2.drew) (k := W2.heap.size) rfl (.cells #[.int .i64 0, .string ⟨#[]⟩, .slice none 0 0] 41 (0, 0))
      go_wp2_with fail
      refine (CD.out (and1 none' W2.heap.size) _ (X2.out.trans XA.out) (fun b hb => hb.elim (fun h => h.elim) fun h => by rw [h]; exact heap_lt gY)).mono ?_
      rintro e W3 ⟨u, rfl, hu, X3⟩
      have G3 := hid (X3.heap gY (fun h => h))
      have X3 := hid (XA.out.trans X3)
      have HU := hid hu
      obtain ⟨a5, cap5, rfl, _⟩ := hu
      clear gY
      go_wp2_with fail
      refine ⟨In.of X3.out, ?_⟩
      go_wp2_with fail
      refine (CT.out (and1 none' W2.heap.size) _ (X2.out.trans X3.out) (fun b hb => hb.elim (fun h => h.elim) fun h => by rw [h]; exact heap_lt G3.out)).mono ?_
      rintro e W4 ⟨u, rfl, ⟨xx, rfl, hxx⟩, X4⟩
      have HV := hid (HU.out.ext isDf_good X4 (fun _ _ h => h.elim))
      have GY := hid (X4.heap G3.out (fun h => h))
      have XX := hid (X3.out.trans X4)
      have HT := hid hxx
      have HYY := hid (Nat.le_refl W2.heap.size)
      obtain ⟨a6, cap6, rfl, _⟩ := hxx
      go_wp2_with fail
      refine ⟨In.of XX.out, ?_⟩
      have f0 := free_at GY.out 0
      have f1 := free_at GY.out 1
      have f2 := free_at GY.out 2
      have e0 := cell_at GY.out 0
      have e1 := cell_at GY.out 1
      have e2 := cell_at GY.out 2
      simp only [List.getElem?_toArray, List.getElem?_cons_zero, List.getElem?_cons_succ] at e0 e1 e2
      go_wp2_with fail
      go_meet
      case rel => exact hid (TiMid.mk' HV.out HT.out XX.out HYY.out GY.out)
  obtain ⟨a8, cap8, rfl, _⟩ := hcut.out.d
  obtain ⟨Y, xx, rfl, gY, hxx⟩ := hcut.out.y
  have HDc := hid hcut.out.d
  have HTc := hid hxx
  obtain ⟨a9, cap9, rfl, _⟩ := hxx
  have XC := hid (X2.out.trans hcut.out.x)
  have AW := hid fun W => awake_any W
  have GBc := hid fun (W : World) (X : Ext none' wc W) => GB.out W (hcut.out.x.trans X)
  have GYc := hid fun (W : World) (X : Ext none' wc W) => X.heap gY (fun h => h)
  have LETS : Hid (∀ (b : Bool) (W : World) (Z : Nat), Ext none' wc W → W.heap[Z]? = some (.cells #[.bool b, .string ⟨name.toArray⟩] 50 (0, 0)) → Calls Try.prog 13 #[.slice a8 ds.length cap8, .slice none 0 0, .agg #[.bool false, .bool false, .slice (some ⟨Z, 0, none⟩) 1 1], .agg #[.int .i64 t.kind, .string ⟨t.name.toArray⟩, .slice a9 t.args.length cap9]] W (BoolP (letsP ds [] (cn1 b name) t) W)) := hid fun b W Z X g =>
    Lets_any ds ⟨(fun d hd => by have := HLE.out.2 d hd; omega), by have := HLE.out.1; omega, (fun d hd => by have := HLE.out.2 d hd; omega)⟩ [] (by simp) (fun b hb => by cases hb) (cn1 b name) (by simp [cn1]) t HTB.out none' _ _ _ _ W (HDc.out.ext isDf_good X fun _ _ h => h.elim) (IsSl.nil _ _ _ _) ⟨_, rfl, isSl_lit (xs := (cn1 b name).terms) g (fun h => h) (by simp [cn1]) (fun i hi => by
      have h' : i < 1 := hi
      obtain rfl : i = 0 := by omega
      rfl)⟩ ⟨_, rfl, HTc.out.ext isTy_good X fun _ _ h => h.elim⟩ (fun b hb => hb.elim)
  have ALS := hid fun (W : World) (X : Ext none' w W) => als_any ds t.name (by have := HLE.out.1; omega) (.slice a ds.length cap) W (HD.out.ext isDf_good X fun _ _ h => h.elim)
  have P1 := hid (tilde_of (ds := ds) (n := name) (t := t))
  have P2 := hid (tilde_kind3 (ds := ds) (n := name) (t := t))
  have P3 := hid (tilde_not (ds := ds) (n := name) (t := t))
  obtain ⟨la, hla⟩ : ∃ la, letsP ds [] (cn1 false name) t = la := ⟨_, rfl⟩
  obtain ⟨lb, hlb⟩ : ∃ lb, letsP ds [] (cn1 true name) t = lb := ⟨_, rfl⟩
  have LA := hid (fun W Z X g => hla ▸ LETS.out false W Z X g)
  have LB := hid (fun W Z X g => hlb ▸ LETS.out true W Z X g)
  rw [hla, hlb] at P1
  rw [hla] at P2
  rw [hlb] at P3
  have b0 := cell_at (heap_alloc_keep gY (.cells #[.bool false, .string ⟨name.toArray⟩] 50)) 0
  have b1 := cell_at (heap_alloc_keep gY (.cells #[.bool false, .string ⟨name.toArray⟩] 50)) 1
  have b2 := cell_at (heap_alloc_keep gY (.cells #[.bool false, .string ⟨name.toArray⟩] 50)) 2
  simp only [List.getElem?_toArray, List.getElem?_cons_zero, List.getElem?_cons_succ] at b0 b1 b2
  clear hla hlb gY
  go_wp2_with fail
  refine (LA.out _ _ ((Ext.refl none' wc).alloc _) (heap_alloc_at rfl _)).mono ?_
  rintro e W4 ⟨rfl, X4⟩
  have X4 := hid (((Ext.refl none' wc).alloc _).trans X4)
  have g4 := GYc.out _ X4.out
  have b0 := cell_at (heap_alloc_keep g4 (.cells #[.bool true, .string ⟨name.toArray⟩] 50)) 0
  have b1 := cell_at (heap_alloc_keep g4 (.cells #[.bool true, .string ⟨name.toArray⟩] 50)) 1
  have b2 := cell_at (heap_alloc_keep g4 (.cells #[.bool true, .string ⟨name.toArray⟩] 50)) 2
  simp only [List.getElem?_toArray, List.getElem?_cons_zero, List.getElem?_cons_succ] at b0 b1 b2
  clear g4
  go_upto_region 5 with (fail)
  go_wp2_with fail
  refine (LB.out _ _ (X4.out.alloc _) (heap_alloc_at rfl _)).mono ?_
  rintro e W5 ⟨rfl, X5⟩
  have X5 := hid ((X4.out.alloc _).trans X5)
  have g5 := GBc.out _ X5.out
  have c0 := cell_at g5 0
  have c1 := cell_at g5 1
  simp only [List.getElem?_toArray, List.getElem?_cons_zero, List.getElem?_cons_succ] at c0 c1
  have X5' := hid (XC.out.trans X5.out)
  clear g5 b0 b1 b2
  cases la with
  | false =>
    cases lb with
    | false =>
      go_wp2_with fail
      refine (AW.out _).mono ?_
      rintro e W7 ⟨rfl, X7⟩
      have X7 := hid (X5'.out.trans X7)
      go_wp2_with fail
      go_ret
      exact ⟨rfl, X7.out⟩
    | true =>
      obtain ⟨n5, n6, n2⟩ := P3.out rfl
      have m5 : (t.kind != 5) = true := by simpa using n5
      have m6 : (t.kind != 6) = true := by simpa using n6
      have m2 : (t.kind != 2) = true := by simpa using n2
      clear n5 n6 n2
      go_wp2_with fail
      refine (AW.out _).mono ?_
      rintro e W7 ⟨rfl, X7⟩
      have X7 := hid (X5'.out.trans X7)
      go_wp2_with fail
      go_ret
      exact ⟨rfl, X7.out⟩
  | true =>
    obtain rfl := P1.out rfl
    obtain ⟨n5, n6, n2⟩ := P3.out rfl
    have m5 : (t.kind != 5) = true := by simpa using n5
    have m6 : (t.kind != 6) = true := by simpa using n6
    have m2 : (t.kind != 2) = true := by simpa using n2
    clear n5 n6 n2
    by_cases h3 : t.kind = 3
    · have m3 : (t.kind == 3) = true := by simpa using h3
      have PA := hid (P2.out rfl h3)
      clear h3
      go_wp2_with fail
      refine (ALS.out _ X5'.out).mono ?_
      rintro e W6 ⟨rfl, X6⟩
      rw [PA.out]
      have g6 := GBc.out _ (X5.out.trans X6)
      have c0 := cell_at g6 0
      simp only [List.getElem?_toArray, List.getElem?_cons_zero] at c0
      have X6 := hid (X5'.out.trans X6)
      clear g6
      go_wp2_with fail
      refine (AW.out _).mono ?_
      rintro e W7 ⟨rfl, X7⟩
      have X7 := hid (X6.out.trans X7)
      go_wp2_with fail
      go_ret
      exact ⟨rfl, X7.out⟩
    · have m3 : (t.kind == 3) = false := by simpa using h3
      clear h3
      go_wp2_with fail
      refine (AW.out _).mono ?_
      rintro e W7 ⟨rfl, X7⟩
      have X7 := hid (X5'.out.trans X7)
      go_wp2_with fail
      go_ret
      exact ⟨rfl, X7.out⟩
end Go.Proofs.Ythoeengfgkfchaa
