import Derived.Test.YtbhpmmofgdppdaaGreatDoorZAq
import Derived.Test.YtbhpmmofgdppdaaGreatDoorZAr
import Derived.Test.YtbhpmmofgdppdaaGreatDoorZAs
import Derived.Deep.Cut
/-
  kinds.bare, kinds.Assigns.
-/
namespace Go.Proofs.YtbhpmmofgdppdaaGreatDoor
open Go.RowKit Go.Lib Go.BigFrame
def bareP (t : Ty) : Bool := t.kind != 3 && (t.kind != 4 && t.kind != 1)
/-- May one be assigned to another one? (In full; behind it, in full.) -/
def asgP (x y p q : Ty) : Bool := if x.kind = 0 ∨ y.kind = 0 then false else if x.kind = 2 then q.kind == 1 && q.name == x.name else sameP 100 x y || ((bareP x || bareP y) && (p.kind != 0 && sameP 100 p q))
def assignsP (ds : List Df) (a b : Ty) : Bool := asgP (fullP ds a) (fullP ds b) (fullP ds (behindP ds (fullP ds a))) (fullP ds (behindP ds (fullP ds b)))
theorem behP_size {ds : List Df} (hd : DefsOk ds) : ∀ (f : Nat) (t : Ty), t.size ≤ bigD → (behP ds f t).size ≤ bigD
  | 0, t, _ => by rw [behP]; show (1 : Nat) ≤ bigD; unfold bigD; omega
  | f + 1, t, h => by
    have hz : Ty.zero.size ≤ bigD := by show (1 : Nat) ≤ bigD; unfold bigD; omega
    rw [behP]
    split
    · exact h
    · split
      · exact hz
      · rename_i d hf
        split
        · exact hz
        · exact behP_size hd f _ (beh_size hd hf (by omega))
theorem behindP_size {ds : List Df} (hd : DefsOk ds) (t : Ty) (h : t.size ≤ bigD) : (behindP ds t).size ≤ bigD := behP_size hd 100 t h
set_option maxRecDepth 100000 in
theorem bare_any (t : Ty) (v : Value) (w : World) (hv : TyV none' w t v) : Calls Tryz.prog 39 #[v] w (BoolP (bareP t) w) := by
  obtain ⟨x, rfl, hx⟩ := hv
  obtain ⟨a1, cap1, rfl, _⟩ := hx
  unfold bareP
  obtain ⟨k, hk⟩ : ∃ k, t.kind = k := ⟨_, rfl⟩
  rw [hk]
  clear hk
  by_cases h3 : k = 3
  · subst h3
    go_enter Tryz.func39, Tryz.ntmps39
    go_wp2_with fail
    go_ret
    exact ⟨rfl, (Ext.refl _ _).alloc _⟩
  · have q3 : (k != 3) = true := by simpa using h3
    by_cases h4 : k = 4
    · subst h4
      go_enter Tryz.func39, Tryz.ntmps39
      go_wp2_with fail
      go_ret
      exact ⟨rfl, (Ext.refl _ _).alloc _⟩
    · have q4 : (k != 4) = true := by simpa using h4
      rw [q3, q4]
      obtain ⟨q, hq⟩ : ∃ q, (k != 1) = q := ⟨_, rfl⟩
      rw [hq]
      clear h3 h4
      go_enter Tryz.func39, Tryz.ntmps39
      go_wp2_with fail
      go_ret
      exact ⟨by cases q <;> simp_all, (Ext.refl _ _).alloc _⟩
/-- What must not be touched: the two boxes, if they are there. -/
def AV (x y : Bool) (p7 p8 : Nat) : Nat → Prop := fun b => (x = true ∧ b = p7) ∨ (y = true ∧ b = p8)
def zTy : Array Value := #[.int .i64 0, .string ⟨#[]⟩, .slice none 0 0]
/-- The boxes. -/
structure Bx (W1 w : World) (x y : Bool) (p7 p8 : Nat) (v7 v8 : Value) : Prop where
  ex : Ext none' W1 w
  one : x = true → v7 = .pointer (some ⟨p7, 0, none⟩) ∧ W1.heap.size ≤ p7 ∧ w.heap[p7]? = some (.cells zTy 32 (0, 0))
  two : y = true → v8 = .pointer (some ⟨p8, 0, none⟩) ∧ W1.heap.size ≤ p8 ∧ w.heap[p8]? = some (.cells zTy 32 (0, 0))
  ne : x = true → y = true → p7 ≠ p8
theorem Bx.ext {W1 w w' : World} {x y : Bool} {p7 p8 : Nat} {v7 v8 : Value} (h : Bx W1 w x y p7 p8 v7 v8) (X : Ext none' w w') : Bx W1 w' x y p7 p8 v7 v8 :=
  ⟨h.ex.trans X, fun e => ⟨(h.one e).1, (h.one e).2.1, X.heap (h.one e).2.2 fun h => h⟩, fun e => ⟨(h.two e).1, (h.two e).2.1, X.heap (h.two e).2.2 fun h => h⟩, h.ne⟩
theorem Bx.lt {W1 w : World} {x y : Bool} {p7 p8 : Nat} {v7 v8 : Value} (h : Bx W1 w x y p7 p8 v7 v8) : ∀ b, AV x y p7 p8 b → b < w.heap.size := fun b hb => by
  rcases hb with ⟨e, rfl⟩ | ⟨e, rfl⟩
  · exact heap_lt (h.one e).2.2
  · exact heap_lt (h.two e).2.2
theorem Bx.put1 {W1 w : World} {y : Bool} {p7 p8 : Nat} {v7 v8 : Value} (h : Bx W1 w false y p7 p8 v7 v8) : Bx W1 (w.alloc (.cells zTy 32)) true y w.heap.size p8 (.pointer (some ⟨w.heap.size, 0, none⟩)) v8 :=
  ⟨h.ex.alloc _, fun _ => ⟨rfl, h.ex.size, heap_alloc_at rfl _⟩, fun e => ⟨(h.two e).1, (h.two e).2.1, heap_alloc_keep (h.two e).2.2 _⟩, fun _ e => by have := heap_lt (h.two e).2.2; omega⟩
theorem Bx.put2 {W1 w : World} {x : Bool} {p7 p8 : Nat} {v7 v8 : Value} (h : Bx W1 w x false p7 p8 v7 v8) : Bx W1 (w.alloc (.cells zTy 32)) x true p7 w.heap.size v7 (.pointer (some ⟨w.heap.size, 0, none⟩)) :=
  ⟨h.ex.alloc _, fun e => ⟨(h.one e).1, (h.one e).2.1, heap_alloc_keep (h.one e).2.2 _⟩, fun _ => ⟨rfl, h.ex.size, heap_alloc_at rfl _⟩, fun e _ => by have := heap_lt (h.one e).2.2; omega⟩
theorem AV.put1 {w : World} {y : Bool} {p7 p8 : Nat} {t : Ty} {v : Value} (h : TyV (AV false y p7 p8) w t v) (o : Obj) : TyV (AV true y w.heap.size p8) (w.alloc o) t v :=
  (h.mono (B := AV true y w.heap.size p8) fun b hb q => by
    rcases q with ⟨_, e⟩ | q
    · omega
    · exact .inr q).ext ((Ext.refl none' w).alloc o) fun _ _ h => h.elim
theorem AV.put2 {w : World} {x : Bool} {p7 p8 : Nat} {t : Ty} {v : Value} (h : TyV (AV x false p7 p8) w t v) (o : Obj) : TyV (AV x true p7 w.heap.size) (w.alloc o) t v :=
  (h.mono (B := AV x true p7 w.heap.size) fun b hb q => by
    rcases q with q | ⟨_, e⟩
    · exact .inl q
    · omega).ext ((Ext.refl none' w).alloc o) fun _ _ h => h.elim
/-- What holds within the first region. -/
def I1 (ds : List Df) (a b : Ty) (ad aa ab : Option Addr) (cd ca cb b4 b5 : Nat) (W1 : World) (i : Nat) (x y : Bool) (ac : Act) (w : World) : Prop :=
  ∃ v7 v8 v13 v16 p7 p8, ac = { tmps := #[.slice ad ds.length cd, .agg #[.int .i64 a.kind, .string ⟨a.name.toArray⟩, .slice aa a.args.length ca], .agg #[.int .i64 b.kind, .string ⟨b.name.toArray⟩, .slice ab b.args.length cb], undef, .pointer (some ⟨b4, 0, none⟩), .pointer (some ⟨b5, 0, none⟩), .bool false, v7, v8, undef, undef, .slice ad ds.length cd, .agg #[.int .i64 a.kind, .string ⟨a.name.toArray⟩, .slice aa a.args.length ca], v13, .slice ad ds.length cd, .agg #[.int .i64 b.kind, .string ⟨b.name.toArray⟩, .slice ab b.args.length cb], v16, undef, undef, undef, undef, undef, undef, undef, undef, undef, undef, undef, undef, undef, undef, undef, undef, undef, undef, undef, undef, undef, undef, undef, undef, undef, undef, undef, undef, undef, undef, undef, undef, undef, undef, undef, undef, undef, undef, undef, undef, undef, undef, undef, undef, undef, undef, undef, undef, undef, undef, undef, undef, undef, undef], defers := [] } ∧ Bx W1 w x y p7 p8 v7 v8 ∧ (1 ≤ i → TyV (AV x y p7 p8) w (fullP ds a) v13) ∧ (2 ≤ i → TyV (AV x y p7 p8) w (fullP ds b) v16)

/-- What holds within the second region. -/
def I2 (ds : List Df) (a b P Q : Ty) (ad aa ab a7 a8 : Option Addr) (cd ca cb c7 c8 b4 b5 p7 p8 : Nat) (W1 : World) (i : Nat) (x y : Bool) (ac : Act) (w : World) : Prop :=
  ∃ v9 v10 v20 v21 v25 v26 p9 p10, ac = { tmps := #[.slice ad ds.length cd, .agg #[.int .i64 a.kind, .string ⟨a.name.toArray⟩, .slice aa a.args.length ca], .agg #[.int .i64 b.kind, .string ⟨b.name.toArray⟩, .slice ab b.args.length cb], undef, .pointer (some ⟨b4, 0, none⟩), .pointer (some ⟨b5, 0, none⟩), .bool false, .pointer (some ⟨p7, 0, none⟩), .pointer (some ⟨p8, 0, none⟩), v9, v10, .slice ad ds.length cd, .agg #[.int .i64 a.kind, .string ⟨a.name.toArray⟩, .slice aa a.args.length ca], .agg #[.int .i64 P.kind, .string ⟨P.name.toArray⟩, .slice a7 P.args.length c7], .slice ad ds.length cd, .agg #[.int .i64 b.kind, .string ⟨b.name.toArray⟩, .slice ab b.args.length cb], .agg #[.int .i64 Q.kind, .string ⟨Q.name.toArray⟩, .slice a8 Q.args.length c8], .slice ad ds.length cd, .slice ad ds.length cd, .agg #[.int .i64 P.kind, .string ⟨P.name.toArray⟩, .slice a7 P.args.length c7], v20, v21, .slice ad ds.length cd, .slice ad ds.length cd, .agg #[.int .i64 Q.kind, .string ⟨Q.name.toArray⟩, .slice a8 Q.args.length c8], v25, v26, undef, undef, undef, undef, undef, undef, undef, undef, undef, undef, undef, undef, undef, undef, undef, undef, undef, undef, undef, undef, undef, undef, undef, undef, undef, undef, undef, undef, undef, undef, undef, undef, undef, undef, undef, undef, undef, undef, undef, undef, undef, undef, undef, undef], defers := [] } ∧ Bx W1 w x y p9 p10 v9 v10 ∧ (1 ≤ i → TyV (AV x y p9 p10) w (behindP ds P) v20) ∧ (2 ≤ i → TyV (AV x y p9 p10) w (fullP ds (behindP ds P)) v21) ∧ (3 ≤ i → TyV (AV x y p9 p10) w (behindP ds Q) v25) ∧ (4 ≤ i → TyV (AV x y p9 p10) w (fullP ds (behindP ds Q)) v26)
theorem Bx.stored {W1 W : World} {p7 p8 : Nat} {v7 v8 : Value} (h : Bx W1 W true true p7 p8 v7 v8) {S T : Ty} {xs xt : Value} (hs : IsSl 3 IsTy (AV true true p7 p8) W xs S.args) (ht : IsSl 3 IsTy (AV true true p7 p8) W xt T.args) (W2 : World)
    (e : W2 = (((((W.setCell ⟨p7, 0, none⟩ (.int .i64 S.kind)).setCell ⟨p7, 1, none⟩ (.string ⟨S.name.toArray⟩)).setCell ⟨p7, 2, none⟩ xs).setCell ⟨p8, 0, none⟩ (.int .i64 T.kind)).setCell ⟨p8, 1, none⟩ (.string ⟨T.name.toArray⟩)).setCell ⟨p8, 2, none⟩ xt) :
    Ext none' W1 W2 ∧ W2.heap[p7]? = some (.cells #[.int .i64 S.kind, .string ⟨S.name.toArray⟩, xs] 32 (0, 0)) ∧ W2.heap[p8]? = some (.cells #[.int .i64 T.kind, .string ⟨T.name.toArray⟩, xt] 32 (0, 0)) ∧ IsSl 3 IsTy none' W2 xs S.args ∧ IsSl 3 IsTy none' W2 xt T.args := by
  obtain ⟨_, l7, g7⟩ := h.one rfl
  obtain ⟨_, l8, g8⟩ := h.two rfl
  have hne := h.ne rfl rfl
  have X : Ext (AV true true p7 p8) W W2 := by
    rw [e]
    exact ((Ext.refl _ W).set3 (b := p7) (.inl (.inl ⟨rfl, rfl⟩)) _ _ _).set3 (b := p8) (.inl (.inr ⟨rfl, rfl⟩)) _ _ _
  refine ⟨by rw [e]; exact (h.ex.set3 (b := p7) (.inr l7) _ _ _).set3 (b := p8) (.inr l8) _ _ _, ?_, ?_, (hs.ext isTy_good X fun b _ h => h).mono isTy_good fun _ _ h => h.elim, (ht.ext isTy_good X fun b _ h => h).mono isTy_good fun _ _ h => h.elim⟩
  · rw [e]
    exact heap_setCell_other (heap_setCell_other (heap_setCell_other (set3 g7 _ _ _) (p := ⟨p8, 0, none⟩) (Ne.symm hne) _) (p := ⟨p8, 1, none⟩) (Ne.symm hne) _) (p := ⟨p8, 2, none⟩) (Ne.symm hne) _
  · rw [e]
    exact set3 (heap_setCell_other (heap_setCell_other (heap_setCell_other g8 (p := ⟨p7, 0, none⟩) hne _) (p := ⟨p7, 1, none⟩) hne _) (p := ⟨p7, 2, none⟩) hne _) _ _ _
set_option maxRecDepth 100000 in
set_option maxHeartbeats 3200000 in
theorem assigns_any (ds : List Df) (hds : DefsFit ds) (hdo : DefsOk ds) (a b : Ty) (ha : a.size ≤ bigD) (hb : b.size ≤ bigD) (dv v u : Value) (w : World) (hd : IsSl 6 IsDf none' w dv ds) (hv : TyV none' w a v) (hu : TyV none' w b u) :
    Calls Tryz.prog 23 #[dv, v, u] w (BoolP (assignsP ds a b) w) := by
  have HDA := hid fun W (A : Nat → Prop) (X : Ext none' w W) (hA : ∀ b, A b → w.heap.size ≤ b) => (hd.mono (B := A) isDf_good fun b hb h => absurd hb (by have := hA b h; omega)).ext isDf_good X fun _ _ h => h.elim
  have HVA := hid fun W (A : Nat → Prop) (X : Ext none' w W) (hA : ∀ b, A b → w.heap.size ≤ b) => (hv.mono (B := A) fun b hb h => absurd hb (by have := hA b h; omega)).ext X fun _ _ h => h.elim
  have HUA := hid fun W (A : Nat → Prop) (X : Ext none' w W) (hA : ∀ b, A b → w.heap.size ≤ b) => (hu.mono (B := A) fun b hb h => absurd hb (by have := hA b h; omega)).ext X fun _ _ h => h.elim
  obtain ⟨r, hr⟩ : ∃ r, r = assignsP ds a b := ⟨_, rfl⟩
  rw [← hr]
  have HRR := hid hr
  clear hr
  obtain ⟨x, rfl, hx⟩ := hv
  obtain ⟨y, rfl, hy⟩ := hu
  obtain ⟨ad, cd, rfl, _⟩ := hd
  obtain ⟨aa, ca, rfl, _⟩ := hx
  obtain ⟨ab, cb, rfl, _⟩ := hy
  go_enter Tryz.func23, Tryz.ntmps23
  go_upto_region 1 with (fail)
  obtain ⟨B, hB⟩ : ∃ B, B = w.heap.size := ⟨_, rfl⟩
  obtain ⟨W1, hW1⟩ : ∃ W1, W1 = (w.alloc (.cells #[.int .i64 a.kind, .string ⟨a.name.toArray⟩, .slice aa a.args.length ca] 32)).alloc (.cells #[.int .i64 b.kind, .string ⟨b.name.toArray⟩, .slice ab b.args.length cb] 32) := ⟨_, rfl⟩
  rw [← hW1, ← hB]
  have X1 := hid (show Ext none' w W1 by rw [hW1]; exact ((Ext.refl _ _).alloc _).alloc _)
  have g4 : W1.heap[B]? = some (.cells #[.int .i64 a.kind, .string ⟨a.name.toArray⟩, .slice aa a.args.length ca] 32 (0, 0)) := by rw [hW1]; exact heap_alloc_keep (heap_alloc_at hB _) _
  have g5 : W1.heap[B + 1]? = some (.cells #[.int .i64 b.kind, .string ⟨b.name.toArray⟩, .slice ab b.args.length cb] 32 (0, 0)) := by rw [hW1]; exact heap_alloc_at (by rw [hB]; simp) _
  have y0 := fun t' : LaterF none' W1 => cell_at (t'.x.heap g4 fun h => h) 0
  have y1 := fun t' : LaterF none' W1 => cell_at (t'.x.heap g4 fun h => h) 1
  have y2 := fun t' : LaterF none' W1 => cell_at (t'.x.heap g4 fun h => h) 2
  have z0 := fun t' : LaterF none' W1 => cell_at (t'.x.heap g5 fun h => h) 0
  have z1 := fun t' : LaterF none' W1 => cell_at (t'.x.heap g5 fun h => h) 1
  have z2 := fun t' : LaterF none' W1 => cell_at (t'.x.heap g5 fun h => h) 2
  simp only [List.getElem?_toArray, List.getElem?_cons_zero, List.getElem?_cons_succ] at y0 y1 y2 z0 z1 z2
  have HB := hid hB
  have HA1 : Hid (∀ x y p7 p8 v7 v8 W, Bx W1 W x y p7 p8 v7 v8 → ∀ b, AV x y p7 p8 b → w.heap.size ≤ b) := hid fun x y p7 p8 v7 v8 W h b hb => by
    have := X1.out.size
    rcases hb with ⟨e, rfl⟩ | ⟨e, rfl⟩
    · have := (h.one e).2.1; omega
    · have := (h.two e).2.1; omega
  clear hW1 hB g4 g5
  refine region_m none' W1 [0, 1, 3, 4] [2, 5] 6 7 (.one 8 false (.one 9 false .fin)) (by kernel_rfl) (by kernel_rfl) (fun dst v c a w h => by cases dst <;> exact h) (I1 ds a b ad aa ab cd ca cb B (B + 1) W1) (In.of (Ext.refl _ _).drew) ?_ ?_ ?_ ?_ ?_
  · simp only [sel, List.getElem?_cons_succ, List.getElem?_cons_zero]
    repeat (go_big_quiet_step (fail))
    refine wpQuiet_nil ?_
    exact ⟨_, _, _, _, 0, 0, rfl, ⟨(Ext.refl _ _).drew, (fun h => by cases h), (fun h => by cases h), (fun h => by cases h)⟩, (fun h => by omega), (fun h => by omega)⟩
  all_goals clear y0 y1 y2 z0 z1 z2
  · intro i hi x y _ ac W hI
    obtain ⟨v7, v8, v13, v16, p7, p8, rfl, BX, h1, h2⟩ := hI
    have hi' : i < 2 := hi
    have HH1 := hid h1
    clear h1 h2
    have HBX := hid BX
    clear BX
    match i, hi' with
    | 0, _ =>
      show stepT _ _ _ _ 2 true _ _ _
      simp only [stepT, sel, List.getElem?_cons_succ, List.getElem?_cons_zero]
      go_wp2_with (fail)
      have BX := HBX.out
      have XX := X1.out.trans BX.ex
      refine (Full_any ds hds a ha (AV x y p7 p8) _ _ W (HDA.out W _ XX (HA1.out _ _ _ _ _ _ _ BX)) (HVA.out W _ XX (HA1.out _ _ _ _ _ _ _ BX)) BX.lt).mono ?_
      rintro e W2 ⟨v, rfl, hv, X2⟩
      have HV := hid hv
      have X2 := hid X2
      clear BX XX hv
      go_wp2_with (fail)
      exact ⟨In.of (HBX.out.ex.trans X2.out), _, _, _, _, p7, p8, rfl, HBX.out.ext X2.out, fun _ => HV.out, fun h => by omega⟩
    | 1, _ =>
      show stepT _ _ _ _ 5 true _ _ _
      simp only [stepT, sel, List.getElem?_cons_succ, List.getElem?_cons_zero]
      go_wp2_with (fail)
      have BX := HBX.out
      have XX := X1.out.trans BX.ex
      refine (Full_any ds hds b hb (AV x y p7 p8) _ _ W (HDA.out W _ XX (HA1.out _ _ _ _ _ _ _ BX)) (HUA.out W _ XX (HA1.out _ _ _ _ _ _ _ BX)) BX.lt).mono ?_
      rintro e W2 ⟨v, rfl, hv, X2⟩
      have HV := hid hv
      have X2 := hid X2
      clear BX XX hv
      go_wp2_with (fail)
      exact ⟨In.of (HBX.out.ex.trans X2.out), _, _, _, _, p7, p8, rfl, HBX.out.ext X2.out, fun _ => (HH1.out (Nat.le_refl _)).ext X2.out fun _ _ h => h.elim, fun _ => HV.out⟩
  · intro i hi y ac W hI
    obtain ⟨v7, v8, v13, v16, p7, p8, rfl, BX, h1, h2⟩ := hI
    have HH1 := hid h1
    have HH2 := hid h2
    have HBX := hid BX
    clear h1 h2 BX
    simp only [stepT, sel, List.getElem?_cons_succ, List.getElem?_cons_zero]
    go_wp2_with (fail)
    exact ⟨In.of (HBX.out.ex.alloc _), _, _, _, _, W.heap.size, p8, rfl, HBX.out.put1, fun h => AV.put1 (HH1.out h) _, fun h => AV.put1 (HH2.out h) _⟩
  · intro i hi x ac W hI
    obtain ⟨v7, v8, v13, v16, p7, p8, rfl, BX, h1, h2⟩ := hI
    have HH1 := hid h1
    have HH2 := hid h2
    have HBX := hid BX
    clear h1 h2 BX
    simp only [stepT, sel, List.getElem?_cons_succ, List.getElem?_cons_zero]
    go_wp2_with (fail)
    exact ⟨In.of (HBX.out.ex.alloc _), _, _, _, _, p7, W.heap.size, rfl, HBX.out.put2, fun h => AV.put2 (HH1.out h) _, fun h => AV.put2 (HH2.out h) _⟩
  · rintro ac W ⟨v7, v8, v13, v16, p7, p8, rfl, BX, h1, h2⟩
    have h1 := h1 (by decide)
    have h2 := h2 (by decide)
    obtain ⟨rfl, l7, g7⟩ := BX.one rfl
    obtain ⟨rfl, l8, g8⟩ := BX.two rfl
    have hne := BX.ne rfl rfl
    have hP : (fullP ds a).size ≤ bigD := by have := full_size hdo a; unfold bigD; omega
    have hQ : (fullP ds b).size ≤ bigD := by have := full_size hdo b; unfold bigD; omega
    obtain ⟨P, hPe⟩ : ∃ P, fullP ds a = P := ⟨_, rfl⟩
    obtain ⟨Q, hQe⟩ : ∃ Q, fullP ds b = Q := ⟨_, rfl⟩
    have hr := HRR.out
    unfold assignsP at hr
    rw [hPe, hQe] at hr
    have HRR := hid hr
    rw [hPe] at h1 hP
    rw [hQe] at h2 hQ
    clear hr
    obtain ⟨x13, rfl, h13⟩ := h1
    obtain ⟨x16, rfl, h16⟩ := h2
    have HST := hid fun W2 e => BX.stored h13 h16 W2 e
    have HXB := hid BX.ex
    obtain ⟨a7, c7, rfl, _⟩ := h13
    obtain ⟨a8, c8, rfl, _⟩ := h16
    have f0 := free_at g7 0
    have f1 := free_at g7 1
    have f2 := free_at g7 2
    have e0 := cell_at g7 0
    have e1 := cell_at g7 1
    have e2 := cell_at g7 2
    have k0 := free_at g8 0
    have k1 := free_at g8 1
    have k2 := free_at g8 2
    have j0 := cell_at g8 0
    have j1 := cell_at g8 1
    have j2 := cell_at g8 2
    simp only [zTy, List.getElem?_toArray, List.getElem?_cons_zero, List.getElem?_cons_succ] at e0 e1 e2 j0 j1 j2
    have G8 := hid g8
    clear g7 g8 hPe hQe BX
    simp only [wpTreeQ, stepT, sel, List.getElem?_cons_succ, List.getElem?_cons_zero]
    have hne2 : ¬ (p8 = p7) := fun h => hne h.symm
    go_upto_region 2 with (fail)
    obtain ⟨W2, hW2⟩ : ∃ W2, W2 = (((((W.setCell ⟨p7, 0, none⟩ (.int .i64 P.kind)).setCell ⟨p7, 1, none⟩ (.string ⟨P.name.toArray⟩)).setCell ⟨p7, 2, none⟩ (.slice a7 P.args.length c7)).setCell ⟨p8, 0, none⟩ (.int .i64 Q.kind)).setCell ⟨p8, 1, none⟩ (.string ⟨Q.name.toArray⟩)).setCell ⟨p8, 2, none⟩ (.slice a8 Q.args.length c8) := ⟨_, rfl⟩
    obtain ⟨XS, g7, g8, hs7, hs8⟩ := HST.out W2 hW2
    rw [← hW2]
    have XW := hid (X1.out.trans XS)
    have G7 := hid g7
    have G8 := hid g8
    have HPV := hid fun W3 (A : Nat → Prop) (X : Ext none' W2 W3) (hA : ∀ b, A b → W2.heap.size ≤ b) => (show TyV A W3 P (.agg #[.int .i64 P.kind, .string ⟨P.name.toArray⟩, .slice a7 P.args.length c7]) from ⟨_, rfl, (hs7.mono isTy_good fun b hb h => absurd hb (by have := hA b h; omega)).ext isTy_good X fun _ _ h => h.elim⟩)
    have HQV := hid fun W3 (A : Nat → Prop) (X : Ext none' W2 W3) (hA : ∀ b, A b → W2.heap.size ≤ b) => (show TyV A W3 Q (.agg #[.int .i64 Q.kind, .string ⟨Q.name.toArray⟩, .slice a8 Q.args.length c8]) from ⟨_, rfl, (hs8.mono isTy_good fun b hb h => absurd hb (by have := hA b h; omega)).ext isTy_good X fun _ _ h => h.elim⟩)
    have y0 := fun t' : LaterF none' W2 => cell_at (t'.x.heap g7 fun h => h) 0
    have y1 := fun t' : LaterF none' W2 => cell_at (t'.x.heap g7 fun h => h) 1
    have y2 := fun t' : LaterF none' W2 => cell_at (t'.x.heap g7 fun h => h) 2
    have z0 := fun t' : LaterF none' W2 => cell_at (t'.x.heap g8 fun h => h) 0
    have z1 := fun t' : LaterF none' W2 => cell_at (t'.x.heap g8 fun h => h) 1
    have z2 := fun t' : LaterF none' W2 => cell_at (t'.x.heap g8 fun h => h) 2
    simp only [List.getElem?_toArray, List.getElem?_cons_zero, List.getElem?_cons_succ] at y0 y1 y2 z0 z1 z2
    have HA3 : Hid (∀ x y p7 p8 v7 v8 W, Bx W2 W x y p7 p8 v7 v8 → ∀ b, AV x y p7 p8 b → W2.heap.size ≤ b) := hid fun x y p7 p8 v7 v8 W h b hb => by
      rcases hb with ⟨e, rfl⟩ | ⟨e, rfl⟩
      · exact (h.one e).2.1
      · exact (h.two e).2.1
    have HA2 : Hid (∀ x y p7 p8 v7 v8 W, Bx W2 W x y p7 p8 v7 v8 → ∀ b, AV x y p7 p8 b → w.heap.size ≤ b) := hid fun x y p7 p8 v7 v8 W h b hb => Nat.le_trans XW.out.size (HA3.out x y p7 p8 v7 v8 W h b hb)
    have hPB := behindP_size hdo P hP
    have hQB := behindP_size hdo Q hQ
    clear hW2 XS g7 g8 hs7 hs8 f0 f1 f2 e0 e1 e2 k0 k1 k2 j0 j1 j2 hne hne2 l7 l8 HST HVA HUA
    refine region_m none' W2 [0, 1, 2, 5, 6, 7] [3, 4, 8, 9] 10 11 (.one 12 false (.one 13 false .fin)) (by kernel_rfl) (by kernel_rfl) (fun dst v c a w h => by cases dst <;> exact h) (I2 ds a b P Q ad aa ab a7 a8 cd ca cb c7 c8 B (B + 1) p7 p8 W2) (In.of (Ext.refl _ _).drew) ?_ ?_ ?_ ?_ ?_
    · simp only [sel, List.getElem?_cons_succ, List.getElem?_cons_zero]
      repeat (go_big_quiet_step (fail))
      refine wpQuiet_nil ?_
      exact ⟨_, _, _, _, _, _, 0, 0, rfl, ⟨(Ext.refl _ _).drew, (fun h => by cases h), (fun h => by cases h), (fun h => by cases h)⟩, (fun h => by omega), (fun h => by omega), (fun h => by omega), (fun h => by omega)⟩
    all_goals clear y0 y1 y2 z0 z1 z2
    · intro i hi x y _ ac W4 hI
      obtain ⟨v9, v10, v20, v21, v25, v26, p9, p10, rfl, BX, h1, h2, h3, h4⟩ := hI
      have hi' : i < 4 := hi
      have HH1 := hid h1
      have HH2 := hid h2
      have HH3 := hid h3
      clear h1 h2 h3 h4
      have HBX := hid BX
      clear BX
      match i, hi' with
      | 0, _ =>
        show stepT _ _ _ _ 3 true _ _ _
        simp only [stepT, sel, List.getElem?_cons_succ, List.getElem?_cons_zero]
        go_wp2_with (fail)
        have BX := HBX.out
        have XX := XW.out.trans BX.ex
        refine (Behind_any ds hds P hP (AV x y p9 p10) _ _ W4 (HDA.out W4 _ XX (HA2.out _ _ _ _ _ _ _ BX)) ((HPV.out W4 _ BX.ex fun b hb => (HA3.out _ _ _ _ _ _ _ BX) b hb)) BX.lt).mono ?_
        rintro e W5 ⟨v, rfl, hv, X2⟩
        have HV := hid hv
        have X2 := hid X2
        clear BX XX hv
        go_wp2_with (fail)
        exact ⟨In.of (HBX.out.ex.trans X2.out), _, _, _, _, _, _, p9, p10, rfl, HBX.out.ext X2.out, fun _ => HV.out, fun h => by omega, fun h => by omega, fun h => by omega⟩
      | 1, _ =>
        show stepT _ _ _ _ 4 true _ _ _
        simp only [stepT, sel, List.getElem?_cons_succ, List.getElem?_cons_zero]
        go_wp2_with (fail)
        have BX := HBX.out
        have XX := XW.out.trans BX.ex
        refine (Full_any ds hds (behindP ds P) hPB (AV x y p9 p10) _ _ W4 (HDA.out W4 _ XX (HA2.out _ _ _ _ _ _ _ BX)) (HH1.out (by decide)) BX.lt).mono ?_
        rintro e W5 ⟨v, rfl, hv, X2⟩
        have HV := hid hv
        have X2 := hid X2
        clear BX XX hv
        go_wp2_with (fail)
        exact ⟨In.of (HBX.out.ex.trans X2.out), _, _, _, _, _, _, p9, p10, rfl, HBX.out.ext X2.out, fun _ => (HH1.out (by decide)).ext X2.out fun _ _ h => h.elim, fun _ => HV.out, fun h => by omega, fun h => by omega⟩
      | 2, _ =>
        show stepT _ _ _ _ 8 true _ _ _
        simp only [stepT, sel, List.getElem?_cons_succ, List.getElem?_cons_zero]
        go_wp2_with (fail)
        have BX := HBX.out
        have XX := XW.out.trans BX.ex
        refine (Behind_any ds hds Q hQ (AV x y p9 p10) _ _ W4 (HDA.out W4 _ XX (HA2.out _ _ _ _ _ _ _ BX)) ((HQV.out W4 _ BX.ex fun b hb => (HA3.out _ _ _ _ _ _ _ BX) b hb)) BX.lt).mono ?_
        rintro e W5 ⟨v, rfl, hv, X2⟩
        have HV := hid hv
        have X2 := hid X2
        clear BX XX hv
        go_wp2_with (fail)
        exact ⟨In.of (HBX.out.ex.trans X2.out), _, _, _, _, _, _, p9, p10, rfl, HBX.out.ext X2.out, fun _ => (HH1.out (by decide)).ext X2.out fun _ _ h => h.elim, fun _ => (HH2.out (by decide)).ext X2.out fun _ _ h => h.elim, fun _ => HV.out, fun h => by omega⟩
      | 3, _ =>
        show stepT _ _ _ _ 9 true _ _ _
        simp only [stepT, sel, List.getElem?_cons_succ, List.getElem?_cons_zero]
        go_wp2_with (fail)
        have BX := HBX.out
        have XX := XW.out.trans BX.ex
        refine (Full_any ds hds (behindP ds Q) hQB (AV x y p9 p10) _ _ W4 (HDA.out W4 _ XX (HA2.out _ _ _ _ _ _ _ BX)) (HH3.out (by decide)) BX.lt).mono ?_
        rintro e W5 ⟨v, rfl, hv, X2⟩
        have HV := hid hv
        have X2 := hid X2
        clear BX XX hv
        go_wp2_with (fail)
        exact ⟨In.of (HBX.out.ex.trans X2.out), _, _, _, _, _, _, p9, p10, rfl, HBX.out.ext X2.out, fun _ => (HH1.out (by decide)).ext X2.out fun _ _ h => h.elim, fun _ => (HH2.out (by decide)).ext X2.out fun _ _ h => h.elim, fun _ => (HH3.out (by decide)).ext X2.out fun _ _ h => h.elim, fun _ => HV.out⟩
    · intro i hi y ac W4 hI
      obtain ⟨v9, v10, v20, v21, v25, v26, p9, p10, rfl, BX, h1, h2, h3, h4⟩ := hI
      have HH1 := hid h1
      have HH2 := hid h2
      have HH3 := hid h3
      have HH4 := hid h4
      have HBX := hid BX
      clear h1 h2 h3 h4 BX
      simp only [stepT, sel, List.getElem?_cons_succ, List.getElem?_cons_zero]
      go_wp2_with (fail)
      exact ⟨In.of (HBX.out.ex.alloc _), _, _, _, _, _, _, W4.heap.size, p10, rfl, HBX.out.put1, fun h => AV.put1 (HH1.out h) _, fun h => AV.put1 (HH2.out h) _, fun h => AV.put1 (HH3.out h) _, fun h => AV.put1 (HH4.out h) _⟩
    · intro i hi x ac W4 hI
      obtain ⟨v9, v10, v20, v21, v25, v26, p9, p10, rfl, BX, h1, h2, h3, h4⟩ := hI
      have HH1 := hid h1
      have HH2 := hid h2
      have HH3 := hid h3
      have HH4 := hid h4
      have HBX := hid BX
      clear h1 h2 h3 h4 BX
      simp only [stepT, sel, List.getElem?_cons_succ, List.getElem?_cons_zero]
      go_wp2_with (fail)
      exact ⟨In.of (HBX.out.ex.alloc _), _, _, _, _, _, _, p9, W4.heap.size, rfl, HBX.out.put2, fun h => AV.put2 (HH1.out h) _, fun h => AV.put2 (HH2.out h) _, fun h => AV.put2 (HH3.out h) _, fun h => AV.put2 (HH4.out h) _⟩
    · rintro ac W4 ⟨v9, v10, v20, v21, v25, v26, p9, p10, rfl, BX, h1, h2, h3, h4⟩
      have h2 := h2 (by decide)
      have h4 := h4 (by decide)
      obtain ⟨rfl, l9, g9⟩ := BX.one rfl
      obtain ⟨rfl, l10, g10⟩ := BX.two rfl
      have hne := BX.ne rfl rfl
      have hR : (fullP ds (behindP ds P)).size ≤ bigD := by have := full_size hdo (behindP ds P); unfold bigD; omega
      have hT : (fullP ds (behindP ds Q)).size ≤ bigD := by have := full_size hdo (behindP ds Q); unfold bigD; omega
      obtain ⟨R, hRe⟩ : ∃ R, fullP ds (behindP ds P) = R := ⟨_, rfl⟩
      obtain ⟨T, hTe⟩ : ∃ T, fullP ds (behindP ds Q) = T := ⟨_, rfl⟩
      have hr := HRR.out
      rw [hRe, hTe] at hr
      have HRR := hid hr
      rw [hRe] at h2 hR
      rw [hTe] at h4 hT
      clear hr
      obtain ⟨x21, rfl, h21⟩ := h2
      obtain ⟨x26, rfl, h26⟩ := h4
      have HST := hid fun W2 e => BX.stored h21 h26 W2 e
      have BXE := hid BX.ex
      obtain ⟨a9, c9, rfl, _⟩ := h21
      obtain ⟨a10, c10, rfl, _⟩ := h26
      have f0 := free_at g9 0
      have f1 := free_at g9 1
      have f2 := free_at g9 2
      have e0 := cell_at g9 0
      have e1 := cell_at g9 1
      have e2 := cell_at g9 2
      have k0 := free_at g10 0
      have k1 := free_at g10 1
      have k2 := free_at g10 2
      have j0 := cell_at g10 0
      have j1 := cell_at g10 1
      have j2 := cell_at g10 2
      simp only [zTy, List.getElem?_toArray, List.getElem?_cons_zero, List.getElem?_cons_succ] at e0 e1 e2 j0 j1 j2
      clear hRe hTe BX h1 h3 g9 g10
      simp only [wpTreeQ, stepT, sel, List.getElem?_cons_succ, List.getElem?_cons_zero]
      have hne2 : ¬ (p10 = p9) := fun h => hne h.symm
      go_upto_region 3 with (fail)
      obtain ⟨W5, hW5⟩ : ∃ W5, W5 = (((((W4.setCell ⟨p9, 0, none⟩ (.int .i64 R.kind)).setCell ⟨p9, 1, none⟩ (.string ⟨R.name.toArray⟩)).setCell ⟨p9, 2, none⟩ (.slice a9 R.args.length c9)).setCell ⟨p10, 0, none⟩ (.int .i64 T.kind)).setCell ⟨p10, 1, none⟩ (.string ⟨T.name.toArray⟩)).setCell ⟨p10, 2, none⟩ (.slice a10 T.args.length c10) := ⟨_, rfl⟩
      obtain ⟨XS, g9, g10, hs9, hs10⟩ := HST.out W5 hW5
      rw [← hW5]
      have HX5 := hid (XW.out.trans XS)
      have G7 := hid (XS.heap G7.out fun h => h)
      have G8 := hid (XS.heap G8.out fun h => h)
      have G9 := hid g9
      have G10 := hid g10
      have VP := hid (HPV.out W5 none' XS fun b h => h.elim)
      have VQ := hid (HQV.out W5 none' XS fun b h => h.elim)
      have VR := hid (show TyV none' W5 R (.agg #[.int .i64 R.kind, .string ⟨R.name.toArray⟩, .slice a9 R.args.length c9]) from ⟨_, rfl, hs9⟩)
      have VT := hid (show TyV none' W5 T (.agg #[.int .i64 T.kind, .string ⟨T.name.toArray⟩, .slice a10 T.args.length c10]) from ⟨_, rfl, hs10⟩)
      clear hW5 XS g9 g10 hs9 hs10 f0 f1 f2 e0 e1 e2 k0 k1 k2 j0 j1 j2 hne hne2 l9 l10 HST HPV HQV HA2 HA3 HDA
      have CPQ := hid fun W (X : Ext none' W5 W) => Same_any P Q hP hQ _ _ W (VP.out.ext X fun _ _ h => h) (VQ.out.ext X fun _ _ h => h)
      have CRT := hid fun W (X : Ext none' W5 W) => Same_any R T hR hT _ _ W (VR.out.ext X fun _ _ h => h) (VT.out.ext X fun _ _ h => h)
      have CBP := hid fun W (X : Ext none' W5 W) => bare_any P _ W (VP.out.ext X fun _ _ h => h)
      have CBQ := hid fun W (X : Ext none' W5 W) => bare_any Q _ W (VQ.out.ext X fun _ _ h => h)
      have hr := HRR.out
      unfold asgP at hr
      obtain ⟨s1, hs1⟩ : ∃ s, sameP 100 P Q = s := ⟨_, rfl⟩
      obtain ⟨s2, hs2⟩ : ∃ s, sameP 100 R T = s := ⟨_, rfl⟩
      obtain ⟨t1, ht1⟩ : ∃ s, bareP P = s := ⟨_, rfl⟩
      obtain ⟨t2, ht2⟩ : ∃ s, bareP Q = s := ⟨_, rfl⟩
      rw [hs1] at CPQ hr
      rw [hs2] at CRT hr
      rw [ht1] at CBP hr
      rw [ht2] at CBQ hr
      obtain ⟨pk, hpk⟩ : ∃ k, P.kind = k := ⟨_, rfl⟩
      obtain ⟨qk, hqk⟩ : ∃ k, Q.kind = k := ⟨_, rfl⟩
      rw [hpk] at hr
      rw [hqk] at hr
      have a0 := cell_at G7.out 0
      have a1 := cell_at G7.out 1
      have a2 := cell_at G7.out 2
      have b0 := cell_at G8.out 0
      have b1 := cell_at G8.out 1
      have b2 := cell_at G8.out 2
      have d0 := cell_at G9.out 0
      have d1 := cell_at G10.out 0
      have d2 := cell_at G10.out 1
      simp only [List.getElem?_toArray, List.getElem?_cons_zero, List.getElem?_cons_succ] at a0 a1 a2 b0 b1 b2 d0 d1 d2
      rw [hpk] at a0 CPQ CBP
      rw [hqk] at b0 CPQ CBQ
      have HPK := hid hpk
      have HQK := hid hqk
      clear hs1 hs2 ht1 ht2 hpk hqk hP hQ hR hT hPB hQB ha hb hds hdo HRR VP VQ VR VT
      by_cases hp0 : pk = 0
      · subst hp0
        rw [if_pos (.inl rfl)] at hr
        have HR := hid hr
        clear hr
        go_wp2_with (fail)
        go_ret
        exact ⟨by rw [HR.out]; rfl, HX5.out⟩
      · have p0 : (pk == 0) = false := by simpa using hp0
        by_cases hq0 : qk = 0
        · subst hq0
          rw [if_pos (.inr rfl)] at hr
          have HR := hid hr
          clear hr hp0
          go_wp2_with (fail)
          go_ret
          exact ⟨by rw [HR.out]; rfl, HX5.out⟩
        · have q0 : (qk == 0) = false := by simpa using hq0
          rw [if_neg (by omega)] at hr
          by_cases hp2 : pk = 2
          · subst hp2
            rw [if_pos rfl] at hr
            obtain ⟨u1, hu1⟩ : ∃ u, (T.kind == 1) = u := ⟨_, rfl⟩
            obtain ⟨u2, hu2⟩ : ∃ u, (T.name == P.name) = u := ⟨_, rfl⟩
            rw [hu1, hu2] at hr
            have HR := hid hr
            clear hr hp0 hq0
            cases u1 with
            | false =>
              go_wp2_with (fail)
              go_ret
              exact ⟨by rw [HR.out]; rfl, HX5.out⟩
            | true =>
              go_wp2_with (fail)
              go_ret
              exact ⟨by rw [HR.out]; cases u2 <;> rfl, HX5.out⟩
          · have p2 : (pk == 2) = false := by simpa using hp2
            rw [if_neg hp2] at hr
            have HR := hid hr
            clear hr hp0 hq0 hp2
            go_wp2_with (fail)
            refine (CPQ.out _ (Ext.refl _ _)).mono ?_
            rintro e W6 ⟨rfl, X6⟩
            clear a0 a1 a2 b0 b1 b2 d0 d1 d2
            have G7 := hid (X6.heap G7.out fun h => h)
            have G8 := hid (X6.heap G8.out fun h => h)
            have G9 := hid (X6.heap G9.out fun h => h)
            have G10 := hid (X6.heap G10.out fun h => h)
            have a0 := cell_at G7.out 0
            have a1 := cell_at G7.out 1
            have a2 := cell_at G7.out 2
            have b0 := cell_at G8.out 0
            have b1 := cell_at G8.out 1
            have b2 := cell_at G8.out 2
            have d0 := cell_at G9.out 0
            have d1 := cell_at G9.out 1
            have d2 := cell_at G9.out 2
            have h0 := cell_at G10.out 0
            have h1 := cell_at G10.out 1
            have h2 := cell_at G10.out 2
            simp only [List.getElem?_toArray, List.getElem?_cons_zero, List.getElem?_cons_succ] at a0 a1 a2 b0 b1 b2 d0 d1 d2 h0 h1 h2
            rw [HPK.out] at a0
            rw [HQK.out] at b0
            have X6 := hid X6
            cases s1 with
            | true =>
              go_wp2_with (fail)
              go_ret
              exact ⟨by rw [HR.out]; rfl, HX5.out.trans X6.out⟩
            | false =>
              go_wp2_with (fail)
              refine (CBP.out _ X6.out).mono ?_
              rintro e W7 ⟨rfl, X7⟩
              clear a0 a1 a2 b0 b1 b2 d0 d1 d2 h0 h1 h2
              have G7 := hid (X7.heap G7.out fun h => h)
              have G8 := hid (X7.heap G8.out fun h => h)
              have G9 := hid (X7.heap G9.out fun h => h)
              have G10 := hid (X7.heap G10.out fun h => h)
              have a0 := cell_at G7.out 0
              have a1 := cell_at G7.out 1
              have a2 := cell_at G7.out 2
              have b0 := cell_at G8.out 0
              have b1 := cell_at G8.out 1
              have b2 := cell_at G8.out 2
              have d0 := cell_at G9.out 0
              have d1 := cell_at G9.out 1
              have d2 := cell_at G9.out 2
              have h0 := cell_at G10.out 0
              have h1 := cell_at G10.out 1
              have h2 := cell_at G10.out 2
              simp only [List.getElem?_toArray, List.getElem?_cons_zero, List.getElem?_cons_succ] at a0 a1 a2 b0 b1 b2 d0 d1 d2 h0 h1 h2
              rw [HPK.out] at a0
              rw [HQK.out] at b0
              have X7 := hid (X6.out.trans X7)
              cases t1 with
              | true =>
                by_cases hr0 : R.kind = 0
                · have q9 : (R.kind != 0) = false := by simpa using hr0
                  rw [q9] at HR
                  obtain ⟨rk, hrk⟩ : ∃ k, R.kind = k := ⟨_, rfl⟩
                  rw [hrk] at d0 hr0 q9
                  subst hr0
                  clear hrk q9 CRT
                  go_wp2_with (fail)
                  go_ret
                  exact ⟨by rw [HR.out]; rfl, HX5.out.trans X7.out⟩
                · have q9 : (R.kind != 0) = true := by simpa using hr0
                  rw [q9] at HR
                  clear hr0
                  go_wp2_with (fail)
                  refine (CRT.out _ X7.out).mono ?_
                  rintro e W9 ⟨rfl, X9⟩
                  have X9 := hid (X7.out.trans X9)
                  go_wp2_with (fail)
                  go_ret
                  exact ⟨by rw [HR.out]; cases s2 <;> rfl, HX5.out.trans X9.out⟩
              | false =>
                go_wp2_with (fail)
                refine (CBQ.out _ X7.out).mono ?_
                rintro e W8 ⟨rfl, X8⟩
                clear a0 a1 a2 b0 b1 b2 d0 d1 d2 h0 h1 h2
                have G7 := hid (X8.heap G7.out fun h => h)
                have G8 := hid (X8.heap G8.out fun h => h)
                have G9 := hid (X8.heap G9.out fun h => h)
                have G10 := hid (X8.heap G10.out fun h => h)
                have a0 := cell_at G7.out 0
                have a1 := cell_at G7.out 1
                have a2 := cell_at G7.out 2
                have b0 := cell_at G8.out 0
                have b1 := cell_at G8.out 1
                have b2 := cell_at G8.out 2
                have d0 := cell_at G9.out 0
                have d1 := cell_at G9.out 1
                have d2 := cell_at G9.out 2
                have h0 := cell_at G10.out 0
                have h1 := cell_at G10.out 1
                have h2 := cell_at G10.out 2
                simp only [List.getElem?_toArray, List.getElem?_cons_zero, List.getElem?_cons_succ] at a0 a1 a2 b0 b1 b2 d0 d1 d2 h0 h1 h2
                rw [HPK.out] at a0
                rw [HQK.out] at b0
                have X8 := hid (X7.out.trans X8)
                cases t2 with
                | false =>
                  go_wp2_with (fail)
                  go_ret
                  exact ⟨by rw [HR.out]; rfl, HX5.out.trans X8.out⟩
                | true =>
                  by_cases hr0 : R.kind = 0
                  · have q9 : (R.kind != 0) = false := by simpa using hr0
                    rw [q9] at HR
                    obtain ⟨rk, hrk⟩ : ∃ k, R.kind = k := ⟨_, rfl⟩
                    rw [hrk] at d0 hr0 q9
                    subst hr0
                    clear hrk q9 CRT
                    go_wp2_with (fail)
                    go_ret
                    exact ⟨by rw [HR.out]; rfl, HX5.out.trans X8.out⟩
                  · have q9 : (R.kind != 0) = true := by simpa using hr0
                    rw [q9] at HR
                    clear hr0
                    go_wp2_with (fail)
                    refine (CRT.out _ X8.out).mono ?_
                    rintro e W9 ⟨rfl, X9⟩
                    have X9 := hid (X8.out.trans X9)
                    go_wp2_with (fail)
                    go_ret
                    exact ⟨by rw [HR.out]; cases s2 <;> rfl, HX5.out.trans X9.out⟩
end Go.Proofs.YtbhpmmofgdppdaaGreatDoor
