import Derived.Test.YtbhpmmofgdppdaaGreatDoorZAh
import Derived.Deep.Cut
import Derived.Test.YtbhpmmofgdppdaaGreatDoorZAf
namespace Go.Proofs.YtbhpmmofgdppdaaGreatDoor
open Go.RowKit Go.Lib Go.BigFrame
theorem enter_full1 : ∀ args w, (callFunc 62 args).run Tryz.prog w = .ok (.enter 62 args) w := Go.Proofs.enters_of Tryz.func62 (by kernel_rfl) rfl
/-- What the writer of aliases stands on. -/
structure FullIn (ds : List Df) (sb : Nat) (dv : Value) (A : Nat → Prop) (w : World) (s : Int) : Prop where
  wb : w.heap[sb]? = some (.cells #[dv, .int .i64 s] 64 (0, 0))
  dsl : IsSl 6 IsDf A w dv ds
  asb : A sb
  alt : ∀ b, A b → b < w.heap.size
def FullPost (sb : Nat) (dv : Value) (A : Nat → Prop) (w : World) (r : Ty × Int) (e : Ending) (w' : World) : Prop :=
  ∃ u, e = .returned u ∧ TyV A w' r.1 u ∧ Ext (one sb) w w' ∧ w'.heap[sb]? = some (.cells #[dv, .int .i64 r.2] 64 (0, 0))
structure DefsFit (ds : List Df) : Prop where
  ok : DefsOk ds
  len : ds.length ≤ 1000000000
  pars : ∀ d ∈ ds, d.params.length ≤ 1000000000
/-- What stands in the frame's blocks. -/
structure Fl (sb B : Nat) (dv : Value) (s k : Int) (n : List UInt8) (tv : Value) (m : Nat) (y0 y1 y2 : Value) (W : World) : Prop where
  s : W.heap[sb]? = some (.cells #[dv, .int .i64 s] 64 (0, 0))
  b0 : W.heap[B]? = some (.cells #[.pointer (some ⟨sb, 0, none⟩)] 62 (0, 0))
  b1 : W.heap[B + 1]? = some (.cells #[.int .i64 k, .string ⟨n.toArray⟩, tv] 32 (0, 0))
  b2 : W.heap[B + 1 + 1]? = some (.cells #[.int .i64 (m : Nat)] 3 (0, 0))
  b3 : W.heap[B + 1 + 1 + 1]? = some (.cells #[y0, y1, y2] 32 (0, 0))
theorem Fl.ext {F : Nat → Prop} {sb B : Nat} {dv : Value} {s k : Int} {n : List UInt8} {tv : Value} {m : Nat} {y0 y1 y2 : Value} {W W' : World} (h : Fl sb B dv s k n tv m y0 y1 y2 W) (x : Ext F W W') (h0 : ¬ F sb) (h1 : ∀ i, B ≤ i → i ≤ B + 3 → ¬ F i) : Fl sb B dv s k n tv m y0 y1 y2 W' :=
  ⟨x.heap h.s h0, x.heap h.b0 (h1 _ (by omega) (by omega)), x.heap h.b1 (h1 _ (by omega) (by omega)), x.heap h.b2 (h1 _ (by omega) (by omega)), x.heap h.b3 (h1 _ (by omega) (by omega))⟩
theorem Fl.ext1 {sb B : Nat} {dv : Value} {s s' k : Int} {n : List UInt8} {tv : Value} {m : Nat} {y0 y1 y2 : Value} {W W' : World} (h : Fl sb B dv s k n tv m y0 y1 y2 W) (x : Ext (one sb) W W') (hs : sb < B) (hw : W'.heap[sb]? = some (.cells #[dv, .int .i64 s'] 64 (0, 0))) : Fl sb B dv s' k n tv m y0 y1 y2 W' :=
  ⟨hw, x.heap h.b0 (by unfold one; omega), x.heap h.b1 (by unfold one; omega), x.heap h.b2 (by unfold one; omega), x.heap h.b3 (by unfold one; omega)⟩
theorem Fl.cells {sb B : Nat} {dv : Value} {s k : Int} {n : List UInt8} {tv : Value} {m : Nat} {y0 y1 y2 : Value} {W : World} (h : Fl sb B dv s k n tv m y0 y1 y2 W) :
    W.cell? ⟨sb, 0, none⟩ = some dv ∧ W.cell? ⟨sb, 1, none⟩ = some (.int .i64 s) ∧ W.cell? ⟨B, 0, none⟩ = some (.pointer (some ⟨sb, 0, none⟩)) ∧ W.cell? ⟨B + 1, 0, none⟩ = some (.int .i64 k) ∧ W.cell? ⟨B + 1, 1, none⟩ = some (.string ⟨n.toArray⟩) ∧
    W.cell? ⟨B + 1, 2, none⟩ = some tv ∧ W.cell? ⟨B + 1 + 1, 0, none⟩ = some (.int .i64 (m : Nat)) ∧ W.cell? ⟨B + 1 + 1 + 1, 0, none⟩ = some y0 ∧ W.cell? ⟨B + 1 + 1 + 1, 1, none⟩ = some y1 ∧ W.cell? ⟨B + 1 + 1 + 1, 2, none⟩ = some y2 := by
  refine ⟨?_, ?_, ?_, ?_, ?_, ?_, ?_, ?_, ?_, ?_⟩
  · rw [cell_at h.s]; rfl
  · rw [cell_at h.s]; rfl
  · rw [cell_at h.b0]; rfl
  · rw [cell_at h.b1]; rfl
  · rw [cell_at h.b1]; rfl
  · rw [cell_at h.b1]; rfl
  · rw [cell_at h.b2]; rfl
  · rw [cell_at h.b3]; rfl
  · rw [cell_at h.b3]; rfl
  · rw [cell_at h.b3]; rfl
def FullAt (ds : List Df) (m : Nat) (t : Ty) : Prop := ∀ (A : Nat → Prop) (v : Value) (w : World) (sb : Nat) (dv : Value) (s : Int), t.size ≤ bigD ∨ s ≤ 0 → FullIn ds sb dv A w s → TyV A w t v → s ≤ 20000 → -10000000000000 ≤ s →
  Calls Tryz.prog 32 #[.pointer (some ⟨sb, 0, none⟩), v, .int .i64 (m : Nat)] w (FullPost sb dv A w (fullN ds m t s))
theorem FullIn.ext {ds : List Df} {sb : Nat} {dv : Value} {A D : Nat → Prop} {w w' : World} {s s' : Int} (h : FullIn ds sb dv A w s) (x : Ext (one sb) w w') (hw : w'.heap[sb]? = some (.cells #[dv, .int .i64 s'] 64 (0, 0))) (up : ∀ b, A b → D b) (lt : ∀ b, D b → b < w'.heap.size) (dn : ∀ b, b < w.heap.size → D b → A b) : FullIn ds sb dv D w' s' :=
  ⟨hw, (h.dsl.mono isDf_good dn).ext isDf_good x fun b _ q => by have q' : b = sb := q; rw [q']; exact up _ h.asb, up _ h.asb, lt⟩
set_option maxRecDepth 100000 in
set_option maxHeartbeats 1600000 in
theorem full1_any (ds : List Df) (m : Nat) (t : Ty) (H : FullAt ds m t) (A : Nat → Prop) (v : Value) (w : World) (sb b0 b2 : Nat) (dv : Value) (s : Int) (hsz : t.size ≤ bigD ∨ s ≤ 0) (hin : FullIn ds sb dv A w s) (hv : TyV A w t v) (hs : s ≤ 20000) (hs2 : -10000000000000 ≤ s)
    (h0 : w.heap[b0]? = some (.cells #[.pointer (some ⟨sb, 0, none⟩)] 62 (0, 0))) (h2 : w.heap[b2]? = some (.cells #[.int .i64 (m : Nat)] 3 (0, 0))) :
    Calls Tryz.prog 62 #[v, .pointer (some ⟨b0, 0, none⟩), .pointer (some ⟨b2, 0, none⟩)] w (FullPost sb dv A w (fullN ds m t s)) := by
  obtain ⟨r, hr⟩ : ∃ r, r = fullN ds m t s := ⟨_, rfl⟩
  have HH := hid H
  have HIN := hid hin
  obtain ⟨x, rfl, hx⟩ := hv
  have HX := hid hx
  obtain ⟨a0, cap0, rfl, _⟩ := hx
  obtain ⟨tk, htk⟩ : ∃ tk, t.kind = tk := ⟨_, rfl⟩
  obtain ⟨tn, htn⟩ : ∃ tn, t.name = tn := ⟨_, rfl⟩
  obtain ⟨tl, htl⟩ : ∃ tl, t.args.length = tl := ⟨_, rfl⟩
  have C0 : Hid (∀ (D : Nat → Prop) (w' : World), Ext none' w w' → (∀ b, A b → D b) → (∀ b, D b → b < w'.heap.size) → (∀ b, b < w.heap.size → D b → A b) → Calls Tryz.prog 32 #[.pointer (some ⟨sb, 0, none⟩), .agg #[.int .i64 tk, .string ⟨tn.toArray⟩, .slice a0 tl cap0], .int .i64 (m : Nat)] w' (FullPost sb dv D w' r)) := hid fun D w' x' up lt dn => by
    have := HH.out D (.agg #[.int .i64 t.kind, .string ⟨t.name.toArray⟩, .slice a0 t.args.length cap0]) w' sb dv s hsz (HIN.out.ext (x'.mono fun _ _ h => h.elim) (x'.heap HIN.out.wb (fun h => h)) up lt dn) ⟨_, rfl, (HX.out.mono isTy_good dn).ext isTy_good x' fun _ _ h => h.elim⟩ hs hs2
    rw [htk, htn, htl, ← hr] at this
    exact this
  rw [← hr]
  rw [htk, htn, htl]
  have l0 := heap_lt h0
  have l2 := heap_lt h2
  have c1 := cell_at (heap_alloc_keep (heap_alloc_keep h0 (.cells #[.int .i64 tk, .string ⟨tn.toArray⟩, .slice a0 tl cap0] 32)) (.cells #[.int .i64 0, .string ⟨#[]⟩, .slice none 0 0] 32)) 0
  have c2 := cell_at (heap_alloc_keep (heap_alloc_keep h2 (.cells #[.int .i64 tk, .string ⟨tn.toArray⟩, .slice a0 tl cap0] 32)) (.cells #[.int .i64 0, .string ⟨#[]⟩, .slice none 0 0] 32)) 0
  simp only [List.getElem?_toArray, List.getElem?_cons_zero] at c1 c2
  clear H htk htn htl h0 h2 hin hr
  go_enter Tryz.func62, Tryz.ntmps62
  go_wp2_with fail
  obtain ⟨B, hB⟩ : ∃ B, B = w.heap.size := ⟨_, rfl⟩
  obtain ⟨W0, hW0⟩ : ∃ W0, W0 = (w.alloc (.cells #[.int .i64 tk, .string ⟨tn.toArray⟩, .slice a0 tl cap0] 32)).alloc (.cells #[.int .i64 0, .string ⟨#[]⟩, .slice none 0 0] 32) := ⟨_, rfl⟩
  rw [← hW0, ← hB]
  have X0 : Ext none' w W0 := by rw [hW0]; exact ((Ext.refl _ _).alloc _).alloc _
  have g1 : W0.heap[B + 1]? = some (.cells #[.int .i64 0, .string ⟨#[]⟩, .slice none 0 0] 32 (0, 0)) := by
    rw [hW0]; exact heap_alloc_at (by rw [hB]; simp) _
  have hz : W0.heap.size = B + 2 := by rw [hW0, hB]; simp
  have hsbw := heap_lt HIN.out.wb
  refine (C0.out (and1 A (B + 1)) W0 X0 and1.up (and1.lt HIN.out.alt X0.size (by omega)) (and1.down (by omega))).mono ?_
  rintro e W1 ⟨u, rfl, ⟨y, rfl, hy⟩, X1, hw1⟩
  have g1 := X1.heap g1 (by unfold one; omega)
  have f0 := free_at g1 0
  have f1 := free_at g1 1
  have f2 := free_at g1 2
  have e0 := cell_at g1 0
  have e1 := cell_at g1 1
  have e2 := cell_at g1 2
  simp only [List.getElem?_toArray, List.getElem?_cons_zero, List.getElem?_cons_succ] at e0 e1 e2
  have HY := hid hy
  obtain ⟨a3, cap3, rfl, _⟩ := hy
  have G1 := hid g1
  have X1 := hid ((X0.mono (fun _ _ h => h.elim) : Ext (one sb) w W0).trans X1)
  have HB0 := hid hB
  have HW1 := hid hw1
  have hsb1 : Hid (sb < B + 1) := hid (by omega)
  clear g1 hW0 hB X0 c1 c2 hw1
  go_wp2_with fail
  refine ret_ty rfl rfl (set3 G1.out _ _ _) rfl ?_
  refine ⟨_, rfl, TyV.stored HY.out _ _ _, X1.out.set3 (b := B + 1) (.inr (by rw [HB0.out]; omega)) _ _ _, ?_⟩
  have := hsb1.out
  exact heap_setCell_other (heap_setCell_other (heap_setCell_other HW1.out (by simp only; omega) _) (by simp only; omega) _) (by simp only; omega) _
set_option maxRecDepth 100000 in
set_option maxHeartbeats 3200000 in
theorem full_step (ds : List Df) (hds : DefsFit ds) (m : Nat) (hm : m ≤ 100) (ihm : ∀ m', m = m' + 1 → ∀ t, FullAt ds m' t) (k : Int) (n : List UInt8) (l : List Ty) (ih : ∀ t ∈ l, FullAt ds m t) : FullAt ds m (.mk k n l) := by
  intro A v w sb dv s hsize hin hv hs hs2
  obtain ⟨r, hr⟩ : ∃ r, r = fullN ds m (.mk k n l) s := ⟨_, rfl⟩
  rw [← hr]
  rw [fullN_eq, fullT] at hr
  have OK := hid (step_ok hds.ok m)
  have HR := hid hr
  have HIH := hid ih
  have HIM := hid ihm
  obtain ⟨x, rfl, hx⟩ := hv
  have hx : IsSl 3 IsTy A w x l := hx
  have HX := hid hx
  obtain ⟨a0, cap0, rfl, _⟩ := hx
  have hdv := hin.dsl
  obtain ⟨ad, capd, rfl, _⟩ := hdv
  have HIN := hid hin
  have hsb := heap_lt hin.wb
  have wb0 := heap_alloc_keep (heap_alloc_keep (heap_alloc_keep (heap_alloc_keep hin.wb (.cells #[.pointer (some ⟨sb, 0, none⟩)] 62)) (.cells #[.int .i64 k, .string ⟨n.toArray⟩, .slice a0 l.length cap0] 32)) (.cells #[.int .i64 (m : Nat)] 3)) (.cells #[.int .i64 0, .string ⟨#[]⟩, .slice none 0 0] 32)
  have z0 := cell_at wb0 0
  have z1 := cell_at wb0 1
  have zf := free_at wb0 1
  simp only [List.getElem?_toArray, List.getElem?_cons_zero, List.getElem?_cons_succ] at z0 z1
  have WB := hid wb0
  clear hr ih ihm wb0 hin
  show Calls Tryz.prog 32 #[.pointer (some ⟨sb, 0, none⟩), .agg #[.int .i64 k, .string ⟨n.toArray⟩, .slice a0 l.length cap0], .int .i64 (m : Nat)] w (FullPost sb (.slice ad ds.length capd) A w r)
  go_enter Tryz.func32, Tryz.ntmps32
  go_upto_region 2 with (fail)
  obtain ⟨B, hB⟩ : ∃ B, B = w.heap.size := ⟨_, rfl⟩
  obtain ⟨W1, hW1⟩ : ∃ W1, W1 = ((((w.alloc (.cells #[.pointer (some ⟨sb, 0, none⟩)] 62)).alloc (.cells #[.int .i64 k, .string ⟨n.toArray⟩, .slice a0 l.length cap0] 32)).alloc (.cells #[.int .i64 (m : Nat)] 3)).alloc (.cells #[.int .i64 0, .string ⟨#[]⟩, .slice none 0 0] 32)).setCell ⟨sb, 1, none⟩ (.int .i64 (s - 1)) := ⟨_, rfl⟩
  rw [← hW1, ← hB]
  have hsB : sb < B := by omega
  have FL1 : Fl sb B (.slice ad ds.length capd) (s - 1) k n (.slice a0 l.length cap0) m (.int .i64 0) (.string ⟨#[]⟩) (.slice none 0 0) W1 := by
    rw [hW1]
    refine ⟨?_, ?_, ?_, ?_, ?_⟩
    · exact heap_setCell_same WB.out 1 _
    · exact heap_setCell_other (heap_alloc_keep (heap_alloc_keep (heap_alloc_keep (heap_alloc_at hB _) _) _) _) (by simp only; omega) _
    · exact heap_setCell_other (heap_alloc_keep (heap_alloc_keep (heap_alloc_at (by rw [hB]; simp) _) _) _) (by simp only; omega) _
    · exact heap_setCell_other (heap_alloc_keep (heap_alloc_at (by rw [hB]; simp) _) _) (by simp only; omega) _
    · exact heap_setCell_other (heap_alloc_at (by rw [hB]; simp) _) (by simp only; omega) _
  have X1 : Ext (one sb) w W1 := by rw [hW1]; exact (((((Ext.refl _ _).alloc _).alloc _).alloc _).alloc _).set 1 _
  have hz : W1.heap.size = B + 4 := by rw [hW1, size_setCell, hB]; simp
  have HB := hid hB
  obtain ⟨c0, c1, c2, c3, c4, c5, c6, c7, c8, c9⟩ := FL1.cells
  have f0 := free_at FL1.b3 0
  have f1 := free_at FL1.b3 1
  have f2 := free_at FL1.b3 2
  have X1 := hid X1
  have FL := hid FL1
  clear z0 z1 zf WB hW1 hB hsb FL1
  by_cases hneg : s - 1 < 0
  · have e : Hid (r = (Ty.zero, s - 1)) := hid (by rw [HR.out, if_pos hneg])
    go_wp2_with fail
    refine ret_ty rfl rfl (set3 FL.out.b3 _ _ _) rfl ?_
    rw [e.out]
    refine ⟨_, rfl, ⟨.slice none 0 0, rfl, IsSl.nil _ _ _ _⟩, X1.out.set3 (b := B + 1 + 1 + 1) (.inr (by have := HB.out; omega)) _ _ _, ?_⟩
    exact heap_setCell_other (heap_setCell_other (heap_setCell_other FL.out.s (by simp only; omega) _) (by simp only; omega) _) (by simp only; omega) _
  · have e : Hid (r = aliasP ds (recN ds m) k n (fullL ds (recN ds m) l (s - 1))) := hid (by rw [HR.out, if_neg hneg])
    clear HR c0 c1 c2 c3 c4 c5 c6 c7 c8 c9 f0 f1 f2
    have cc := FL.out.cells
    obtain ⟨c0, c1, c2, c3, c4, c5, c6, c7, c8, c9⟩ := cc
    have hmf : ∀ (fn : Fn) (first cap : Array Value) (w : World), (Instr.makeFunc fn first cap).run Tryz.prog w = .ok (.func fn first cap) w := fun _ _ _ _ => rfl
    have hsl : Ty.sizeL l ≤ bigD := by rw [Ty.size] at hsize; omega
    have OKT : StepOk m (fullT ds (recN ds m)) := by have := OK.out; rw [fullN_eq] at this; exact this
    have TC : Hid (∀ (D : Nat → Prop) (W : World), Ext (one sb) w W → Fl sb B (.slice ad ds.length capd) (s - 1) k n (.slice a0 l.length cap0) m (.int .i64 0) (.string ⟨#[]⟩) (.slice none 0 0) W → (∀ b, A b → D b) → (∀ b, D b → b < W.heap.size) → (∀ b, b < w.heap.size → D b → A b) →
        Calls Tryz.prog 36 #[.slice a0 l.length cap0, .func (.func 62) #[] #[.pointer (some ⟨B, 0, none⟩), .pointer (some ⟨B + 1 + 1, 0, none⟩)]] W
          (SlPost (one sb) D W (fullL ds (recN ds m) l (s - 1)).1 (fun w' => w'.heap[sb]? = some (.cells #[.slice ad ds.length capd, .int .i64 (fullL ds (recN ds m) l (s - 1)).2] 64 (0, 0))))) := hid fun D W X FW up lt dn => by
      have hDs : D sb := up _ HIN.out.asb
      have key := turned_any 62 #[.pointer (some ⟨B, 0, none⟩), .pointer (some ⟨B + 1 + 1, 0, none⟩)] (one sb) D l (fullL ds (recN ds m) l (s - 1)).1
        (fun i w' => w'.heap[sb]? = some (.cells #[.slice ad ds.length capd, .int .i64 (stepsAt ds (recN ds m) l (s - 1) i)] 64 (0, 0))) (.slice a0 l.length cap0) W (fullL_len _ _ _ _) (by have := Ty.sizeL_len l; unfold bigD at hsl; omega)
        (fun b h => by have h' : b = sb := h; rw [h']; exact hDs) lt ((HX.out.mono isTy_good dn).ext isTy_good X fun b _ h => by have h' : b = sb := h; rw [h']; exact hDs) (by rw [stepsAt_zero]; exact FW.s) (fun i w1 w2 h x' => x'.heap h (fun q => q hDs))
        (fun i hi hi' D' w' v' x1 x2 x3 x4 hv' hS => by
          have b1 := steps_low OKT l (s - 1) i (by omega) hsl
          have hb0 : (m : Int) * (bigD : Int) ≤ 100 * (bigD : Int) := Int.mul_le_mul_of_nonneg_right (by omega) (by unfold bigD; omega)
          have hb1 : (Ty.sizeL l : Int) ≤ (bigD : Int) := by omega
          have hb2 : (bigD : Int) = 20000000000 := rfl
          have hmem := List.getElem_mem hi
          have := full1_any ds m l[i] (HIH.out _ hmem) D' v' w' sb B (B + 1 + 1) (.slice ad ds.length capd) (stepsAt ds (recN ds m) l (s - 1) i) (.inl (by have := Ty.sizeL_mem hmem; omega))
            (HIN.out.ext (X.trans x1) hS (fun b h => x2 b (up b h)) x3 fun b hb h => dn b hb (x4 b (Nat.lt_of_lt_of_le hb X.size) h)) hv' (by omega) (by omega) (x1.heap FW.b0 (by unfold one; omega)) (x1.heap FW.b2 (by unfold one; omega))
          refine this.mono fun e w2 h => ?_
          obtain ⟨u, rfl, h1, h2, h3⟩ := h
          rw [fullN_eq] at h1 h3
          refine ⟨u, rfl, ?_, h2, ?_⟩
          · rw [fullL_at ds (recN ds m) l (s - 1) i hi hi']; exact h1
          · show w2.heap[sb]? = some (.cells #[.slice ad ds.length capd, .int .i64 (stepsAt ds (recN ds m) l (s - 1) (i + 1))] 64 (0, 0))
            rw [stepsAt_succ ds (recN ds m) l (s - 1) i hi]; exact h3) enter_full1
      rw [stepsAt_end] at key
      exact key
    go_upto_region 4 with (fail)
    refine region_tree (one sb) W1 [0, 1, 2, 3, 4, 5, 6] (.two 7 true (.two 8 false (.one 9 true (.one 10 false .fin)) 9 true (.one 8 false (.one 10 false .fin))) 9 true (.one 7 true (.one 8 false (.one 10 false .fin)))) (by kernel_rfl) (by kernel_rfl) (fun dst v c a w h => by cases dst <;> exact h) (Ext.refl _ _) ?_
    have d0 := fun t : LaterF (one sb) W1 => cell_at (t.x.heap FL.out.b1 (by unfold one; omega)) 0
    have d1 := fun t : LaterF (one sb) W1 => cell_at (t.x.heap FL.out.b1 (by unfold one; omega)) 1
    have d2 := fun t : LaterF (one sb) W1 => cell_at (t.x.heap FL.out.b1 (by unfold one; omega)) 2
    simp only [List.getElem?_toArray, List.getElem?_cons_zero, List.getElem?_cons_succ] at d0 d1 d2
    simp only [sel, List.getElem?_cons_succ, List.getElem?_cons_zero]
    repeat (go_big_quiet_step (fail))
    refine wpQuiet_nil ?_
    simp only [wpTree, stepT, sel, List.getElem?_cons_succ, List.getElem?_cons_zero]
    clear d0 d1 d2 c0 c1 c2 c3 c4 c5 c6 c7 c8 c9
    have hAlt := HIN.out.alt
    obtain ⟨ls, s1, hls⟩ : ∃ ls s1, fullL ds (recN ds m) l (s - 1) = (ls, s1) := ⟨_, _, rfl⟩
    rw [hls] at e TC
    have HLS := hid hls
    clear hls
    refine ⟨?_, ?_⟩
    · go_wp2_with fail
      refine (TC.out (and1 A (B + 1 + 1 + 1)) W1.drew X1.out.drew (FL.out.ext (F := none') ((Ext.refl _ _).drew) (fun h => h) (fun _ _ _ h => h)) and1.up (and1.lt hAlt X1.out.size (by show _ < W1.heap.size; omega)) (and1.down (by have := HB.out; omega))).mono ?_
      rintro e' W2 ⟨u, rfl, hu, X2, hw2⟩
      have hu2 := hu
      obtain ⟨a3, cap3, rfl, _⟩ := hu2
      have X2 : Ext (one sb) W1 W2 := (Ext.refl _ W1).drew.trans X2
      have FL2 := hid (FL.out.ext1 X2 hsB hw2)
      have hzz := X2.size
      have HZ2 := hid hzz
      have X2 := hid X2
      have HU := hid hu
      clear hu hw2 hzz
      go_wp2_with fail
      refine ⟨In.of X2.out, ?_, ?_⟩
      · go_wp2_with fail
        refine ⟨In.of (X2.out.alloc _), ?_⟩
        go_upto_region 5 with (fail)
        obtain ⟨O, hO⟩ : ∃ O, O = W2.heap.size := ⟨_, rfl⟩
        obtain ⟨W3, hW3⟩ : ∃ W, W = W2.alloc (.cells #[.int .i64 k, .string ⟨n.toArray⟩, .slice a3 ls.length cap3] 32) := ⟨_, rfl⟩
        rw [← hW3, ← hO]
        have FL3 : Hid (Fl sb B (.slice ad ds.length capd) s1 k n (.slice a0 l.length cap0) m (.int .i64 0) (.string ⟨#[]⟩) (.slice none 0 0) W3) := hid (by rw [hW3]; exact FL2.out.ext (F := none') ((Ext.refl _ _).alloc _) (fun h => h) (fun _ _ _ h => h))
        have GO : Hid (W3.heap[O]? = some (.cells #[.int .i64 k, .string ⟨n.toArray⟩, .slice a3 ls.length cap3] 32 (0, 0))) := hid (by rw [hW3]; exact heap_alloc_at hO _)
        have X3 : Hid (Ext (one sb) w W3) := hid (by rw [hW3]; exact (X1.out.trans X2.out).alloc _)
        have HU3 : Hid (IsSl 3 IsTy (and1 A (B + 1 + 1 + 1)) W3 (.slice a3 ls.length cap3) ls) := hid (by rw [hW3]; exact HU.out.ext isTy_good ((Ext.refl none' _).alloc _) fun _ _ h => h.elim)
        have hOB : Hid (B + 4 ≤ O ∧ O < W3.heap.size) := hid (by have := HZ2.out; have := heap_lt GO.out; omega)
        clear hW3 hO X2 FL2 HU
        have cc := FL3.out.cells
        obtain ⟨c0, c1, c2, c3, c4, c5, c6, c7, c8, c9⟩ := cc
        have f0 := free_at FL3.out.b3 0
        have f1 := free_at FL3.out.b3 1
        have f2 := free_at FL3.out.b3 2
        have o0 := cell_at GO.out 0
        have o1 := cell_at GO.out 1
        have o2 := cell_at GO.out 2
        simp only [List.getElem?_toArray, List.getElem?_cons_zero, List.getElem?_cons_succ] at o0 o1 o2
        by_cases hk : k = 3
        · subst hk
          have hk1 : ((3 : Int) != 3) = false := by decide
          have hDs : and1 A (B + 1 + 1 + 1) sb := .inl HIN.out.asb
          have HD3 := hid (((HIN.out.dsl.mono (B := and1 A (B + 1 + 1 + 1)) isDf_good (and1.down (by have := HB.out; omega))).ext isDf_good X3.out fun b _ h => by have h' : b = sb := h; rw [h']; exact hDs))
          have CI := hid (idef_any 64 #[.pointer (some ⟨B + 1, 0, none⟩)] (fun d => d.name == n) (and1 A (B + 1 + 1 + 1)) ds (.slice ad ds.length capd) W3 hds.len HD3.out (fun i hi w' u x hu => fname_any ds[i] n _ u (B + 1) _ _ w' hu (x.heap FL3.out.b1 (fun h => h))) enter_fname)
          have hzc := fstI_cases (fun d : Df => d.name == n) ds
          have hzn := hid fun h => defAt_none (ds := ds) (n := n) h
          have hza := hid fun (i : Nat) (hi : i < ds.length) h => defAt_at (ds := ds) (n := n) (i := i) hi h
          obtain ⟨z, hz⟩ : ∃ z, fstI (fun d : Df => d.name == n) ds = z := ⟨_, rfl⟩
          rw [hz] at CI hzc hzn hza
          clear hz
          go_wp2_with fail
          refine CI.out.mono ?_
          rintro e' W4 ⟨rfl, Y4⟩
          clear c0 c1 c2 c3 c4 c5 c6 c7 c8 c9 f0 f1 f2 o0 o1 o2
          have FL4 := hid (FL3.out.ext Y4 (fun h => h) (fun _ _ _ h => h))
          have GO4 := hid (Y4.heap GO.out (fun h => h))
          have X4 := hid (X3.out.trans (Y4.mono fun _ _ h => h.elim))
          have HU4 := hid (HU3.out.ext isTy_good Y4 fun _ _ h => h.elim)
          have HD4 := hid (HD3.out.ext isDf_good Y4 fun _ _ h => h.elim)
          have hsz4 := hid Y4.size
          clear Y4
          have cc := FL4.out.cells
          obtain ⟨c0, c1, c2, c3, c4, c5, c6, c7, c8, c9⟩ := cc
          have f0 := free_at FL4.out.b3 0
          have f1 := free_at FL4.out.b3 1
          have f2 := free_at FL4.out.b3 2
          have fs := free_at FL4.out.s 1
          have o0 := cell_at GO4.out 0
          have o1 := cell_at GO4.out 1
          have o2 := cell_at GO4.out 2
          simp only [List.getElem?_toArray, List.getElem?_cons_zero, List.getElem?_cons_succ] at o0 o1 o2
          rcases hzc with ⟨rfl, _⟩ | ⟨i, hi, rfl, _⟩
          · have e2 : Hid (r = (.mk 3 n ls, s1)) := hid (by rw [e.out]; unfold aliasP; rw [if_neg (by decide), hzn.out rfl])
            go_wp2_with fail
            refine ret_ty rfl rfl (set3 FL4.out.b3 _ _ _) rfl ?_
            rw [e2.out]
            refine ⟨_, rfl, TyV.stored (t := .mk 3 n ls) HU4.out _ _ _, X4.out.set3 (b := B + 1 + 1 + 1) (.inr (by have := HB.out; omega)) _ _ _, ?_⟩
            exact heap_setCell_other (heap_setCell_other (heap_setCell_other FL4.out.s (by simp only; omega) _) (by simp only; omega) _) (by simp only; omega) _
          · have hda := hid (hza.out i hi rfl)
            obtain ⟨b, off, cs, rfl, hAb, hbw, hcc, hdf⟩ := HD4.out.at i hi
            obtain ⟨pv, tv, rfl, hpv, htv⟩ := hdf
            have y0 := hcc 0 _ rfl
            have y1 := hcc 1 _ rfl
            have y2 := hcc 2 _ rfl
            have y3 := hcc 3 _ rfl
            have y4 := hcc 4 _ rfl
            have y5 := hcc 5 _ rfl
            simp only [Nat.add_zero] at y0
            have hmem := List.getElem_mem hi
            obtain ⟨d, hd⟩ : ∃ d, ds[i] = d := ⟨_, rfl⟩
            rw [hd] at y0 y2 y3 y5 hpv htv hmem
            simp only [hd] at hda
            obtain ⟨dn, dp, dt, da⟩ := d
            simp only at y0 y1 y2 y3 y4 y5 hpv htv
            have HPV := hid hpv
            have HTV := hid htv
            obtain ⟨a1, cap1, rfl, _⟩ := hpv
            obtain ⟨a2, cap2, rfl, _⟩ := htv
            have hdty := hid (hds.ok _ hmem)
            have hdps := hid (hds.pars _ hmem)
            clear hcc hzn hza hmem hd
            have q1 : decide ((i : Int) < 0) = false := by simp
            cases da with
            | false =>
              have e2 : Hid (r = (.mk 3 n ls, s1)) := hid (by rw [e.out]; unfold aliasP; rw [if_neg (by decide), hda.out]; try rfl)
              go_wp2_with fail
              refine ret_ty rfl rfl (set3 FL4.out.b3 _ _ _) rfl ?_
              rw [e2.out]
              refine ⟨_, rfl, TyV.stored (t := .mk 3 n ls) HU4.out _ _ _, X4.out.set3 (b := B + 1 + 1 + 1) (.inr (by have := HB.out; omega)) _ _ _, ?_⟩
              exact heap_setCell_other (heap_setCell_other (heap_setCell_other FL4.out.s (by simp only; omega) _) (by simp only; omega) _) (by simp only; omega) _
            | true =>
              have e2 : Hid (r = match recN ds m with
                | none => (Ty.zero, 0)
                | some f => if dp.length ≠ ls.length then (Ty.zero, 0) else f (withT dp ls dt) s1) := hid (by rw [e.out]; unfold aliasP; rw [if_neg (by decide), hda.out]; try rfl)
              go_upto_region 10 with (fail)
              have r0 := fun t : LaterF none' W4 => cell_at (t.x.heap FL4.out.b0 (fun h => h)) 0
              have r1 := fun t : LaterF none' W4 => cell_at (t.x.heap FL4.out.s (fun h => h)) 0
              have r2 := fun t : LaterF none' W4 => cell_at (t.x.heap FL4.out.b2 (fun h => h)) 0
              have r3 := fun t : LaterF none' W4 => cell_at (t.x.heap GO4.out (fun h => h)) 2
              have r4 := fun t : LaterF none' W4 => (t.x.cell (p := ⟨b, off + i * 6 + 1, none⟩) hbw (fun h => h)).trans y1
              have r5 := fun t : LaterF none' W4 => (t.x.cell (p := ⟨b, off + i * 6 + 2, none⟩) hbw (fun h => h)).trans y2
              have r6 := fun t : LaterF none' W4 => (t.x.cell (p := ⟨b, off + i * 6 + 3, none⟩) hbw (fun h => h)).trans y3
              have r7 := fun t : LaterF none' W4 => (t.x.cell (p := ⟨b, off + i * 6 + 4, none⟩) hbw (fun h => h)).trans y4
              simp only [List.getElem?_toArray, List.getElem?_cons_zero, List.getElem?_cons_succ] at r0 r1 r2 r3
              refine region_tree none' W4 [0, 1, 2, 3, 4, 5, 6, 7, 8, 9, 10, 11, 12, 13, 14, 15, 16, 17] .fin (by kernel_rfl) (by kernel_rfl) (fun dst v c a w h => by cases dst <;> exact h) (Ext.refl _ _) ?_
              simp only [sel, List.getElem?_cons_succ, List.getElem?_cons_zero]
              by_cases hc : m = 0 ∨ dp.length ≠ ls.length
              · have e3 : Hid (r = (Ty.zero, 0)) := hid (by
                  rw [e2.out]
                  cases m with
                  | zero => rfl
                  | succ m' => show (if dp.length ≠ ls.length then (Ty.zero, 0) else fullN ds m' (withT dp ls dt) s1) = _; rw [if_pos (hc.resolve_left (by omega))])
                have hcc : (((m : Int) == 0) = true) ∨ (((m : Int) == 0) = false ∧ ((dp.length : Int) != (ls.length : Int)) = true) := by
                  by_cases h : m = 0
                  · left; simp [h]
                  · right; exact ⟨by simp [h], by have := hc.resolve_left h; simp; omega⟩
                clear hc
                rcases hcc with h1 | ⟨h1, h2⟩
                all_goals
                  repeat (go_big_quiet_step (fail))
                  refine wpQuiet_nil ?_
                  simp only [wpTree]
                  clear r0 r1 r2 r3 r4 r5 r6 r7
                  go_upto_region 12 with (fail)
                  obtain ⟨W5, hW5⟩ : ∃ W, W = (W4.setCell ⟨sb, 1, none⟩ (.int .i64 0)).drew := ⟨_, rfl⟩
                  rw [← hW5]
                  have FL5 : Fl sb B (.slice (some ⟨b, off, none⟩) ds.length capd) 0 3 n (.slice a0 l.length cap0) m (.int .i64 0) (.string ⟨#[]⟩) (.slice none 0 0) W5 := by
                    rw [hW5]
                    exact FL4.out.ext1 ((Ext.refl (one sb) _).set 1 _).drew hsB (heap_setCell_same FL4.out.s 1 _)
                  have X5 : Hid (Ext (one sb) w W5) := hid (by rw [hW5]; exact (X4.out.set 1 _).drew)
                  have FL5 := hid FL5
                  clear c0 c1 c2 c3 c4 c5 c6 c7 c8 c9 f0 f1 f2 fs o0 o1 o2 hW5 y0 y1 y2 y3 y4 y5
                  have cc := FL5.out.cells
                  obtain ⟨c0, c1, c2, c3, c4, c5, c6, c7, c8, c9⟩ := cc
                  have f0 := free_at FL5.out.b3 0
                  have f1 := free_at FL5.out.b3 1
                  have f2 := free_at FL5.out.b3 2
                  go_wp2_with fail
                  refine ret_ty rfl rfl (set3 FL5.out.b3 _ _ _) rfl ?_
                  rw [e3.out]
                  refine ⟨_, rfl, ⟨.slice none 0 0, rfl, IsSl.nil _ _ _ _⟩, X5.out.set3 (b := B + 1 + 1 + 1) (.inr (by have := HB.out; omega)) _ _ _, ?_⟩
                  exact heap_setCell_other (heap_setCell_other (heap_setCell_other FL5.out.s (by simp only; omega) _) (by simp only; omega) _) (by simp only; omega) _
              · have hm0 : m ≠ 0 := fun h => hc (.inl h)
                obtain ⟨m', hm'⟩ : ∃ m', m = m' + 1 := ⟨m - 1, by omega⟩
                have hlen : dp.length = ls.length := by
                  by_cases h : dp.length = ls.length
                  · exact h
                  · exact absurd (.inr h) hc
                have h1 : ((m : Int) == 0) = false := by simp [hm0]
                have h2 : ((dp.length : Int) != (ls.length : Int)) = false := by rw [hlen]; simp
                have e3 : Hid (r = fullN ds m' (withT dp ls dt) s1) := hid (by
                  rw [e2.out, hm']
                  show (if dp.length ≠ ls.length then (Ty.zero, 0) else fullN ds m' (withT dp ls dt) s1) = _
                  rw [if_neg (fun h => h hlen)])
                have hs1 : Hid (s1 ≤ 20000 ∧ -10000000000000 ≤ s1 ∧ (Ty.sizeL ls ≤ 20000 ∨ s1 ≤ 0)) := hid (by
                  have a1 := list_sz OKT l (s - 1) (by omega)
                  have a2 := steps_low OKT l (s - 1) l.length (by omega) hsl
                  rw [stepsAt_end] at a2
                  rw [HLS.out] at a1 a2
                  simp only at a1 a2
                  have hb0 : (m : Int) * (bigD : Int) ≤ 100 * (bigD : Int) := Int.mul_le_mul_of_nonneg_right (by omega) (by unfold bigD; omega)
                  have hb1 : (Ty.sizeL l : Int) ≤ (bigD : Int) := by omega
                  have hb2 : (bigD : Int) = 20000000000 := rfl
                  refine ⟨by omega, by omega, ?_⟩
                  by_cases hp : s1 ≤ 0
                  · exact .inr hp
                  · left; omega)
                have hmi : Hid ((m : Int) - 1 = ((m' : Nat) : Int)) := hid (by omega)
                have HMM := hid hm'
                have hDlt : Hid (∀ j, and1 A (B + 1 + 1 + 1) j → j < W4.heap.size) := hid (and1.lt hAlt (Nat.le_trans X3.out.size hsz4.out) (by have := hsz4.out; have := heap_lt FL4.out.b3; omega))
                have CW := hid fun W (X : Ext none' W4 W) => with_any dp ls (by have := hdps.out; exact this) dt (by have := hdty.out; omega) (and1 A (B + 1 + 1 + 1)) (.agg #[.int .i64 dt.kind, .string ⟨dt.name.toArray⟩, .slice a2 dt.args.length cap2]) (.slice a1 dp.length cap1) (.slice a3 ls.length cap3) W
                  ⟨_, rfl, HTV.out.ext isTy_good X fun _ _ h => h.elim⟩ (HPV.out.ext isStr_good X fun _ _ h => h.elim) (HU4.out.ext isTy_good X fun _ _ h => h.elim) (fun b hb => Nat.lt_of_lt_of_le (hDlt.out b hb) X.size)
                have hwz : Hid ((withT dp ls dt).size ≤ bigD ∨ s1 ≤ 0) := hid (hs1.out.2.2.imp (fun h => by
                  have h3 := withT_size (ps := dp) (by' := ls) (m := 20000) (by omega) (fun t ht => Nat.le_trans (Ty.sizeL_mem ht) h) dt
                  have h4 := hdty.out
                  have h5 : dt.size * 20000 ≤ 1000000 * 20000 := Nat.mul_le_mul_right _ h4
                  unfold bigD; omega) id)
                have CF := hid fun v W (X : Ext none' W4 W) hv => HIM.out m' HMM.out (withT dp ls dt) (and1 A (B + 1 + 1 + 1)) v W sb (.slice (some ⟨b, off, none⟩) ds.length capd) s1 hwz.out
                  (HIN.out.ext (X4.out.trans (X.mono fun _ _ h => h.elim)) (X.heap FL4.out.s (fun h => h)) and1.up (fun b hb => Nat.lt_of_lt_of_le (hDlt.out b hb) X.size) (and1.down (by have := HB.out; omega))) hv hs1.out.1 hs1.out.2.1
                rw [← hmi.out] at CF
                clear hc hm0 hm' hlen
                repeat (go_big_quiet_step (fail))
                refine wpQuiet_nil ?_
                simp only [wpTree]
                go_upto_region 13 with (fail)
                refine region_tree none' W4 [0, 1, 2, 3, 4, 5, 6, 7, 8, 9, 10, 11, 12, 13, 14, 15, 16, 17, 18, 20, 21] (.one 19 true (.one 22 false (.one 23 false .fin))) (by kernel_rfl) (by kernel_rfl) (fun dst v c a w h => by cases dst <;> exact h) ((Ext.refl _ _).drew) ?_
                simp only [sel, List.getElem?_cons_succ, List.getElem?_cons_zero]
                repeat (go_big_quiet_step (fail))
                refine wpQuiet_nil ?_
                simp only [wpTree, stepT, sel, List.getElem?_cons_succ, List.getElem?_cons_zero]
                clear r0 r1 r2 r3 r4 r5 r6 r7
                go_wp2_with fail
                refine (CW.out _ (Ext.refl _ _).drew.drew).mono ?_
                rintro e' W5 ⟨u, rfl, hu, X5⟩
                have X5 := hid ((Ext.refl none' W4).drew.drew.trans X5)
                have HU5 := hid hu
                obtain ⟨x5, rfl, hx5⟩ := hu
                obtain ⟨a5, cap5, rfl, _⟩ := hx5
                have CF5 := hid (CF.out _ W5 X5.out HU5.out)
                obtain ⟨rr, hrr⟩ : ∃ rr, fullN ds m' (withT dp ls dt) s1 = rr := ⟨_, rfl⟩
                rw [hrr] at CF5 e3
                clear hrr CF CW
                go_wp2_with fail
                refine ⟨In.of X5.out, ?_⟩
                go_wp2_with fail
                refine CF5.out.mono ?_
                rintro e' W6 ⟨u6, rfl, ⟨y6, rfl, hy6⟩, X6, hw6⟩
                have FL6 := hid ((FL4.out.ext X5.out (fun h => h) (fun _ _ _ h => h)).ext1 X6 hsB hw6)
                have HY6 := hid hy6
                obtain ⟨a6, cap6, rfl, _⟩ := hy6
                have X6 : Hid (Ext (one sb) w W6) := hid ((X4.out.trans (X5.out.mono fun _ _ h => h.elim)).trans X6)
                clear c0 c1 c2 c3 c4 c5 c6 c7 c8 c9 f0 f1 f2 fs o0 o1 o2 y0 y1 y2 y3 y4 y5 hw6
                have cc := FL6.out.cells
                obtain ⟨c0, c1, c2, c3, c4, c5, c6, c7, c8, c9⟩ := cc
                have f0 := free_at FL6.out.b3 0
                have f1 := free_at FL6.out.b3 1
                have f2 := free_at FL6.out.b3 2
                go_wp2_with fail
                refine ret_ty rfl rfl (set3 FL6.out.b3 _ _ _) rfl ?_
                rw [e3.out]
                refine ⟨_, rfl, TyV.stored HY6.out _ _ _, X6.out.set3 (b := B + 1 + 1 + 1) (.inr (by have := HB.out; omega)) _ _ _, ?_⟩
                exact heap_setCell_other (heap_setCell_other (heap_setCell_other FL6.out.s (by simp only; omega) _) (by simp only; omega) _) (by simp only; omega) _
        · have hk1 : (k != 3) = true := by simp [hk]
          have e2 : Hid (r = (.mk k n ls, s1)) := hid (by rw [e.out]; unfold aliasP; rw [if_pos hk])
          clear hk
          go_wp2_with fail
          refine ret_ty rfl rfl (set3 FL3.out.b3 _ _ _) rfl ?_
          rw [e2.out]
          refine ⟨_, rfl, TyV.stored (t := .mk k n ls) HU3.out _ _ _, X3.out.set3 (b := B + 1 + 1 + 1) (.inr (by have := HB.out; omega)) _ _ _, ?_⟩
          exact heap_setCell_other (heap_setCell_other (heap_setCell_other FL3.out.s (by simp only; omega) _) (by simp only; omega) _) (by simp only; omega) _
      · go_wp2_with fail
        refine ⟨In.of (X2.out.alloc _), ?_⟩
        go_upto_region 5 with (fail)
        obtain ⟨O, hO⟩ : ∃ O, O = W2.heap.size := ⟨_, rfl⟩
        obtain ⟨W3, hW3⟩ : ∃ W, W = W2.alloc (.cells #[.int .i64 k, .string ⟨n.toArray⟩, .slice a3 ls.length cap3] 32) := ⟨_, rfl⟩
        rw [← hW3, ← hO]
        have FL3 : Hid (Fl sb B (.slice ad ds.length capd) s1 k n (.slice a0 l.length cap0) m (.int .i64 0) (.string ⟨#[]⟩) (.slice none 0 0) W3) := hid (by rw [hW3]; exact FL2.out.ext (F := none') ((Ext.refl _ _).alloc _) (fun h => h) (fun _ _ _ h => h))
        have GO : Hid (W3.heap[O]? = some (.cells #[.int .i64 k, .string ⟨n.toArray⟩, .slice a3 ls.length cap3] 32 (0, 0))) := hid (by rw [hW3]; exact heap_alloc_at hO _)
        have X3 : Hid (Ext (one sb) w W3) := hid (by rw [hW3]; exact (X1.out.trans X2.out).alloc _)
        have HU3 : Hid (IsSl 3 IsTy (and1 A (B + 1 + 1 + 1)) W3 (.slice a3 ls.length cap3) ls) := hid (by rw [hW3]; exact HU.out.ext isTy_good ((Ext.refl none' _).alloc _) fun _ _ h => h.elim)
        have hOB : Hid (B + 4 ≤ O ∧ O < W3.heap.size) := hid (by have := HZ2.out; have := heap_lt GO.out; omega)
        clear hW3 hO X2 FL2 HU
        have cc := FL3.out.cells
        obtain ⟨c0, c1, c2, c3, c4, c5, c6, c7, c8, c9⟩ := cc
        have f0 := free_at FL3.out.b3 0
        have f1 := free_at FL3.out.b3 1
        have f2 := free_at FL3.out.b3 2
        have o0 := cell_at GO.out 0
        have o1 := cell_at GO.out 1
        have o2 := cell_at GO.out 2
        simp only [List.getElem?_toArray, List.getElem?_cons_zero, List.getElem?_cons_succ] at o0 o1 o2
        by_cases hk : k = 3
        · subst hk
          have hk1 : ((3 : Int) != 3) = false := by decide
          have hDs : and1 A (B + 1 + 1 + 1) sb := .inl HIN.out.asb
          have HD3 := hid (((HIN.out.dsl.mono (B := and1 A (B + 1 + 1 + 1)) isDf_good (and1.down (by have := HB.out; omega))).ext isDf_good X3.out fun b _ h => by have h' : b = sb := h; rw [h']; exact hDs))
          have CI := hid (idef_any 64 #[.pointer (some ⟨B + 1, 0, none⟩)] (fun d => d.name == n) (and1 A (B + 1 + 1 + 1)) ds (.slice ad ds.length capd) W3 hds.len HD3.out (fun i hi w' u x hu => fname_any ds[i] n _ u (B + 1) _ _ w' hu (x.heap FL3.out.b1 (fun h => h))) enter_fname)
          have hzc := fstI_cases (fun d : Df => d.name == n) ds
          have hzn := hid fun h => defAt_none (ds := ds) (n := n) h
          have hza := hid fun (i : Nat) (hi : i < ds.length) h => defAt_at (ds := ds) (n := n) (i := i) hi h
          obtain ⟨z, hz⟩ : ∃ z, fstI (fun d : Df => d.name == n) ds = z := ⟨_, rfl⟩
          rw [hz] at CI hzc hzn hza
          clear hz
          go_wp2_with fail
          refine CI.out.mono ?_
          rintro e' W4 ⟨rfl, Y4⟩
          clear c0 c1 c2 c3 c4 c5 c6 c7 c8 c9 f0 f1 f2 o0 o1 o2
          have FL4 := hid (FL3.out.ext Y4 (fun h => h) (fun _ _ _ h => h))
          have GO4 := hid (Y4.heap GO.out (fun h => h))
          have X4 := hid (X3.out.trans (Y4.mono fun _ _ h => h.elim))
          have HU4 := hid (HU3.out.ext isTy_good Y4 fun _ _ h => h.elim)
          have HD4 := hid (HD3.out.ext isDf_good Y4 fun _ _ h => h.elim)
          have hsz4 := hid Y4.size
          clear Y4
          have cc := FL4.out.cells
          obtain ⟨c0, c1, c2, c3, c4, c5, c6, c7, c8, c9⟩ := cc
          have f0 := free_at FL4.out.b3 0
          have f1 := free_at FL4.out.b3 1
          have f2 := free_at FL4.out.b3 2
          have fs := free_at FL4.out.s 1
          have o0 := cell_at GO4.out 0
          have o1 := cell_at GO4.out 1
          have o2 := cell_at GO4.out 2
          simp only [List.getElem?_toArray, List.getElem?_cons_zero, List.getElem?_cons_succ] at o0 o1 o2
          rcases hzc with ⟨rfl, _⟩ | ⟨i, hi, rfl, _⟩
          · have e2 : Hid (r = (.mk 3 n ls, s1)) := hid (by rw [e.out]; unfold aliasP; rw [if_neg (by decide), hzn.out rfl])
            go_wp2_with fail
            refine ret_ty rfl rfl (set3 FL4.out.b3 _ _ _) rfl ?_
            rw [e2.out]
            refine ⟨_, rfl, TyV.stored (t := .mk 3 n ls) HU4.out _ _ _, X4.out.set3 (b := B + 1 + 1 + 1) (.inr (by have := HB.out; omega)) _ _ _, ?_⟩
            exact heap_setCell_other (heap_setCell_other (heap_setCell_other FL4.out.s (by simp only; omega) _) (by simp only; omega) _) (by simp only; omega) _
          · have hda := hid (hza.out i hi rfl)
            obtain ⟨b, off, cs, rfl, hAb, hbw, hcc, hdf⟩ := HD4.out.at i hi
            obtain ⟨pv, tv, rfl, hpv, htv⟩ := hdf
            have y0 := hcc 0 _ rfl
            have y1 := hcc 1 _ rfl
            have y2 := hcc 2 _ rfl
            have y3 := hcc 3 _ rfl
            have y4 := hcc 4 _ rfl
            have y5 := hcc 5 _ rfl
            simp only [Nat.add_zero] at y0
            have hmem := List.getElem_mem hi
            obtain ⟨d, hd⟩ : ∃ d, ds[i] = d := ⟨_, rfl⟩
            rw [hd] at y0 y2 y3 y5 hpv htv hmem
            simp only [hd] at hda
            obtain ⟨dn, dp, dt, da⟩ := d
            simp only at y0 y1 y2 y3 y4 y5 hpv htv
            have HPV := hid hpv
            have HTV := hid htv
            obtain ⟨a1, cap1, rfl, _⟩ := hpv
            obtain ⟨a2, cap2, rfl, _⟩ := htv
            have hdty := hid (hds.ok _ hmem)
            have hdps := hid (hds.pars _ hmem)
            clear hcc hzn hza hmem hd
            have q1 : decide ((i : Int) < 0) = false := by simp
            cases da with
            | false =>
              have e2 : Hid (r = (.mk 3 n ls, s1)) := hid (by rw [e.out]; unfold aliasP; rw [if_neg (by decide), hda.out]; try rfl)
              go_wp2_with fail
              refine ret_ty rfl rfl (set3 FL4.out.b3 _ _ _) rfl ?_
              rw [e2.out]
              refine ⟨_, rfl, TyV.stored (t := .mk 3 n ls) HU4.out _ _ _, X4.out.set3 (b := B + 1 + 1 + 1) (.inr (by have := HB.out; omega)) _ _ _, ?_⟩
              exact heap_setCell_other (heap_setCell_other (heap_setCell_other FL4.out.s (by simp only; omega) _) (by simp only; omega) _) (by simp only; omega) _
            | true =>
              have e2 : Hid (r = match recN ds m with
                | none => (Ty.zero, 0)
                | some f => if dp.length ≠ ls.length then (Ty.zero, 0) else f (withT dp ls dt) s1) := hid (by rw [e.out]; unfold aliasP; rw [if_neg (by decide), hda.out]; try rfl)
              go_upto_region 10 with (fail)
              have r0 := fun t : LaterF none' W4 => cell_at (t.x.heap FL4.out.b0 (fun h => h)) 0
              have r1 := fun t : LaterF none' W4 => cell_at (t.x.heap FL4.out.s (fun h => h)) 0
              have r2 := fun t : LaterF none' W4 => cell_at (t.x.heap FL4.out.b2 (fun h => h)) 0
              have r3 := fun t : LaterF none' W4 => cell_at (t.x.heap GO4.out (fun h => h)) 2
              have r4 := fun t : LaterF none' W4 => (t.x.cell (p := ⟨b, off + i * 6 + 1, none⟩) hbw (fun h => h)).trans y1
              have r5 := fun t : LaterF none' W4 => (t.x.cell (p := ⟨b, off + i * 6 + 2, none⟩) hbw (fun h => h)).trans y2
              have r6 := fun t : LaterF none' W4 => (t.x.cell (p := ⟨b, off + i * 6 + 3, none⟩) hbw (fun h => h)).trans y3
              have r7 := fun t : LaterF none' W4 => (t.x.cell (p := ⟨b, off + i * 6 + 4, none⟩) hbw (fun h => h)).trans y4
              simp only [List.getElem?_toArray, List.getElem?_cons_zero, List.getElem?_cons_succ] at r0 r1 r2 r3
              refine region_tree none' W4 [0, 1, 2, 3, 4, 5, 6, 7, 8, 9, 10, 11, 12, 13, 14, 15, 16, 17] .fin (by kernel_rfl) (by kernel_rfl) (fun dst v c a w h => by cases dst <;> exact h) (Ext.refl _ _) ?_
              simp only [sel, List.getElem?_cons_succ, List.getElem?_cons_zero]
              by_cases hc : m = 0 ∨ dp.length ≠ ls.length
              · have e3 : Hid (r = (Ty.zero, 0)) := hid (by
                  rw [e2.out]
                  cases m with
                  | zero => rfl
                  | succ m' => show (if dp.length ≠ ls.length then (Ty.zero, 0) else fullN ds m' (withT dp ls dt) s1) = _; rw [if_pos (hc.resolve_left (by omega))])
                have hcc : (((m : Int) == 0) = true) ∨ (((m : Int) == 0) = false ∧ ((dp.length : Int) != (ls.length : Int)) = true) := by
                  by_cases h : m = 0
                  · left; simp [h]
                  · right; exact ⟨by simp [h], by have := hc.resolve_left h; simp; omega⟩
                clear hc
                rcases hcc with h1 | ⟨h1, h2⟩
                all_goals
                  repeat (go_big_quiet_step (fail))
                  refine wpQuiet_nil ?_
                  simp only [wpTree]
                  clear r0 r1 r2 r3 r4 r5 r6 r7
                  go_upto_region 12 with (fail)
                  obtain ⟨W5, hW5⟩ : ∃ W, W = (W4.setCell ⟨sb, 1, none⟩ (.int .i64 0)).drew := ⟨_, rfl⟩
                  rw [← hW5]
                  have FL5 : Fl sb B (.slice (some ⟨b, off, none⟩) ds.length capd) 0 3 n (.slice a0 l.length cap0) m (.int .i64 0) (.string ⟨#[]⟩) (.slice none 0 0) W5 := by
                    rw [hW5]
                    exact FL4.out.ext1 ((Ext.refl (one sb) _).set 1 _).drew hsB (heap_setCell_same FL4.out.s 1 _)
                  have X5 : Hid (Ext (one sb) w W5) := hid (by rw [hW5]; exact (X4.out.set 1 _).drew)
                  have FL5 := hid FL5
                  clear c0 c1 c2 c3 c4 c5 c6 c7 c8 c9 f0 f1 f2 fs o0 o1 o2 hW5 y0 y1 y2 y3 y4 y5
                  have cc := FL5.out.cells
                  obtain ⟨c0, c1, c2, c3, c4, c5, c6, c7, c8, c9⟩ := cc
                  have f0 := free_at FL5.out.b3 0
                  have f1 := free_at FL5.out.b3 1
                  have f2 := free_at FL5.out.b3 2
                  go_wp2_with fail
                  refine ret_ty rfl rfl (set3 FL5.out.b3 _ _ _) rfl ?_
                  rw [e3.out]
                  refine ⟨_, rfl, ⟨.slice none 0 0, rfl, IsSl.nil _ _ _ _⟩, X5.out.set3 (b := B + 1 + 1 + 1) (.inr (by have := HB.out; omega)) _ _ _, ?_⟩
                  exact heap_setCell_other (heap_setCell_other (heap_setCell_other FL5.out.s (by simp only; omega) _) (by simp only; omega) _) (by simp only; omega) _
              · have hm0 : m ≠ 0 := fun h => hc (.inl h)
                obtain ⟨m', hm'⟩ : ∃ m', m = m' + 1 := ⟨m - 1, by omega⟩
                have hlen : dp.length = ls.length := by
                  by_cases h : dp.length = ls.length
                  · exact h
                  · exact absurd (.inr h) hc
                have h1 : ((m : Int) == 0) = false := by simp [hm0]
                have h2 : ((dp.length : Int) != (ls.length : Int)) = false := by rw [hlen]; simp
                have e3 : Hid (r = fullN ds m' (withT dp ls dt) s1) := hid (by
                  rw [e2.out, hm']
                  show (if dp.length ≠ ls.length then (Ty.zero, 0) else fullN ds m' (withT dp ls dt) s1) = _
                  rw [if_neg (fun h => h hlen)])
                have hs1 : Hid (s1 ≤ 20000 ∧ -10000000000000 ≤ s1 ∧ (Ty.sizeL ls ≤ 20000 ∨ s1 ≤ 0)) := hid (by
                  have a1 := list_sz OKT l (s - 1) (by omega)
                  have a2 := steps_low OKT l (s - 1) l.length (by omega) hsl
                  rw [stepsAt_end] at a2
                  rw [HLS.out] at a1 a2
                  simp only at a1 a2
                  have hb0 : (m : Int) * (bigD : Int) ≤ 100 * (bigD : Int) := Int.mul_le_mul_of_nonneg_right (by omega) (by unfold bigD; omega)
                  have hb1 : (Ty.sizeL l : Int) ≤ (bigD : Int) := by omega
                  have hb2 : (bigD : Int) = 20000000000 := rfl
                  refine ⟨by omega, by omega, ?_⟩
                  by_cases hp : s1 ≤ 0
                  · exact .inr hp
                  · left; omega)
                have hmi : Hid ((m : Int) - 1 = ((m' : Nat) : Int)) := hid (by omega)
                have HMM := hid hm'
                have hDlt : Hid (∀ j, and1 A (B + 1 + 1 + 1) j → j < W4.heap.size) := hid (and1.lt hAlt (Nat.le_trans X3.out.size hsz4.out) (by have := hsz4.out; have := heap_lt FL4.out.b3; omega))
                have CW := hid fun W (X : Ext none' W4 W) => with_any dp ls (by have := hdps.out; exact this) dt (by have := hdty.out; omega) (and1 A (B + 1 + 1 + 1)) (.agg #[.int .i64 dt.kind, .string ⟨dt.name.toArray⟩, .slice a2 dt.args.length cap2]) (.slice a1 dp.length cap1) (.slice a3 ls.length cap3) W
                  ⟨_, rfl, HTV.out.ext isTy_good X fun _ _ h => h.elim⟩ (HPV.out.ext isStr_good X fun _ _ h => h.elim) (HU4.out.ext isTy_good X fun _ _ h => h.elim) (fun b hb => Nat.lt_of_lt_of_le (hDlt.out b hb) X.size)
                have hwz : Hid ((withT dp ls dt).size ≤ bigD ∨ s1 ≤ 0) := hid (hs1.out.2.2.imp (fun h => by
                  have h3 := withT_size (ps := dp) (by' := ls) (m := 20000) (by omega) (fun t ht => Nat.le_trans (Ty.sizeL_mem ht) h) dt
                  have h4 := hdty.out
                  have h5 : dt.size * 20000 ≤ 1000000 * 20000 := Nat.mul_le_mul_right _ h4
                  unfold bigD; omega) id)
                have CF := hid fun v W (X : Ext none' W4 W) hv => HIM.out m' HMM.out (withT dp ls dt) (and1 A (B + 1 + 1 + 1)) v W sb (.slice (some ⟨b, off, none⟩) ds.length capd) s1 hwz.out
                  (HIN.out.ext (X4.out.trans (X.mono fun _ _ h => h.elim)) (X.heap FL4.out.s (fun h => h)) and1.up (fun b hb => Nat.lt_of_lt_of_le (hDlt.out b hb) X.size) (and1.down (by have := HB.out; omega))) hv hs1.out.1 hs1.out.2.1
                rw [← hmi.out] at CF
                clear hc hm0 hm' hlen
                repeat (go_big_quiet_step (fail))
                refine wpQuiet_nil ?_
                simp only [wpTree]
                go_upto_region 13 with (fail)
                refine region_tree none' W4 [0, 1, 2, 3, 4, 5, 6, 7, 8, 9, 10, 11, 12, 13, 14, 15, 16, 17, 18, 20, 21] (.one 19 true (.one 22 false (.one 23 false .fin))) (by kernel_rfl) (by kernel_rfl) (fun dst v c a w h => by cases dst <;> exact h) ((Ext.refl _ _).drew) ?_
                simp only [sel, List.getElem?_cons_succ, List.getElem?_cons_zero]
                repeat (go_big_quiet_step (fail))
                refine wpQuiet_nil ?_
                simp only [wpTree, stepT, sel, List.getElem?_cons_succ, List.getElem?_cons_zero]
                clear r0 r1 r2 r3 r4 r5 r6 r7
                go_wp2_with fail
                refine (CW.out _ (Ext.refl _ _).drew.drew).mono ?_
                rintro e' W5 ⟨u, rfl, hu, X5⟩
                have X5 := hid ((Ext.refl none' W4).drew.drew.trans X5)
                have HU5 := hid hu
                obtain ⟨x5, rfl, hx5⟩ := hu
                obtain ⟨a5, cap5, rfl, _⟩ := hx5
                have CF5 := hid (CF.out _ W5 X5.out HU5.out)
                obtain ⟨rr, hrr⟩ : ∃ rr, fullN ds m' (withT dp ls dt) s1 = rr := ⟨_, rfl⟩
                rw [hrr] at CF5 e3
                clear hrr CF CW
                go_wp2_with fail
                refine ⟨In.of X5.out, ?_⟩
                go_wp2_with fail
                refine CF5.out.mono ?_
                rintro e' W6 ⟨u6, rfl, ⟨y6, rfl, hy6⟩, X6, hw6⟩
                have FL6 := hid ((FL4.out.ext X5.out (fun h => h) (fun _ _ _ h => h)).ext1 X6 hsB hw6)
                have HY6 := hid hy6
                obtain ⟨a6, cap6, rfl, _⟩ := hy6
                have X6 : Hid (Ext (one sb) w W6) := hid ((X4.out.trans (X5.out.mono fun _ _ h => h.elim)).trans X6)
                clear c0 c1 c2 c3 c4 c5 c6 c7 c8 c9 f0 f1 f2 fs o0 o1 o2 y0 y1 y2 y3 y4 y5 hw6
                have cc := FL6.out.cells
                obtain ⟨c0, c1, c2, c3, c4, c5, c6, c7, c8, c9⟩ := cc
                have f0 := free_at FL6.out.b3 0
                have f1 := free_at FL6.out.b3 1
                have f2 := free_at FL6.out.b3 2
                go_wp2_with fail
                refine ret_ty rfl rfl (set3 FL6.out.b3 _ _ _) rfl ?_
                rw [e3.out]
                refine ⟨_, rfl, TyV.stored HY6.out _ _ _, X6.out.set3 (b := B + 1 + 1 + 1) (.inr (by have := HB.out; omega)) _ _ _, ?_⟩
                exact heap_setCell_other (heap_setCell_other (heap_setCell_other FL6.out.s (by simp only; omega) _) (by simp only; omega) _) (by simp only; omega) _
        · have hk1 : (k != 3) = true := by simp [hk]
          have e2 : Hid (r = (.mk k n ls, s1)) := hid (by rw [e.out]; unfold aliasP; rw [if_pos hk])
          clear hk
          go_wp2_with fail
          refine ret_ty rfl rfl (set3 FL3.out.b3 _ _ _) rfl ?_
          rw [e2.out]
          refine ⟨_, rfl, TyV.stored (t := .mk k n ls) HU3.out _ _ _, X3.out.set3 (b := B + 1 + 1 + 1) (.inr (by have := HB.out; omega)) _ _ _, ?_⟩
          exact heap_setCell_other (heap_setCell_other (heap_setCell_other FL3.out.s (by simp only; omega) _) (by simp only; omega) _) (by simp only; omega) _
    · go_wp2_with fail
      refine ⟨In.of ((Ext.refl _ _).drew.alloc _), ?_⟩
      go_wp2_with fail
      obtain ⟨O, hO⟩ : ∃ O, O = B + 4 := ⟨_, rfl⟩
      obtain ⟨Wa, hWa⟩ : ∃ Wa, Wa = (W1.alloc (.cells #[.int .i64 0, .string ⟨#[]⟩, .slice none 0 0] 32)).drew := ⟨_, rfl⟩
      rw [← hWa, ← hO]
      have ga : Wa.heap[O]? = some (.cells #[.int .i64 0, .string ⟨#[]⟩, .slice none 0 0] 32 (0, 0)) := by rw [hWa]; exact heap_alloc_at (hO.trans hz.symm) _
      have za : Wa.heap.size = O + 1 := by rw [hWa, hO, ← hz]; simp [World.drew]
      have Xa : Ext none' W1 Wa := by rw [hWa]; exact ((Ext.refl _ _).alloc _).drew
      have hOB : Hid (O = B + 4) := hid (by omega)
      clear hWa hO
      refine (TC.out (and1 (and1 A (B + 1 + 1 + 1)) O) Wa (X1.out.trans (Xa.mono fun _ _ h => h.elim)) (FL.out.ext Xa (fun h => h) (fun _ _ _ h => h)) (fun b h => .inl (.inl h)) (and1.lt (and1.lt hAlt (m := Wa.heap.size) (by have := HB.out; have := hOB.out; omega) (by have := hOB.out; omega)) (Nat.le_refl _) (by omega)) (fun b hb h => ?_)).mono ?_
      · have h1 := HB.out
        have h2 := hOB.out
        rcases h with (h | h) | h
        · exact h
        · omega
        · omega
      rintro e' W2 ⟨u, rfl, hu, X2, hw2⟩
      have hu2 := hu
      obtain ⟨a3, cap3, rfl, _⟩ := hu2
      have go2 := X2.heap ga (by have := hOB.out; unfold one; omega)
      have p0 := free_at go2 0
      have p1 := free_at go2 1
      have p2 := free_at go2 2
      have q0 := cell_at go2 0
      have q1 := cell_at go2 1
      have q2 := cell_at go2 2
      simp only [List.getElem?_toArray, List.getElem?_cons_zero, List.getElem?_cons_succ] at q0 q1 q2
      have X2' : Ext (one sb) W1 W2 := (Xa.mono (fun _ _ h => h.elim) : Ext (one sb) W1 Wa).trans X2
      have FL2 := hid (FL.out.ext1 X2' hsB hw2)
      have G2 := hid go2
      have HZ2 := hid X2'.size
      have X2 := hid X2'
      have HU := hid hu
      clear hu hw2 X2' Xa ga go2 za
      go_wp2_with fail
      refine ⟨In.of X2.out, ?_⟩
      go_upto_region 5 with (fail)
      obtain ⟨W3, hW3⟩ : ∃ W, W = ((W2.setCell ⟨O, 0, none⟩ (.int .i64 k)).setCell ⟨O, 1, none⟩ (.string ⟨n.toArray⟩)).setCell ⟨O, 2, none⟩ (.slice a3 ls.length cap3) := ⟨_, rfl⟩
      rw [← hW3]
      have XO : Ext (one O) W2 W3 := by rw [hW3]; exact Ext.self3 _ _ _ _ _
      have FL3 : Hid (Fl sb B (.slice ad ds.length capd) s1 k n (.slice a0 l.length cap0) m (.int .i64 0) (.string ⟨#[]⟩) (.slice none 0 0) W3) := hid (FL2.out.ext XO (by have := hOB.out; unfold one; omega) (by have := hOB.out; unfold one; omega))
      have GO : Hid (W3.heap[O]? = some (.cells #[.int .i64 k, .string ⟨n.toArray⟩, .slice a3 ls.length cap3] 32 (0, 0))) := hid (by rw [hW3]; exact set3 G2.out _ _ _)
      have X3 : Hid (Ext (one sb) w W3) := hid (by rw [hW3]; exact (X1.out.trans X2.out).set3 (b := O) (.inr (by have := HB.out; have := hOB.out; omega)) _ _ _)
      have HU3 : Hid (IsSl 3 IsTy (and1 A (B + 1 + 1 + 1)) W3 (.slice a3 ls.length cap3) ls) := hid ((HU.out.ext isTy_good XO fun _ _ h => .inr h).mono isTy_good fun _ _ h => .inl h)
      have hOB : Hid (B + 4 ≤ O ∧ O < W3.heap.size) := hid (by have := hOB.out; have := heap_lt GO.out; omega)
      clear hW3 X2 FL2 HU XO G2 p0 p1 p2 q0 q1 q2
      have cc := FL3.out.cells
      obtain ⟨c0, c1, c2, c3, c4, c5, c6, c7, c8, c9⟩ := cc
      have f0 := free_at FL3.out.b3 0
      have f1 := free_at FL3.out.b3 1
      have f2 := free_at FL3.out.b3 2
      have o0 := cell_at GO.out 0
      have o1 := cell_at GO.out 1
      have o2 := cell_at GO.out 2
      simp only [List.getElem?_toArray, List.getElem?_cons_zero, List.getElem?_cons_succ] at o0 o1 o2
      by_cases hk : k = 3
      · subst hk
        have hk1 : ((3 : Int) != 3) = false := by decide
        have hDs : and1 A (B + 1 + 1 + 1) sb := .inl HIN.out.asb
        have HD3 := hid (((HIN.out.dsl.mono (B := and1 A (B + 1 + 1 + 1)) isDf_good (and1.down (by have := HB.out; omega))).ext isDf_good X3.out fun b _ h => by have h' : b = sb := h; rw [h']; exact hDs))
        have CI := hid (idef_any 64 #[.pointer (some ⟨B + 1, 0, none⟩)] (fun d => d.name == n) (and1 A (B + 1 + 1 + 1)) ds (.slice ad ds.length capd) W3 hds.len HD3.out (fun i hi w' u x hu => fname_any ds[i] n _ u (B + 1) _ _ w' hu (x.heap FL3.out.b1 (fun h => h))) enter_fname)
        have hzc := fstI_cases (fun d : Df => d.name == n) ds
        have hzn := hid fun h => defAt_none (ds := ds) (n := n) h
        have hza := hid fun (i : Nat) (hi : i < ds.length) h => defAt_at (ds := ds) (n := n) (i := i) hi h
        obtain ⟨z, hz⟩ : ∃ z, fstI (fun d : Df => d.name == n) ds = z := ⟨_, rfl⟩
        rw [hz] at CI hzc hzn hza
        clear hz
        go_wp2_with fail
        refine CI.out.mono ?_
        rintro e' W4 ⟨rfl, Y4⟩
        clear c0 c1 c2 c3 c4 c5 c6 c7 c8 c9 f0 f1 f2 o0 o1 o2
        have FL4 := hid (FL3.out.ext Y4 (fun h => h) (fun _ _ _ h => h))
        have GO4 := hid (Y4.heap GO.out (fun h => h))
        have X4 := hid (X3.out.trans (Y4.mono fun _ _ h => h.elim))
        have HU4 := hid (HU3.out.ext isTy_good Y4 fun _ _ h => h.elim)
        have HD4 := hid (HD3.out.ext isDf_good Y4 fun _ _ h => h.elim)
        have hsz4 := hid Y4.size
        clear Y4
        have cc := FL4.out.cells
        obtain ⟨c0, c1, c2, c3, c4, c5, c6, c7, c8, c9⟩ := cc
        have f0 := free_at FL4.out.b3 0
        have f1 := free_at FL4.out.b3 1
        have f2 := free_at FL4.out.b3 2
        have fs := free_at FL4.out.s 1
        have o0 := cell_at GO4.out 0
        have o1 := cell_at GO4.out 1
        have o2 := cell_at GO4.out 2
        simp only [List.getElem?_toArray, List.getElem?_cons_zero, List.getElem?_cons_succ] at o0 o1 o2
        rcases hzc with ⟨rfl, _⟩ | ⟨i, hi, rfl, _⟩
        · have e2 : Hid (r = (.mk 3 n ls, s1)) := hid (by rw [e.out]; unfold aliasP; rw [if_neg (by decide), hzn.out rfl])
          go_wp2_with fail
          refine ret_ty rfl rfl (set3 FL4.out.b3 _ _ _) rfl ?_
          rw [e2.out]
          refine ⟨_, rfl, TyV.stored (t := .mk 3 n ls) HU4.out _ _ _, X4.out.set3 (b := B + 1 + 1 + 1) (.inr (by have := HB.out; omega)) _ _ _, ?_⟩
          exact heap_setCell_other (heap_setCell_other (heap_setCell_other FL4.out.s (by simp only; omega) _) (by simp only; omega) _) (by simp only; omega) _
        · have hda := hid (hza.out i hi rfl)
          obtain ⟨b, off, cs, rfl, hAb, hbw, hcc, hdf⟩ := HD4.out.at i hi
          obtain ⟨pv, tv, rfl, hpv, htv⟩ := hdf
          have y0 := hcc 0 _ rfl
          have y1 := hcc 1 _ rfl
          have y2 := hcc 2 _ rfl
          have y3 := hcc 3 _ rfl
          have y4 := hcc 4 _ rfl
          have y5 := hcc 5 _ rfl
          simp only [Nat.add_zero] at y0
          have hmem := List.getElem_mem hi
          obtain ⟨d, hd⟩ : ∃ d, ds[i] = d := ⟨_, rfl⟩
          rw [hd] at y0 y2 y3 y5 hpv htv hmem
          simp only [hd] at hda
          obtain ⟨dn, dp, dt, da⟩ := d
          simp only at y0 y1 y2 y3 y4 y5 hpv htv
          have HPV := hid hpv
          have HTV := hid htv
          obtain ⟨a1, cap1, rfl, _⟩ := hpv
          obtain ⟨a2, cap2, rfl, _⟩ := htv
          have hdty := hid (hds.ok _ hmem)
          have hdps := hid (hds.pars _ hmem)
          clear hcc hzn hza hmem hd
          have q1 : decide ((i : Int) < 0) = false := by simp
          cases da with
          | false =>
            have e2 : Hid (r = (.mk 3 n ls, s1)) := hid (by rw [e.out]; unfold aliasP; rw [if_neg (by decide), hda.out]; try rfl)
            go_wp2_with fail
            refine ret_ty rfl rfl (set3 FL4.out.b3 _ _ _) rfl ?_
            rw [e2.out]
            refine ⟨_, rfl, TyV.stored (t := .mk 3 n ls) HU4.out _ _ _, X4.out.set3 (b := B + 1 + 1 + 1) (.inr (by have := HB.out; omega)) _ _ _, ?_⟩
            exact heap_setCell_other (heap_setCell_other (heap_setCell_other FL4.out.s (by simp only; omega) _) (by simp only; omega) _) (by simp only; omega) _
          | true =>
            have e2 : Hid (r = match recN ds m with
              | none => (Ty.zero, 0)
              | some f => if dp.length ≠ ls.length then (Ty.zero, 0) else f (withT dp ls dt) s1) := hid (by rw [e.out]; unfold aliasP; rw [if_neg (by decide), hda.out]; try rfl)
            go_upto_region 10 with (fail)
            have r0 := fun t : LaterF none' W4 => cell_at (t.x.heap FL4.out.b0 (fun h => h)) 0
            have r1 := fun t : LaterF none' W4 => cell_at (t.x.heap FL4.out.s (fun h => h)) 0
            have r2 := fun t : LaterF none' W4 => cell_at (t.x.heap FL4.out.b2 (fun h => h)) 0
            have r3 := fun t : LaterF none' W4 => cell_at (t.x.heap GO4.out (fun h => h)) 2
            have r4 := fun t : LaterF none' W4 => (t.x.cell (p := ⟨b, off + i * 6 + 1, none⟩) hbw (fun h => h)).trans y1
            have r5 := fun t : LaterF none' W4 => (t.x.cell (p := ⟨b, off + i * 6 + 2, none⟩) hbw (fun h => h)).trans y2
            have r6 := fun t : LaterF none' W4 => (t.x.cell (p := ⟨b, off + i * 6 + 3, none⟩) hbw (fun h => h)).trans y3
            have r7 := fun t : LaterF none' W4 => (t.x.cell (p := ⟨b, off + i * 6 + 4, none⟩) hbw (fun h => h)).trans y4
            simp only [List.getElem?_toArray, List.getElem?_cons_zero, List.getElem?_cons_succ] at r0 r1 r2 r3
            refine region_tree none' W4 [0, 1, 2, 3, 4, 5, 6, 7, 8, 9, 10, 11, 12, 13, 14, 15, 16, 17] .fin (by kernel_rfl) (by kernel_rfl) (fun dst v c a w h => by cases dst <;> exact h) (Ext.refl _ _) ?_
            simp only [sel, List.getElem?_cons_succ, List.getElem?_cons_zero]
            by_cases hc : m = 0 ∨ dp.length ≠ ls.length
            · have e3 : Hid (r = (Ty.zero, 0)) := hid (by
                rw [e2.out]
                cases m with
                | zero => rfl
                | succ m' => show (if dp.length ≠ ls.length then (Ty.zero, 0) else fullN ds m' (withT dp ls dt) s1) = _; rw [if_pos (hc.resolve_left (by omega))])
              have hcc : (((m : Int) == 0) = true) ∨ (((m : Int) == 0) = false ∧ ((dp.length : Int) != (ls.length : Int)) = true) := by
                by_cases h : m = 0
                · left; simp [h]
                · right; exact ⟨by simp [h], by have := hc.resolve_left h; simp; omega⟩
              clear hc
              rcases hcc with h1 | ⟨h1, h2⟩
              all_goals
                repeat (go_big_quiet_step (fail))
                refine wpQuiet_nil ?_
                simp only [wpTree]
                clear r0 r1 r2 r3 r4 r5 r6 r7
                go_upto_region 12 with (fail)
                obtain ⟨W5, hW5⟩ : ∃ W, W = (W4.setCell ⟨sb, 1, none⟩ (.int .i64 0)).drew := ⟨_, rfl⟩
                rw [← hW5]
                have FL5 : Fl sb B (.slice (some ⟨b, off, none⟩) ds.length capd) 0 3 n (.slice a0 l.length cap0) m (.int .i64 0) (.string ⟨#[]⟩) (.slice none 0 0) W5 := by
                  rw [hW5]
                  exact FL4.out.ext1 ((Ext.refl (one sb) _).set 1 _).drew hsB (heap_setCell_same FL4.out.s 1 _)
                have X5 : Hid (Ext (one sb) w W5) := hid (by rw [hW5]; exact (X4.out.set 1 _).drew)
                have FL5 := hid FL5
                clear c0 c1 c2 c3 c4 c5 c6 c7 c8 c9 f0 f1 f2 fs o0 o1 o2 hW5 y0 y1 y2 y3 y4 y5
                have cc := FL5.out.cells
                obtain ⟨c0, c1, c2, c3, c4, c5, c6, c7, c8, c9⟩ := cc
                have f0 := free_at FL5.out.b3 0
                have f1 := free_at FL5.out.b3 1
                have f2 := free_at FL5.out.b3 2
                go_wp2_with fail
                refine ret_ty rfl rfl (set3 FL5.out.b3 _ _ _) rfl ?_
                rw [e3.out]
                refine ⟨_, rfl, ⟨.slice none 0 0, rfl, IsSl.nil _ _ _ _⟩, X5.out.set3 (b := B + 1 + 1 + 1) (.inr (by have := HB.out; omega)) _ _ _, ?_⟩
                exact heap_setCell_other (heap_setCell_other (heap_setCell_other FL5.out.s (by simp only; omega) _) (by simp only; omega) _) (by simp only; omega) _
            · have hm0 : m ≠ 0 := fun h => hc (.inl h)
              obtain ⟨m', hm'⟩ : ∃ m', m = m' + 1 := ⟨m - 1, by omega⟩
              have hlen : dp.length = ls.length := by
                by_cases h : dp.length = ls.length
                · exact h
                · exact absurd (.inr h) hc
              have h1 : ((m : Int) == 0) = false := by simp [hm0]
              have h2 : ((dp.length : Int) != (ls.length : Int)) = false := by rw [hlen]; simp
              have e3 : Hid (r = fullN ds m' (withT dp ls dt) s1) := hid (by
                rw [e2.out, hm']
                show (if dp.length ≠ ls.length then (Ty.zero, 0) else fullN ds m' (withT dp ls dt) s1) = _
                rw [if_neg (fun h => h hlen)])
              have hs1 : Hid (s1 ≤ 20000 ∧ -10000000000000 ≤ s1 ∧ (Ty.sizeL ls ≤ 20000 ∨ s1 ≤ 0)) := hid (by
                have a1 := list_sz OKT l (s - 1) (by omega)
                have a2 := steps_low OKT l (s - 1) l.length (by omega) hsl
                rw [stepsAt_end] at a2
                rw [HLS.out] at a1 a2
                simp only at a1 a2
                have hb0 : (m : Int) * (bigD : Int) ≤ 100 * (bigD : Int) := Int.mul_le_mul_of_nonneg_right (by omega) (by unfold bigD; omega)
                have hb1 : (Ty.sizeL l : Int) ≤ (bigD : Int) := by omega
                have hb2 : (bigD : Int) = 20000000000 := rfl
                refine ⟨by omega, by omega, ?_⟩
                by_cases hp : s1 ≤ 0
                · exact .inr hp
                · left; omega)
              have hmi : Hid ((m : Int) - 1 = ((m' : Nat) : Int)) := hid (by omega)
              have HMM := hid hm'
              have hDlt : Hid (∀ j, and1 A (B + 1 + 1 + 1) j → j < W4.heap.size) := hid (and1.lt hAlt (Nat.le_trans X3.out.size hsz4.out) (by have := hsz4.out; have := heap_lt FL4.out.b3; omega))
              have CW := hid fun W (X : Ext none' W4 W) => with_any dp ls (by have := hdps.out; exact this) dt (by have := hdty.out; omega) (and1 A (B + 1 + 1 + 1)) (.agg #[.int .i64 dt.kind, .string ⟨dt.name.toArray⟩, .slice a2 dt.args.length cap2]) (.slice a1 dp.length cap1) (.slice a3 ls.length cap3) W
                ⟨_, rfl, HTV.out.ext isTy_good X fun _ _ h => h.elim⟩ (HPV.out.ext isStr_good X fun _ _ h => h.elim) (HU4.out.ext isTy_good X fun _ _ h => h.elim) (fun b hb => Nat.lt_of_lt_of_le (hDlt.out b hb) X.size)
              have hwz : Hid ((withT dp ls dt).size ≤ bigD ∨ s1 ≤ 0) := hid (hs1.out.2.2.imp (fun h => by
                have h3 := withT_size (ps := dp) (by' := ls) (m := 20000) (by omega) (fun t ht => Nat.le_trans (Ty.sizeL_mem ht) h) dt
                have h4 := hdty.out
                have h5 : dt.size * 20000 ≤ 1000000 * 20000 := Nat.mul_le_mul_right _ h4
                unfold bigD; omega) id)
              have CF := hid fun v W (X : Ext none' W4 W) hv => HIM.out m' HMM.out (withT dp ls dt) (and1 A (B + 1 + 1 + 1)) v W sb (.slice (some ⟨b, off, none⟩) ds.length capd) s1 hwz.out
                (HIN.out.ext (X4.out.trans (X.mono fun _ _ h => h.elim)) (X.heap FL4.out.s (fun h => h)) and1.up (fun b hb => Nat.lt_of_lt_of_le (hDlt.out b hb) X.size) (and1.down (by have := HB.out; omega))) hv hs1.out.1 hs1.out.2.1
              rw [← hmi.out] at CF
              clear hc hm0 hm' hlen
              repeat (go_big_quiet_step (fail))
              refine wpQuiet_nil ?_
              simp only [wpTree]
              go_upto_region 13 with (fail)
              refine region_tree none' W4 [0, 1, 2, 3, 4, 5, 6, 7, 8, 9, 10, 11, 12, 13, 14, 15, 16, 17, 18, 20, 21] (.one 19 true (.one 22 false (.one 23 false .fin))) (by kernel_rfl) (by kernel_rfl) (fun dst v c a w h => by cases dst <;> exact h) ((Ext.refl _ _).drew) ?_
              simp only [sel, List.getElem?_cons_succ, List.getElem?_cons_zero]
              repeat (go_big_quiet_step (fail))
              refine wpQuiet_nil ?_
              simp only [wpTree, stepT, sel, List.getElem?_cons_succ, List.getElem?_cons_zero]
              clear r0 r1 r2 r3 r4 r5 r6 r7
              go_wp2_with fail
              refine (CW.out _ (Ext.refl _ _).drew.drew).mono ?_
              rintro e' W5 ⟨u, rfl, hu, X5⟩
              have X5 := hid ((Ext.refl none' W4).drew.drew.trans X5)
              have HU5 := hid hu
              obtain ⟨x5, rfl, hx5⟩ := hu
              obtain ⟨a5, cap5, rfl, _⟩ := hx5
              have CF5 := hid (CF.out _ W5 X5.out HU5.out)
              obtain ⟨rr, hrr⟩ : ∃ rr, fullN ds m' (withT dp ls dt) s1 = rr := ⟨_, rfl⟩
              rw [hrr] at CF5 e3
              clear hrr CF CW
              go_wp2_with fail
              refine ⟨In.of X5.out, ?_⟩
              go_wp2_with fail
              refine CF5.out.mono ?_
              rintro e' W6 ⟨u6, rfl, ⟨y6, rfl, hy6⟩, X6, hw6⟩
              have FL6 := hid ((FL4.out.ext X5.out (fun h => h) (fun _ _ _ h => h)).ext1 X6 hsB hw6)
              have HY6 := hid hy6
              obtain ⟨a6, cap6, rfl, _⟩ := hy6
              have X6 : Hid (Ext (one sb) w W6) := hid ((X4.out.trans (X5.out.mono fun _ _ h => h.elim)).trans X6)
              clear c0 c1 c2 c3 c4 c5 c6 c7 c8 c9 f0 f1 f2 fs o0 o1 o2 y0 y1 y2 y3 y4 y5 hw6
              have cc := FL6.out.cells
              obtain ⟨c0, c1, c2, c3, c4, c5, c6, c7, c8, c9⟩ := cc
              have f0 := free_at FL6.out.b3 0
              have f1 := free_at FL6.out.b3 1
              have f2 := free_at FL6.out.b3 2
              go_wp2_with fail
              refine ret_ty rfl rfl (set3 FL6.out.b3 _ _ _) rfl ?_
              rw [e3.out]
              refine ⟨_, rfl, TyV.stored HY6.out _ _ _, X6.out.set3 (b := B + 1 + 1 + 1) (.inr (by have := HB.out; omega)) _ _ _, ?_⟩
              exact heap_setCell_other (heap_setCell_other (heap_setCell_other FL6.out.s (by simp only; omega) _) (by simp only; omega) _) (by simp only; omega) _
      · have hk1 : (k != 3) = true := by simp [hk]
        have e2 : Hid (r = (.mk k n ls, s1)) := hid (by rw [e.out]; unfold aliasP; rw [if_pos hk])
        clear hk
        go_wp2_with fail
        refine ret_ty rfl rfl (set3 FL3.out.b3 _ _ _) rfl ?_
        rw [e2.out]
        refine ⟨_, rfl, TyV.stored (t := .mk k n ls) HU3.out _ _ _, X3.out.set3 (b := B + 1 + 1 + 1) (.inr (by have := HB.out; omega)) _ _ _, ?_⟩
        exact heap_setCell_other (heap_setCell_other (heap_setCell_other FL3.out.s (by simp only; omega) _) (by simp only; omega) _) (by simp only; omega) _
/-- Aliases written out by the program, as by 'fullN'. -/
theorem full_any (ds : List Df) (hds : DefsFit ds) : ∀ (m : Nat), m ≤ 100 → ∀ t, FullAt ds m t := by
  intro m
  induction m with
  | zero =>
    intro _ t
    induction t using Ty.induct with
    | h k n l ih => exact full_step ds hds 0 (by omega) (fun m' h => by omega) k n l ih
  | succ m ihm =>
    intro hm t
    induction t using Ty.induct with
    | h k n l ih => exact full_step ds hds (m + 1) hm (fun m' h => (show m = m' by omega) ▸ ihm (by omega)) k n l ih
end Go.Proofs.YtbhpmmofgdppdaaGreatDoor
