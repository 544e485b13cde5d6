import Derived.Test.YtmlhkgocilpobaaKiTurn
import Derived.Test.YtmlhkgocilpobaaKiP
import Derived.Test.YtmlhkgocilpobaaRegion3
import Derived.Shelf.Abstract
namespace Go.Proofs.Ytmlhkgocilpobaa
open Go.RowKit Go.Lib Go.BigFrame
theorem enter_with : ∀ args w, (callFunc 46 args).run Try.prog w = .ok (.enter 46 args) w := Go.Proofs.enters_of Try.func46 (by kernel_rfl) rfl
def TyPost (C A : Nat → Prop) (w : World) (t : Ty) (e : Ending) (w' : World) : Prop := ∃ u, e = .returned u ∧ TyV A w' t u ∧ Ext C w w'
theorem ret_ty {fn : Func} {p : Tmp} (h : fn.results = #[.cell p 33]) {R : Ending → World → Prop} {a : Act} {w : World} {g : Nat} {y0 y1 y2 : Value} {t : TypeId} {fr : Nat × Nat} (hp : a.tmps.getD p undef = .pointer (some ⟨g, 0, none⟩)) (hg : w.heap[g]? = some (.cells #[y0, y1, y2] t fr))
    (hd : a.defers = []) (hR : R (.returned (.agg #[y0, y1, y2])) w) : bodyPost Try.prog fn R .ret a w :=
  bodyPost_ret (results_cell_row h _ w g t _ fr _ hp hg Try.underlying33 rfl (by kernel_rfl)) hd hR
set_option maxRecDepth 100000 in
set_option maxHeartbeats 1600000 in
theorem with1_any (t r : Ty) (A : Nat → Prop) (v : Value) (a1 a2 : Option Addr) (n1 n2 cap1 cap2 b1 b2 : Nat) (w : World) (h1 : w.heap[b1]? = some (.cells #[.slice a1 n1 cap1] 23 (0, 0))) (h2 : w.heap[b2]? = some (.cells #[.slice a2 n2 cap2] 31 (0, 0)))
    (hv : TyV A w t v) (H : ∀ (B : Nat → Prop) w', Ext none' w w' → (∀ b, A b → B b) → (∀ b, B b → b < w'.heap.size) → (∀ b, b < w.heap.size → B b → A b) → Calls Try.prog 37 #[v, .slice a1 n1 cap1, .slice a2 n2 cap2] w' (TyPost none' B w' r)) (hA : ∀ b, A b → b < w.heap.size) :
    Calls Try.prog 46 #[v, .pointer (some ⟨b1, 0, none⟩), .pointer (some ⟨b2, 0, none⟩)] w (TyPost none' A w r) := by
  obtain ⟨x, rfl, hx⟩ := hv
  obtain ⟨a0, cap0, rfl, _⟩ := hx
  have HH := hid H
  obtain ⟨tk, htk⟩ : ∃ tk, t.kind = tk := ⟨_, rfl⟩
  obtain ⟨tn, htn⟩ : ∃ tn, t.name = tn := ⟨_, rfl⟩
  obtain ⟨tl, htl⟩ : ∃ tl, t.args.length = tl := ⟨_, rfl⟩
  rw [htk, htn, htl] at HH ⊢
  have l1 := heap_lt h1
  have l2 := heap_lt h2
  have c1 := cell_at (heap_alloc_keep (heap_alloc_keep h1 (.cells #[.int .i64 tk, .string ⟨tn.toArray⟩, .slice a0 tl cap0] 33)) (.cells #[.int .i64 0, .string ⟨#[]⟩, .slice none 0 0] 33)) 0
  have c2 := cell_at (heap_alloc_keep (heap_alloc_keep h2 (.cells #[.int .i64 tk, .string ⟨tn.toArray⟩, .slice a0 tl cap0] 33)) (.cells #[.int .i64 0, .string ⟨#[]⟩, .slice none 0 0] 33)) 0
  simp only [List.getElem?_toArray, List.getElem?_cons_zero] at c1 c2
  clear H htk htn htl h1 h2
  go_enter Try.func46, Try.ntmps46
  go_wp2_with fail
  obtain ⟨B, hB⟩ : ∃ B, B = w.heap.size := ⟨_, rfl⟩
  obtain ⟨W0, hW0⟩ : ∃ W0, W0 = (w.alloc (.cells #[.int .i64 tk, .string ⟨tn.toArray⟩, .slice a0 tl cap0] 33)).alloc (.cells #[.int .i64 0, .string ⟨#[]⟩, .slice none 0 0] 33) := ⟨_, rfl⟩
  rw [← hW0, ← hB]
  have X0 : Ext none' w W0 := by rw [hW0]; exact ((Ext.refl _ _).alloc _).alloc _
  have g1 : W0.heap[B + 1]? = some (.cells #[.int .i64 0, .string ⟨#[]⟩, .slice none 0 0] 33 (0, 0)) := by
    rw [hW0]; exact heap_alloc_at (by rw [hB]; simp) _
  have hz : W0.heap.size = B + 2 := by rw [hW0, hB]; simp
  refine (HH.out (and1 A (B + 1)) W0 X0 and1.up (and1.lt hA X0.size (by omega)) (and1.down (by omega))).mono ?_
  rintro e W1 ⟨u, rfl, ⟨y, rfl, hy⟩, X1⟩
  have g1 := X1.heap g1 (fun h => h)
  have f0 := free_at g1 0
  have f1 := free_at g1 1
  have f2 := free_at g1 2
  have e0 := cell_at g1 0
  have e1 := cell_at g1 1
  have e2 := cell_at g1 2
  simp only [List.getElem?_toArray, List.getElem?_cons_zero, List.getElem?_cons_succ] at e0 e1 e2
  have HY := hid hy
  obtain ⟨a3, cap3, rfl, _⟩ := hy
  have G1 := hid g1
  have X1 := hid (X0.trans X1)
  have HB0 := hid hB
  have hlt := hid (heap_lt g1)
  clear g1 hW0 hB X0 c1 c2
  go_wp2_with fail
  refine ret_ty rfl rfl (set3 G1.out _ _ _) rfl ?_
  exact ⟨_, rfl, TyV.stored HY.out _ _ _, X1.out.set3 (b := B + 1) (.inr (by rw [HB0.out]; omega)) _ _ _⟩
set_option maxRecDepth 100000 in
set_option maxHeartbeats 1600000 in
theorem with_any (ps : List (List UInt8)) (by' : List Ty) (hps : ps.length ≤ 1000000000) (t : Ty) : t.size ≤ 100000000000 → ∀ (A : Nat → Prop) (v pv bv : Value) (w : World), TyV A w t v → IsStrs A w pv ps → IsSl 3 IsTy A w bv by' → (∀ b, A b → b < w.heap.size) →
    Calls Try.prog 37 #[v, pv, bv] w (TyPost none' A w (withT ps by' t)) := by
  induction t using Ty.induct with
  | h k n l ih =>
    intro hw A v pv bv w hv hp hb hA
    obtain ⟨r, hr⟩ : ∃ r, r = withT ps by' (.mk k n l) := ⟨_, rfl⟩
    rw [← hr]
    rw [withT_mk] at hr
    obtain ⟨x, rfl, hx⟩ := hv
    have HX := hid hx
    have HP := hid hp
    have HB := hid hb
    have HR := hid hr
    have HIH := hid ih
    have HX : Hid (IsSl 3 IsTy A w x l) := HX
    obtain ⟨a0, cap0, rfl, _⟩ := hx
    obtain ⟨a1, cap1, rfl, _⟩ := hp
    obtain ⟨a2, cap2, rfl, _⟩ := hb
    clear ih hr
    have HIDX := hid fun W (X : Ext none' w W) => index_any A ps n _ W (HP.out.ext isStr_good X fun _ _ h => h.elim) (by omega)
    obtain ⟨z, hz⟩ : ∃ z, fstI (· == n) ps = z := ⟨_, rfl⟩
    rw [hz] at HIDX HR
    have hzc := fstI_cases (· == n) ps
    rw [hz] at hzc
    clear hz
    show Calls Try.prog 37 #[.agg #[.int .i64 k, .string ⟨n.toArray⟩, .slice a0 l.length cap0], .slice a1 ps.length cap1, .slice a2 by'.length cap2] w (TyPost none' A w r)
    go_enter Try.func37, Try.ntmps37
    go_wp2_with fail
    obtain ⟨B, hB⟩ : ∃ B, B = w.heap.size := ⟨_, rfl⟩
    obtain ⟨W0, hW0⟩ : ∃ W0, W0 = (((w.alloc (.cells #[.int .i64 k, .string ⟨n.toArray⟩, .slice a0 l.length cap0] 33)).alloc (.cells #[.slice a1 ps.length cap1] 23)).alloc (.cells #[.slice a2 by'.length cap2] 31)).alloc (.cells #[.int .i64 0, .string ⟨#[]⟩, .slice none 0 0] 33) := ⟨_, rfl⟩
    rw [← hW0, ← hB]
    have X0 : Ext none' w W0 := by rw [hW0]; exact ((((Ext.refl _ _).alloc _).alloc _).alloc _).alloc _
    have z0 : W0.heap.size = B + 4 := by rw [hW0, hB]; simp
    have g0 : W0.heap[B]? = some (.cells #[.int .i64 k, .string ⟨n.toArray⟩, .slice a0 l.length cap0] 33 (0, 0)) := by
      rw [hW0]; exact heap_alloc_keep (heap_alloc_keep (heap_alloc_keep (heap_alloc_at hB _) _) _) _
    have g1 : W0.heap[B + 1]? = some (.cells #[.slice a1 ps.length cap1] 23 (0, 0)) := by
      rw [hW0]; exact heap_alloc_keep (heap_alloc_keep (heap_alloc_at (by rw [hB]; simp) _) _) _
    have g2 : W0.heap[B + 1 + 1]? = some (.cells #[.slice a2 by'.length cap2] 31 (0, 0)) := by
      rw [hW0]; exact heap_alloc_keep (heap_alloc_at (by rw [hB]; simp) _) _
    have g3 : W0.heap[B + 1 + 1 + 1]? = some (.cells #[.int .i64 0, .string ⟨#[]⟩, .slice none 0 0] 33 (0, 0)) := by
      rw [hW0]; exact heap_alloc_at (by rw [hB]; simp) _
    have X0 := hid X0
    have G := hid (And.intro g0 (And.intro g1 (And.intro g2 g3)))
    have HB0 := hid hB
    clear g0 g1 g2 g3 hW0 hB
    refine (HIDX.out W0 X0.out).mono ?_
    rintro e W1 ⟨rfl, X1⟩
    have g0 := X1.heap G.out.1 (fun h => h)
    have g1 := X1.heap G.out.2.1 (fun h => h)
    have g2 := X1.heap G.out.2.2.1 (fun h => h)
    have g3 := X1.heap G.out.2.2.2 (fun h => h)
    have hs1 : B + 4 ≤ W1.heap.size := by have := X1.size; omega
    have F0 : ∀ t : LaterF (one (B + 1 + 1 + 1)) W1, t.w.heap[B]? = some (.cells #[.int .i64 k, .string ⟨n.toArray⟩, .slice a0 l.length cap0] 33 (0, 0)) := fun t => t.x.heap g0 (by unfold one; omega)
    have F1 : ∀ t : LaterF (one (B + 1 + 1 + 1)) W1, t.w.heap[B + 1]? = some (.cells #[.slice a1 ps.length cap1] 23 (0, 0)) := fun t => t.x.heap g1 (by unfold one; omega)
    have F2 : ∀ t : LaterF (one (B + 1 + 1 + 1)) W1, t.w.heap[B + 1 + 1]? = some (.cells #[.slice a2 by'.length cap2] 31 (0, 0)) := fun t => t.x.heap g2 (by unfold one; omega)
    have c0 := fun t => cell_at (F0 t) 0
    have c1 := fun t => cell_at (F0 t) 1
    have c2 := fun t => cell_at (F0 t) 2
    have p0 := fun t => cell_at (F1 t) 0
    have b0 := fun t => cell_at (F2 t) 0
    have d0 := cell_at g0 0
    have d1 := cell_at g1 0
    have d2 := cell_at g2 0
    have f3 := free_at g3
    simp only [List.getElem?_toArray, List.getElem?_cons_zero, List.getElem?_cons_succ] at c0 c1 c2 p0 b0 d0 d1 d2
    have G := hid (And.intro g0 (And.intro g1 (And.intro g2 g3)))
    have X1 := hid (X0.out.trans X1)
    clear g0 g1 g2 g3 F0 F1 F2 X0
    by_cases hc : k = 4 ∧ 0 ≤ z ∧ z < (by'.length : Int)
    · obtain ⟨hk, hz0, hz1⟩ := hc
      have HR1 := hid (HR.out.trans (if_pos ⟨hk, hz0, hz1⟩))
      obtain ⟨i, rfl⟩ : ∃ i : Nat, z = i := ⟨z.toNat, by omega⟩
      have hi : i < by'.length := by omega
      have HR2 : Hid (r = by'[i]) := hid (by rw [HR1.out, Int.toNat_natCast, List.getD_eq_getElem?_getD, List.getElem?_eq_getElem hi]; rfl)
      obtain ⟨b, off, cs, rfl, hAb, hbw, hcc, hty⟩ := ((HB.out.mono (B := and1 A (B + 1 + 1 + 1)) isTy_good (and1.down (by have := HB0.out; omega))).ext isTy_good X1.out fun _ _ h => h.elim).at i hi
      obtain ⟨x, rfl, hx⟩ := hty.parts
      have y0 := hcc 0 _ rfl
      have y1 := hcc 1 _ rfl
      have y2 := hcc 2 _ rfl
      simp only [Nat.add_zero] at y0
      have HY := hid hx
      obtain ⟨a3, cap3, rfl, _⟩ := hx
      have f0 := f3 0
      have f1 := f3 1
      have f2 := f3 2
      have e0 := cell_at G.out.2.2.2 0
      have e1 := cell_at G.out.2.2.2 1
      have e2 := cell_at G.out.2.2.2 2
      simp only [List.getElem?_toArray, List.getElem?_cons_zero, List.getElem?_cons_succ] at e0 e1 e2
      have q1 : (k == 4) = true := by simp [hk]
      have q2 : decide (0 ≤ (i : Int)) = true := by simp
      have q3 : decide ((i : Int) < (by'.length : Int)) = true := by simp; exact hi
      have GG := G
      clear hk hz0 hz1 HR HR1 hzc hcc hty c0 c1 c2 p0 b0 f3 G
      go_wp2_with fail
      refine ret_ty rfl rfl (set3 GG.out.2.2.2 _ _ _) rfl ?_
      rw [HR2.out]
      exact ⟨_, rfl, TyV.stored HY.out _ _ _, X1.out.set3 (b := B + 1 + 1 + 1) (.inr (by have := HB0.out; omega)) _ _ _⟩
    · have HR1 : Hid (r = .mk k n (l.map (withT ps by'))) := hid (by rw [HR.out, if_neg hc])
      have hcc : ((k == 4) = false) ∨ ((k == 4) = true ∧ decide (0 ≤ z) = false) ∨ ((k == 4) = true ∧ decide (0 ≤ z) = true ∧ decide (z < (by'.length : Int)) = false) := by
        by_cases h1 : k = 4
        · by_cases h2 : 0 ≤ z
          · right; right; exact ⟨by simp [h1], by simp [h2], by simp; by_cases h3 : z < (by'.length : Int); exact absurd ⟨h1, h2, h3⟩ hc; omega⟩
          · right; left; exact ⟨by simp [h1], by simp; omega⟩
        · left; simp [h1]
      clear hc HR hzc
      have hmf : ∀ (fn : Fn) (first cap : Array Value) (w : World), (Instr.makeFunc fn first cap).run Try.prog w = .ok (.func fn first cap) w := fun _ _ _ _ => rfl
      have TC := hid fun W (X : Ext (one (B + 1 + 1 + 1)) W1 W) => turned_any 46 #[.pointer (some ⟨B + 1, 0, none⟩), .pointer (some ⟨B + 1 + 1, 0, none⟩)] none' (and1 A (B + 1 + 1 + 1)) l (l.map (withT ps by')) (fun _ _ => True) (.slice a0 l.length cap0) W (by simp) (by have := Ty.args_len (.mk k n l); simp only [Ty.args] at this; omega)
        (fun _ h => h.elim) (and1.lt hA (Nat.le_trans (by have := HB0.out; omega) X.size) (by have := X.size; omega)) (((HX.out.mono isTy_good (and1.down (by have := HB0.out; omega))).ext isTy_good X1.out fun _ _ h => h.elim).ext isTy_good X fun b _ h => .inr h) trivial (fun _ _ _ _ _ => trivial)
        (fun i hi hi' D w' v' x1 x2 x3 x4 hv' _ => by
          have he : (l.map (withT ps by'))[i] = withT ps by' l[i] := by simp
          rw [he]
          have XW : Ext (one (B + 1 + 1 + 1)) W1 w' := X.trans' x1 fun _ _ h => h.elim
          have k1 : w'.heap[B + 1]? = some (.cells #[.slice a1 ps.length cap1] 23 (0, 0)) := XW.heap G.out.2.1 (by unfold one; omega)
          have k2 : w'.heap[B + 1 + 1]? = some (.cells #[.slice a2 by'.length cap2] 31 (0, 0)) := XW.heap G.out.2.2.1 (by unfold one; omega)
          refine (with1_any l[i] (withT ps by' l[i]) D v' a1 a2 ps.length by'.length cap1 cap2 (B + 1) (B + 1 + 1) w' k1 k2 hv' (fun D' w2 y1 y2 y3 y4 => ?_) x3).mono fun e w2 h => ?_
          · have dn : ∀ b, b < w.heap.size → D' b → A b := fun b hb h => by
              have hz := HB0.out
              have h1 := x4 b (by have := X.size; omega) (y4 b (by have := XW.size; omega) h)
              exact h1.elim id fun e => by omega
            have upB : ∀ b, one (B + 1 + 1 + 1) b → D' b := fun b h => y2 b (x2 b (.inr h))
            refine HIH.out l[i] (List.getElem_mem hi) (by have := Ty.size_arg (t := .mk k n l) (List.getElem_mem hi); omega) D' v' _ _ w2 ((hv'.mono y4).ext y1 fun _ _ h => h.elim) ?_ ?_ y3
            · exact (((HP.out.mono isStr_good dn).ext isStr_good X1.out fun _ _ h => h.elim).ext isStr_good XW fun b _ h => upB b h).ext isStr_good y1 fun _ _ h => h.elim
            · exact (((HB.out.mono isTy_good dn).ext isTy_good X1.out fun _ _ h => h.elim).ext isTy_good XW fun b _ h => upB b h).ext isTy_good y1 fun _ _ h => h.elim
          · obtain ⟨u, rfl, hu, X5⟩ := h
            exact ⟨u, rfl, hu, X5, trivial⟩) enter_with
      rcases hcc with h1 | ⟨h1, h2⟩ | ⟨h1, h2, h3⟩
      all_goals
        go_wp2_with fail
        refine region_in (one (B + 1 + 1 + 1)) W1 [0, 1, 2, 3, 4, 5, 6] [(7, true), (8, false), (9, false)] (by kernel_rfl) (by kernel_rfl) (fun dst v c a w h => by cases dst <;> exact h) (Ext.refl _ _) ?_
        simp only [sel, List.getElem?_cons_succ, List.getElem?_cons_zero]
        repeat (go_big_quiet_step (fail))
        refine wpQuiet_nil ?_
        simp only [wpChain, sel, List.getElem?_cons_succ, List.getElem?_cons_zero]
        go_wp2_with fail
        refine (TC.out _ (Ext.refl _ _).drew).mono ?_
        rintro e W2 ⟨u, rfl, hu, X2, _⟩
        have X2 : Ext none' W1 W2 := (Ext.refl _ _).drew.trans X2
        have g3 := X2.heap G.out.2.2.2 (fun h => h)
        have f0 := free_at g3 0
        have f1 := free_at g3 1
        have f2 := free_at g3 2
        have e0 := cell_at g3 0
        have e1 := cell_at g3 1
        have e2 := cell_at g3 2
        simp only [List.getElem?_toArray, List.getElem?_cons_zero, List.getElem?_cons_succ] at e0 e1 e2
        have hu2 := hu
        obtain ⟨a3, cap3, rfl, _⟩ := hu2
        rw [List.length_map] at hu ⊢
        have HU := hid hu
        clear hu
        have G3 := hid g3
        have HX2 := hid X2
        clear g3 X2 c0 c1 c2 p0 b0 d0 d1 d2 f3
        go_wp2_with fail
        refine ⟨In.of (HX2.out.mono fun _ _ h => h.elim), ?_⟩
        go_wp2_with fail
        refine ret_ty rfl rfl (set3 G3.out _ _ _) rfl ?_
        rw [HR1.out]
        exact ⟨_, rfl, TyV.stored (t := .mk k n (l.map (withT ps by'))) HU.out _ _ _, (X1.out.trans HX2.out).set3 (b := B + 1 + 1 + 1) (.inr (by have := HB0.out; omega)) _ _ _⟩
end Go.Proofs.Ytmlhkgocilpobaa
