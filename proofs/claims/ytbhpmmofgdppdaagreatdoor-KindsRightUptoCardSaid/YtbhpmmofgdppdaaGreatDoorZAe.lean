import Derived.Test.YtbhpmmofgdppdaaGreatDoorZAd
import Derived.Shelf.Abstract
namespace Go.Proofs.YtbhpmmofgdppdaaGreatDoor
open Go.RowKit Go.Lib Go.BigFrame
theorem enter_with : ∀ args w, (callFunc 37 args).run Tryz.prog w = .ok (.enter 37 args) w := Go.Proofs.enters_of Tryz.func37 (by kernel_rfl) rfl
def TyPost (C A : Nat → Prop) (w : World) (t : Ty) (e : Ending) (w' : World) : Prop := ∃ u, e = .returned u ∧ TyV A w' t u ∧ Ext C w w'
theorem ret_ty {fn : Func} {p : Tmp} (h : fn.results = #[.cell p 32]) {R : Ending → World → Prop} {a : Act} {w : World} {g : Nat} {y0 y1 y2 : Value} {t : TypeId} {fr : Nat × Nat} (hp : a.tmps.getD p undef = .pointer (some ⟨g, 0, none⟩)) (hg : w.heap[g]? = some (.cells #[y0, y1, y2] t fr))
    (hd : a.defers = []) (hR : R (.returned (.agg #[y0, y1, y2])) w) : bodyPost Tryz.prog fn R .ret a w :=
  bodyPost_ret (results_cell_row h _ w g t _ fr _ hp hg Tryz.underlying32 rfl (by kernel_rfl)) hd hR
set_option maxRecDepth 100000 in
set_option maxHeartbeats 1600000 in
theorem with1_any (t r : Ty) (A : Nat → Prop) (v : Value) (a1 a2 : Option Addr) (n1 n2 cap1 cap2 b1 b2 : Nat) (w : World) (h1 : w.heap[b1]? = some (.cells #[.slice a1 n1 cap1] 41 (0, 0))) (h2 : w.heap[b2]? = some (.cells #[.slice a2 n2 cap2] 30 (0, 0)))
    (hv : TyV A w t v) (H : ∀ (B : Nat → Prop) w', Ext none' w w' → (∀ b, A b → B b) → (∀ b, B b → b < w'.heap.size) → (∀ b, b < w.heap.size → B b → A b) → Calls Tryz.prog 19 #[v, .slice a1 n1 cap1, .slice a2 n2 cap2] w' (TyPost none' B w' r)) (hA : ∀ b, A b → b < w.heap.size) :
    Calls Tryz.prog 37 #[v, .pointer (some ⟨b1, 0, none⟩), .pointer (some ⟨b2, 0, none⟩)] w (TyPost none' A w r) := by
  obtain ⟨x, rfl, hx⟩ := hv
  obtain ⟨a0, cap0, rfl, _⟩ := hx
  have HH := hid H
  obtain ⟨tk, htk⟩ : ∃ tk, t.kind = tk := ⟨_, rfl⟩
  obtain ⟨tn, htn⟩ : ∃ tn, t.name = tn := ⟨_, rfl⟩
  obtain ⟨tl, htl⟩ : ∃ tl, t.args.length = tl := ⟨_, rfl⟩
  rw [htk, htn, htl] at HH ⊢
  have l1 := heap_lt h1
  have l2 := heap_lt h2
  have c1 := cell_at (heap_alloc_keep (heap_alloc_keep h1 (.cells #[.int .i64 tk, .string ⟨tn.toArray⟩, .slice a0 tl cap0] 32)) (.cells #[.int .i64 0, .string ⟨#[]⟩, .slice none 0 0] 32)) 0
  have c2 := cell_at (heap_alloc_keep (heap_alloc_keep h2 (.cells #[.int .i64 tk, .string ⟨tn.toArray⟩, .slice a0 tl cap0] 32)) (.cells #[.int .i64 0, .string ⟨#[]⟩, .slice none 0 0] 32)) 0
  simp only [List.getElem?_toArray, List.getElem?_cons_zero] at c1 c2
  clear H htk htn htl h1 h2
  go_enter Tryz.func37, Tryz.ntmps37
  go_wp2_with fail
  obtain ⟨B, hB⟩ : ∃ B, B = w.heap.size := ⟨_, rfl⟩
  obtain ⟨W0, hW0⟩ : ∃ W0, W0 = (w.alloc (.cells #[.int .i64 tk, .string ⟨tn.toArray⟩, .slice a0 tl cap0] 32)).alloc (.cells #[.int .i64 0, .string ⟨#[]⟩, .slice none 0 0] 32) := ⟨_, rfl⟩
  rw [← hW0, ← hB]
  have X0 : Ext none' w W0 := by rw [hW0]; exact ((Ext.refl _ _).alloc _).alloc _
  have g1 : W0.heap[B + 1]? = some (.cells #[.int .i64 0, .string ⟨#[]⟩, .slice none 0 0] 32 (0, 0)) := by
    rw [hW0]; exact heap_alloc_at (by rw [hB]; simp) _
  have hz : W0.heap.size = B + 2 := by rw [hW0, hB]; simp
  refine (HH.out (and1 A (B + 1)) W0 X0 and1.up (and1.lt hA X0.size (by omega)) (and1.down (by omega))).mono ?_
  rintro e W1 ⟨u, rfl, ⟨y, rfl, hy⟩, X1⟩
  have g1 := X1.heap g1 (fun h => h)
  have f0 := free_at g1 0
  have f1 := free_at g1 1
  have f2 := free_at g1 2
  have e0 := cell_at g1 0
  have e1 := cell_at g1 1
  have e2 := cell_at g1 2
  simp only [List.getElem?_toArray, List.getElem?_cons_zero, List.getElem?_cons_succ] at e0 e1 e2
  have HY := hid hy
  obtain ⟨a3, cap3, rfl, _⟩ := hy
  have G1 := hid g1
  have X1 := hid (X0.trans X1)
  have HB0 := hid hB
  have hlt := hid (heap_lt g1)
  clear g1 hW0 hB X0 c1 c2
  go_wp2_with fail
  refine ret_ty rfl rfl (set3 G1.out _ _ _) rfl ?_
  exact ⟨_, rfl, TyV.stored HY.out _ _ _, X1.out.set3 (b := B + 1) (.inr (by rw [HB0.out]; omega)) _ _ _⟩
set_option maxRecDepth 100000 in
set_option maxHeartbeats 1600000 in
theorem with_any (ps : List (List UInt8)) (by' : List Ty) (hps : ps.length ≤ 1000000000) (t : Ty) : t.size ≤ 100000000000 → ∀ (A : Nat → Prop) (v pv bv : Value) (w : World), TyV A w t v → IsStrs A w pv ps → IsSl 3 IsTy A w bv by' → (∀ b, A b → b < w.heap.size) →
    Calls Tryz.prog 19 #[v, pv, bv] w (TyPost none' A w (withT ps by' t)) := by
  induction t using Ty.induct with
  | h k n l ih =>
    intro hw A v pv bv w hv hp hb hA
    obtain ⟨r, hr⟩ : ∃ r, r = withT ps by' (.mk k n l) := ⟨_, rfl⟩
    rw [← hr]
    rw [withT_mk] at hr
    obtain ⟨x, rfl, hx⟩ := hv
    have HX := hid hx
    have HP := hid hp
    have HB := hid hb
    have HR := hid hr
    have HIH := hid ih
    have HX : Hid (IsSl 3 IsTy A w x l) := HX
    obtain ⟨a0, cap0, rfl, _⟩ := hx
    obtain ⟨a1, cap1, rfl, _⟩ := hp
    obtain ⟨a2, cap2, rfl, _⟩ := hb
    clear ih hr
    have HIDX := hid fun W (X : Ext none' w W) => index_any A ps n _ W (HP.out.ext isStr_good X fun _ _ h => h.elim) (by omega)
    obtain ⟨z, hz⟩ : ∃ z, fstI (· == n) ps = z := ⟨_, rfl⟩
    rw [hz] at HIDX HR
    have hzc := fstI_cases (· == n) ps
    rw [hz] at hzc
    clear hz
    show Calls Tryz.prog 19 #[.agg #[.int .i64 k, .string ⟨n.toArray⟩, .slice a0 l.length cap0], .slice a1 ps.length cap1, .slice a2 by'.length cap2] w (TyPost none' A w r)
    go_enter Tryz.func19, Tryz.ntmps19
    go_wp2_with fail
    obtain ⟨B, hB⟩ : ∃ B, B = w.heap.size := ⟨_, rfl⟩
    obtain ⟨W0, hW0⟩ : ∃ W0, W0 = (((w.alloc (.cells #[.int .i64 k, .string ⟨n.toArray⟩, .slice a0 l.length cap0] 32)).alloc (.cells #[.slice a1 ps.length cap1] 41)).alloc (.cells #[.slice a2 by'.length cap2] 30)).alloc (.cells #[.int .i64 0, .string ⟨#[]⟩, .slice none 0 0] 32) := ⟨_, rfl⟩
    rw [← hW0, ← hB]
    have X0 : Ext none' w W0 := by rw [hW0]; exact ((((Ext.refl _ _).alloc _).alloc _).alloc _).alloc _
    have z0 : W0.heap.size = B + 4 := by rw [hW0, hB]; simp
    have g0 : W0.heap[B]? = some (.cells #[.int .i64 k, .string ⟨n.toArray⟩, .slice a0 l.length cap0] 32 (0, 0)) := by
      rw [hW0]; exact heap_alloc_keep (heap_alloc_keep (heap_alloc_keep (heap_alloc_at hB _) _) _) _
    have g1 : W0.heap[B + 1]? = some (.cells #[.slice a1 ps.length cap1] 41 (0, 0)) := by
      rw [hW0]; exact heap_alloc_keep (heap_alloc_keep (heap_alloc_at (by rw [hB]; simp) _) _) _
    have g2 : W0.heap[B + 1 + 1]? = some (.cells #[.slice a2 by'.length cap2] 30 (0, 0)) := by
      rw [hW0]; exact heap_alloc_keep (heap_alloc_at (by rw [hB]; simp) _) _
    have g3 : W0.heap[B + 1 + 1 + 1]? = some (.cells #[.int .i64 0, .string ⟨#[]⟩, .slice none 0 0] 32 (0, 0)) := by
      rw [hW0]; exact heap_alloc_at (by rw [hB]; simp) _
    have X0 := hid X0
    have G := hid (And.intro g0 (And.intro g1 (And.intro g2 g3)))
    have HB0 := hid hB
    clear g0 g1 g2 g3 hW0 hB
    refine (HIDX.out W0 X0.out).mono ?_
    rintro e W1 ⟨rfl, X1⟩
    have g0 := X1.heap G.out.1 (fun h => h)
    have g1 := X1.heap G.out.2.1 (fun h => h)
    have g2 := X1.heap G.out.2.2.1 (fun h => h)
    have g3 := X1.heap G.out.2.2.2 (fun h => h)
    have hs1 : B + 4 ≤ W1.heap.size := by have := X1.size; omega
    have F0 : ∀ t : LaterF (one (B + 1 + 1 + 1)) W1, t.w.heap[B]? = some (.cells #[.int .i64 k, .string ⟨n.toArray⟩, .slice a0 l.length cap0] 32 (0, 0)) := fun t => t.x.heap g0 (by unfold one; omega)
    have F1 : ∀ t : LaterF (one (B + 1 + 1 + 1)) W1, t.w.heap[B + 1]? = some (.cells #[.slice a1 ps.length cap1] 41 (0, 0)) := fun t => t.x.heap g1 (by unfold one; omega)
    have F2 : ∀ t : LaterF (one (B + 1 + 1 + 1)) W1, t.w.heap[B + 1 + 1]? = some (.cells #[.slice a2 by'.length cap2] 30 (0, 0)) := fun t => t.x.heap g2 (by unfold one; omega)
    have c0 := fun t => cell_at (F0 t) 0
    have c1 := fun t => cell_at (F0 t) 1
    have c2 := fun t => cell_at (F0 t) 2
    have p0 := fun t => cell_at (F1 t) 0
    have b0 := fun t => cell_at (F2 t) 0
    have d0 := cell_at g0 0
    have d1 := cell_at g1 0
    have d2 := cell_at g2 0
    have f3 := free_at g3
    simp only [List.getElem?_toArray, List.getElem?_cons_zero, List.getElem?_cons_succ] at c0 c1 c2 p0 b0 d0 d1 d2
    have G := hid (And.intro g0 (And.intro g1 (And.intro g2 g3)))
    have X1 := hid (X0.out.trans X1)
    clear g0 g1 g2 g3 F0 F1 F2 X0
    by_cases hc : k = 4 ∧ 0 ≤ z ∧ z < (by'.length : Int)
    · obtain ⟨hk, hz0, hz1⟩ := hc
      have HR1 := hid (HR.out.trans (if_pos ⟨hk, hz0, hz1⟩))
      obtain ⟨i, rfl⟩ : ∃ i : Nat, z = i := ⟨z.toNat, by omega⟩
      have hi : i < by'.length := by omega
      have HR2 : Hid (r = by'[i]) := hid (by rw [HR1.out, Int.toNat_natCast, List.getD_eq_getElem?_getD, List.getElem?_eq_getElem hi]; rfl)
      obtain ⟨b, off, cs, rfl, hAb, hbw, hcc, hty⟩ := ((HB.out.mono (B := and1 A (B + 1 + 1 + 1)) isTy_good (and1.down (by have := HB0.out; omega))).ext isTy_good X1.out fun _ _ h => h.elim).at i hi
      obtain ⟨x, rfl, hx⟩ := hty.parts
      have y0 := hcc 0 _ rfl
      have y1 := hcc 1 _ rfl
      have y2 := hcc 2 _ rfl
      simp only [Nat.add_zero] at y0
      have HY := hid hx
      obtain ⟨a3, cap3, rfl, _⟩ := hx
      have f0 := f3 0
      have f1 := f3 1
      have f2 := f3 2
      have e0 := cell_at G.out.2.2.2 0
      have e1 := cell_at G.out.2.2.2 1
      have e2 := cell_at G.out.2.2.2 2
      simp only [List.getElem?_toArray, List.getElem?_cons_zero, List.getElem?_cons_succ] at e0 e1 e2
      have q1 : (k == 4) = true := by simp [hk]
      have q2 : decide (0 ≤ (i : Int)) = true := by simp
      have q3 : decide ((i : Int) < (by'.length : Int)) = true := by simp; exact hi
      have GG := G
      clear hk hz0 hz1 HR HR1 hzc hcc hty c0 c1 c2 p0 b0 f3 G
      go_wp2_with fail
      refine ret_ty rfl rfl (set3 GG.out.2.2.2 _ _ _) rfl ?_
      rw [HR2.out]
      exact ⟨_, rfl, TyV.stored HY.out _ _ _, X1.out.set3 (b := B + 1 + 1 + 1) (.inr (by have := HB0.out; omega)) _ _ _⟩
    · have HR1 : Hid (r = .mk k n (l.map (withT ps by'))) := hid (by rw [HR.out, if_neg hc])
      have hcc : ((k == 4) = false) ∨ ((k == 4) = true ∧ decide (0 ≤ z) = false) ∨ ((k == 4) = true ∧ decide (0 ≤ z) = true ∧ decide (z < (by'.length : Int)) = false) := by
        by_cases h1 : k = 4
        · by_cases h2 : 0 ≤ z
          · right; right; exact ⟨by simp [h1], by simp [h2], by simp; by_cases h3 : z < (by'.length : Int); exact absurd ⟨h1, h2, h3⟩ hc; omega⟩
          · right; left; exact ⟨by simp [h1], by simp; omega⟩
        · left; simp [h1]
      clear hc HR hzc
      have hmf : ∀ (fn : Fn) (first cap : Array Value) (w : World), (Instr.makeFunc fn first cap).run Tryz.prog w = .ok (.func fn first cap) w := fun _ _ _ _ => rfl
      have TC := hid fun W (X : Ext (one (B + 1 + 1 + 1)) W1 W) => turned_any 37 #[.pointer (some ⟨B + 1, 0, none⟩), .pointer (some ⟨B + 1 + 1, 0, none⟩)] none' (and1 A (B + 1 + 1 + 1)) l (l.map (withT ps by')) (fun _ _ => True) (.slice a0 l.length cap0) W (by simp) (by have := Ty.args_len (.mk k n l); simp only [Ty.args] at this; omega)
        (fun _ h => h.elim) (and1.lt hA (Nat.le_trans (by have := HB0.out; omega) X.size) (by have := X.size; omega)) (((HX.out.mono isTy_good (and1.down (by have := HB0.out; omega))).ext isTy_good X1.out fun _ _ h => h.elim).ext isTy_good X fun b _ h => .inr h) trivial (fun _ _ _ _ _ => trivial)
        (fun i hi hi' D w' v' x1 x2 x3 x4 hv' _ => by
          have he : (l.map (withT ps by'))[i] = withT ps by' l[i] := by simp
          rw [he]
          have XW : Ext (one (B + 1 + 1 + 1)) W1 w' := X.trans' x1 fun _ _ h => h.elim
          have k1 : w'.heap[B + 1]? = some (.cells #[.slice a1 ps.length cap1] 41 (0, 0)) := XW.heap G.out.2.1 (by unfold one; omega)
          have k2 : w'.heap[B + 1 + 1]? = some (.cells #[.slice a2 by'.length cap2] 30 (0, 0)) := XW.heap G.out.2.2.1 (by unfold one; omega)
          refine (with1_any l[i] (withT ps by' l[i]) D v' a1 a2 ps.length by'.length cap1 cap2 (B + 1) (B + 1 + 1) w' k1 k2 hv' (fun D' w2 y1 y2 y3 y4 => ?_) x3).mono fun e w2 h => ?_
          · have dn : ∀ b, b < w.heap.size → D' b → A b := fun b hb h => by
              have hz := HB0.out
              have h1 := x4 b (by have := X.size; omega) (y4 b (by have := XW.size; omega) h)
              exact h1.elim id fun e => by omega
            have upB : ∀ b, one (B + 1 + 1 + 1) b → D' b := fun b h => y2 b (x2 b (.inr h))
            refine HIH.out l[i] (List.getElem_mem hi) (by have := Ty.size_arg (t := .mk k n l) (List.getElem_mem hi); omega) D' v' _ _ w2 ((hv'.mono y4).ext y1 fun _ _ h => h.elim) ?_ ?_ y3
            · exact (((HP.out.mono isStr_good dn).ext isStr_good X1.out fun _ _ h => h.elim).ext isStr_good XW fun b _ h => upB b h).ext isStr_good y1 fun _ _ h => h.elim
            · exact (((HB.out.mono isTy_good dn).ext isTy_good X1.out fun _ _ h => h.elim).ext isTy_good XW fun b _ h => upB b h).ext isTy_good y1 fun _ _ h => h.elim
          · obtain ⟨u, rfl, hu, X5⟩ := h
            exact ⟨u, rfl, hu, X5, trivial⟩) enter_with
      rcases hcc with h1 | ⟨h1, h2⟩ | ⟨h1, h2, h3⟩
      all_goals
        go_wp2_with fail
        refine region_in (one (B + 1 + 1 + 1)) W1 [0, 1, 2, 3, 4, 5, 6] [(7, true), (8, false), (9, false)] (by kernel_rfl) (by kernel_rfl) (fun dst v c a w h => by cases dst <;> exact h) (Ext.refl _ _) ?_
        simp only [sel, List.getElem?_cons_succ, List.getElem?_cons_zero]
        repeat (go_big_quiet_step (fail))
        refine wpQuiet_nil ?_
        simp only [wpChain, sel, List.getElem?_cons_succ, List.getElem?_cons_zero]
        go_wp2_with fail
        refine (TC.out _ (Ext.refl _ _).drew).mono ?_
        rintro e W2 ⟨u, rfl, hu, X2, _⟩
        have X2 : Ext none' W1 W2 := (Ext.refl _ _).drew.trans X2
        have g3 := X2.heap G.out.2.2.2 (fun h => h)
        have f0 := free_at g3 0
        have f1 := free_at g3 1
        have f2 := free_at g3 2
        have e0 := cell_at g3 0
        have e1 := cell_at g3 1
        have e2 := cell_at g3 2
        simp only [List.getElem?_toArray, List.getElem?_cons_zero, List.getElem?_cons_succ] at e0 e1 e2
        have hu2 := hu
        obtain ⟨a3, cap3, rfl, _⟩ := hu2
        rw [List.length_map] at hu ⊢
        have HU := hid hu
        clear hu
        have G3 := hid g3
        have HX2 := hid X2
        clear g3 X2 c0 c1 c2 p0 b0 d0 d1 d2 f3
        go_wp2_with fail
        refine ⟨In.of (HX2.out.mono fun _ _ h => h.elim), ?_⟩
        go_wp2_with fail
        refine ret_ty rfl rfl (set3 G3.out _ _ _) rfl ?_
        rw [HR1.out]
        exact ⟨_, rfl, TyV.stored (t := .mk k n (l.map (withT ps by'))) HU.out _ _ _, (X1.out.trans HX2.out).set3 (b := B + 1 + 1 + 1) (.inr (by have := HB0.out; omega)) _ _ _⟩
end Go.Proofs.YtbhpmmofgdppdaaGreatDoor
/-
  Aliases written out, within so many steps: plain. No Go in sight.
-/
namespace Go.Proofs.YtbhpmmofgdppdaaGreatDoor
open Go.Lib
/-- What stands behind a name. -/
structure Df where
  name : List UInt8
  params : List (List UInt8)
  ty : Ty
  als : Bool
def defAt (ds : List Df) (n : List UInt8) : Option Df := ds.find? fun d => d.name == n
theorem defAt_at {ds : List Df} {n : List UInt8} {i : Nat} (hi : i < ds.length) (h : fstI (fun d => d.name == n) ds = (i : Nat)) : defAt ds n = some ds[i] := by
  unfold fstI at h
  unfold defAt
  cases hf : ds.findIdx? (fun d => d.name == n) with
  | none => rw [hf] at h; simp only at h; omega
  | some j =>
    rw [hf] at h
    simp only at h
    obtain rfl : j = i := by omega
    rw [List.findIdx?_eq_some_iff_getElem] at hf
    obtain ⟨h1, h2, h3⟩ := hf
    rw [List.find?_eq_some_iff_getElem]
    exact ⟨h2, j, h1, rfl, fun k hk => by have := h3 k hk; simpa using this⟩
theorem defAt_none {ds : List Df} {n : List UInt8} (h : fstI (fun d => d.name == n) ds = -1) : defAt ds n = none := by
  rcases fstI_cases (fun d : Df => d.name == n) ds with ⟨_, h2⟩ | ⟨i, _, h2, _⟩
  · unfold defAt
    rw [List.find?_eq_none]
    intro x hx
    simpa using h2 x hx
  · rw [h] at h2; omega
abbrev Rec := Option (Ty → Int → Ty × Int)
def aliasP (ds : List Df) (rec : Rec) (k : Int) (n : List UInt8) (x : List Ty × Int) : Ty × Int :=
  if k ≠ 3 then (.mk k n x.1, x.2) else match defAt ds n with
    | none => (.mk k n x.1, x.2)
    | some d => if d.als = false then (.mk k n x.1, x.2) else match rec with
      | none => (Ty.zero, 0)
      | some f => if d.params.length ≠ x.1.length then (Ty.zero, 0) else f (withT d.params x.1 d.ty) x.2
mutual
def fullT (ds : List Df) (rec : Rec) : Ty → Int → Ty × Int
  | .mk k n l, s => if s - 1 < 0 then (Ty.zero, s - 1) else aliasP ds rec k n (fullL ds rec l (s - 1))
def fullL (ds : List Df) (rec : Rec) : List Ty → Int → List Ty × Int
  | [], s => ([], s)
  | t :: r, s => ((fullT ds rec t s).1 :: (fullL ds rec r (fullT ds rec t s).2).1, (fullL ds rec r (fullT ds rec t s).2).2)
end
def fullN (ds : List Df) : Nat → Ty → Int → Ty × Int
  | 0 => fullT ds none
  | n + 1 => fullT ds (some (fullN ds n))
def recN (ds : List Df) : Nat → Rec
  | 0 => none
  | n + 1 => some (fullN ds n)
theorem fullN_eq (ds : List Df) (n : Nat) : fullN ds n = fullT ds (recN ds n) := by cases n <;> rfl
def fullP (ds : List Df) (t : Ty) : Ty := if 0 < (fullN ds 100 t 20000).2 then (fullN ds 100 t 20000).1 else Ty.zero
theorem fullL_len (ds : List Df) (rec : Rec) : ∀ (l : List Ty) (s : Int), (fullL ds rec l s).1.length = l.length
  | [], _ => rfl
  | t :: r, s => by rw [fullL, List.length_cons, List.length_cons, fullL_len ds rec r]
/-- The steps that are left ahead of the i-th. -/
def stepsAt (ds : List Df) (rec : Rec) : List Ty → Int → Nat → Int
  | [], s, _ => s
  | _ :: _, s, 0 => s
  | t :: r, s, i + 1 => stepsAt ds rec r (fullT ds rec t s).2 i
theorem stepsAt_zero (ds : List Df) (rec : Rec) (l : List Ty) (s : Int) : stepsAt ds rec l s 0 = s := by cases l <;> rfl
theorem stepsAt_end (ds : List Df) (rec : Rec) : ∀ (l : List Ty) (s : Int), stepsAt ds rec l s l.length = (fullL ds rec l s).2
  | [], _ => rfl
  | t :: r, s => by rw [List.length_cons, stepsAt, stepsAt_end ds rec r, fullL]
theorem stepsAt_succ (ds : List Df) (rec : Rec) : ∀ (l : List Ty) (s : Int) (i : Nat) (h : i < l.length), stepsAt ds rec l s (i + 1) = (fullT ds rec l[i] (stepsAt ds rec l s i)).2
  | t :: r, s, 0, _ => by show stepsAt ds rec r (fullT ds rec t s).2 0 = _; rw [stepsAt_zero]; rfl
  | t :: r, s, i + 1, h => by
    rw [stepsAt, stepsAt_succ ds rec r _ i (by simpa using h)]
    rfl
theorem fullL_at (ds : List Df) (rec : Rec) : ∀ (l : List Ty) (s : Int) (i : Nat) (h : i < l.length) (h' : i < (fullL ds rec l s).1.length), (fullL ds rec l s).1[i] = (fullT ds rec l[i] (stepsAt ds rec l s i)).1
  | t :: r, s, 0, _, _ => by simp only [fullL]; rfl
  | t :: r, s, i + 1, h, h' => by
    simp only [fullL]
    exact fullL_at ds rec r _ i (by simpa using h) (by simpa [fullL] using h')
/-- How large the types that are written out may be. -/
def bigD : Nat := 20000000000
/-- What is known of a step: it goes down; a type is not larger than the steps it took; how far below nought it ends. -/
structure StepOk (m : Nat) (f : Ty → Int → Ty × Int) : Prop where
  dn : ∀ t s, s ≤ 20000 → (f t s).2 ≤ s - 1
  sz : ∀ t s, s ≤ 20000 → ((f t s).1.size : Int) ≤ s - (f t s).2
  low : ∀ t s, s ≤ 20000 → t.size ≤ bigD → min s 0 - (t.size : Int) - (m : Int) * bigD ≤ (f t s).2
  neg : ∀ t s, s ≤ 0 → (f t s).2 = s - 1
def DefsOk (ds : List Df) : Prop := ∀ d ∈ ds, d.ty.size ≤ 1000000
theorem defAt_mem {ds : List Df} {n : List UInt8} {d : Df} (h : defAt ds n = some d) : d ∈ ds := List.mem_of_find?_eq_some h
theorem sizeL_pos_of_mem {l : List Ty} {t : Ty} (h : t ∈ l) : 1 ≤ Ty.sizeL l := Nat.le_trans t.size_pos (Ty.sizeL_mem h)
theorem with_big {ds : List Df} (hd : DefsOk ds) {n : List UInt8} {d : Df} (h : defAt ds n = some d) {l : List Ty} (hl : Ty.sizeL l ≤ 20000) : (withT d.params l d.ty).size ≤ bigD := by
  have h1 := hd d (defAt_mem h)
  have h2 := withT_size (ps := d.params) (by' := l) (m := 20000) (by omega) (fun t ht => Nat.le_trans (Ty.sizeL_mem ht) hl) d.ty
  have h3 : d.ty.size * 20000 ≤ 1000000 * 20000 := Nat.mul_le_mul_right _ h1
  unfold bigD
  omega
theorem step_ok {ds : List Df} (hd : DefsOk ds) (n : Nat) : StepOk n (fullN ds n) := by
  have core : ∀ (m : Nat) (rec : Rec), (∀ f, rec = some f → ∃ m', m = m' + 1 ∧ StepOk m' f) → StepOk m (fullT ds rec) := by
    intro m rec hrec
    have neg : ∀ t s, s ≤ 0 → (fullT ds rec t s).2 = s - 1 := by
      intro t s hs
      cases t with
      | mk k n l => rw [fullT, if_pos (by omega)]
    have hm0 : (0 : Int) ≤ (m : Int) * bigD := Int.mul_nonneg (by omega) (by unfold bigD; omega)
    have main : ∀ (t : Ty) (s : Int), s ≤ 20000 → (fullT ds rec t s).2 ≤ s - 1 ∧ ((fullT ds rec t s).1.size : Int) ≤ s - (fullT ds rec t s).2 ∧ (t.size ≤ bigD → min s 0 - (t.size : Int) - (m : Int) * bigD ≤ (fullT ds rec t s).2) := by
      intro t
      induction t using Ty.induct with
      | h k n l ih =>
        intro s hs
        rw [fullT]
        by_cases h0 : s - 1 < 0
        · rw [if_pos h0]
          refine ⟨by simp, by simp [Ty.zero, Ty.size, Ty.sizeL]; omega, fun _ => ?_⟩
          have := Ty.size_pos (.mk k n l)
          simp only
          omega
        · rw [if_neg h0]
          -- the row of the parts, by the parts
          have lp : ∀ (l' : List Ty), (∀ t ∈ l', ∀ (s : Int), s ≤ 20000 → (fullT ds rec t s).2 ≤ s - 1 ∧ ((fullT ds rec t s).1.size : Int) ≤ s - (fullT ds rec t s).2 ∧ (t.size ≤ bigD → min s 0 - (t.size : Int) - (m : Int) * bigD ≤ (fullT ds rec t s).2)) →
              ∀ s : Int, s ≤ 20000 → (fullL ds rec l' s).2 ≤ s ∧ (Ty.sizeL (fullL ds rec l' s).1 : Int) ≤ s - (fullL ds rec l' s).2 ∧ (Ty.sizeL l' ≤ bigD → min s 0 - (Ty.sizeL l' : Int) - (m : Int) * bigD ≤ (fullL ds rec l' s).2) ∧ (s ≤ 0 → (fullL ds rec l' s).2 = s - l'.length) := by
            intro l'
            induction l' with
            | nil => intro _ s _; simp only [fullL, Ty.sizeL]; exact ⟨by omega, by simp, fun _ => by omega, fun _ => by simp⟩
            | cons t r ihr =>
              intro h s hs
              have a := h t (by simp) s hs
              have b := ihr (fun x hx => h x (by simp [hx])) (fullT ds rec t s).2 (by omega)
              simp only [fullL, Ty.sizeL]
              refine ⟨by omega, by omega, fun hb => ?_, fun hn => ?_⟩
              · have a3 := a.2.2 (by omega)
                have b3 := b.2.2.1 (by omega)
                by_cases hp : (fullT ds rec t s).2 ≤ 0
                · rw [b.2.2.2 hp]
                  have := Ty.sizeL_len r
                  omega
                · omega
              · have := neg t s hn
                rw [b.2.2.2 (by omega), this, List.length_cons]
                omega
          obtain ⟨p1, p2, p3, p4⟩ := lp l ih (s - 1) (by omega)
          clear p4
          have same : (fullL ds rec l (s - 1)).2 ≤ s - 1 ∧ ((Ty.mk k n (fullL ds rec l (s - 1)).1).size : Int) ≤ s - (fullL ds rec l (s - 1)).2 ∧ ((Ty.mk k n l).size ≤ bigD → min s 0 - ((Ty.mk k n l).size : Int) - (m : Int) * bigD ≤ (fullL ds rec l (s - 1)).2) := by
            refine ⟨by omega, by rw [Ty.size]; omega, fun hb => ?_⟩
            rw [Ty.size] at hb ⊢
            have := p3 (by omega)
            omega
          have zero : (0 : Int) ≤ s - 1 ∧ (Ty.zero.size : Int) ≤ s - 0 ∧ ((Ty.mk k n l).size ≤ bigD → min s 0 - ((Ty.mk k n l).size : Int) - (m : Int) * bigD ≤ 0) := by
            refine ⟨by omega, by simp [Ty.zero, Ty.size, Ty.sizeL]; omega, fun _ => ?_⟩
            have := Ty.size_pos (.mk k n l)
            omega
          unfold aliasP
          split
          · exact same
          · split
            · exact same
            · rename_i d hdd
              split
              · exact same
              · split
                · exact zero
                · rename_i f
                  split
                  · exact zero
                  · obtain ⟨m', rfl, ok⟩ := hrec f rfl
                    have q1 := ok.dn (withT d.params (fullL ds (some f) l (s - 1)).1 d.ty) (fullL ds (some f) l (s - 1)).2 (by omega)
                    have q2 := ok.sz (withT d.params (fullL ds (some f) l (s - 1)).1 d.ty) (fullL ds (some f) l (s - 1)).2 (by omega)
                    refine ⟨by omega, by omega, fun hb => ?_⟩
                    rw [Ty.size] at hb ⊢
                    have p3' := p3 (by omega)
                    have em : ((m' + 1 : Nat) : Int) * bigD = (m' : Int) * bigD + bigD := by rw [Int.natCast_add, Int.add_mul]; simp
                    rw [em] at p3' ⊢
                    by_cases hp : (fullL ds (some f) l (s - 1)).2 ≤ 0
                    · rw [ok.neg _ _ hp]
                      omega
                    · have hw := with_big hd hdd (l := (fullL ds (some f) l (s - 1)).1) (by omega)
                      have := ok.low (withT d.params (fullL ds (some f) l (s - 1)).1 d.ty) (fullL ds (some f) l (s - 1)).2 (by omega) hw
                      have hD : ((withT d.params (fullL ds (some f) l (s - 1)).1 d.ty).size : Int) ≤ (bigD : Int) := by omega
                      omega
    exact ⟨fun t s h => (main t s h).1, fun t s h => (main t s h).2.1, fun t s h => (main t s h).2.2, neg⟩
  induction n with
  | zero => exact core 0 none (fun f h => by cases h)
  | succ n ih => exact core (n + 1) (some (fullN ds n)) (fun f h => by injection h with h; subst h; exact ⟨n, rfl, ih⟩)
theorem steps_neg {m : Nat} {ds : List Df} {rec : Rec} (ok : StepOk m (fullT ds rec)) : ∀ (l : List Ty) (s : Int) (i : Nat), s ≤ 0 → s - l.length ≤ stepsAt ds rec l s i ∧ stepsAt ds rec l s i ≤ s
  | [], s, _, _ => by rw [stepsAt]; simp
  | t :: r, s, 0, _ => by rw [stepsAt_zero]; omega
  | t :: r, s, i + 1, h => by
    have h1 := ok.neg t s h
    have := steps_neg ok r (fullT ds rec t s).2 i (by omega)
    rw [stepsAt, List.length_cons]
    omega
theorem steps_low {m : Nat} {ds : List Df} {rec : Rec} (ok : StepOk m (fullT ds rec)) : ∀ (l : List Ty) (s : Int) (i : Nat), s ≤ 20000 → Ty.sizeL l ≤ bigD → min s 0 - (Ty.sizeL l : Int) - (m : Int) * bigD ≤ stepsAt ds rec l s i ∧ stepsAt ds rec l s i ≤ s
  | [], s, _, _, _ => by
    have : (0 : Int) ≤ (m : Int) * bigD := Int.mul_nonneg (by omega) (by unfold bigD; omega)
    rw [stepsAt, Ty.sizeL]; omega
  | t :: r, s, 0, _, _ => by
    have : (0 : Int) ≤ (m : Int) * bigD := Int.mul_nonneg (by omega) (by unfold bigD; omega)
    rw [stepsAt_zero]; omega
  | t :: r, s, i + 1, hs, hb => by
    have : (0 : Int) ≤ (m : Int) * bigD := Int.mul_nonneg (by omega) (by unfold bigD; omega)
    rw [Ty.sizeL] at hb ⊢
    have h1 := ok.low t s hs (by omega)
    have h0 := ok.dn t s hs
    rw [stepsAt]
    by_cases hp : (fullT ds rec t s).2 ≤ 0
    · have := steps_neg ok r (fullT ds rec t s).2 i hp
      have := Ty.sizeL_len r
      omega
    · have := steps_low ok r (fullT ds rec t s).2 i (by omega) (by omega)
      omega
theorem list_sz {m : Nat} {ds : List Df} {rec : Rec} (ok : StepOk m (fullT ds rec)) : ∀ (l : List Ty) (s : Int), s ≤ 20000 → (fullL ds rec l s).2 ≤ s ∧ (Ty.sizeL (fullL ds rec l s).1 : Int) ≤ s - (fullL ds rec l s).2
  | [], s, _ => by simp [fullL, Ty.sizeL]
  | t :: r, s, hs => by
    have h1 := ok.dn t s hs
    have h2 := ok.sz t s hs
    have := list_sz ok r (fullT ds rec t s).2 (by omega)
    simp only [fullL, Ty.sizeL]
    omega
theorem full_size {ds : List Df} (hd : DefsOk ds) (t : Ty) : (fullP ds t).size ≤ 20000 := by
  have h := (step_ok hd 100).sz t 20000 (by omega)
  unfold fullP
  split
  · omega
  · simp [Ty.zero, Ty.size, Ty.sizeL]
end Go.Proofs.YtbhpmmofgdppdaaGreatDoor
