import Derived.Test.YthoeengfgkfchaaSeUnion
/-
  sets.Of: a tree's constraint.
-/
namespace Go.Proofs.Ythoeengfgkfchaa
open Go.RowKit Go.Lib Go.BigFrame
def foundP (t : List UInt8) : Option Cn → Cn × Bool
  | some c => (c, true)
  | none => (⟨t == nAny, t == nCmp, []⟩, t == nAny || t == nCmp)
theorem ofPair_eq (given : List Bd) (n : Nd) : ofPair given n = if n.kind = 14 then pairU n.kids else if n.kind ≠ 10 ∨ 0 < n.kids.length then (cn0, false) else foundP n.text (findC given n.text) := by
  unfold ofPair foundP
  cases findC given n.text <;> rfl
set_option maxRecDepth 100000 in
set_option maxHeartbeats 6400000 in
theorem Of_any (n : Nd) (given : List Bd) (hl : n.kids.length ≤ 1000000) (hg : given.length ≤ 1000000000) (hgt : ∀ b ∈ given, b.set.terms.length ≤ 1000000000) (A : Nat → Prop) (v gv : Value) (w : World) (hv : NdV none' w n v) (hgv : IsSl 4 IsBd A w gv given) (hA : ∀ b, A b → b < w.heap.size) :
    Calls Try.prog 18 #[v, gv] w (PairPost A w (ofPair given n)) := by
  obtain ⟨x, rfl, hx⟩ := hv
  have HX := hid hx
  obtain ⟨a, cap, rfl, _⟩ := hx
  have HG := hid hgv
  obtain ⟨ga, gcap, rfl, _⟩ := hgv
  obtain ⟨P, hP⟩ : ∃ P, P = ofPair given n := ⟨_, rfl⟩
  rw [← hP]
  rw [ofPair_eq] at hP
  have HA := hid hA
  obtain ⟨B, hB⟩ : ∃ B, B = w.heap.size := ⟨_, rfl⟩
  have HB := hid hB
  have CU := hid fun (W : World) (X : Ext none' w W) (hs : B + 2 ≤ W.heap.size) => union_any n hl (and1 A (B + 1)) (.agg #[.int .i64 n.kind, .string ⟨n.text.toArray⟩, .slice a n.kids.length cap, .int .i64 n.pos]) W ⟨_, rfl, HX.out.ext isNd_good X fun _ _ h => h.elim⟩ (fun b hb => hb.elim (fun h => Nat.lt_of_lt_of_le (HA.out b h) X.size) fun h => by rw [h]; omega)
  have CF := hid fun (W : World) (X : Ext none' w W) (hs : B + 2 ≤ W.heap.size) => FindC_any given n.text hg hgt (and1 A (B + 1)) (.slice ga given.length gcap) W ((HG.out.mono (B := and1 A (B + 1)) isBd_good (and1.down (by omega))).ext isBd_good X fun _ _ h => h.elim) (fun b hb => hb.elim (fun h => Nat.lt_of_lt_of_le (HA.out b h) X.size) fun h => by rw [h]; omega)
  obtain ⟨pu, hpu⟩ : ∃ pu, pairU n.kids = pu := ⟨_, rfl⟩
  obtain ⟨o, ho⟩ : ∃ o, findC given n.text = o := ⟨_, rfl⟩
  rw [hpu] at CU hP
  rw [ho] at CF hP
  have HP := hid hP
  clear hP hpu ho hA hgt hg
  obtain ⟨⟨⟨ua, uc, ut⟩, ub⟩, hpu⟩ : ∃ q, pu = q := ⟨_, rfl⟩
  subst hpu
  obtain ⟨W0, hW0⟩ : ∃ W0, W0 = (w.alloc (.cells #[.int .i64 n.kind, .string ⟨n.text.toArray⟩, .slice a n.kids.length cap, .int .i64 n.pos] 59)).alloc (.cells #[.bool false, .bool false, .slice none 0 0] 45) := ⟨_, rfl⟩
  have X0 : Hid (Ext none' w W0) := hid (by rw [hW0]; exact ((Ext.refl _ _).alloc _).alloc _)
  have G0 : Hid (W0.heap[B]? = some (.cells #[.int .i64 n.kind, .string ⟨n.text.toArray⟩, .slice a n.kids.length cap, .int .i64 n.pos] 59 (0, 0))) := hid (by rw [hW0]; exact heap_alloc_keep (heap_alloc_at hB _) _)
  have G1 : Hid (W0.heap[B + 1]? = some (.cells #[.bool false, .bool false, .slice none 0 0] 45 (0, 0))) := hid (by rw [hW0]; exact heap_alloc_at (by rw [hB]; simp) _)
  have HS := hid (show B + 2 ≤ W0.heap.size from heap_lt G1.out)
  have c0 := cell_at G0.out 0
  have c1 := cell_at G0.out 1
  have c2 := cell_at G0.out 2
  have c3 := cell_at G0.out 3
  have f0 := free_at G1.out 0
  have f1 := free_at G1.out 1
  have f2 := free_at G1.out 2
  have e0 := cell_at G1.out 0
  have e1 := cell_at G1.out 1
  have e2 := cell_at G1.out 2
  simp only [List.getElem?_toArray, List.getElem?_cons_zero, List.getElem?_cons_succ] at c0 c1 c2 c3 e0 e1 e2
  have ebad : ∀ (p : Cn × Bool), p = (cn0, false) → PairPost A w p (.returned (.tuple #[.agg #[.bool false, .bool false, .slice none 0 0], .bool false])) (((W0.setCell ⟨B + 1, 0, none⟩ (.bool false)).setCell ⟨B + 1, 1, none⟩ (.bool false)).setCell ⟨B + 1, 2, none⟩ (.slice none 0 0)) := fun p hp => by
    rw [hp]
    exact ⟨_, rfl, ⟨.slice none 0 0, rfl, IsSl.nil _ _ _ _⟩, X0.out.set3 (b := B + 1) (.inr (by omega)) _ _ _⟩
  have EBAD := hid ebad
  clear ebad
  go_enter Try.func18, Try.ntmps18
  go_upto_region 1 with (fail)
  rw [← hB, ← hW0]
  clear hB hW0
  by_cases h14 : n.kind = 14
  · have q1 : (n.kind == 14) = true := by simpa using h14
    have HPE : Hid (P = (⟨ua, uc, ut⟩, ub)) := hid (by rw [HP.out, if_pos h14])
    clear h14 e0 e1 e2 f0 f1 f2
    go_wp2_with fail
    refine (CU.out _ X0.out HS.out).mono ?_
    rintro e W1 ⟨u, rfl, ⟨x', rfl, hx'⟩, X1⟩
    have HX' := hid hx'
    obtain ⟨a1, cap1, rfl, _⟩ := hx'
    have G1' := hid (X1.heap G1.out (fun h => h))
    have X1 := hid (X0.out.trans X1)
    have f0 := free_at G1'.out 0
    have f1 := free_at G1'.out 1
    have f2 := free_at G1'.out 2
    have e0 := cell_at G1'.out 0
    have e1 := cell_at G1'.out 1
    have e2 := cell_at G1'.out 2
    simp only [List.getElem?_toArray, List.getElem?_cons_zero, List.getElem?_cons_succ] at e0 e1 e2
    go_wp2_with fail
    refine ret_cn2 rfl rfl (set3 G1'.out _ _ _) rfl rfl ?_
    rw [HPE.out]
    exact ⟨_, rfl, ⟨_, rfl, (HX'.out.ext isTm_good (Ext.self3 _ _ _ _ _) fun _ _ h => .inr h).mono isTm_good fun _ _ h => .inl h⟩, X1.out.set3 (b := B + 1) (.inr (by have := HB.out; omega)) _ _ _⟩
  · have q1 : (n.kind == 14) = false := by simpa using h14
    have HP2 : Hid (P = if n.kind ≠ 10 ∨ 0 < n.kids.length then (cn0, false) else foundP n.text o) := hid (by rw [HP.out, if_neg h14])
    clear h14
    by_cases h10 : n.kind = 10
    · have q2 : (n.kind != 10) = false := by simpa using h10
      by_cases hk : 0 < n.kids.length
      · have q3 : decide (0 < (n.kids.length : Int)) = true := decide_eq_true (by omega)
        have HPE : Hid (P = (cn0, false)) := hid (by rw [HP2.out, if_pos (.inr hk)])
        clear h10
        go_wp2_with fail
        refine ret_cn2 rfl rfl (set3 G1.out _ _ _) rfl rfl ?_
        exact EBAD.out _ HPE.out
      · have q3 : decide (0 < (n.kids.length : Int)) = false := decide_eq_false (by omega)
        have HP3 : Hid (P = foundP n.text o) := hid (by rw [HP2.out, if_neg (by simp only [ne_eq, h10, not_true_eq_false, false_or]; exact hk)])
        clear h10 e0 e1 e2 f0 f1 f2
        go_wp2_with fail
        refine (CF.out _ X0.out HS.out).mono ?_
        rintro e W1 ⟨u, rfl, ⟨x', rfl, hx'⟩, X1⟩
        have HX' := hid hx'
        obtain ⟨a1, cap1, rfl, _⟩ := hx'
        have G1' := hid (X1.heap G1.out (fun h => h))
        have G0' := hid (X1.heap G0.out (fun h => h))
        have X1 := hid (X0.out.trans X1)
        cases o with
        | some c =>
          obtain ⟨ca, cc, ct⟩ := c
          simp only [Option.isSome_some, Option.getD_some] at HX' ⊢
          have g1 := heap_alloc_keep G1'.out (.cells #[.bool ca, .bool cc, .slice a1 ct.length cap1] 45)
          have f0 := free_at g1 0
          have f1 := free_at g1 1
          have f2 := free_at g1 2
          have e0 := cell_at g1 0
          have e1 := cell_at g1 1
          have e2 := cell_at g1 2
          simp only [List.getElem?_toArray, List.getElem?_cons_zero, List.getElem?_cons_succ] at e0 e1 e2
          have XA := hid (X1.out.alloc (.cells #[.bool ca, .bool cc, .slice a1 ct.length cap1] 45))
          have HXA := hid (HX'.out.ext isTm_good ((Ext.refl none' W1).alloc (.cells #[.bool ca, .bool cc, .slice a1 ct.length cap1] 45)) fun _ _ h => h.elim)
          have GA := hid g1
          clear g1
          go_wp2_with fail
          refine ret_cn2 rfl rfl (set3 GA.out _ _ _) rfl rfl ?_
          rw [HP3.out]
          exact ⟨_, rfl, ⟨_, rfl, (HXA.out.ext isTm_good (Ext.self3 _ _ _ _ _) fun _ _ h => .inr h).mono isTm_good fun _ _ h => .inl h⟩, XA.out.set3 (b := B + 1) (.inr (by have := HB.out; omega)) _ _ _⟩
        | none =>
          obtain ⟨b1, hb1⟩ : ∃ b, (n.text == nAny) = b := ⟨_, rfl⟩
          obtain ⟨b2, hb2⟩ : ∃ b, (n.text == nCmp) = b := ⟨_, rfl⟩
          have HPE : Hid (P = (⟨b1, b2, []⟩, b1 || b2)) := hid (by rw [HP3.out]; unfold foundP; rw [hb1, hb2])
          have hb1' : (n.text == [97, 110, 121]) = b1 := hb1
          have hb2' : (n.text == [99, 111, 109, 112, 97, 114, 97, 98, 108, 101]) = b2 := hb2
          clear hb1 hb2
          simp only [Option.isSome_none, Option.getD_none, cn0, List.length_nil] at HX' ⊢
          have c1 := cell_at (heap_alloc_keep G0'.out (.cells #[.bool false, .bool false, .slice a1 0 cap1] 45)) 1
          simp only [List.getElem?_toArray, List.getElem?_cons_zero, List.getElem?_cons_succ] at c1
          go_upto_region 9 with (fail)
          obtain ⟨W2, hW2⟩ : ∃ W2, W2 = (W1.alloc (.cells #[.bool false, .bool false, .slice a1 0 cap1] 45)).alloc (.cells #[.bool b1, .bool b2, .slice none 0 0] 45) := ⟨_, rfl⟩
          have X2 : Hid (Ext none' w W2) := hid (by rw [hW2]; exact (X1.out.alloc _).alloc _)
          have GR : Hid (W2.heap[B + 1]? = some (.cells #[.bool false, .bool false, .slice none 0 0] 45 (0, 0))) := hid (by rw [hW2]; exact heap_alloc_keep (heap_alloc_keep G1'.out _) _)
          obtain ⟨E, hE⟩ : ∃ E, E = W1.heap.size + 1 := ⟨_, rfl⟩
          have GE : Hid (W2.heap[E]? = some (.cells #[.bool b1, .bool b2, .slice none 0 0] 45 (0, 0))) := hid (by rw [hW2, hE]; exact heap_alloc_at (by simp) _)
          have HEB := hid (show B + 1 < E by have := heap_lt G1'.out; omega)
          rw [← hW2, ← hE]
          clear hW2 hE c1 c0 c2 c3
          have y0 := fun t' : LaterF (one (B + 1)) W2 => cell_at (t'.x.heap GE.out (fun h => by have h1 : E = B + 1 := h; have := HEB.out; omega)) 0
          have y1 := fun t' : LaterF (one (B + 1)) W2 => cell_at (t'.x.heap GE.out (fun h => by have h1 : E = B + 1 := h; have := HEB.out; omega)) 1
          have y2 := fun t' : LaterF (one (B + 1)) W2 => cell_at (t'.x.heap GE.out (fun h => by have h1 : E = B + 1 := h; have := HEB.out; omega)) 2
          simp only [List.getElem?_toArray, List.getElem?_cons_zero, List.getElem?_cons_succ] at y0 y1 y2
          have XS : Hid (Ext (one (B + 1)) W2 (((W2.drew.setCell ⟨B + 1, 0, none⟩ (.bool b1)).setCell ⟨B + 1, 1, none⟩ (.bool b2)).setCell ⟨B + 1, 2, none⟩ (.slice none 0 0))) := hid ((Ext.refl (one (B + 1)) W2).drew.set3 (.inl (show one (B + 1) (B + 1) from rfl)) _ _ _)
          have fin : Hid (PairPost A w P (.returned (.tuple #[.agg #[.bool b1, .bool b2, .slice none 0 0], .bool (b1 || b2)])) (((W2.drew.setCell ⟨B + 1, 0, none⟩ (.bool b1)).setCell ⟨B + 1, 1, none⟩ (.bool b2)).setCell ⟨B + 1, 2, none⟩ (.slice none 0 0))) := hid (by
            rw [HPE.out]
            exact ⟨_, rfl, ⟨.slice none 0 0, rfl, IsSl.nil _ _ _ _⟩, X2.out.drew.set3 (b := B + 1) (.inr (by have := HB.out; omega)) _ _ _⟩)
          refine region_q (one (B + 1)) W2 (.qs [0, 1, 2, 3, 4, 5, 6] (.one 7 true (.one 8 false .fin))) (by kernel_rfl) (by kernel_rfl) (fun dst v c a w h => by cases dst <;> exact h) ?_
          refine ⟨In.of (Ext.refl _ _).drew, ?_⟩
          change wpQuiet _ _ (fun w' => ∃ t : LaterF (one (B + 1)) W2, w' = t.w) _ _ _
          simp only [sel, List.getElem?_cons_succ, List.getElem?_cons_zero]
          cases b1 with
          | true =>
            repeat (go_big_quiet_step (fail))
            refine wpQuiet_nil ?_
            simp only [wpTreeQ, stepT, sel, List.getElem?_cons_succ, List.getElem?_cons_zero]
            clear y0 y1 y2
            have f0 := free_at GR.out 0
            have f1 := free_at GR.out 1
            have f2 := free_at GR.out 2
            have e0 := cell_at GR.out 0
            have e1 := cell_at GR.out 1
            have e2 := cell_at GR.out 2
            simp only [List.getElem?_toArray, List.getElem?_cons_zero, List.getElem?_cons_succ] at e0 e1 e2
            go_wp2_with fail
            refine ⟨In.of XS.out, ?_⟩
            go_wp2_with fail
            refine ret_cn2 rfl rfl (set3 GR.out _ _ _) rfl rfl ?_
            exact fin.out
          | false =>
            repeat (go_big_quiet_step (fail))
            refine wpQuiet_nil ?_
            simp only [wpTreeQ, stepT, sel, List.getElem?_cons_succ, List.getElem?_cons_zero]
            clear y0 y1 y2
            have f0 := free_at GR.out 0
            have f1 := free_at GR.out 1
            have f2 := free_at GR.out 2
            have e0 := cell_at GR.out 0
            have e1 := cell_at GR.out 1
            have e2 := cell_at GR.out 2
            simp only [List.getElem?_toArray, List.getElem?_cons_zero, List.getElem?_cons_succ] at e0 e1 e2
            go_wp2_with fail
            refine ⟨In.of XS.out, ?_⟩
            go_wp2_with fail
            refine ret_cn2 rfl rfl (set3 GR.out _ _ _) rfl rfl ?_
            exact fin.out
    · have q2 : (n.kind != 10) = true := by simpa using h10
      have HPE : Hid (P = (cn0, false)) := hid (by rw [HP2.out, if_pos (.inl h10)])
      clear h10
      go_wp2_with fail
      refine ret_cn2 rfl rfl (set3 G1.out _ _ _) rfl rfl ?_
      exact EBAD.out _ HPE.out
end Go.Proofs.Ythoeengfgkfchaa
