import Derived.Test.YthoeengfgkfchaaSeROf
import Derived.Test.YthoeengfgkfchaaSeOf
/-
  demoticref11.Of: the document's constraint of a tree: the rest.
-/
namespace Go.Proofs.Ythoeengfgkfchaa
open Go.RowKit Go.Lib Go.BigFrame
set_option maxRecDepth 100000 in
set_option maxHeartbeats 6400000 in
theorem rof_rest (n : Nd) (given : List Bd) (h14 : n.kind ≠ 14) (hg : given.length ≤ 1000000) (v gv : Value) (w : World) (hv : NdV none' w n v) (hgv : IsSl 4 IsBd none' w gv given) : Calls Try.prog 19 #[v, gv] w (PairPost none' w (ofPair given n)) := by
  obtain ⟨x, rfl, hx⟩ := hv
  obtain ⟨a, cap, rfl, _⟩ := hx
  have HG := hid hgv
  obtain ⟨ga, gcap, rfl, _⟩ := hgv
  obtain ⟨P, hP⟩ : ∃ P, P = ofPair given n := ⟨_, rfl⟩
  rw [← hP]
  rw [ofPair_eq, if_neg h14] at hP
  obtain ⟨B, hB⟩ : ∃ B, B = w.heap.size := ⟨_, rfl⟩
  have HB := hid hB
  have CF := hid fun (W : World) (X : Ext none' w W) => rfind_any given n.text hg (and1 none' (B + 1)) (.slice ga given.length gcap) W ((HG.out.mono (B := and1 none' (B + 1)) isBd_good (and1.down (by omega))).ext isBd_good X fun _ _ h => h.elim)
  obtain ⟨o, ho⟩ : ∃ o, findC given n.text = o := ⟨_, rfl⟩
  rw [ho] at CF hP
  have HP := hid hP
  have q1 : (n.kind == 14) = false := by simpa using h14
  clear hP ho hg h14
  obtain ⟨W0, hW0⟩ : ∃ W0, W0 = ((w.alloc (.cells #[.int .i64 n.kind, .string ⟨n.text.toArray⟩, .slice a n.kids.length cap, .int .i64 n.pos] 59)).alloc (.cells #[.bool false, .bool false, .slice none 0 0] 26)).alloc (.cells #[.bool false, .bool false, .slice none 0 0] 26) := ⟨_, rfl⟩
  have X0 : Hid (Ext none' w W0) := hid (by rw [hW0]; exact (((Ext.refl _ _).alloc _).alloc _).alloc _)
  have G0 : Hid (W0.heap[B]? = some (.cells #[.int .i64 n.kind, .string ⟨n.text.toArray⟩, .slice a n.kids.length cap, .int .i64 n.pos] 59 (0, 0))) := hid (by rw [hW0]; exact heap_alloc_keep (heap_alloc_keep (heap_alloc_at hB _) _) _)
  have G1 : Hid (W0.heap[B + 1]? = some (.cells #[.bool false, .bool false, .slice none 0 0] 26 (0, 0))) := hid (by rw [hW0]; exact heap_alloc_keep (heap_alloc_at (by rw [hB]; simp) _) _)
  have c0 := cell_at G0.out 0
  have c1 := cell_at G0.out 1
  have c2 := cell_at G0.out 2
  have c3 := cell_at G0.out 3
  have f0 := free_at G1.out 0
  have f1 := free_at G1.out 1
  have f2 := free_at G1.out 2
  have e0 := cell_at G1.out 0
  have e1 := cell_at G1.out 1
  have e2 := cell_at G1.out 2
  simp only [List.getElem?_toArray, List.getElem?_cons_zero, List.getElem?_cons_succ] at c0 c1 c2 c3 e0 e1 e2
  have EBAD : Hid (∀ (p : Cn × Bool), p = (cn0, false) → PairPost none' w p (.returned (.tuple #[.agg #[.bool false, .bool false, .slice none 0 0], .bool false])) (((W0.setCell ⟨B + 1, 0, none⟩ (.bool false)).setCell ⟨B + 1, 1, none⟩ (.bool false)).setCell ⟨B + 1, 2, none⟩ (.slice none 0 0))) := hid fun p hp => by
    rw [hp]
    exact ⟨_, rfl, ⟨.slice none 0 0, rfl, IsSl.nil _ _ _ _⟩, X0.out.set3 (b := B + 1) (.inr (by omega)) _ _ _⟩
  go_enter Try.func19, Try.ntmps19
  go_upto_region 2 with (fail)
  rw [← hB, ← hW0]
  clear hB hW0
  by_cases h10 : n.kind = 10
  · have q2 : (n.kind != 10) = false := by simpa using h10
    by_cases hk : 0 < n.kids.length
    · have q3 : decide (0 < (n.kids.length : Int)) = true := decide_eq_true (by omega)
      have HPE : Hid (P = (cn0, false)) := hid (by rw [HP.out, if_pos (.inr hk)])
      clear h10
      go_wp2_with fail
      refine ret_rn2 rfl rfl (set3 G1.out _ _ _) rfl rfl ?_
      exact EBAD.out _ HPE.out
    · have q3 : decide (0 < (n.kids.length : Int)) = false := decide_eq_false (by omega)
      have HP3 : Hid (P = foundP n.text o) := hid (by rw [HP.out, if_neg (by simp only [ne_eq, h10, not_true_eq_false, false_or]; exact hk)])
      clear h10 e0 e1 e2 f0 f1 f2
      go_wp2_with fail
      refine (CF.out _ X0.out).mono ?_
      rintro e W1 ⟨u, rfl, ⟨x', rfl, hx'⟩, X1⟩
      have HX' := hid hx'
      obtain ⟨a1, cap1, rfl, _⟩ := hx'
      have G1' := hid (X1.heap G1.out (fun h => h))
      have G0' := hid (X1.heap G0.out (fun h => h))
      have X1 := hid (X0.out.trans X1)
      cases o with
      | some c =>
        obtain ⟨ca, cc, ct⟩ := c
        simp only [Option.isSome_some, Option.getD_some] at HX' ⊢
        have g1 := heap_alloc_keep G1'.out (.cells #[.bool ca, .bool cc, .slice a1 ct.length cap1] 26)
        have f0 := free_at g1 0
        have f1 := free_at g1 1
        have f2 := free_at g1 2
        have e0 := cell_at g1 0
        have e1 := cell_at g1 1
        have e2 := cell_at g1 2
        simp only [List.getElem?_toArray, List.getElem?_cons_zero, List.getElem?_cons_succ] at e0 e1 e2
        have XA := hid (X1.out.alloc (.cells #[.bool ca, .bool cc, .slice a1 ct.length cap1] 26))
        have HXA := hid (HX'.out.ext isTm_good ((Ext.refl none' W1).alloc (.cells #[.bool ca, .bool cc, .slice a1 ct.length cap1] 26)) fun _ _ h => h.elim)
        have GA := hid g1
        clear g1
        go_wp2_with fail
        refine ret_rn2 rfl rfl (set3 GA.out _ _ _) rfl rfl ?_
        rw [HP3.out]
        exact ⟨_, rfl, ⟨_, rfl, (HXA.out.ext isTm_good (Ext.self3 _ _ _ _ _) fun _ _ h => .inr h).mono isTm_good fun _ _ h => .inl h⟩, XA.out.set3 (b := B + 1) (.inr (by have := HB.out; omega)) _ _ _⟩
      | none =>
        obtain ⟨b1, hb1⟩ : ∃ b, (n.text == nAny) = b := ⟨_, rfl⟩
        obtain ⟨b2, hb2⟩ : ∃ b, (n.text == nCmp) = b := ⟨_, rfl⟩
        have HPE : Hid (P = (⟨b1, b2, []⟩, b1 || b2)) := hid (by rw [HP3.out]; unfold foundP; rw [hb1, hb2])
        have HNE : Hid (b1 = true → b2 = false) := hid fun h => by rw [← hb2]; exact any_ne_cmp (hb1.trans h)
        have hb1' : (n.text == [97, 110, 121]) = b1 := hb1
        have hb2' : (n.text == [99, 111, 109, 112, 97, 114, 97, 98, 108, 101]) = b2 := hb2
        clear hb1 hb2
        simp only [Option.isSome_none, Option.getD_none, cn0, List.length_nil] at HX' ⊢
        have g1 := heap_alloc_keep G1'.out (.cells #[.bool false, .bool false, .slice a1 0 cap1] 26)
        have g0 := heap_alloc_keep G0'.out (.cells #[.bool false, .bool false, .slice a1 0 cap1] 26)
        have f0 := free_at g1 0
        have f1 := free_at g1 1
        have f2 := free_at g1 2
        have e0 := cell_at g1 0
        have e1 := cell_at g1 1
        have e2 := cell_at g1 2
        have c1 := cell_at g0 1
        simp only [List.getElem?_toArray, List.getElem?_cons_zero, List.getElem?_cons_succ] at e0 e1 e2 c1
        have XA := hid (X1.out.alloc (.cells #[.bool false, .bool false, .slice a1 0 cap1] 26))
        have GA := hid g1
        have FIN : Hid (∀ x0 x1 y, b1 = x0 → b2 = x1 → (b1 || b2) = y → PairPost none' w P (.returned (.tuple #[.agg #[.bool x0, .bool x1, .slice none 0 0], .bool y])) ((((W1.alloc (.cells #[.bool false, .bool false, .slice a1 0 cap1] 26)).setCell ⟨B + 1, 0, none⟩ (.bool x0)).setCell ⟨B + 1, 1, none⟩ (.bool x1)).setCell ⟨B + 1, 2, none⟩ (.slice none 0 0))) := hid (fun x0 x1 y h0 h1 hy => by
          rw [HPE.out, h0, h1, ← hy, h0, h1]
          exact ⟨_, rfl, ⟨.slice none 0 0, rfl, IsSl.nil _ _ _ _⟩, XA.out.set3 (b := B + 1) (.inr (by have := HB.out; omega)) _ _ _⟩)
        clear g1 g0
        cases b1 with
        | true =>
          have e := hid (HNE.out rfl)
          go_wp2_with fail
          refine ret_rn2 rfl rfl (set3 GA.out _ _ _) rfl rfl ?_
          exact FIN.out true false true rfl e.out rfl
        | false =>
          cases b2 with
          | true =>
            go_wp2_with fail
            refine ret_rn2 rfl rfl (set3 GA.out _ _ _) rfl rfl ?_
            exact FIN.out false true true rfl rfl rfl
          | false =>
            go_wp2_with fail
            refine ret_rn2 rfl rfl (set3 GA.out _ _ _) rfl rfl ?_
            exact FIN.out false false false rfl rfl rfl
  · have q2 : (n.kind != 10) = true := by simpa using h10
    have HPE : Hid (P = (cn0, false)) := hid (by rw [HP.out, if_pos (.inl h10)])
    clear h10
    go_wp2_with fail
    refine ret_rn2 rfl rfl (set3 G1.out _ _ _) rfl rfl ?_
    exact EBAD.out _ HPE.out
theorem rof_any (n : Nd) (given : List Bd) (hl : n.kids.length ≤ 1000000) (hg : given.length ≤ 1000000) (v gv : Value) (w : World) (hv : NdV none' w n v) (hgv : IsSl 4 IsBd none' w gv given) : Calls Try.prog 19 #[v, gv] w (PairPost none' w (ofPair given n)) := by
  by_cases h14 : n.kind = 14
  · have e : ofPair given n = pairU n.kids := by rw [ofPair_eq, if_pos h14]
    rw [e]
    exact rof_union n given h14 hl v gv w hv hgv
  · exact rof_rest n given h14 hg v gv w hv hgv
end Go.Proofs.Ythoeengfgkfchaa
