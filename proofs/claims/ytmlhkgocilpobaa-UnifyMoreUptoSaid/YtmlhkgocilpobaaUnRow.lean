import Derived.Test.YtmlhkgocilpobaaUnSame
/-
  A row of types whose elements are put in place; the state of unify.
-/
namespace Go.Proofs.Ytmlhkgocilpobaa
open Go.RowKit Go.Lib Go.BigFrame
theorem put_same (l : List Value) (i : Nat) (y0 y1 y2 : Value) (h : i * 3 + 3 ≤ l.length) : (((((l.set (i * 3) y0).set (i * 3 + 1) y1).set (i * 3 + 2) y2).drop (i * 3)).take 3) = [y0, y1, y2] := by
  apply List.ext_getElem?
  intro k
  rw [List.getElem?_take, List.getElem?_drop, List.getElem?_set, List.getElem?_set, List.getElem?_set]
  rcases k with _ | _ | _ | k
  · simp; omega
  · simp; omega
  · simp; omega
  · simp; omega
theorem put_other (l : List Value) (i j : Nat) (y0 y1 y2 : Value) (h : j ≠ i) : (((((l.set (i * 3) y0).set (i * 3 + 1) y1).set (i * 3 + 2) y2).drop (j * 3)).take 3) = (l.drop (j * 3)).take 3 := by
  apply List.ext_getElem?
  intro k
  rw [List.getElem?_take, List.getElem?_drop, List.getElem?_set, List.getElem?_set, List.getElem?_set, List.getElem?_take, List.getElem?_drop]
  by_cases hk : k < 3
  · rw [if_pos hk, if_pos hk, if_neg (by omega), if_neg (by omega), if_neg (by omega)]
  · rw [if_neg hk, if_neg hk]
def put3 (w : World) (g i : Nat) (y0 y1 y2 : Value) : World := ((w.setCell ⟨g, i * 3, none⟩ y0).setCell ⟨g, i * 3 + 1, none⟩ y1).setCell ⟨g, i * 3 + 2, none⟩ y2
theorem put3_ext (w : World) (g i : Nat) (y0 y1 y2 : Value) : Ext (one g) w (put3 w g i y0 y1 y2) :=
  (((Ext.refl (one g) w).set (i * 3) y0).set (i * 3 + 1) y1).set (i * 3 + 2) y2
theorem put3_heap {w : World} {g : Nat} {cur : Array Value} {t : TypeId} {fz : Nat × Nat} (h : w.heap[g]? = some (.cells cur t fz)) (i : Nat) (y0 y1 y2 : Value) :
    (put3 w g i y0 y1 y2).heap[g]? = some (.cells (((cur.setIfInBounds (i * 3) y0).setIfInBounds (i * 3 + 1) y1).setIfInBounds (i * 3 + 2) y2) t fz) :=
  heap_setCell_same (heap_setCell_same (heap_setCell_same h _ _) _ _) _ _
/-- An element put in its place. -/
theorem RowOf.put {α : Type} {T : TypeId} {R : Lay α} (G : Good 3 R) {A : Nat → Prop} {w : World} {base : Nat} {g n cap : Nat} {xs : List α} (h : RowOf 3 T R A w base (.slice (some ⟨g, 0, none⟩) n cap) xs) {i : Nat} (hi : i < xs.length) {x : α} {y0 y1 y2 : Value} (hx : R (plus A (.slice (some ⟨g, 0, none⟩) n cap)) w x [y0, y1, y2]) :
    RowOf 3 T R A (put3 w g i y0 y1 y2) base (.slice (some ⟨g, 0, none⟩) n cap) (xs.set i x) := by
  obtain ⟨cells, ho, hr⟩ := h
  have hl := ho.1
  have X := put3_ext w g i y0 y1 y2
  have hF : ∀ b, b < w.heap.size → one g b → plus A (.slice (some ⟨g, 0, none⟩) n cap) b := fun b _ e => .inr (by have e : b = g := e; rw [e]; rfl)
  rcases ho.2 with ⟨h0, _⟩ | ⟨g', cap', cur, he, hbg, hg, hnc, hcm, hcs, htake⟩
  · cases h0
  · injection he with e1 e2 e3
    injection e1 with e1
    injection e1 with e1
    subst e1 e3
    subst e2
    refine ⟨((cells.set (i * 3) y0).set (i * 3 + 1) y1).set (i * 3 + 2) y2, ⟨by simp [hl], .inr ⟨g, cap, _, by rw [List.length_set], hbg, put3_heap hg i y0 y1 y2, by rw [List.length_set]; exact hnc, hcm, by simp [hcs], ?_⟩⟩, fun j hj => ?_⟩
    · rw [List.length_set]
      simp only [Array.toList_setIfInBounds, List.take_set, htake]
    · rw [List.length_set] at hj
      by_cases e : j = i
      · subst e
        rw [put_same _ _ _ _ _ (by rw [hl]; omega), List.getElem_set_self]
        exact G.ext hx X hF
      · rw [put_other _ _ _ _ _ _ e, List.getElem_set_ne (by omega)]
        exact G.ext (hr j hj) X hF
/-- The element at a place: its cells. -/
theorem RowOf.cell {α : Type} {T : TypeId} {R : Lay α} {A : Nat → Prop} {w : World} {base : Nat} {v : Value} {xs : List α} (G : Good 3 R) (h : RowOf 3 T R A w base v xs) {i : Nat} (hi : i < xs.length) :
    ∃ g cap y0 y1 y2 cur, v = .slice (some ⟨g, 0, none⟩) xs.length cap ∧ base ≤ g ∧ R (plus A v) w xs[i] [y0, y1, y2] ∧ w.heap[g]? = some (.cells cur T (0, 0)) ∧ cur[i * 3]? = some y0 ∧ cur[i * 3 + 1]? = some y1 ∧ cur[i * 3 + 2]? = some y2 := by
  obtain ⟨cells, ho, hr⟩ := h
  have hl := ho.1
  have hri := hr i hi
  have hlen := G.len hri
  rcases ho.2 with ⟨_, h0⟩ | ⟨g, cap, cur, rfl, hbg, hg, hnc, hcm, hcs, htake⟩
  · omega
  · have key : ∀ k, k < 3 → cur[i * 3 + k]? = ((cells.drop (i * 3)).take 3)[k]? := fun k hk => by
      rw [List.getElem?_take_of_lt hk, List.getElem?_drop, ← htake, List.getElem?_take_of_lt (by omega)]
      simp
    have k0 := key 0 (by omega)
    have k1 := key 1 (by omega)
    have k2 := key 2 (by omega)
    generalize (cells.drop (i * 3)).take 3 = cs at hri hlen k0 k1 k2
    match cs, hlen with
    | [y0, y1, y2], _ => exact ⟨g, cap, y0, y1, y2, cur, rfl, hbg, hri, hg, k0, k1, k2⟩
/-- The state: definitions, a row of names, what stands for each. -/
structure St (ds : List Df) (row : List (List UInt8)) (by' : List Ty) (S base : Nat) (dv rv bv : Value) (w : World) : Prop where
  s : w.heap[S]? = some (.cells #[dv, rv, bv] 58 (0, 0))
  d : IsSl 6 IsDf (plus none' bv) w dv ds
  r : IsSl 1 IsStr (plus none' bv) w rv row
  b : RowOf 3 33 IsTy none' w base bv by'
  lt : S < base
  len : by'.length = row.length
theorem St.ext {ds : List Df} {row : List (List UInt8)} {by' : List Ty} {S base : Nat} {dv rv bv : Value} {w w' : World} (h : St ds row by' S base dv rv bv w) (X : Ext none' w w') : St ds row by' S base dv rv bv w' :=
  ⟨X.heap h.s (fun h => h), h.d.ext isDf_good X fun _ _ h => h.elim, h.r.ext isStr_good X fun _ _ h => h.elim, h.b.ext isTy_good X (fun _ _ h => h) fun _ _ h => h, h.lt, h.len⟩
theorem St.put {ds : List Df} {row : List (List UInt8)} {by' : List Ty} {S base g n cap : Nat} {dv rv : Value} {w : World} (h : St ds row by' S base dv rv (.slice (some ⟨g, 0, none⟩) n cap) w) {i : Nat} (hi : i < by'.length) {t : Ty} {x : Value} (ht : IsSl 3 IsTy (plus none' (.slice (some ⟨g, 0, none⟩) n cap)) w x t.args) :
    St ds row (by'.set i t) S base dv rv (.slice (some ⟨g, 0, none⟩) n cap) (put3 w g i (.int .i64 t.kind) (.string ⟨t.name.toArray⟩) x) := by
  have X := put3_ext w g i (.int .i64 t.kind) (.string ⟨t.name.toArray⟩) x
  have hF : ∀ b, b < w.heap.size → one g b → plus none' (.slice (some ⟨g, 0, none⟩) n cap) b := fun b _ e => .inr (by have e : b = g := e; rw [e]; rfl)
  have hg := (h.b.lt g rfl).1
  have hlt := h.lt
  exact ⟨X.heap h.s (by unfold one; omega), h.d.ext isDf_good X hF, h.r.ext isStr_good X hF, h.b.put isTy_good hi (TyV.ty ht), h.lt, by rw [List.length_set]; exact h.len⟩
end Go.Proofs.Ytmlhkgocilpobaa
