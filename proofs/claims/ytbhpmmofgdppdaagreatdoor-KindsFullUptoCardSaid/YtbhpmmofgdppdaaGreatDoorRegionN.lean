/-
  A region that draws its order: as XRegionM, with one operation without edges.
-/
import Derived.Test.YtbhpmmofgdppdaaGreatDoorZAq
namespace Go.Proofs.YtbhpmmofgdppdaaGreatDoor
open Go.RowKit Go.Lib
section
variable {P : Program} {ops : Array Oper} {Q : Exit → Act → World → Prop} {md : Region.Mode} {S : World → Prop} {E : Nat → Bool}
/-- What has come up: the first i of the chain; j1. -/
def mixS1 (n : Nat) (base : Array Bool) (chain : List Nat) (j1 : Nat) (i : Nat) (x : Bool) : Array Bool :=
  ((List.range n).map fun k => base.getD k false || (chain.take i).contains k || (x && k == j1)).toArray
def mixO1 (md : Region.Mode) (ops : Array Oper) (base : Array Bool) (chain : List Nat) (j1 : Nat) (i : Nat) (x : Bool) : Bool :=
  let L := mixS1 ops.size base chain j1
  let r := Region.ready md ops (L i x)
  (decide (i = chain.length) && x || !r.isEmpty) && (decide (i = chain.length) && x || r.all (fun k => (decide (i < chain.length) && k == chain.getD i 0) || (!x && k == j1))) &&
  (decide (chain.length ≤ i) || (L i x).setIfInBounds (chain.getD i 0) true == L (i + 1) x) && (x || (L i x).setIfInBounds j1 true == L i true)
def mixA1 (md : Region.Mode) (ops : Array Oper) (base : Array Bool) (chain : List Nat) (j1 : Nat) : Bool :=
  (List.range (chain.length + 1)).all fun i => mixO1 md ops base chain j1 i false && mixO1 md ops base chain j1 i true
theorem mixA1_at {base : Array Bool} {chain : List Nat} {j1 : Nat} (h : mixA1 md ops base chain j1 = true) (i : Nat) (hi : i ≤ chain.length) (x : Bool) : mixO1 md ops base chain j1 i x = true := by
  unfold mixA1 at h
  rw [List.all_eq_true] at h
  have := h i (List.mem_range.2 (by omega))
  simp only [Bool.and_eq_true] at this
  cases x
  · exact this.1
  · exact this.2
theorem phaseN (l : List Oper) (hl : l.toArray = ops) (hs : Region.noSelect ops = true) (hQ : ∀ (dst : Option Tmp) v c a w, Q (.panic c) (a.put dst v) w → Q (.panic c) a w) (base : Array Bool) (chain : List Nat) (j1 : Nat) (t : Bq) (hM : mixA1 md ops base chain j1 = true)
    (ht : treeQB md ops E t (mixS1 ops.size base chain j1 chain.length true) = true) (hE : ∀ j ∈ t.early, E j = false) (I : Nat → Bool → Act → World → Prop)
    (hc : ∀ i, i < chain.length → ∀ x, (Region.ready md ops (mixS1 ops.size base chain j1 i x)).contains (chain.getD i 0) = true → ∀ a w, I i x a w → stepT P l Q S (chain.getD i 0) true (I (i + 1) x) a w)
    (h1 : ∀ i, i ≤ chain.length → ∀ a w, I i false a w → stepT P l Q S j1 true (I i true) a w)
    (he : ∀ a w, I chain.length true a w → wpTreeQ P l Q S t a w) :
    ∀ (m i : Nat) (x : Bool), i ≤ chain.length → m = (chain.length - i) + (if x then 0 else 1) → ∀ (a : Act) (w : World), Down md ops (mixS1 ops.size base chain j1 i x) → I i x a w → wpAnyE P md ops Q S E (m + t.depth) (mixS1 ops.size base chain j1 i x) a w := by
  intro m
  induction m with
  | zero =>
    intro i x hi hm a w hd hI
    have hx : x = true := by cases x <;> simp at hm ⊢
    subst hx
    obtain rfl : i = chain.length := by simp at hm; omega
    rw [Nat.zero_add]
    exact phaseQ l hl hs hQ t _ a w ht hE hd (he a w hI)
  | succ m ih =>
    intro i x hi hm a w hd hI
    have hk := mixA1_at hM i hi x
    unfold mixO1 at hk
    simp only [Bool.and_eq_true] at hk
    obtain ⟨⟨⟨k1, k2⟩, k3⟩, k4⟩ := hk
    have hne : (decide (i = chain.length) && x) = false := by
      cases x <;> simp at hm ⊢
      omega
    rw [hne, Bool.false_or] at k1 k2
    rw [Nat.add_right_comm]
    refine ⟨fun h0 => (by rw [h0] at k1; simp at k1), fun k hkr => ?_⟩
    rw [List.all_eq_true] at k2
    have hk2 := k2 k hkr
    simp only [Bool.or_eq_true, Bool.and_eq_true, decide_eq_true_eq, beq_iff_eq, Bool.not_eq_true'] at hk2
    rcases hk2 with ⟨hlt, rfl⟩ | ⟨rfl, rfl⟩
    · have e3 : (mixS1 ops.size base chain j1 i x).setIfInBounds (chain.getD i 0) true = mixS1 ops.size base chain j1 (i + 1) x := by
        rcases Bool.or_eq_true _ _ ▸ k3 with h | h
        · rw [decide_eq_true_eq] at h; omega
        · exact beq_iff_eq.1 h
      refine stepT_op l hl hkr (fun h => by cases h) (fun a' w' hI' => ?_) (hc i hlt x (by rw [List.contains_eq_mem, decide_eq_true_eq]; exact hkr) a w hI)
      have hd' := hd.step hkr
      rw [e3] at hd' ⊢
      exact ih (i + 1) x (by omega) (by omega) a' w' hd' hI'
    · have e4 : (mixS1 ops.size base chain k i false).setIfInBounds k true = mixS1 ops.size base chain k i true := by simpa using k4
      refine stepT_op l hl hkr (fun h => by cases h) (fun a' w' hI' => ?_) (h1 i hi a w hI)
      have hd' := hd.step hkr
      rw [e4] at hd' ⊢
      refine ih i true hi ?_ a' w' hd' hI'
      simp at hm ⊢
      omega
/-- All that is checked of a region by running it. -/
def mixedNB (ops : Array Oper) (lq chain : List Nat) (j1 : Nat) (t : Bq) : Bool :=
  let E : Nat → Bool := fun j => !t.early.contains j
  let L0 := Array.replicate ops.size false
  let base := listedA lq L0
  Region.noSelect ops && readyA .any ops lq L0 && (lq.all fun i => (List.range ops.size).all fun j => E j || waitsB .any ops ops.size j i) && mixS1 ops.size base chain j1 0 false == base &&
  mixA1 .any ops base chain j1 && treeQB .any ops E t (mixS1 ops.size base chain j1 chain.length true) && lq.length + (chain.length + 1 + t.depth) == ops.size
theorem region_n {id : Nat} {a : Act} {w : World} {l : List Oper} (F : Nat → Prop) (w0 : World) (lq chain : List Nat) (j1 : Nat) (t : Bq) (hm : P.follows .mixedOrders = true) (hB : mixedNB l.toArray lq chain j1 t = true)
    (hQ : ∀ (dst : Option Tmp) v c a w, Q (.panic c) (a.put dst v) w → Q (.panic c) a w) (I : Nat → Bool → Act → World → Prop)
    (hS : In F w0 w.drew) (h : wpQuiet P l.toArray (fun w' => ∃ t : LaterF F w0, w' = t.w) (fun a' => I 0 false a' w.drew) (sel l lq) a)
    (hc : ∀ i, i < chain.length → ∀ x, (Region.ready .any l.toArray (mixS1 l.toArray.size (listedA lq (Array.replicate l.toArray.size false)) chain j1 i x)).contains (chain.getD i 0) = true → ∀ a w, I i x a w → stepT P l Q (In F w0) (chain.getD i 0) true (I (i + 1) x) a w)
    (h1 : ∀ i, i ≤ chain.length → ∀ a w, I i false a w → stepT P l Q (In F w0) j1 true (I i true) a w)
    (he : ∀ a w, I chain.length true a w → wpTreeQ P l Q (In F w0) t a w) : (Code.region id l.toArray true).wp P Q a w := by
  simp only [mixedNB, Bool.and_eq_true, beq_iff_eq] at hB
  obtain ⟨⟨⟨⟨⟨⟨g1, g2⟩, g3⟩, g4⟩, g5⟩, g6⟩, g7⟩ := hB
  refine wp_region_any hm (wpAny_of_E (S := In F w0) (E := fun j => !t.early.contains j) _ _ _ _ ?_)
  rw [← g7]
  rw [← g7] at g2
  have hd0 : Down .any l.toArray (Array.replicate (lq.length + (chain.length + 1 + t.depth)) false) := fun k ok _ hl => by
    rw [getD_replicate] at hl
    cases hl
  refine phaseA l rfl g1 hQ hS _ (chain.length + 1 + t.depth) lq _ a g2 g3 hd0 h ?_
  intro a' h'
  have hd1 := down_listed lq _ g2 hd0
  rw [g7] at hd1 ⊢
  rw [← g4] at hd1
  have := phaseN l rfl g1 hQ _ chain j1 t g5 g6 (fun j hj => by simp [hj]) I hc h1 he (chain.length + 1) 0 false (Nat.zero_le _) (by simp) a' _ hd1 h'
  rw [g4] at this
  exact this
end
end Go.Proofs.YtbhpmmofgdppdaaGreatDoor
