/-
  A region that draws its order: plain operations first in the text's order, then the others in each order that their edges leave (a tree of at most two ways at a time).
-/
import Derived.Test.YtmlhkgocilpobaaLater
namespace Go.Proofs.Ytmlhkgocilpobaa
open Go.RowKit Go.Lib
inductive Br where
  | fin
  | one (i : Nat) (b : Bool) (r : Br)
  | two (i : Nat) (b : Bool) (r : Br) (j : Nat) (c : Bool) (q : Br)
def Br.depth : Br → Nat
  | .fin => 0
  | .one _ _ r => r.depth + 1
  | .two _ _ r _ _ _ => r.depth + 1
def Br.early : Br → List Nat
  | .fin => []
  | .one i b r => (if b then [] else [i]) ++ r.early
  | .two i b r j c q => (if b then [] else [i]) ++ (r.early ++ ((if c then [] else [j]) ++ q.early))
section
variable {P : Program} {ops : Array Oper} {Q : Exit → Act → World → Prop} {md : Region.Mode} {S : World → Prop} {E : Nat → Bool}
def stepT (P : Program) (l : List Oper) (Q : Exit → Act → World → Prop) (S : World → Prop) (i : Nat) (b : Bool) (K : Act → World → Prop) (a : Act) (w : World) : Prop :=
  wpList P l.toArray (Exit.then (fun a' w' => match b with | true => S w' ∧ K a' w' | false => K a' w') Q) (sel l [i]) a w
def wpTree (P : Program) (l : List Oper) (Q : Exit → Act → World → Prop) (S : World → Prop) : Br → Act → World → Prop
  | .fin, a, w => Q .normal a w
  | .one i b r, a, w => stepT P l Q S i b (wpTree P l Q S r) a w
  | .two i b r j c q, a, w => stepT P l Q S i b (wpTree P l Q S r) a w ∧ stepT P l Q S j c (wpTree P l Q S q) a w
def treeB (md : Region.Mode) (ops : Array Oper) : Br → Array Bool → Bool
  | .fin, listed => (Region.ready md ops listed).isEmpty
  | .one i _ r, listed => (Region.ready md ops listed) == [i] && treeB md ops r (listed.setIfInBounds i true)
  | .two i _ r j _ q, listed => (Region.ready md ops listed) == [i, j] && treeB md ops r (listed.setIfInBounds i true) && treeB md ops q (listed.setIfInBounds j true) && r.depth == q.depth
theorem stepT_op (l : List Oper) (hl : l.toArray = ops) {listed : Array Bool} {a : Act} {w : World} {i : Nat} {b : Bool} {K : Act → World → Prop} {fuel : Nat} (hm : i ∈ Region.ready md ops listed) (he : b = false → E i = false)
    (hK : ∀ a' w', K a' w' → wpAnyE P md ops Q S E fuel (listed.setIfInBounds i true) a' w') (h : stepT P l Q S i b K a w) : wpOp P ops Q i (fun a' w' => (E i = true → S w') ∧ wpAnyE P md ops Q S E fuel (listed.setIfInBounds i true) a' w') a w := by
  obtain ⟨_, oi, hoi, _⟩ := mem_ready.1 hm
  have hli : l[i]? = some oi := by rw [← hl] at hoi; simpa using hoi
  simp only [stepT, sel, hli, hl, wpList] at h
  have hnext : ∀ a' w', (match b with | true => S w' ∧ K a' w' | false => K a' w') → (E i = true → S w') ∧ wpAnyE P md ops Q S E fuel (listed.setIfInBounds i true) a' w' := by
    intro a' w' hx
    cases b with
    | true => exact ⟨fun _ => hx.1, hK _ _ hx.2⟩
    | false => exact ⟨fun hE => (by rw [he rfl] at hE; cases hE), hK _ _ hx⟩
  unfold wpOp
  simp only [hoi]
  split at h
  · rename_i hw
    rw [if_pos hw]
    refine h.imp (fun h => wp_exits (fun a' w' hx => hnext a' w' hx) (fun c a w hx => hx) (fun ⟨a, w, hx⟩ => ⟨a, w, hx⟩) h) (fun ⟨h1, a, w, hx⟩ => ⟨h1, a, w, hx⟩)
  · rename_i hw
    rw [if_neg hw]
    exact hnext _ _ h
theorem phaseT (l : List Oper) (hl : l.toArray = ops) : ∀ (t : Br) (listed : Array Bool) (a : Act) (w : World), treeB md ops t listed = true → (∀ j ∈ t.early, E j = false) → wpTree P l Q S t a w → wpAnyE P md ops Q S E t.depth listed a w
  | .fin, listed, a, w, hc, _, h => ⟨by simpa [treeB] using hc, h⟩
  | .one i b r, listed, a, w, hc, he, h => by
    simp only [treeB, Bool.and_eq_true, beq_iff_eq] at hc
    refine ⟨fun h0 => (by rw [hc.1] at h0; cases h0), fun k hk => ?_⟩
    have hk' := hk
    rw [hc.1, List.mem_singleton] at hk'
    subst hk'
    exact stepT_op l hl hk (fun hb => he _ (by simp [Br.early, hb])) (fun a' w' h' => phaseT l hl r _ a' w' hc.2 (fun j hj => he j (by simp [Br.early, hj])) h') h
  | .two i b r j c q, listed, a, w, hc, he, h => by
    simp only [treeB, Bool.and_eq_true, beq_iff_eq] at hc
    obtain ⟨⟨⟨h1, h2⟩, h3⟩, h4⟩ := hc
    refine ⟨fun h0 => (by rw [h1] at h0; cases h0), fun k hk => ?_⟩
    have hk' := hk
    rw [h1] at hk'
    simp only [List.mem_cons, List.mem_nil_iff, or_false] at hk'
    rcases hk' with rfl | rfl
    · exact stepT_op l hl hk (fun hb => he _ (by simp [Br.early, hb])) (fun a' w' h' => phaseT l hl r _ a' w' h2 (fun j hj => he j (by simp [Br.early, hj])) h') h.1
    · refine stepT_op l hl hk (fun hb => he _ (by simp [Br.early, hb])) (fun a' w' h' => ?_) h.2
      have := phaseT l hl q _ a' w' h3 (fun j hj => he j (by simp [Br.early, hj])) h'
      rw [← h4] at this
      exact this
/-- All that is checked of a region by running it. -/
def mixedTB (ops : Array Oper) (lA : List Nat) (t : Br) : Bool :=
  Region.noSelect ops && readyA .any ops lA (Array.replicate ops.size false) && treeB .any ops t (listedA lA (Array.replicate ops.size false)) &&
  (lA.all fun i => (List.range ops.size).all fun j => !t.early.contains j || waitsB .any ops ops.size j i) && lA.length + t.depth == ops.size
theorem region_tree {id : Nat} {a : Act} {w : World} {l : List Oper} (F : Nat → Prop) (w0 : World) (lA : List Nat) (t : Br) (hm : P.follows .mixedOrders = true) (hB : mixedTB l.toArray lA t = true)
    (hQ : ∀ (dst : Option Tmp) v c a w, Q (.panic c) (a.put dst v) w → Q (.panic c) a w) (hC : Ext F w0 w)
    (h : wpQuiet P l.toArray (fun w' => ∃ t : LaterF F w0, w' = t.w) (fun a' => wpTree P l Q (In F w0) t a' w.drew) (sel l lA) a) : (Code.region id l.toArray true).wp P Q a w := by
  simp only [mixedTB, Bool.and_eq_true, beq_iff_eq] at hB
  obtain ⟨⟨⟨⟨h1, h2⟩, h3⟩, h4⟩, h5⟩ := hB
  refine wp_region_any hm (wpAny_of_E (S := In F w0) (E := fun j => !t.early.contains j) _ _ _ _ ?_)
  rw [← h5] at h2 h3
  rw [← h5]
  refine phaseA l rfl h1 hQ (In.of hC.drew) _ t.depth lA _ a h2 ?_ ?_ h ?_
  · exact h4
  · intro k ok hk hl
    rw [getD_replicate] at hl
    cases hl
  · intro a' h'
    exact phaseT l rfl t _ a' _ h3 (fun j hj => by simp [hj]) h'
end
end Go.Proofs.Ytmlhkgocilpobaa
