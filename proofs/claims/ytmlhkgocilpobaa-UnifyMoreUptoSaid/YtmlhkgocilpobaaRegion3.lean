/-
  A region that draws its order: plain operations first in the text's order, then a forced chain, then plain operations again.
-/
import Derived.Test.YtmlhkgocilpobaaRegion
namespace Go.Proofs.Ytmlhkgocilpobaa
open Go.RowKit Go.Lib
section
variable {P : Program} {ops : Array Oper} {Q : Exit → Act → World → Prop} {md : Region.Mode} {S : World → Prop}
def allE : Nat → Bool := fun _ => true
def forcedB (md : Region.Mode) (ops : Array Oper) : List Nat → Array Bool → Bool
  | [], _ => true
  | j :: r, listed => (Region.ready md ops listed) == [j] && forcedB md ops r (listed.setIfInBounds j true)
def wpChainK (P : Program) (l : List Oper) (Q : Exit → Act → World → Prop) (S : World → Prop) (K : Act → World → Prop) : List Nat → Act → World → Prop
  | [], a, w => K a w
  | j :: r, a, w => wpList P l.toArray (Exit.then (fun a' w' => S w' ∧ wpChainK P l Q S K r a' w') Q) (sel l [j]) a w
theorem phaseBK (l : List Oper) (hl : l.toArray = ops) (K : Act → World → Prop) (fuel : Nat) : ∀ (lB : List Nat) (listed : Array Bool) (a : Act) (w : World),
    forcedB md ops lB listed = true → Down md ops listed → S w → wpChainK P l Q S K lB a w → (∀ a' w', S w' → K a' w' → Down md ops (listedA lB listed) → wpAnyE P md ops Q S allE fuel (listedA lB listed) a' w') → wpAnyE P md ops Q S allE (lB.length + fuel) listed a w
  | [], listed, a, w, _, hd, hS, h, hK => by simpa [listedA] using hK a w hS h hd
  | j :: r, listed, a, w, hc, hd, hS, h, hK => by
    simp only [forcedB, Bool.and_eq_true, beq_iff_eq] at hc
    rw [List.length_cons, Nat.add_right_comm]
    refine ⟨fun h0 => (by rw [hc.1] at h0; cases h0), fun i hi => ?_⟩
    rw [hc.1, List.mem_singleton] at hi
    subst hi
    have hm : i ∈ Region.ready md ops listed := by rw [hc.1]; simp
    obtain ⟨_, oi, hoi, _⟩ := mem_ready.1 hm
    have hli : l[i]? = some oi := by rw [← hl] at hoi; simpa using hoi
    simp only [wpChainK, sel, hli, hl, wpList] at h
    have hnext : ∀ a' w', (S w' ∧ wpChainK P l Q S K r a' w') → (allE i = true → S w') ∧ wpAnyE P md ops Q S allE (r.length + fuel) (listed.setIfInBounds i true) a' w' :=
      fun a' w' hx => ⟨fun _ => hx.1, phaseBK l hl K fuel r (listed.setIfInBounds i true) a' w' hc.2 (hd.step hm) hx.1 hx.2 hK⟩
    unfold wpOp
    simp only [hoi]
    split at h
    · rename_i hw
      rw [if_pos hw]
      refine h.imp (fun h => wp_exits (fun a' w' hx => hnext a' w' hx) (fun c a w hx => hx) (fun ⟨a, w, hx⟩ => ⟨a, w, hx⟩) h) (fun ⟨h1, a, w, hx⟩ => ⟨h1, a, w, hx⟩)
    · rename_i hw
      rw [if_neg hw]
      exact hnext _ _ h
/-- All that is checked of a region by running it. -/
def mixed3B (ops : Array Oper) (lA lB lC : List Nat) : Bool :=
  Region.noSelect ops && readyA .any ops lA (Array.replicate ops.size false) && forcedB .any ops lB (listedA lA (Array.replicate ops.size false)) &&
  readyA .any ops lC (listedA lB (listedA lA (Array.replicate ops.size false))) && (Region.ready .any ops (listedA lC (listedA lB (listedA lA (Array.replicate ops.size false))))).isEmpty && lA.length + (lB.length + (lC.length + 0)) == ops.size
theorem down_all : ∀ (lA : List Nat) (listed : Array Bool), readyA md ops lA listed = true → Down md ops listed → Down md ops (listedA lA listed)
  | [], _, _, h => h
  | i :: r, listed, hr, h => by
    simp only [readyA, Bool.and_eq_true, List.contains_eq_mem, decide_eq_true_eq] at hr
    exact down_all r _ hr.2 (h.step hr.1.1.1)
theorem region_mixed3 {id : Nat} {a : Act} {w : World} {l : List Oper} (S : World → Prop) (lA lB lC : List Nat) (hm : P.follows .mixedOrders = true) (hB : mixed3B l.toArray lA lB lC = true)
    (hQ : ∀ (dst : Option Tmp) v c a w, Q (.panic c) (a.put dst v) w → Q (.panic c) a w) (hS : S w.drew)
    (h : wpQuiet P l.toArray S (fun a' => wpChainK P l Q S (fun a2 w2 => wpQuiet P l.toArray S (fun a3 => Q .normal a3 w2) (sel l lC) a2) lB a' w.drew) (sel l lA) a) : (Code.region id l.toArray true).wp P Q a w := by
  simp only [mixed3B, Bool.and_eq_true, beq_iff_eq] at hB
  obtain ⟨⟨⟨⟨⟨h1, h2⟩, h3⟩, h4⟩, h5⟩, h6⟩ := hB
  refine wp_region_any hm (wpAny_of_E (S := S) (E := allE) _ _ _ _ ?_)
  have hd0 : Down .any l.toArray (Array.replicate l.toArray.size false) := by
    intro k ok hk hl
    rw [getD_replicate] at hl
    cases hl
  have hall : ∀ x : List Nat, (x.all fun i => (List.range l.toArray.size).all fun j => allE j || waitsB .any l.toArray l.toArray.size j i) = true := fun x => by simp [allE]
  rw [show l.toArray.size = lA.length + (lB.length + (lC.length + 0)) from h6.symm] at h2 h3 h4 h5 hd0 ⊢
  refine phaseA l rfl h1 hQ hS _ _ lA _ a h2 (hall lA) hd0 h ?_
  intro a' h'
  refine phaseBK l rfl _ _ lB _ a' _ h3 (down_all lA _ h2 hd0) hS h' ?_
  intro a2 w2 hS2 h2' hd2
  refine phaseA l rfl h1 hQ hS2 _ 0 lC _ a2 h4 (hall lC) hd2 h2' ?_
  intro a3 h3'
  exact ⟨by simpa using h5, h3'⟩
/-! ### where a panic's post reads the frame's first slots -/
def dstsB (ops : Array Oper) (l : List Nat) : Bool := l.all fun i => match ops[i]? with
  | some o => (match o.dst with
    | some d => decide (4 ≤ d)
    | none => true)
  | none => true
theorem dsts_put {o : Oper} {i : Nat} {l : List Nat} (h : dstsB ops l = true) (hi : i ∈ l) (ho : ops[i]? = some o) (hQ : ∀ d v c a w, 4 ≤ d → Q (.panic c) (a.put (some d) v) w → Q (.panic c) a w) (v : Value) (c) (a : Act) (w : World) (hp : Q (.panic c) (a.put o.dst v) w) : Q (.panic c) a w := by
  have h1 := List.all_eq_true.1 h i hi
  rw [ho] at h1
  simp only at h1
  cases hd : o.dst with
  | none => rw [hd] at hp; exact hp
  | some d =>
    rw [hd] at hp h1
    exact hQ d v c a w (by simpa using h1) hp
theorem phaseAd (l : List Oper) (hl : l.toArray = ops) (hs : Region.noSelect ops = true) (hQ : ∀ d v c a w, 4 ≤ d → Q (.panic c) (a.put (some d) v) w → Q (.panic c) a w) {w : World} (hS : S w) (K : Act → Prop) (fuel : Nat) : ∀ (lA : List Nat) (listed : Array Bool) (a : Act),
    readyA md ops lA listed = true → dstsB ops lA = true → Down md ops listed →
    wpQuiet P ops S K (sel l lA) a → (∀ a', K a' → wpAnyE P md ops Q S allE fuel (listedA lA listed) a' w) → wpAnyE P md ops Q S allE (lA.length + fuel) listed a w
  | [], listed, a, _, _, _, h, hK => by simpa [listedA] using hK a h
  | i :: r, listed, a, hr, he, hd, h, hK => by
    simp only [readyA, Bool.and_eq_true, List.contains_eq_mem, decide_eq_true_eq] at hr
    obtain ⟨⟨⟨hr1, hf⟩, hp⟩, hr2⟩ := hr
    have he' : dstsB ops r = true := by
      simp only [dstsB, List.all_cons, Bool.and_eq_true] at he
      exact he.2
    have hi : ∃ oi, ops[i]? = some oi ∧ plainOp oi.op = true := by
      cases h' : ops[i]? with
      | none => rw [h'] at hp; simp at hp
      | some o => rw [h'] at hp; exact ⟨o, rfl, by simpa using hp⟩
    obtain ⟨oi, hi, hpl⟩ := hi
    have hli : l[i]? = some oi := by rw [← hl] at hi; simpa using hi
    have hsel : sel l (i :: r) = oi :: sel l r := by simp only [sel, hli]
    rw [hsel] at h
    obtain ⟨v, hy, hk⟩ := yieldsIf_of hpl h ⟨w, hS⟩
    rw [List.length_cons, Nat.add_right_comm]
    refine wpAnyE_first hi (fun j o cs b hj => Region.noSelect_spec hs j o cs b hj) (fun c a w => dsts_put he (by simp) hi hQ v c a w) ?_ (r.length + fuel) listed a w hd (Region.free_spec hi hf) hr1 hy hS ?_
    · intro j oj hj hE
      cases hE
    · exact phaseAd l hl hs hQ hS K fuel r _ _ hr2 he' (hd.step hr1) hk hK
theorem region_mixed3d {id : Nat} {a : Act} {w : World} {l : List Oper} (S : World → Prop) (lA lB lC : List Nat) (hm : P.follows .mixedOrders = true) (hB : mixed3B l.toArray lA lB lC = true) (hdA : dstsB l.toArray lA = true) (hdC : dstsB l.toArray lC = true)
    (hQ : ∀ d v c a w, 4 ≤ d → Q (.panic c) (a.put (some d) v) w → Q (.panic c) a w) (hS : S w.drew)
    (h : wpQuiet P l.toArray S (fun a' => wpChainK P l Q S (fun a2 w2 => wpQuiet P l.toArray S (fun a3 => Q .normal a3 w2) (sel l lC) a2) lB a' w.drew) (sel l lA) a) : (Code.region id l.toArray true).wp P Q a w := by
  simp only [mixed3B, Bool.and_eq_true, beq_iff_eq] at hB
  obtain ⟨⟨⟨⟨⟨h1, h2⟩, h3⟩, h4⟩, h5⟩, h6⟩ := hB
  refine wp_region_any hm (wpAny_of_E (S := S) (E := allE) _ _ _ _ ?_)
  have hd0 : Down .any l.toArray (Array.replicate l.toArray.size false) := by
    intro k ok hk hl
    rw [getD_replicate] at hl
    cases hl
  rw [show l.toArray.size = lA.length + (lB.length + (lC.length + 0)) from h6.symm] at h2 h3 h4 h5 hd0 ⊢
  refine phaseAd l rfl h1 hQ hS _ _ lA _ a h2 hdA hd0 h ?_
  intro a' h'
  refine phaseBK l rfl _ _ lB _ a' _ h3 (down_all lA _ h2 hd0) hS h' ?_
  intro a2 w2 hS2 h2' hd2
  refine phaseAd l rfl h1 hQ hS2 _ 0 lC _ a2 h4 hdC hd2 h2' ?_
  intro a3 h3'
  exact ⟨by simpa using h5, h3'⟩
end
end Go.Proofs.Ytmlhkgocilpobaa
