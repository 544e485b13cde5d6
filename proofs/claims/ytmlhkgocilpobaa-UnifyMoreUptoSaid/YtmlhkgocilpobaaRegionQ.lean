/-
  A region that draws its order: as XRegionT, and plain operations may stand behind others (a node of the tree that runs them in the text's order).
-/
import Derived.Test.YtmlhkgocilpobaaRegionT
namespace Go.Proofs.Ytmlhkgocilpobaa
open Go.RowKit Go.Lib
inductive Bq where
  | fin
  | one (i : Nat) (b : Bool) (r : Bq)
  | two (i : Nat) (b : Bool) (r : Bq) (j : Nat) (c : Bool) (q : Bq)
  | qs (l : List Nat) (r : Bq)
def Bq.depth : Bq → Nat
  | .fin => 0
  | .one _ _ r => r.depth + 1
  | .two _ _ r _ _ _ => r.depth + 1
  | .qs l r => l.length + r.depth
def Bq.early : Bq → List Nat
  | .fin => []
  | .one i b r => (if b then [] else [i]) ++ r.early
  | .two i b r j c q => (if b then [] else [i]) ++ (r.early ++ ((if c then [] else [j]) ++ q.early))
  | .qs _ r => r.early
section
variable {P : Program} {ops : Array Oper} {Q : Exit → Act → World → Prop} {md : Region.Mode} {S : World → Prop} {E : Nat → Bool}
def wpTreeQ (P : Program) (l : List Oper) (Q : Exit → Act → World → Prop) (S : World → Prop) : Bq → Act → World → Prop
  | .fin, a, w => Q .normal a w
  | .one i b r, a, w => stepT P l Q S i b (wpTreeQ P l Q S r) a w
  | .two i b r j c q, a, w => stepT P l Q S i b (wpTreeQ P l Q S r) a w ∧ stepT P l Q S j c (wpTreeQ P l Q S q) a w
  | .qs lq r, a, w => S w ∧ wpQuiet P l.toArray S (fun a' => wpTreeQ P l Q S r a' w) (sel l lq) a
def treeQB (md : Region.Mode) (ops : Array Oper) (E : Nat → Bool) : Bq → Array Bool → Bool
  | .fin, listed => (Region.ready md ops listed).isEmpty
  | .one i _ r, listed => (Region.ready md ops listed) == [i] && treeQB md ops E r (listed.setIfInBounds i true)
  | .two i _ r j _ q, listed => (Region.ready md ops listed) == [i, j] && treeQB md ops E r (listed.setIfInBounds i true) && treeQB md ops E q (listed.setIfInBounds j true) && r.depth == q.depth
  | .qs lq r, listed => readyA md ops lq listed && (lq.all fun i => (List.range ops.size).all fun j => E j || waitsB md ops ops.size j i) && treeQB md ops E r (listedA lq listed)
theorem down_listed : ∀ (lA : List Nat) (listed : Array Bool), readyA md ops lA listed = true → Down md ops listed → Down md ops (listedA lA listed)
  | [], _, _, h => h
  | i :: r, listed, hr, h => by
    simp only [readyA, Bool.and_eq_true, List.contains_eq_mem, decide_eq_true_eq] at hr
    exact down_listed r _ hr.2 (h.step hr.1.1.1)
theorem phaseQ (l : List Oper) (hl : l.toArray = ops) (hs : Region.noSelect ops = true) (hQ : ∀ (dst : Option Tmp) v c a w, Q (.panic c) (a.put dst v) w → Q (.panic c) a w) : ∀ (t : Bq) (listed : Array Bool) (a : Act) (w : World), treeQB md ops E t listed = true → (∀ j ∈ t.early, E j = false) → Down md ops listed → wpTreeQ P l Q S t a w → wpAnyE P md ops Q S E t.depth listed a w
  | .fin, listed, a, w, hc, _, _, h => ⟨by simpa [treeQB] using hc, h⟩
  | .one i b r, listed, a, w, hc, he, hd, h => by
    simp only [treeQB, Bool.and_eq_true, beq_iff_eq] at hc
    refine ⟨fun h0 => (by rw [hc.1] at h0; cases h0), fun k hk => ?_⟩
    have hk' := hk
    rw [hc.1, List.mem_singleton] at hk'
    subst hk'
    exact stepT_op l hl hk (fun hb => he _ (by simp [Bq.early, hb])) (fun a' w' h' => phaseQ l hl hs hQ r _ a' w' hc.2 (fun j hj => he j (by simp [Bq.early, hj])) (hd.step hk) h') h
  | .two i b r j c q, listed, a, w, hc, he, hd, h => by
    simp only [treeQB, Bool.and_eq_true, beq_iff_eq] at hc
    obtain ⟨⟨⟨h1, h2⟩, h3⟩, h4⟩ := hc
    refine ⟨fun h0 => (by rw [h1] at h0; cases h0), fun k hk => ?_⟩
    have hk' := hk
    rw [h1] at hk'
    simp only [List.mem_cons, List.mem_nil_iff, or_false] at hk'
    rcases hk' with rfl | rfl
    · exact stepT_op l hl hk (fun hb => he _ (by simp [Bq.early, hb])) (fun a' w' h' => phaseQ l hl hs hQ r _ a' w' h2 (fun j hj => he j (by simp [Bq.early, hj])) (hd.step hk) h') h.1
    · refine stepT_op l hl hk (fun hb => he _ (by simp [Bq.early, hb])) (fun a' w' h' => ?_) h.2
      have := phaseQ l hl hs hQ q _ a' w' h3 (fun j hj => he j (by simp [Bq.early, hj])) (hd.step hk) h'
      rw [← h4] at this
      exact this
  | .qs lq r, listed, a, w, hc, he, hd, h => by
    simp only [treeQB, Bool.and_eq_true] at hc
    obtain ⟨⟨h1, h2⟩, h3⟩ := hc
    simp only [wpTreeQ] at h
    refine phaseA l hl hs hQ h.1 _ r.depth lq _ a h1 h2 hd (by rw [hl] at h; exact h.2) ?_
    intro a' h'
    exact phaseQ l hl hs hQ r _ a' w h3 (fun j hj => he j (by simpa [Bq.early] using hj)) (down_listed lq _ h1 hd) h'
/-- All that is checked of a region by running it. -/
def mixedQB (ops : Array Oper) (t : Bq) : Bool :=
  Region.noSelect ops && treeQB .any ops (fun j => !t.early.contains j) t (Array.replicate ops.size false) && t.depth == ops.size
theorem region_q {id : Nat} {a : Act} {w : World} {l : List Oper} (F : Nat → Prop) (w0 : World) (t : Bq) (hm : P.follows .mixedOrders = true) (hB : mixedQB l.toArray t = true)
    (hQ : ∀ (dst : Option Tmp) v c a w, Q (.panic c) (a.put dst v) w → Q (.panic c) a w)
    (h : wpTreeQ P l Q (In F w0) t a w.drew) : (Code.region id l.toArray true).wp P Q a w := by
  simp only [mixedQB, Bool.and_eq_true, beq_iff_eq] at hB
  obtain ⟨⟨h1, h2⟩, h3⟩ := hB
  refine wp_region_any hm (wpAny_of_E (S := In F w0) (E := fun j => !t.early.contains j) _ _ _ _ ?_)
  rw [← h3] at h2 ⊢
  refine phaseQ l rfl h1 hQ t _ a _ h2 (fun j hj => by simp [hj]) ?_ h
  intro k ok hk hl
  rw [getD_replicate] at hl
  cases hl
end
end Go.Proofs.Ytmlhkgocilpobaa
