/-
  A region that draws its order: as XRegionT, and plain operations may stand behind others (a node of the tree that runs them in the text's order).
-/
import Derived.Test.YtmlhkgocilpobaaRegionQ
namespace Go.Proofs.Ytmlhkgocilpobaa
open Go.RowKit Go.Lib
inductive Bz where
  | fin
  | one (i : Nat) (b : Bool) (r : Bz)
  | two (i : Nat) (b : Bool) (r : Bz) (j : Nat) (c : Bool) (q : Bz)
  | three (i : Nat) (b : Bool) (r : Bz) (j : Nat) (c : Bool) (q : Bz) (k : Nat) (d : Bool) (s : Bz)
  | qs (l : List Nat) (r : Bz)
def Bz.depth : Bz → Nat
  | .fin => 0
  | .one _ _ r => r.depth + 1
  | .two _ _ r _ _ _ => r.depth + 1
  | .three _ _ r _ _ _ _ _ _ => r.depth + 1
  | .qs l r => l.length + r.depth
def Bz.early : Bz → List Nat
  | .fin => []
  | .one i b r => (if b then [] else [i]) ++ r.early
  | .two i b r j c q => (if b then [] else [i]) ++ (r.early ++ ((if c then [] else [j]) ++ q.early))
  | .three i b r j c q k d s => (if b then [] else [i]) ++ (r.early ++ ((if c then [] else [j]) ++ (q.early ++ ((if d then [] else [k]) ++ s.early))))
  | .qs _ r => r.early
section
variable {P : Program} {ops : Array Oper} {Q : Exit → Act → World → Prop} {md : Region.Mode} {S : World → Prop} {E : Nat → Bool}
def wpTreeZ (P : Program) (l : List Oper) (Q : Exit → Act → World → Prop) (S : World → Prop) : Bz → Act → World → Prop
  | .fin, a, w => Q .normal a w
  | .one i b r, a, w => stepT P l Q S i b (wpTreeZ P l Q S r) a w
  | .two i b r j c q, a, w => stepT P l Q S i b (wpTreeZ P l Q S r) a w ∧ stepT P l Q S j c (wpTreeZ P l Q S q) a w
  | .three i b r j c q k d s, a, w => stepT P l Q S i b (wpTreeZ P l Q S r) a w ∧ (stepT P l Q S j c (wpTreeZ P l Q S q) a w ∧ stepT P l Q S k d (wpTreeZ P l Q S s) a w)
  | .qs lq r, a, w => S w ∧ wpQuiet P l.toArray S (fun a' => wpTreeZ P l Q S r a' w) (sel l lq) a
def treeZB (md : Region.Mode) (ops : Array Oper) (E : Nat → Bool) : Bz → Array Bool → Bool
  | .fin, listed => (Region.ready md ops listed).isEmpty
  | .one i _ r, listed => (Region.ready md ops listed) == [i] && treeZB md ops E r (listed.setIfInBounds i true)
  | .two i _ r j _ q, listed => (Region.ready md ops listed) == [i, j] && treeZB md ops E r (listed.setIfInBounds i true) && treeZB md ops E q (listed.setIfInBounds j true) && r.depth == q.depth
  | .three i _ r j _ q k _ s, listed => (Region.ready md ops listed) == [i, j, k] && treeZB md ops E r (listed.setIfInBounds i true) && treeZB md ops E q (listed.setIfInBounds j true) && treeZB md ops E s (listed.setIfInBounds k true) && r.depth == q.depth && r.depth == s.depth
  | .qs lq r, listed => readyA md ops lq listed && (lq.all fun i => (List.range ops.size).all fun j => E j || waitsB md ops ops.size j i) && treeZB md ops E r (listedA lq listed)
theorem phaseZ (l : List Oper) (hl : l.toArray = ops) (hs : Region.noSelect ops = true) (hQ : ∀ (dst : Option Tmp) v c a w, Q (.panic c) (a.put dst v) w → Q (.panic c) a w) : ∀ (t : Bz) (listed : Array Bool) (a : Act) (w : World), treeZB md ops E t listed = true → (∀ j ∈ t.early, E j = false) → Down md ops listed → wpTreeZ P l Q S t a w → wpAnyE P md ops Q S E t.depth listed a w
  | .fin, listed, a, w, hc, _, _, h => ⟨by simpa [treeZB] using hc, h⟩
  | .one i b r, listed, a, w, hc, he, hd, h => by
    simp only [treeZB, Bool.and_eq_true, beq_iff_eq] at hc
    refine ⟨fun h0 => (by rw [hc.1] at h0; cases h0), fun k hk => ?_⟩
    have hk' := hk
    rw [hc.1, List.mem_singleton] at hk'
    subst hk'
    exact stepT_op l hl hk (fun hb => he _ (by simp [Bz.early, hb])) (fun a' w' h' => phaseZ l hl hs hQ r _ a' w' hc.2 (fun j hj => he j (by simp [Bz.early, hj])) (hd.step hk) h') h
  | .two i b r j c q, listed, a, w, hc, he, hd, h => by
    simp only [treeZB, Bool.and_eq_true, beq_iff_eq] at hc
    obtain ⟨⟨⟨h1, h2⟩, h3⟩, h4⟩ := hc
    refine ⟨fun h0 => (by rw [h1] at h0; cases h0), fun k hk => ?_⟩
    have hk' := hk
    rw [h1] at hk'
    simp only [List.mem_cons, List.mem_nil_iff, or_false] at hk'
    rcases hk' with rfl | rfl
    · exact stepT_op l hl hk (fun hb => he _ (by simp [Bz.early, hb])) (fun a' w' h' => phaseZ l hl hs hQ r _ a' w' h2 (fun j hj => he j (by simp [Bz.early, hj])) (hd.step hk) h') h.1
    · refine stepT_op l hl hk (fun hb => he _ (by simp [Bz.early, hb])) (fun a' w' h' => ?_) h.2
      have := phaseZ l hl hs hQ q _ a' w' h3 (fun j hj => he j (by simp [Bz.early, hj])) (hd.step hk) h'
      rw [← h4] at this
      exact this
  | .three i b r j c q k d s, listed, a, w, hc, he, hd, h => by
    simp only [treeZB, Bool.and_eq_true, beq_iff_eq] at hc
    obtain ⟨⟨⟨⟨⟨h1, h2⟩, h3⟩, h4⟩, h5⟩, h6⟩ := hc
    refine ⟨fun h0 => (by rw [h1] at h0; cases h0), fun x hk => ?_⟩
    have hk' := hk
    rw [h1] at hk'
    simp only [List.mem_cons, List.mem_nil_iff, or_false] at hk'
    rcases hk' with rfl | rfl | rfl
    · exact stepT_op l hl hk (fun hb => he _ (by simp [Bz.early, hb])) (fun a' w' h' => phaseZ l hl hs hQ r _ a' w' h2 (fun j hj => he j (by simp [Bz.early, hj])) (hd.step hk) h') h.1
    · refine stepT_op l hl hk (fun hb => he _ (by simp [Bz.early, hb])) (fun a' w' h' => ?_) h.2.1
      have := phaseZ l hl hs hQ q _ a' w' h3 (fun j hj => he j (by simp [Bz.early, hj])) (hd.step hk) h'
      rw [← h5] at this
      exact this
    · refine stepT_op l hl hk (fun hb => he _ (by simp [Bz.early, hb])) (fun a' w' h' => ?_) h.2.2
      have := phaseZ l hl hs hQ s _ a' w' h4 (fun j hj => he j (by simp [Bz.early, hj])) (hd.step hk) h'
      rw [← h6] at this
      exact this
  | .qs lq r, listed, a, w, hc, he, hd, h => by
    simp only [treeZB, Bool.and_eq_true] at hc
    obtain ⟨⟨h1, h2⟩, h3⟩ := hc
    simp only [wpTreeZ] at h
    refine phaseA l hl hs hQ h.1 _ r.depth lq _ a h1 h2 hd (by rw [hl] at h; exact h.2) ?_
    intro a' h'
    exact phaseZ l hl hs hQ r _ a' w h3 (fun j hj => he j (by simpa [Bz.early] using hj)) (down_listed lq _ h1 hd) h'
/-- All that is checked of a region by running it. -/
def mixedZB (ops : Array Oper) (t : Bz) : Bool :=
  Region.noSelect ops && treeZB .any ops (fun j => !t.early.contains j) t (Array.replicate ops.size false) && t.depth == ops.size
theorem region_z {id : Nat} {a : Act} {w : World} {l : List Oper} (F : Nat → Prop) (w0 : World) (t : Bz) (hm : P.follows .mixedOrders = true) (hB : mixedZB l.toArray t = true)
    (hQ : ∀ (dst : Option Tmp) v c a w, Q (.panic c) (a.put dst v) w → Q (.panic c) a w)
    (h : wpTreeZ P l Q (In F w0) t a w.drew) : (Code.region id l.toArray true).wp P Q a w := by
  simp only [mixedZB, Bool.and_eq_true, beq_iff_eq] at hB
  obtain ⟨⟨h1, h2⟩, h3⟩ := hB
  refine wp_region_any hm (wpAny_of_E (S := In F w0) (E := fun j => !t.early.contains j) _ _ _ _ ?_)
  rw [← h3] at h2 ⊢
  refine phaseZ l rfl h1 hQ t _ a _ h2 (fun j hj => by simp [hj]) ?_ h
  intro k ok hk hl
  rw [getD_replicate] at hl
  cases hl
end
end Go.Proofs.Ytmlhkgocilpobaa
