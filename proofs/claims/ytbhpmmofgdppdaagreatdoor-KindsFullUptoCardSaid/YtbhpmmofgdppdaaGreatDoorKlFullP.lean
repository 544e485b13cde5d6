import Derived.Test.YtbhpmmofgdppdaaGreatDoorZAo
/-
  What is in full has no alias in it, and is in full already: plain.
-/
namespace Go.Proofs.YtbhpmmofgdppdaaGreatDoor
open Go.Lib
def alsAt (ds : List Df) (k : Int) (n : List UInt8) : Bool := k == 3 && (match defAt ds n with
  | some d => d.als
  | none => false)
mutual
def aliasB (ds : List Df) : Ty → Bool
  | .mk k n l => alsAt ds k n || aliasL ds l
def aliasL (ds : List Df) : List Ty → Bool
  | [] => false
  | t :: r => aliasB ds t || aliasL ds r
end
theorem aliasL_any (ds : List Df) : ∀ l : List Ty, aliasL ds l = l.any (aliasB ds)
  | [] => rfl
  | t :: r => by rw [aliasL, aliasL_any ds r, List.any_cons]
theorem fullL_dn {m : Nat} {ds : List Df} {rec : Rec} (ok : StepOk m (fullT ds rec)) : ∀ (l : List Ty) (s : Int), s ≤ 20000 → (fullL ds rec l s).2 ≤ s
  | [], s, _ => by rw [fullL]; exact Int.le_refl _
  | t :: r, s, h => by
    have h1 := ok.dn t s h
    have h2 := fullL_dn ok r (fullT ds rec t s).2 (by omega)
    simp only [fullL]
    omega
theorem full_clean {ds : List Df} (hd : DefsOk ds) : ∀ (m : Nat) (t : Ty) (s : Int), s ≤ 20000 → 0 < (fullN ds m t s).2 → aliasB ds (fullN ds m t s).1 = false := by
  have core : ∀ (m : Nat) (rec : Rec), StepOk m (fullT ds rec) → (∀ f, rec = some f → ∀ t s, s ≤ 20000 → 0 < (f t s).2 → aliasB ds (f t s).1 = false) → ∀ (t : Ty) (s : Int), s ≤ 20000 → 0 < (fullT ds rec t s).2 → aliasB ds (fullT ds rec t s).1 = false := by
    intro m rec ok hrec t
    induction t using Ty.induct with
    | h k n l ih =>
      intro s hs hp
      have lp : ∀ (l' : List Ty), (∀ t ∈ l', ∀ s, s ≤ 20000 → 0 < (fullT ds rec t s).2 → aliasB ds (fullT ds rec t s).1 = false) → ∀ s, s ≤ 20000 → 0 < (fullL ds rec l' s).2 → aliasL ds (fullL ds rec l' s).1 = false := by
        intro l'
        induction l' with
        | nil => intro _ s _ _; rw [fullL]; rfl
        | cons t r ihr =>
          intro h s hs hp
          simp only [fullL] at hp ⊢
          have h1 := ok.dn t s hs
          have h2 := fullL_dn ok r (fullT ds rec t s).2 (by omega)
          rw [aliasL, h t (by simp) s hs (by omega), ihr (fun x hx => h x (by simp [hx])) _ (by omega) hp]
          rfl
      rw [fullT] at hp ⊢
      by_cases h0 : s - 1 < 0
      · rw [if_pos h0] at hp
        simp only at hp
        omega
      · rw [if_neg h0] at hp ⊢
        have hL := fullL_dn ok l (s - 1) (by omega)
        unfold aliasP at hp ⊢
        by_cases hk : k = 3
        · subst hk
          simp only [ne_eq, not_true_eq_false, if_false] at hp ⊢
          cases hdf : defAt ds n with
          | none =>
            rw [hdf] at hp
            simp only at hp ⊢
            rw [aliasB, lp l ih (s - 1) (by omega) hp]
            simp [alsAt, hdf]
          | some d =>
            rw [hdf] at hp
            simp only at hp ⊢
            by_cases ha : d.als = false
            · rw [if_pos ha] at hp ⊢
              simp only at hp ⊢
              rw [aliasB, lp l ih (s - 1) (by omega) hp]
              simp [alsAt, hdf, ha]
            · rw [if_neg ha] at hp ⊢
              cases rec with
              | none => simp only at hp; omega
              | some f =>
                simp only at hp ⊢
                split at hp
                · simp only at hp; omega
                · rename_i hlen
                  rw [if_neg hlen]
                  exact hrec f rfl _ _ (by omega) hp
        · rw [if_pos hk] at hp ⊢
          simp only at hp ⊢
          rw [aliasB, lp l ih (s - 1) (by omega) hp]
          simp [alsAt, hk]
  intro m
  induction m with
  | zero => exact core 0 none (step_ok hd 0) (fun f h => by cases h)
  | succ m ih => exact core (m + 1) (some (fullN ds m)) (step_ok hd (m + 1)) (fun f h => by injection h with h; subst h; exact ih)
theorem full_again {ds : List Df} (rec : Rec) (t : Ty) : aliasB ds t = false → ∀ s : Int, (t.size : Int) ≤ s → fullT ds rec t s = (t, s - t.size) := by
  induction t using Ty.induct with
  | h k n l ih =>
    intro ha s hs
    rw [aliasB, Bool.or_eq_false_iff, aliasL_any, List.any_eq_false] at ha
    have lp : ∀ (l' : List Ty), (∀ t ∈ l', ∀ s : Int, (t.size : Int) ≤ s → fullT ds rec t s = (t, s - t.size)) → ∀ s : Int, (Ty.sizeL l' : Int) ≤ s → fullL ds rec l' s = (l', s - Ty.sizeL l') := by
      intro l'
      induction l' with
      | nil => intro _ s _; rw [fullL]; simp [Ty.sizeL]
      | cons t r ihr =>
        intro h s hs
        rw [Ty.sizeL] at hs ⊢
        rw [fullL, h t (by simp) s (by omega)]
        simp only
        rw [ihr (fun x hx => h x (by simp [hx])) (s - t.size) (by omega)]
        simp only [Prod.mk.injEq, true_and]
        omega
    rw [Ty.size] at hs
    rw [fullT, if_neg (by omega), lp l (fun t ht => ih t ht (by simpa using ha.2 t ht)) (s - 1) (by omega)]
    have e : s - 1 - (Ty.sizeL l : Int) = s - ((Ty.mk k n l).size : Int) := by rw [Ty.size]; omega
    rw [e]
    unfold aliasP
    by_cases hk : k = 3
    · subst hk
      simp only [ne_eq, not_true_eq_false, if_false]
      cases hdf : defAt ds n with
      | none => rfl
      | some d =>
        have := ha.1
        simp [alsAt, hdf] at this
        simp only
        rw [if_pos this]
    · rw [if_pos hk]
theorem fullP_clean {ds : List Df} (hd : DefsOk ds) (t : Ty) (h : (fullP ds t).kind ≠ 0) : aliasB ds (fullP ds t) = false ∧ fullP ds (fullP ds t) = fullP ds t := by
  unfold fullP at h
  by_cases hp : 0 < (fullN ds 100 t 20000).2
  · have e : fullP ds t = (fullN ds 100 t 20000).1 := by unfold fullP; rw [if_pos hp]
    have h1 := full_clean hd 100 t 20000 (by omega) hp
    have h2 := (step_ok hd 100).sz t 20000 (by omega)
    have h3 := full_again (recN ds 100) _ h1 20000 (by omega)
    rw [← fullN_eq] at h3
    refine ⟨by rw [e]; exact h1, ?_⟩
    rw [e]
    unfold fullP
    rw [h3]
    simp only
    rw [if_pos (by omega)]
  · rw [if_neg hp] at h
    exact absurd rfl h
theorem behP_kind (ds : List Df) : ∀ (f : Nat) (t : Ty), (behP ds f t).kind ≠ 3
  | 0, t => by rw [behP]; simp [Ty.zero, Ty.kind]
  | f + 1, t => by
    rw [behP]
    split
    · assumption
    · split
      · simp [Ty.zero, Ty.kind]
      · split
        · simp [Ty.zero, Ty.kind]
        · exact behP_kind ds f _
theorem behindP_again (ds : List Df) (t : Ty) : behindP ds (behindP ds t) = behindP ds t := by
  have := behP_kind ds 100 t
  show behP ds 100 (behP ds 100 t) = behP ds 100 t
  rw [behP, if_pos this]
end Go.Proofs.YtbhpmmofgdppdaaGreatDoor
