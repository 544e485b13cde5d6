import Derived.Test.YtmlhkgocilpobaaKiBehP
/-
  Layer 12 (unify), plain. No Go in sight.
-/
namespace Go.Proofs.Ytmlhkgocilpobaa
open Go.Lib
def samesL (p : Ty → Ty → Bool) : List Ty → List Ty → Bool
  | [], [] => true
  | a :: r, b :: s => p a b && samesL p r s
  | _, _ => false
def sameP : Nat → Ty → Ty → Bool
  | 0, _, _ => false
  | f + 1, a, b => a.kind == b.kind && (a.name == b.name && samesL (sameP f) a.args b.args)
theorem samesL_len {p : Ty → Ty → Bool} : ∀ {l m : List Ty}, l.length ≠ m.length → samesL p l m = false
  | [], [], h => absurd rfl h
  | [], _ :: _, _ => rfl
  | _ :: _, [], _ => rfl
  | a :: r, b :: s, h => by
    rw [samesL, samesL_len (l := r) (m := s) (fun e => h (by simp [e])), Bool.and_false]
theorem samesL_bad {p : Ty → Ty → Bool} : ∀ {l m : List Ty} (i : Nat) (h1 : i < l.length) (h2 : i < m.length), p l[i] m[i] = false → samesL p l m = false
  | a :: r, b :: s, 0, _, _, h => by
    simp only [List.getElem_cons_zero] at h
    rw [samesL, h, Bool.false_and]
  | a :: r, b :: s, i + 1, h1, h2, h => by
    simp only [List.getElem_cons_succ] at h
    rw [samesL, samesL_bad i (by simpa using h1) (by simpa using h2) h, Bool.and_false]
theorem samesL_good {p : Ty → Ty → Bool} : ∀ {l m : List Ty}, l.length = m.length → (∀ i (h1 : i < l.length) (h2 : i < m.length), p l[i] m[i] = true) → samesL p l m = true
  | [], [], _, _ => rfl
  | a :: r, b :: s, he, h => by
    have h0 := h 0 (by simp) (by simp)
    simp only [List.getElem_cons_zero] at h0
    rw [samesL, h0, Bool.true_and]
    exact samesL_good (by simpa using he) fun i h1 h2 => by have := h (i + 1) (by simpa using h1) (by simpa using h2); simpa using this
def ownP (row : List (List UInt8)) (t : Ty) : Int := if t.kind ≠ 4 then -1 else fstI (· == t.name) row
def partsL (g : Ty → Ty → List Ty → Bool × List Ty) : List Ty → List Ty → List Ty → Bool × List Ty
  | p :: ps, t :: ts, by' => if (g p t by').1 then partsL g ps ts (g p t by').2 else (false, (g p t by').2)
  | _, _, by' => (true, by')
def partsP (g : Ty → Ty → List Ty → Bool × List Ty) (p t : Ty) (by' : List Ty) : Bool × List Ty := if p.args.length ≠ t.args.length then (false, by') else partsL g p.args t.args by'
def openP (ds : List Df) (t : Ty) : Ty := if t.kind = 3 then fullP ds (behindP ds t) else t
def fitsP (ds : List Df) (row : List (List UInt8)) : Nat → Ty → Ty → List Ty → Bool × List Ty
  | 0, _, _, by' => (false, by')
  | f + 1, p, t, by' =>
    if 0 ≤ ownP row p then
      if (by'.getD (ownP row p).toNat Ty.zero).kind = 0 then (true, by'.set (ownP row p).toNat t) else (sameP 100 (by'.getD (ownP row p).toNat Ty.zero) t, by')
    else if p.kind = 5 ∨ p.kind = 6 then
      if (openP ds t).kind = p.kind then partsP (fitsP ds row f) p (openP ds t) by' else (false, by')
    else if p.kind = 3 then
      if t.kind = 3 ∧ t.name = p.name then partsP (fitsP ds row f) p t by' else (false, by')
    else (sameP 100 p t, by')
/-- How far the parts have come. -/
def partsAt (g : Ty → Ty → List Ty → Bool × List Ty) (p t : Ty) (by' : List Ty) : Nat → Bool × List Ty
  | 0 => (true, by')
  | i + 1 => if (partsAt g p t by' i).1 then g (p.args.getD i Ty.zero) (t.args.getD i Ty.zero) (partsAt g p t by' i).2 else partsAt g p t by' i
theorem partsL_at (g : Ty → Ty → List Ty → Bool × List Ty) (p t : Ty) (by' : List Ty) (he : p.args.length = t.args.length) : ∀ (k i : Nat), i + k = p.args.length → (partsAt g p t by' i).1 = true → partsL g (p.args.drop i) (t.args.drop i) (partsAt g p t by' i).2 = partsAt g p t by' p.args.length
  | 0, i, hk, h => by
    have e : i = p.args.length := by omega
    subst e
    rw [List.drop_length]
    simp only [partsL]
    exact Prod.ext h.symm rfl
  | k + 1, i, hk, h => by
    have h1 : i < p.args.length := by omega
    have h2 : i < t.args.length := by omega
    rw [List.drop_eq_getElem_cons h1, List.drop_eq_getElem_cons h2, partsL]
    have e : partsAt g p t by' (i + 1) = g p.args[i] t.args[i] (partsAt g p t by' i).2 := by
      rw [partsAt, if_pos h, List.getD_eq_getElem?_getD, List.getElem?_eq_getElem h1, List.getD_eq_getElem?_getD, List.getElem?_eq_getElem h2]
      rfl
    rw [← e]
    by_cases hq : (partsAt g p t by' (i + 1)).1 = true
    · rw [if_pos hq]
      exact partsL_at g p t by' he k (i + 1) (by omega) hq
    · rw [if_neg hq]
      have stay : ∀ j, i + 1 ≤ j → partsAt g p t by' j = partsAt g p t by' (i + 1) := by
        intro j
        induction j with
        | zero => intro h; omega
        | succ j ih =>
          intro hj
          by_cases hj' : i + 1 ≤ j
          · have := ih hj'
            rw [partsAt, this, if_neg hq]
          · have : j = i := by omega
            subst this; rfl
      rw [stay p.args.length (by omega)]
      refine Prod.ext ?_ rfl
      simp only
      cases hx : (partsAt g p t by' (i + 1)).1 with
      | true => exact absurd hx hq
      | false => rfl
theorem partsP_at (g : Ty → Ty → List Ty → Bool × List Ty) (p t : Ty) (by' : List Ty) (he : p.args.length = t.args.length) : partsP g p t by' = partsAt g p t by' p.args.length := by
  rw [partsP, if_neg (by simpa using he)]
  have := partsL_at g p t by' he p.args.length 0 (by omega) rfl
  simpa [partsAt] using this
theorem partsAt_bad {g : Ty → Ty → List Ty → Bool × List Ty} {p t : Ty} {by' : List Ty} {i : Nat} (h : (partsAt g p t by' i).1 = false) : ∀ n, i ≤ n → partsAt g p t by' n = partsAt g p t by' i := by
  intro n
  induction n with
  | zero => intro hi; rw [Nat.le_zero.1 hi]
  | succ n ih =>
    intro hi
    by_cases e : i = n + 1
    · rw [e]
    · have := ih (by omega)
      rw [partsAt, this, h]
      rfl
theorem full_kind_basic (ds : List Df) (n : List UInt8) : fullP ds (.mk 1 n []) = .mk 1 n [] := by
  kernel_rfl
theorem full_zero (ds : List Df) : fullP ds Ty.zero = Ty.zero := by
  kernel_rfl
end Go.Proofs.Ytmlhkgocilpobaa
