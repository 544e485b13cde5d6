import Derived.Test.YtmlhkgocilpobaaUnFind
/-
  UnifyNone, plain.
-/
namespace Go.Proofs.Ytmlhkgocilpobaa
open Go.Lib
def nI : List UInt8 := [105, 110, 116]
def tInt : Ty := .mk 1 nI []
def tPar (n : List UInt8) : Ty := .mk 4 n []
theorem full_par (ds : List Df) (n : List UInt8) : fullP ds (tPar n) = tPar n := by kernel_rfl
theorem full_int (ds : List Df) : fullP ds tInt = tInt := by kernel_rfl
theorem by0_eq (ds : List Df) (row : List (List UInt8)) : by0 ds row = List.replicate row.length Ty.zero := by
  unfold by0
  rw [List.map_replicate, full_zero]
theorem has_zeros (n : Nat) : hasI (fun t : Ty => t.kind == 0) (List.replicate (n + 1) Ty.zero) = true := by
  unfold hasI
  rcases fstI_cases (fun t : Ty => t.kind == 0) (List.replicate (n + 1) Ty.zero) with ⟨_, h⟩ | ⟨i, _, h, _⟩
  · have := h Ty.zero (by simp [List.replicate_succ]); simp [Ty.zero, Ty.kind] at this
  · rw [h]; simp
theorem find_empty (ds : List Df) (row : List (List UInt8)) : findP ds row [] [] = if row = [] then some [] else none := by
  unfold findP
  cases row with
  | nil => rfl
  | cons a r =>
    rw [if_neg (by simp : ¬ (a :: r = []))]
    split
    · rfl
    · simp only [List.length_nil, findAt, tailP, untypedAt, endP, by0_eq, List.length_cons, has_zeros, if_true]
theorem own_one (n : List UInt8) (r : List (List UInt8)) : ownP (n :: r) (tPar n) = 0 := by
  unfold ownP tPar
  rw [if_neg (by simp [Ty.kind])]
  exact fstI_at (i := 0) (by simp) (by simp [Ty.name]) (fun j _ h => by omega)
theorem fits_par (ds : List Df) (n : List UInt8) (r : List (List UInt8)) (f : Nat) (t : Ty) (b : List Ty) : fitsP ds (n :: r) (f + 1) (tPar n) t (Ty.zero :: b) = (true, t :: b) := by
  rw [fitsP, own_one]
  simp [Ty.zero, Ty.kind]
theorem untyped_int (row : List (List UInt8)) (p : Ty) (b : List Ty) : untypedAt row [p] [tInt] b 1 = some (b, []) := by
  simp [untypedAt, lateStep, tInt, Ty.kind]
theorem find_at_par (ds : List Df) (n : List UInt8) (r : List (List UInt8)) (b : List Ty) : findAt ds (n :: r) [tPar n] [tInt] (Ty.zero :: b) 1 = some (tInt :: b) := by
  have h := fits_par ds n r 99 tInt b
  simp only [findAt, pairStep, List.getD_cons_zero, full_par, full_int, h]
  simp [tInt, tPar, Ty.kind]
theorem twice_one (n : List UInt8) : twiceP [n] = false := by
  have h1 : fstI (fun x => x == n) [n] = 0 := fstI_at (i := 0) (by simp) (by simp) (fun j _ h => by omega)
  unfold twiceP hasI
  have : fstI (tw1 [n]) [n] = -1 := fstI_none fun j hj => by
    have : j = 0 := by simpa using hj
    subst this
    simp only [List.getElem_cons_zero, tw1, List.reverse_singleton, h1]
    rfl
  rw [this]; rfl
theorem twice_two (n m : List UInt8) (h : n ≠ m) : twiceP [n, m] = false := by
  have a1 : fstI (fun x => x == n) [n, m] = 0 := fstI_at (i := 0) (by simp) (by simp) (fun j _ h => by omega)
  have a2 : fstI (fun x => x == n) [m, n] = (1 : Nat) := fstI_at (i := 1) (by simp) (by simp) (fun j hj h1 => by
    have : j = 0 := by omega
    subst this; simpa using Ne.symm h)
  have b1 : fstI (fun x => x == m) [n, m] = (1 : Nat) := fstI_at (i := 1) (by simp) (by simp) (fun j hj h1 => by
    have : j = 0 := by omega
    subst this; simpa using h)
  have b2 : fstI (fun x => x == m) [m, n] = 0 := fstI_at (i := 0) (by simp) (by simp) (fun j _ h => by omega)
  unfold twiceP hasI
  have : fstI (tw1 [n, m]) [n, m] = -1 := fstI_none fun j hj => by
    have hr : [n, m].reverse = [m, n] := rfl
    have : j = 0 ∨ j = 1 := by simp at hj; omega
    rcases this with rfl | rfl
    · simp only [List.getElem_cons_zero, tw1, hr, a1, a2]; rfl
    · simp only [List.getElem_cons_succ, List.getElem_cons_zero, tw1, hr, b1, b2]; rfl
  rw [this]; rfl
theorem find_one (ds : List Df) (n : List UInt8) : findP ds [n] [tPar n] [tInt] = some [tInt] := by
  unfold findP
  rw [if_neg (by rw [twice_one]; simp), by0_eq]
  have e : List.replicate [n].length Ty.zero = [Ty.zero] := rfl
  rw [e, show [tInt].length = 1 from rfl, find_at_par, tailP, show [tInt].length = 1 from rfl, untyped_int]
  rfl
theorem find_two (ds : List Df) (n m : List UInt8) (h : n ≠ m) : findP ds [n, m] [tPar n] [tInt] = none := by
  unfold findP
  rw [if_neg (by rw [twice_two n m h]; simp), by0_eq]
  have e : List.replicate [n, m].length Ty.zero = [Ty.zero, Ty.zero] := rfl
  rw [e, show [tInt].length = 1 from rfl, find_at_par, tailP, show [tInt].length = 1 from rfl, untyped_int]
  rfl
theorem same_int : sameP 100 tInt tInt = true := by kernel_rfl
end Go.Proofs.Ytmlhkgocilpobaa
