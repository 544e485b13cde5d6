import Derived.Test.YtmlhkgocilpobaaUnDefs
/-
  UnifyMore, plain: the pair (int, int) more changes nothing; (int, string) fits nothing.
-/
namespace Go.Proofs.Ytmlhkgocilpobaa
open Go.Lib
def tStr : Ty := .mk 1 [115, 116, 114, 105, 110, 103] []
theorem full_str (ds : List Df) : fullP ds tStr = tStr := by kernel_rfl
theorem own_int (row : List (List UInt8)) : ownP row tInt = -1 := by unfold ownP; rw [if_pos (by simp [tInt, Ty.kind])]
theorem fits_int (ds : List Df) (row : List (List UInt8)) (t : Ty) (b : List Ty) : fitsP ds row 100 tInt t b = (sameP 100 tInt t, b) := by
  rw [fitsP, own_int, if_neg (by omega), if_neg (by simp [tInt, Ty.kind]), if_neg (by simp [tInt, Ty.kind])]
theorem same_is : sameP 100 tInt tStr = false := by kernel_rfl
theorem findAt_pre (ds : List Df) (row : List (List UInt8)) (ps ts b : List Ty) (p t : Ty) (h : ps.length = ts.length) : ∀ i, i ≤ ts.length → findAt ds row (ps ++ [p]) (ts ++ [t]) b i = findAt ds row ps ts b i
  | 0, _ => rfl
  | i + 1, hi => by
    rw [findAt, findAt, findAt_pre ds row ps ts b p t h i (by omega)]
    have h1 : (ps ++ [p]).getD i Ty.zero = ps.getD i Ty.zero := by rw [List.getD_eq_getElem?_getD, List.getD_eq_getElem?_getD, List.getElem?_append_left (by omega)]
    have h2 : (ts ++ [t]).getD i Ty.zero = ts.getD i Ty.zero := by rw [List.getD_eq_getElem?_getD, List.getD_eq_getElem?_getD, List.getElem?_append_left (by omega)]
    rw [h1, h2]
theorem untypedAt_pre (row : List (List UInt8)) (ps ts b : List Ty) (p t : Ty) (h : ps.length = ts.length) : ∀ i, i ≤ ts.length → untypedAt row (ps ++ [p]) (ts ++ [t]) b i = untypedAt row ps ts b i
  | 0, _ => rfl
  | i + 1, hi => by
    rw [untypedAt, untypedAt, untypedAt_pre row ps ts b p t h i (by omega)]
    have h1 : (ps ++ [p]).getD i Ty.zero = ps.getD i Ty.zero := by rw [List.getD_eq_getElem?_getD, List.getD_eq_getElem?_getD, List.getElem?_append_left (by omega)]
    have h2 : (ts ++ [t]).getD i Ty.zero = ts.getD i Ty.zero := by rw [List.getD_eq_getElem?_getD, List.getD_eq_getElem?_getD, List.getElem?_append_left (by omega)]
    rw [h1, h2]
theorem last_get (ps : List Ty) (p : Ty) (n : Nat) (h : ps.length = n) : (ps ++ [p]).getD n Ty.zero = p := by
  subst h
  rw [List.getD_eq_getElem?_getD, List.getElem?_append_right (Nat.le_refl _), Nat.sub_self]
  rfl
theorem find_more (ds : List Df) (row : List (List UInt8)) (ps ts : List Ty) (h : ps.length = ts.length) : findP ds row (ps ++ [tInt]) (ts ++ [tInt]) = findP ds row ps ts := by
  unfold findP
  have hl : (ps ++ [tInt]).length = (ts ++ [tInt]).length := by simp [h]
  have e1 : (ts ++ [tInt]).length = ts.length + 1 := by simp
  have key : ∀ c, findAt ds row (ps ++ [tInt]) (ts ++ [tInt]) c (ts.length + 1) = findAt ds row ps ts c ts.length := fun c => by
    rw [findAt, findAt_pre ds row ps ts c tInt tInt h ts.length (Nat.le_refl _), last_get ps tInt _ h, last_get ts tInt _ rfl]
    cases findAt ds row ps ts c ts.length with
    | none => rfl
    | some d => simp only [pairStep, full_int, fits_int, same_int]; simp [tInt, Ty.kind]
  have keyu : ∀ c, untypedAt row (ps ++ [tInt]) (ts ++ [tInt]) c (ts.length + 1) = untypedAt row ps ts c ts.length := fun c => by
    rw [untypedAt, untypedAt_pre row ps ts c tInt tInt h ts.length (Nat.le_refl _), last_get ps tInt _ h, last_get ts tInt _ rfl]
    cases untypedAt row ps ts c ts.length with
    | none => rfl
    | some d => obtain ⟨d1, d2⟩ := d; simp [lateStep, tInt, Ty.kind]
  by_cases ht : twiceP row = true
  · rw [if_pos (.inl ht), if_pos (.inl ht)]
  · rw [if_neg (by rw [not_or]; exact ⟨ht, fun q => q hl⟩), if_neg (by rw [not_or]; exact ⟨ht, fun q => q h⟩), e1, key]
    cases findAt ds row ps ts (by0 ds row) ts.length with
    | none => rfl
    | some c => simp only [tailP, e1, keyu]
theorem find_other (ds : List Df) (row : List (List UInt8)) (ps ts : List Ty) (h : ps.length = ts.length) : findP ds row (ps ++ [tInt]) (ts ++ [tStr]) = none := by
  unfold findP
  have e1 : (ts ++ [tStr]).length = ts.length + 1 := by simp
  split
  · rfl
  · rw [e1]
    have key : findAt ds row (ps ++ [tInt]) (ts ++ [tStr]) (by0 ds row) (ts.length + 1) = none := by
      rw [findAt, findAt_pre ds row ps ts _ tInt tStr h ts.length (Nat.le_refl _), last_get ps tInt _ h, last_get ts tStr _ rfl]
      cases findAt ds row ps ts (by0 ds row) ts.length with
      | none => rfl
      | some d => simp only [pairStep, full_int, full_str, fits_int, same_is]; simp [tInt, tStr, Ty.kind]
    rw [key]
    rfl
end Go.Proofs.Ytmlhkgocilpobaa
