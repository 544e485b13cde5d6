/-
  Layer 11 (sets), plain. No Go in sight.
-/
import Derived.Test.YthoeengfgkfchaaKiBehP
namespace Go.Proofs.Ythoeengfgkfchaa
open Go.Lib
structure Tm where
  tilde : Bool
  name : List UInt8
structure Cn where
  all : Bool
  cmp : Bool
  terms : List Tm
structure Bd where
  name : List UInt8
  set : Cn
def cn0 : Cn := ⟨false, false, []⟩
def nInt : List UInt8 := [105, 110, 116]
def nStr : List UInt8 := [115, 116, 114, 105, 110, 103]
def nBool : List UInt8 := [98, 111, 111, 108]
def basicB (n : List UInt8) : Bool := n == nInt || n == nStr || n == nBool
def anyI {α : Type} (p : α → Bool) (l : List α) : Bool := decide (0 ≤ fstI p l)
theorem anyI_eq {α : Type} (p : α → Bool) (l : List α) : anyI p l = l.any p := by
  unfold anyI
  rcases fstI_cases p l with ⟨h, hn⟩ | ⟨i, hi, h, hp⟩
  · rw [h]
    have : l.any p = false := by rw [List.any_eq_false]; intro x hx; rw [hn x hx]; simp
    rw [this]; rfl
  · rw [h]
    have : l.any p = true := by rw [List.any_eq_true]; exact ⟨_, List.getElem_mem hi, hp⟩
    rw [this]; simp
def withinP (s : Cn) (t : Tm) : Bool := anyI (fun x => x.name == t.name && (x.tilde || !t.tilde)) s.terms
def findC (l : List Bd) (n : List UInt8) : Option Cn := (l.find? fun b => b.name == n).map (·.set)
theorem findC_none {l : List Bd} {n : List UInt8} (h : fstI (fun b : Bd => b.name == n) l = -1) : findC l n = none := by
  rcases fstI_cases (fun d : Bd => d.name == n) l with ⟨_, h2⟩ | ⟨i, _, h2, _⟩
  · unfold findC
    have : l.find? (fun b => b.name == n) = none := by rw [List.find?_eq_none]; intro x hx; simpa using h2 x hx
    rw [this]; rfl
  · rw [h] at h2; omega
theorem findC_at {l : List Bd} {n : List UInt8} {i : Nat} (hi : i < l.length) (h : fstI (fun b : Bd => b.name == n) l = (i : Nat)) : findC l n = some l[i].set := by
  unfold fstI at h
  unfold findC
  cases hf : l.findIdx? (fun d => d.name == n) with
  | none => rw [hf] at h; simp only at h; omega
  | some j =>
    rw [hf] at h
    simp only at h
    obtain rfl : j = i := by omega
    rw [List.findIdx?_eq_some_iff_getElem] at hf
    obtain ⟨h1, h2, h3⟩ := hf
    have : l.find? (fun b => b.name == n) = some l[j] := by
      rw [List.find?_eq_some_iff_getElem]
      exact ⟨h2, j, h1, rfl, fun k hk => by have := h3 k hk; simpa using this⟩
    rw [this]; rfl
def manyP (s : Cn) : Nat := (if s.all then 1 else 0) + (if s.cmp then 1 else 0) + (if s.terms.length = 0 then 0 else 1)
def rightP (s : Cn) : Bool := decide (manyP s = 1) && !anyI (fun t => !basicB t.name) s.terms
def ownP (scope : List Bd) (n : List UInt8) : Cn := (findC scope n).getD cn0
def letsP (ds : List Df) (scope : List Bd) (s : Cn) (t0 : Ty) : Bool :=
  let t := fullP ds t0
  let own := ownP scope t.name
  let par := decide (t.kind = 4)
  if !rightP s || decide (t.kind = 0) || (par && (!(findC scope t.name).isSome || !rightP own)) then false
  else if s.all then true
  else if s.cmp then decide ((behindP ds t).kind = 1) || (par && !own.all)
  else if par then decide (own.terms.length ≠ 0) && !anyI (fun x => !withinP s x) own.terms
  else decide ((behindP ds t).kind = 1) && withinP s ⟨decide (t.kind ≠ 1), (behindP ds t).name⟩
def eachP (s : Cn) (names : List (List UInt8)) : Bool := decide (s.terms.length ≠ 0) && !anyI (fun t => !decide (0 ≤ fstI (· == t.name) names)) s.terms
end Go.Proofs.Ythoeengfgkfchaa
