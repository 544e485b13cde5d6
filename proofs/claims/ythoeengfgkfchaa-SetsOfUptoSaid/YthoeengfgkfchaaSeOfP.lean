import Derived.Test.YthoeengfgkfchaaSeP
import Derived.Test.YthoeengfgkfchaaNd
/-
  SetsOf, plain: a tree's constraint. No Go in sight.
-/
namespace Go.Proofs.Ythoeengfgkfchaa
open Go.Lib
def nAny : List UInt8 := [97, 110, 121]
def nCmp : List UInt8 := [99, 111, 109, 112, 97, 114, 97, 98, 108, 101]
def nTil : List UInt8 := [126]
/-- The only kid of a node. -/
def kidN (n : Nd) : Nd := n.kids.headD n
def termB (n : Nd) : Bool := decide (n.kind = 15) && decide (n.kids.length = 1) && decide ((kidN n).kind = 10) && decide ((kidN n).kids.length = 0) && basicB (kidN n).text
def termN (n : Nd) : Tm := ⟨n.text == nTil, (kidN n).text⟩
def unionP (l : List Nd) : Option Cn := if l.all termB then some ⟨false, false, l.map termN⟩ else none
/-- What both answer: a constraint, and whether it is one. -/
def pairU (l : List Nd) : Cn × Bool := match unionP l with | some c => (c, decide (0 < l.length)) | none => (cn0, false)
def ofPair (given : List Bd) (n : Nd) : Cn × Bool :=
  if n.kind = 14 then pairU n.kids
  else if n.kind ≠ 10 ∨ 0 < n.kids.length then (cn0, false)
  else match findC given n.text with
    | some c => (c, true)
    | none => (⟨n.text == nAny, n.text == nCmp, []⟩, n.text == nAny || n.text == nCmp)
theorem pairU_bad {l : List Nd} {i : Nat} (hi : i < l.length) (h : termB l[i] = false) : pairU l = (cn0, false) := by
  have : l.all termB = false := by rw [List.all_eq_false]; exact ⟨_, List.getElem_mem hi, by rw [h]; simp⟩
  unfold pairU unionP
  rw [this]
  rfl
theorem pairU_good {l : List Nd} (h : ∀ x ∈ l, termB x = true) : pairU l = (⟨false, false, l.map termN⟩, decide (0 < l.length)) := by
  have : l.all termB = true := by rw [List.all_eq_true]; exact h
  unfold pairU unionP
  rw [this]
  rfl
theorem any_ne_cmp {n : List UInt8} (h : (n == nAny) = true) : (n == nCmp) = false := by
  have h : n = nAny := by simpa using h
  subst h; rfl
end Go.Proofs.Ythoeengfgkfchaa
