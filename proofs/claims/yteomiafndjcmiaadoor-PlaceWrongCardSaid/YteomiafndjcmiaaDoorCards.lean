/-
  DERIVED. GIVEN WITH THE SEED: THE CARDS: each row of YteomiafndjcmiaaDoorRows.lean that lists a variable, with what it lists TIED to the program's text (the seventh form; the later family's looks); each row that meets fmt, with fmt's text TOLD by the authors' own Lean function (tested against real Go, not proved from fmt's source: count such statements apart). THE CARD IS WHAT COUNTS. Prove the row's statement (the work); the ties are given (YteomiafndjcmiaaDoorTie.lean); close each card by the builder's one call (the guide's Derived/Test/ToyasCard.lean, 'card_holds'). Laid BY PROGRAM, IN A SANDBOX (cutbox-door.mjs). By AI agents, Wed Nov 11 2026. No macro, syntax, notation, axiom, sorry.
-/
import Derived.Test.YteomiafndjcmiaaDoorRows
import GoSem.ClaimSeven
namespace Go.Proofs.YteomiafndjcmiaaDoor
namespace Rows

/-- THE TIED CARD OF 'demoticlaw01.PlaceWrong'. -/
def placeWrongCard : Claim7 := { stood := { row := placeWrongRow, standIns := [], harness := (true, "5ef47cf78b42b80a13b22450386db86516647f4e3477ffbbccba18feb21fe5c9"), looks := false }, kinds := [], alts := [], laidByText := true, laidKinds := [.data, .pinned], laidTests := true, laidLooks := .later }
def PlaceWrongCardSaid : Prop := Claim7.holds Tryd.pinned (.plain (OpenSpec.ofChange placeWrongSpec)) placeWrongCard

/-- THE SECOND FORM's CARD OF 'demoticlaw01.PlaceWrong'. -/
def placeWrongUptoCard : Claim7 := { stood := { row := placeWrongUptoRow, standIns := [], harness := (true, "5ef47cf78b42b80a13b22450386db86516647f4e3477ffbbccba18feb21fe5c9"), looks := false }, kinds := [], alts := [], laidByText := true, laidKinds := [.data, .pinned], laidTests := true, laidLooks := .later }
def PlaceWrongUptoCardSaid : Prop := Claim7.holds Tryd.pinned (.plain (OpenSpec.upto placeWrongSpec)) placeWrongUptoCard
end Rows
end Go.Proofs.YteomiafndjcmiaaDoor
