/-
  DERIVED. GIVEN WITH THE SEED: THE CARDS: each row of YthbmjamgidfneaaGreatDoorRows.lean that lists a variable, with what it lists TIED to the program's text (the seventh form; the later family's looks); each row that meets fmt, with fmt's text TOLD by the authors' own Lean function (tested against real Go, not proved from fmt's source: count such statements apart). THE CARD IS WHAT COUNTS. Prove the row's statement (the work); the ties are given (YthbmjamgidfneaaGreatDoorTie.lean); close each card by the builder's one call (the guide's Derived/Test/ToyasCard.lean, 'card_holds'). Laid BY PROGRAM, IN A SANDBOX (cutbox-door.mjs). By AI agents, Wed Nov 11 2026. No macro, syntax, notation, axiom, sorry.
-/
import Derived.Test.YthbmjamgidfneaaGreatDoorRows
import GoSem.ClaimSeven
namespace Go.Proofs.YthbmjamgidfneaaGreatDoor
namespace Rows

/-- THE TIED CARD OF 'demoticlaw07.ShowTexts'. -/
def showTextsCard : Claim7 := { stood := { row := showTextsRow, standIns := [], harness := (true, "de56db7c69249b512b0647c17f0b79e5f6d579af47fbbaca847b1eff37141903"), looks := true }, kinds := [], alts := [], laidByText := true, laidKinds := [.data, .pinned], laidTests := true, laidLooks := .later }
def ShowTextsCardSaid : Prop := Claim7.holds Tryz.pinned (.plain (OpenSpec.ofChange showTextsSpec)) showTextsCard

/-- THE TIED CARD OF 'demoticlaw07.ShowApart'. -/
def showApartCard : Claim7 := { stood := { row := showApartRow, standIns := [], harness := (true, "de56db7c69249b512b0647c17f0b79e5f6d579af47fbbaca847b1eff37141903"), looks := true }, kinds := [], alts := [], laidByText := true, laidKinds := [.data, .pinned], laidTests := true, laidLooks := .later }
def ShowApartCardSaid : Prop := Claim7.holds Tryz.pinned (.plain (OpenSpec.ofChange showApartSpec)) showApartCard

/-- THE TIED CARD OF 'demoticlaw07.ShowCalls'. -/
def showCallsCard : Claim7 := { stood := { row := showCallsRow, standIns := [], harness := (true, "de56db7c69249b512b0647c17f0b79e5f6d579af47fbbaca847b1eff37141903"), looks := true }, kinds := [], alts := [], laidByText := true, laidKinds := [.data, .pinned], laidTests := true, laidLooks := .later }
def ShowCallsCardSaid : Prop := Claim7.holds Tryz.pinned (.plain (OpenSpec.ofChange showCallsSpec)) showCallsCard

/-- THE TIED CARD OF 'demoticlaw07.ShowFiles'. -/
def showFilesCard : Claim7 := { stood := { row := showFilesRow, standIns := [], harness := (true, "de56db7c69249b512b0647c17f0b79e5f6d579af47fbbaca847b1eff37141903"), looks := true }, kinds := [], alts := [], laidByText := true, laidKinds := [.data, .pinned], laidTests := true, laidLooks := .later }
def ShowFilesCardSaid : Prop := Claim7.holds Tryz.pinned (.plain (OpenSpec.ofChange showFilesSpec)) showFilesCard

/-- THE TIED CARD OF 'demoticlaw07.ShowJoins'. -/
def showJoinsCard : Claim7 := { stood := { row := showJoinsRow, standIns := [], harness := (true, "de56db7c69249b512b0647c17f0b79e5f6d579af47fbbaca847b1eff37141903"), looks := true }, kinds := [], alts := [], laidByText := true, laidKinds := [.data, .pinned], laidTests := true, laidLooks := .later }
def ShowJoinsCardSaid : Prop := Claim7.holds Tryz.pinned (.plain (OpenSpec.ofChange showJoinsSpec)) showJoinsCard

/-- THE TIED CARD OF 'demoticlaw07.ShowPlain'. -/
def showPlainCard : Claim7 := { stood := { row := showPlainRow, standIns := [], harness := (true, "de56db7c69249b512b0647c17f0b79e5f6d579af47fbbaca847b1eff37141903"), looks := true }, kinds := [], alts := [], laidByText := true, laidKinds := [.data, .pinned], laidTests := true, laidLooks := .later }
def ShowPlainCardSaid : Prop := Claim7.holds Tryz.pinned (.plain (OpenSpec.ofChange showPlainSpec)) showPlainCard

/-- THE SECOND FORM's CARD OF 'demoticlaw07.ShowTexts'. -/
def showTextsUptoCard : Claim7 := { stood := { row := showTextsUptoRow, standIns := [], harness := (true, "de56db7c69249b512b0647c17f0b79e5f6d579af47fbbaca847b1eff37141903"), looks := true }, kinds := [], alts := [], laidByText := true, laidKinds := [.data, .pinned], laidTests := true, laidLooks := .later }
def ShowTextsUptoCardSaid : Prop := Claim7.holds Tryz.pinned (.plain (OpenSpec.upto showTextsSpec)) showTextsUptoCard

/-- THE SECOND FORM's CARD OF 'demoticlaw07.ShowApart'. -/
def showApartUptoCard : Claim7 := { stood := { row := showApartUptoRow, standIns := [], harness := (true, "de56db7c69249b512b0647c17f0b79e5f6d579af47fbbaca847b1eff37141903"), looks := true }, kinds := [], alts := [], laidByText := true, laidKinds := [.data, .pinned], laidTests := true, laidLooks := .later }
def ShowApartUptoCardSaid : Prop := Claim7.holds Tryz.pinned (.plain (OpenSpec.upto showApartSpec)) showApartUptoCard

/-- THE SECOND FORM's CARD OF 'demoticlaw07.ShowCalls'. -/
def showCallsUptoCard : Claim7 := { stood := { row := showCallsUptoRow, standIns := [], harness := (true, "de56db7c69249b512b0647c17f0b79e5f6d579af47fbbaca847b1eff37141903"), looks := true }, kinds := [], alts := [], laidByText := true, laidKinds := [.data, .pinned], laidTests := true, laidLooks := .later }
def ShowCallsUptoCardSaid : Prop := Claim7.holds Tryz.pinned (.plain (OpenSpec.upto showCallsSpec)) showCallsUptoCard

/-- THE SECOND FORM's CARD OF 'demoticlaw07.ShowFiles'. -/
def showFilesUptoCard : Claim7 := { stood := { row := showFilesUptoRow, standIns := [], harness := (true, "de56db7c69249b512b0647c17f0b79e5f6d579af47fbbaca847b1eff37141903"), looks := true }, kinds := [], alts := [], laidByText := true, laidKinds := [.data, .pinned], laidTests := true, laidLooks := .later }
def ShowFilesUptoCardSaid : Prop := Claim7.holds Tryz.pinned (.plain (OpenSpec.upto showFilesSpec)) showFilesUptoCard

/-- THE SECOND FORM's CARD OF 'demoticlaw07.ShowJoins'. -/
def showJoinsUptoCard : Claim7 := { stood := { row := showJoinsUptoRow, standIns := [], harness := (true, "de56db7c69249b512b0647c17f0b79e5f6d579af47fbbaca847b1eff37141903"), looks := true }, kinds := [], alts := [], laidByText := true, laidKinds := [.data, .pinned], laidTests := true, laidLooks := .later }
def ShowJoinsUptoCardSaid : Prop := Claim7.holds Tryz.pinned (.plain (OpenSpec.upto showJoinsSpec)) showJoinsUptoCard

/-- THE SECOND FORM's CARD OF 'demoticlaw07.ShowPlain'. -/
def showPlainUptoCard : Claim7 := { stood := { row := showPlainUptoRow, standIns := [], harness := (true, "de56db7c69249b512b0647c17f0b79e5f6d579af47fbbaca847b1eff37141903"), looks := true }, kinds := [], alts := [], laidByText := true, laidKinds := [.data, .pinned], laidTests := true, laidLooks := .later }
def ShowPlainUptoCardSaid : Prop := Claim7.holds Tryz.pinned (.plain (OpenSpec.upto showPlainSpec)) showPlainUptoCard
end Rows
end Go.Proofs.YthbmjamgidfneaaGreatDoor
