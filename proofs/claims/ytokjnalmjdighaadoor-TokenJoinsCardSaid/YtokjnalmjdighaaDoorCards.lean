/-
  DERIVED. GIVEN WITH THE SEED: THE CARDS: each row of YtokjnalmjdighaaDoorRows.lean that lists a variable, with what it lists TIED to the program's text (the seventh form; the later family's looks); each row that meets fmt, with fmt's text TOLD by the authors' own Lean function (tested against real Go, not proved from fmt's source: count such statements apart). THE CARD IS WHAT COUNTS. Prove the row's statement (the work); the ties are given (YtokjnalmjdighaaDoorTie.lean); close each card by the builder's one call (the guide's Derived/Test/ToyasCard.lean, 'card_holds'). Laid BY PROGRAM, IN A SANDBOX (cutbox-door.mjs). By AI agents, Wed Nov 11 2026. No macro, syntax, notation, axiom, sorry.
-/
import Derived.Test.YtokjnalmjdighaaDoorRows
import GoSem.ClaimSeven
namespace Go.Proofs.YtokjnalmjdighaaDoor
namespace Rows

/-- THE TIED CARD OF 'demoticlaw02.TokenJoins'. -/
def tokenJoinsCard : Claim7 := { stood := { row := tokenJoinsRow, standIns := [], harness := (true, "ac4e656cb87b9373f2d17f67de43e7ec38e356f09020e1c17f31416a2e6a8504"), looks := true }, kinds := [], alts := [], laidByText := true, laidKinds := [.data, .pinned], laidTests := true, laidLooks := .later }
def TokenJoinsCardSaid : Prop := Claim7.holds Tryd.pinned (.plain (OpenSpec.ofChange tokenJoinsSpec)) tokenJoinsCard

/-- THE TIED CARD OF 'demoticlaw02.TokenLines'. -/
def tokenLinesCard : Claim7 := { stood := { row := tokenLinesRow, standIns := [], harness := (true, "ac4e656cb87b9373f2d17f67de43e7ec38e356f09020e1c17f31416a2e6a8504"), looks := true }, kinds := [], alts := [], laidByText := true, laidKinds := [.data, .pinned], laidTests := true, laidLooks := .later }
def TokenLinesCardSaid : Prop := Claim7.holds Tryd.pinned (.plain (OpenSpec.ofChange tokenLinesSpec)) tokenLinesCard

/-- THE TIED CARD OF 'demoticlaw02.TokenScans'. -/
def tokenScansCard : Claim7 := { stood := { row := tokenScansRow, standIns := [], harness := (true, "ac4e656cb87b9373f2d17f67de43e7ec38e356f09020e1c17f31416a2e6a8504"), looks := true }, kinds := [], alts := [], laidByText := true, laidKinds := [.data, .pinned], laidTests := true, laidLooks := .later }
def TokenScansCardSaid : Prop := Claim7.holds Tryd.pinned (.plain (OpenSpec.ofChange tokenScansSpec)) tokenScansCard

/-- THE TIED CARD OF 'demoticlaw02.TokenStands'. -/
def tokenStandsCard : Claim7 := { stood := { row := tokenStandsRow, standIns := [], harness := (true, "ac4e656cb87b9373f2d17f67de43e7ec38e356f09020e1c17f31416a2e6a8504"), looks := true }, kinds := [], alts := [], laidByText := true, laidKinds := [.data, .pinned], laidTests := true, laidLooks := .later }
def TokenStandsCardSaid : Prop := Claim7.holds Tryd.pinned (.plain (OpenSpec.ofChange tokenStandsSpec)) tokenStandsCard

/-- THE TIED CARD OF 'demoticlaw02.TokenLong'. -/
def tokenLongCard : Claim7 := { stood := { row := tokenLongRow, standIns := [], harness := (true, "ac4e656cb87b9373f2d17f67de43e7ec38e356f09020e1c17f31416a2e6a8504"), looks := true }, kinds := [], alts := [], laidByText := true, laidKinds := [.data, .pinned], laidTests := true, laidLooks := .later }
def TokenLongCardSaid : Prop := Claim7.holds Tryd.pinned (.plain (OpenSpec.ofChange tokenLongSpec)) tokenLongCard

/-- THE TIED CARD OF 'demoticlaw02.TokenNames'. -/
def tokenNamesCard : Claim7 := { stood := { row := tokenNamesRow, standIns := [], harness := (true, "ac4e656cb87b9373f2d17f67de43e7ec38e356f09020e1c17f31416a2e6a8504"), looks := true }, kinds := [], alts := [], laidByText := true, laidKinds := [.data, .pinned], laidTests := true, laidLooks := .later }
def TokenNamesCardSaid : Prop := Claim7.holds Tryd.pinned (.plain (OpenSpec.ofChange tokenNamesSpec)) tokenNamesCard

/-- THE TIED CARD OF 'demoticlaw02.TokenKinds'. -/
def tokenKindsCard : Claim7 := { stood := { row := tokenKindsRow, standIns := [], harness := (true, "ac4e656cb87b9373f2d17f67de43e7ec38e356f09020e1c17f31416a2e6a8504"), looks := true }, kinds := [], alts := [], laidByText := true, laidKinds := [.data, .pinned], laidTests := true, laidLooks := .later }
def TokenKindsCardSaid : Prop := Claim7.holds Tryd.pinned (.plain (OpenSpec.ofChange tokenKindsSpec)) tokenKindsCard

/-- THE SECOND FORM's CARD OF 'demoticlaw02.TokenJoins'. -/
def tokenJoinsUptoCard : Claim7 := { stood := { row := tokenJoinsUptoRow, standIns := [], harness := (true, "ac4e656cb87b9373f2d17f67de43e7ec38e356f09020e1c17f31416a2e6a8504"), looks := true }, kinds := [], alts := [], laidByText := true, laidKinds := [.data, .pinned], laidTests := true, laidLooks := .later }
def TokenJoinsUptoCardSaid : Prop := Claim7.holds Tryd.pinned (.plain (OpenSpec.upto tokenJoinsSpec)) tokenJoinsUptoCard

/-- THE SECOND FORM's CARD OF 'demoticlaw02.TokenLines'. -/
def tokenLinesUptoCard : Claim7 := { stood := { row := tokenLinesUptoRow, standIns := [], harness := (true, "ac4e656cb87b9373f2d17f67de43e7ec38e356f09020e1c17f31416a2e6a8504"), looks := true }, kinds := [], alts := [], laidByText := true, laidKinds := [.data, .pinned], laidTests := true, laidLooks := .later }
def TokenLinesUptoCardSaid : Prop := Claim7.holds Tryd.pinned (.plain (OpenSpec.upto tokenLinesSpec)) tokenLinesUptoCard

/-- THE SECOND FORM's CARD OF 'demoticlaw02.TokenScans'. -/
def tokenScansUptoCard : Claim7 := { stood := { row := tokenScansUptoRow, standIns := [], harness := (true, "ac4e656cb87b9373f2d17f67de43e7ec38e356f09020e1c17f31416a2e6a8504"), looks := true }, kinds := [], alts := [], laidByText := true, laidKinds := [.data, .pinned], laidTests := true, laidLooks := .later }
def TokenScansUptoCardSaid : Prop := Claim7.holds Tryd.pinned (.plain (OpenSpec.upto tokenScansSpec)) tokenScansUptoCard

/-- THE SECOND FORM's CARD OF 'demoticlaw02.TokenStands'. -/
def tokenStandsUptoCard : Claim7 := { stood := { row := tokenStandsUptoRow, standIns := [], harness := (true, "ac4e656cb87b9373f2d17f67de43e7ec38e356f09020e1c17f31416a2e6a8504"), looks := true }, kinds := [], alts := [], laidByText := true, laidKinds := [.data, .pinned], laidTests := true, laidLooks := .later }
def TokenStandsUptoCardSaid : Prop := Claim7.holds Tryd.pinned (.plain (OpenSpec.upto tokenStandsSpec)) tokenStandsUptoCard

/-- THE SECOND FORM's CARD OF 'demoticlaw02.TokenLong'. -/
def tokenLongUptoCard : Claim7 := { stood := { row := tokenLongUptoRow, standIns := [], harness := (true, "ac4e656cb87b9373f2d17f67de43e7ec38e356f09020e1c17f31416a2e6a8504"), looks := true }, kinds := [], alts := [], laidByText := true, laidKinds := [.data, .pinned], laidTests := true, laidLooks := .later }
def TokenLongUptoCardSaid : Prop := Claim7.holds Tryd.pinned (.plain (OpenSpec.upto tokenLongSpec)) tokenLongUptoCard

/-- THE SECOND FORM's CARD OF 'demoticlaw02.TokenNames'. -/
def tokenNamesUptoCard : Claim7 := { stood := { row := tokenNamesUptoRow, standIns := [], harness := (true, "ac4e656cb87b9373f2d17f67de43e7ec38e356f09020e1c17f31416a2e6a8504"), looks := true }, kinds := [], alts := [], laidByText := true, laidKinds := [.data, .pinned], laidTests := true, laidLooks := .later }
def TokenNamesUptoCardSaid : Prop := Claim7.holds Tryd.pinned (.plain (OpenSpec.upto tokenNamesSpec)) tokenNamesUptoCard

/-- THE SECOND FORM's CARD OF 'demoticlaw02.TokenKinds'. -/
def tokenKindsUptoCard : Claim7 := { stood := { row := tokenKindsUptoRow, standIns := [], harness := (true, "ac4e656cb87b9373f2d17f67de43e7ec38e356f09020e1c17f31416a2e6a8504"), looks := true }, kinds := [], alts := [], laidByText := true, laidKinds := [.data, .pinned], laidTests := true, laidLooks := .later }
def TokenKindsUptoCardSaid : Prop := Claim7.holds Tryd.pinned (.plain (OpenSpec.upto tokenKindsSpec)) tokenKindsUptoCard
end Rows
end Go.Proofs.YtokjnalmjdighaaDoor
