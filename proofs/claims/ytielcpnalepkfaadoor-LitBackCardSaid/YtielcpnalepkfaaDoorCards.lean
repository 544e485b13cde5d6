/-
  DERIVED. GIVEN WITH THE SEED: THE CARDS: each row of YtielcpnalepkfaaDoorRows.lean that lists a variable, with what it lists TIED to the program's text (the seventh form; the later family's looks); each row that meets fmt, with fmt's text TOLD by the authors' own Lean function (tested against real Go, not proved from fmt's source: count such statements apart). THE CARD IS WHAT COUNTS. Prove the row's statement (the work); the ties are given (YtielcpnalepkfaaDoorTie.lean); close each card by the builder's one call (the guide's Derived/Test/ToyasCard.lean, 'card_holds'). Laid BY PROGRAM, IN A SANDBOX (cutbox-door.mjs). By AI agents, Wed Nov 11 2026. No macro, syntax, notation, axiom, sorry.
-/
import Derived.Test.YtielcpnalepkfaaDoorRows
import GoSem.ClaimSeven
namespace Go.Proofs.YtielcpnalepkfaaDoor
namespace Rows

/-- THE TIED CARD OF 'demoticlaw03.LitLong'. -/
def litLongCard : Claim7 := { stood := { row := litLongRow, standIns := [], harness := (true, "ddc94a884f64af435f1617eb73b962538ee98844b3e77ecc500a69495fae4ba5"), looks := true }, kinds := [], alts := [], laidByText := true, laidKinds := [.data, .pinned], laidTests := true, laidLooks := .later }
def LitLongCardSaid : Prop := Claim7.holds Tryd.pinned (.plain (OpenSpec.ofChange litLongSpec)) litLongCard

/-- THE TIED CARD OF 'demoticlaw03.LitNumbers'. -/
def litNumbersCard : Claim7 := { stood := { row := litNumbersRow, standIns := [], harness := (true, "ddc94a884f64af435f1617eb73b962538ee98844b3e77ecc500a69495fae4ba5"), looks := true }, kinds := [], alts := [], laidByText := true, laidKinds := [.data, .pinned], laidTests := true, laidLooks := .later }
def LitNumbersCardSaid : Prop := Claim7.holds Tryd.pinned (.plain (OpenSpec.ofChange litNumbersSpec)) litNumbersCard

/-- THE TIED CARD OF 'demoticlaw03.LitValues'. -/
def litValuesCard : Claim7 := { stood := { row := litValuesRow, standIns := [], harness := (true, "ddc94a884f64af435f1617eb73b962538ee98844b3e77ecc500a69495fae4ba5"), looks := true }, kinds := [], alts := [], laidByText := true, laidKinds := [.data, .pinned], laidTests := true, laidLooks := .later }
def LitValuesCardSaid : Prop := Claim7.holds Tryd.pinned (.plain (OpenSpec.ofChange litValuesSpec)) litValuesCard

/-- THE TIED CARD OF 'demoticlaw03.LitTexts'. -/
def litTextsCard : Claim7 := { stood := { row := litTextsRow, standIns := [], harness := (true, "ddc94a884f64af435f1617eb73b962538ee98844b3e77ecc500a69495fae4ba5"), looks := true }, kinds := [], alts := [], laidByText := true, laidKinds := [.data, .pinned], laidTests := true, laidLooks := .later }
def LitTextsCardSaid : Prop := Claim7.holds Tryd.pinned (.plain (OpenSpec.ofChange litTextsSpec)) litTextsCard

/-- THE TIED CARD OF 'demoticlaw03.LitQuotes'. -/
def litQuotesCard : Claim7 := { stood := { row := litQuotesRow, standIns := [], harness := (true, "ddc94a884f64af435f1617eb73b962538ee98844b3e77ecc500a69495fae4ba5"), looks := true }, kinds := [], alts := [], laidByText := true, laidKinds := [.data, .pinned], laidTests := true, laidLooks := .later }
def LitQuotesCardSaid : Prop := Claim7.holds Tryd.pinned (.plain (OpenSpec.ofChange litQuotesSpec)) litQuotesCard

/-- THE TIED CARD OF 'demoticlaw03.LitTokens'. -/
def litTokensCard : Claim7 := { stood := { row := litTokensRow, standIns := [], harness := (true, "ddc94a884f64af435f1617eb73b962538ee98844b3e77ecc500a69495fae4ba5"), looks := true }, kinds := [], alts := [], laidByText := true, laidKinds := [.data, .pinned], laidTests := true, laidLooks := .later }
def LitTokensCardSaid : Prop := Claim7.holds Tryd.pinned (.plain (OpenSpec.ofChange litTokensSpec)) litTokensCard

/-- THE TIED CARD OF 'demoticlaw03.LitBack'. -/
def litBackCard : Claim7 := { stood := { row := litBackRow, standIns := [], harness := (true, "ddc94a884f64af435f1617eb73b962538ee98844b3e77ecc500a69495fae4ba5"), looks := true }, kinds := [], alts := [], laidByText := true, laidKinds := [.data, .pinned], laidTests := true, laidLooks := .later }
def LitBackCardSaid : Prop := Claim7.holds Tryd.pinned (.plain (OpenSpec.ofChange litBackSpec)) litBackCard

/-- THE SECOND FORM's CARD OF 'demoticlaw03.LitLong'. -/
def litLongUptoCard : Claim7 := { stood := { row := litLongUptoRow, standIns := [], harness := (true, "ddc94a884f64af435f1617eb73b962538ee98844b3e77ecc500a69495fae4ba5"), looks := true }, kinds := [], alts := [], laidByText := true, laidKinds := [.data, .pinned], laidTests := true, laidLooks := .later }
def LitLongUptoCardSaid : Prop := Claim7.holds Tryd.pinned (.plain (OpenSpec.upto litLongSpec)) litLongUptoCard

/-- THE SECOND FORM's CARD OF 'demoticlaw03.LitNumbers'. -/
def litNumbersUptoCard : Claim7 := { stood := { row := litNumbersUptoRow, standIns := [], harness := (true, "ddc94a884f64af435f1617eb73b962538ee98844b3e77ecc500a69495fae4ba5"), looks := true }, kinds := [], alts := [], laidByText := true, laidKinds := [.data, .pinned], laidTests := true, laidLooks := .later }
def LitNumbersUptoCardSaid : Prop := Claim7.holds Tryd.pinned (.plain (OpenSpec.upto litNumbersSpec)) litNumbersUptoCard

/-- THE SECOND FORM's CARD OF 'demoticlaw03.LitValues'. -/
def litValuesUptoCard : Claim7 := { stood := { row := litValuesUptoRow, standIns := [], harness := (true, "ddc94a884f64af435f1617eb73b962538ee98844b3e77ecc500a69495fae4ba5"), looks := true }, kinds := [], alts := [], laidByText := true, laidKinds := [.data, .pinned], laidTests := true, laidLooks := .later }
def LitValuesUptoCardSaid : Prop := Claim7.holds Tryd.pinned (.plain (OpenSpec.upto litValuesSpec)) litValuesUptoCard

/-- THE SECOND FORM's CARD OF 'demoticlaw03.LitTexts'. -/
def litTextsUptoCard : Claim7 := { stood := { row := litTextsUptoRow, standIns := [], harness := (true, "ddc94a884f64af435f1617eb73b962538ee98844b3e77ecc500a69495fae4ba5"), looks := true }, kinds := [], alts := [], laidByText := true, laidKinds := [.data, .pinned], laidTests := true, laidLooks := .later }
def LitTextsUptoCardSaid : Prop := Claim7.holds Tryd.pinned (.plain (OpenSpec.upto litTextsSpec)) litTextsUptoCard

/-- THE SECOND FORM's CARD OF 'demoticlaw03.LitQuotes'. -/
def litQuotesUptoCard : Claim7 := { stood := { row := litQuotesUptoRow, standIns := [], harness := (true, "ddc94a884f64af435f1617eb73b962538ee98844b3e77ecc500a69495fae4ba5"), looks := true }, kinds := [], alts := [], laidByText := true, laidKinds := [.data, .pinned], laidTests := true, laidLooks := .later }
def LitQuotesUptoCardSaid : Prop := Claim7.holds Tryd.pinned (.plain (OpenSpec.upto litQuotesSpec)) litQuotesUptoCard

/-- THE SECOND FORM's CARD OF 'demoticlaw03.LitTokens'. -/
def litTokensUptoCard : Claim7 := { stood := { row := litTokensUptoRow, standIns := [], harness := (true, "ddc94a884f64af435f1617eb73b962538ee98844b3e77ecc500a69495fae4ba5"), looks := true }, kinds := [], alts := [], laidByText := true, laidKinds := [.data, .pinned], laidTests := true, laidLooks := .later }
def LitTokensUptoCardSaid : Prop := Claim7.holds Tryd.pinned (.plain (OpenSpec.upto litTokensSpec)) litTokensUptoCard

/-- THE SECOND FORM's CARD OF 'demoticlaw03.LitBack'. -/
def litBackUptoCard : Claim7 := { stood := { row := litBackUptoRow, standIns := [], harness := (true, "ddc94a884f64af435f1617eb73b962538ee98844b3e77ecc500a69495fae4ba5"), looks := true }, kinds := [], alts := [], laidByText := true, laidKinds := [.data, .pinned], laidTests := true, laidLooks := .later }
def LitBackUptoCardSaid : Prop := Claim7.holds Tryd.pinned (.plain (OpenSpec.upto litBackSpec)) litBackUptoCard
end Rows
end Go.Proofs.YtielcpnalepkfaaDoor
