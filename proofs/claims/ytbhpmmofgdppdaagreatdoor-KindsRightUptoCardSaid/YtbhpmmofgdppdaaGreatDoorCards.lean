/-
  DERIVED. GIVEN WITH THE SEED: THE CARDS: each row of YtbhpmmofgdppdaaGreatDoorRows.lean that lists a variable, with what it lists TIED to the program's text (the seventh form; the later family's looks); each row that meets fmt, with fmt's text TOLD by the authors' own Lean function (tested against real Go, not proved from fmt's source: count such statements apart). THE CARD IS WHAT COUNTS. Prove the row's statement (the work); the ties are given (YtbhpmmofgdppdaaGreatDoorTie.lean); close each card by the builder's one call (the guide's Derived/Test/ToyasCard.lean, 'card_holds'). Laid BY PROGRAM, IN A SANDBOX (cutbox-door.mjs). By AI agents, Wed Nov 11 2026. No macro, syntax, notation, axiom, sorry.
-/
import Derived.Test.YtbhpmmofgdppdaaGreatDoorRows
import GoSem.ClaimSeven
namespace Go.Proofs.YtbhpmmofgdppdaaGreatDoor
namespace Rows

/-- THE TIED CARD OF 'demoticlaw10.KindsFull'. -/
def kindsFullCard : Claim7 := { stood := { row := kindsFullRow, standIns := [], harness := (true, "0212a24b26c265439995b10902c0f5f26536b24335531f6eb59f5ab96c6ad9b8"), looks := false }, kinds := [], alts := [], laidByText := true, laidKinds := [.data, .pinned], laidTests := true, laidLooks := .later }
def KindsFullCardSaid : Prop := Claim7.holds Tryz.pinned (.plain (OpenSpec.ofChange kindsFullSpec)) kindsFullCard

/-- THE TIED CARD OF 'demoticlaw10.KindsOthers'. -/
def kindsOthersCard : Claim7 := { stood := { row := kindsOthersRow, standIns := [], harness := (true, "0212a24b26c265439995b10902c0f5f26536b24335531f6eb59f5ab96c6ad9b8"), looks := false }, kinds := [], alts := [], laidByText := true, laidKinds := [.data, .pinned], laidTests := true, laidLooks := .later }
def KindsOthersCardSaid : Prop := Claim7.holds Tryz.pinned (.plain (OpenSpec.ofChange kindsOthersSpec)) kindsOthersCard

/-- THE TIED CARD OF 'demoticlaw10.KindsBehind'. -/
def kindsBehindCard : Claim7 := { stood := { row := kindsBehindRow, standIns := [], harness := (true, "0212a24b26c265439995b10902c0f5f26536b24335531f6eb59f5ab96c6ad9b8"), looks := false }, kinds := [], alts := [], laidByText := true, laidKinds := [.data, .pinned], laidTests := true, laidLooks := .later }
def KindsBehindCardSaid : Prop := Claim7.holds Tryz.pinned (.plain (OpenSpec.ofChange kindsBehindSpec)) kindsBehindCard

/-- THE TIED CARD OF 'demoticlaw10.KindsOrder'. -/
def kindsOrderCard : Claim7 := { stood := { row := kindsOrderRow, standIns := [], harness := (true, "0212a24b26c265439995b10902c0f5f26536b24335531f6eb59f5ab96c6ad9b8"), looks := false }, kinds := [], alts := [], laidByText := true, laidKinds := [.data, .pinned], laidTests := true, laidLooks := .later }
def KindsOrderCardSaid : Prop := Claim7.holds Tryz.pinned (.plain (OpenSpec.ofChange kindsOrderSpec)) kindsOrderCard

/-- THE TIED CARD OF 'demoticlaw10.KindsBack'. -/
def kindsBackCard : Claim7 := { stood := { row := kindsBackRow, standIns := [], harness := (true, "0212a24b26c265439995b10902c0f5f26536b24335531f6eb59f5ab96c6ad9b8"), looks := false }, kinds := [], alts := [], laidByText := true, laidKinds := [.data, .pinned], laidTests := true, laidLooks := .later }
def KindsBackCardSaid : Prop := Claim7.holds Tryz.pinned (.plain (OpenSpec.ofChange kindsBackSpec)) kindsBackCard

/-- THE TIED CARD OF 'demoticlaw10.KindsRight'. -/
def kindsRightCard : Claim7 := { stood := { row := kindsRightRow, standIns := [], harness := (true, "0212a24b26c265439995b10902c0f5f26536b24335531f6eb59f5ab96c6ad9b8"), looks := false }, kinds := [], alts := [], laidByText := true, laidKinds := [.data, .pinned], laidTests := true, laidLooks := .later }
def KindsRightCardSaid : Prop := Claim7.holds Tryz.pinned (.plain (OpenSpec.ofChange kindsRightSpec)) kindsRightCard

/-- THE SECOND FORM's CARD OF 'demoticlaw10.KindsFull'. -/
def kindsFullUptoCard : Claim7 := { stood := { row := kindsFullUptoRow, standIns := [], harness := (true, "0212a24b26c265439995b10902c0f5f26536b24335531f6eb59f5ab96c6ad9b8"), looks := false }, kinds := [], alts := [], laidByText := true, laidKinds := [.data, .pinned], laidTests := true, laidLooks := .later }
def KindsFullUptoCardSaid : Prop := Claim7.holds Tryz.pinned (.plain (OpenSpec.upto kindsFullSpec)) kindsFullUptoCard

/-- THE SECOND FORM's CARD OF 'demoticlaw10.KindsOthers'. -/
def kindsOthersUptoCard : Claim7 := { stood := { row := kindsOthersUptoRow, standIns := [], harness := (true, "0212a24b26c265439995b10902c0f5f26536b24335531f6eb59f5ab96c6ad9b8"), looks := false }, kinds := [], alts := [], laidByText := true, laidKinds := [.data, .pinned], laidTests := true, laidLooks := .later }
def KindsOthersUptoCardSaid : Prop := Claim7.holds Tryz.pinned (.plain (OpenSpec.upto kindsOthersSpec)) kindsOthersUptoCard

/-- THE SECOND FORM's CARD OF 'demoticlaw10.KindsBehind'. -/
def kindsBehindUptoCard : Claim7 := { stood := { row := kindsBehindUptoRow, standIns := [], harness := (true, "0212a24b26c265439995b10902c0f5f26536b24335531f6eb59f5ab96c6ad9b8"), looks := false }, kinds := [], alts := [], laidByText := true, laidKinds := [.data, .pinned], laidTests := true, laidLooks := .later }
def KindsBehindUptoCardSaid : Prop := Claim7.holds Tryz.pinned (.plain (OpenSpec.upto kindsBehindSpec)) kindsBehindUptoCard

/-- THE SECOND FORM's CARD OF 'demoticlaw10.KindsOrder'. -/
def kindsOrderUptoCard : Claim7 := { stood := { row := kindsOrderUptoRow, standIns := [], harness := (true, "0212a24b26c265439995b10902c0f5f26536b24335531f6eb59f5ab96c6ad9b8"), looks := false }, kinds := [], alts := [], laidByText := true, laidKinds := [.data, .pinned], laidTests := true, laidLooks := .later }
def KindsOrderUptoCardSaid : Prop := Claim7.holds Tryz.pinned (.plain (OpenSpec.upto kindsOrderSpec)) kindsOrderUptoCard

/-- THE SECOND FORM's CARD OF 'demoticlaw10.KindsBack'. -/
def kindsBackUptoCard : Claim7 := { stood := { row := kindsBackUptoRow, standIns := [], harness := (true, "0212a24b26c265439995b10902c0f5f26536b24335531f6eb59f5ab96c6ad9b8"), looks := false }, kinds := [], alts := [], laidByText := true, laidKinds := [.data, .pinned], laidTests := true, laidLooks := .later }
def KindsBackUptoCardSaid : Prop := Claim7.holds Tryz.pinned (.plain (OpenSpec.upto kindsBackSpec)) kindsBackUptoCard

/-- THE SECOND FORM's CARD OF 'demoticlaw10.KindsRight'. -/
def kindsRightUptoCard : Claim7 := { stood := { row := kindsRightUptoRow, standIns := [], harness := (true, "0212a24b26c265439995b10902c0f5f26536b24335531f6eb59f5ab96c6ad9b8"), looks := false }, kinds := [], alts := [], laidByText := true, laidKinds := [.data, .pinned], laidTests := true, laidLooks := .later }
def KindsRightUptoCardSaid : Prop := Claim7.holds Tryz.pinned (.plain (OpenSpec.upto kindsRightSpec)) kindsRightUptoCard
end Rows
end Go.Proofs.YtbhpmmofgdppdaaGreatDoor
