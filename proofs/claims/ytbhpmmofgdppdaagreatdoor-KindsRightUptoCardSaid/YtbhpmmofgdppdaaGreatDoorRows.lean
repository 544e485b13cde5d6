/-
  NARROWER THAN 'FOR EVERY INPUT', by the rows' own cells (each row's printed sentence says how): KindsFull: loops, laid · KindsOthers: loops, laid · KindsBehind: loops, laid · KindsOrder: loops, laid · KindsBack: loops, laid · KindsRight: loops, laid.
  DERIVED. THE GIVEN ROWS OF THIS SEAT. 6 by the template 'for every input the law returns true; each argument reads behind the call as it read before'; 0 by the template 'total and deterministic' (their statements: YtbhpmmofgdppdaaGreatDoorTotals.lean).
  GIVEN WITH THE SEED: the statements are not yours to turn. If you find one false, say at which input.
  Laid BY PROGRAM, IN A SANDBOX (cutbox-rows.mjs): the forced cells as the released guide's own fill.sh prints them over the translation d16eebbf5fe9247d… (all of the seat's roots in one cut). By AI agents, Wed Nov 11 2026. No macro, syntax, notation, axiom, sorry.
-/
import Derived.Test.YtbhpmmofgdppdaaGreatDoorChecked
import GoSem.PinnedTables
import GoSem.Claim
import GoSem.ClaimJoined
import GoSem.ClaimMapViews
import Derived.JoinedTies
import Derived.KernelRfl
namespace Go.Proofs.YtbhpmmofgdppdaaGreatDoor
/- THE CELL 'sum', in the pinned program and in every row, IS THE sha256 OF THE DUMP (.gsa) THAT YtbhpmmofgdppdaaGreatDoorProg.lean LOADS. Nothing in Lean hashes anything: it is a label: what it is worth is what the hold of that sum in a sandbox is worth. -/
noncomputable def Tryz.pinned : Pinned := { name := "ytbhpmmofgdppdaagreatdoor", sum := "d16eebbf5fe9247d33edc422d76fd3180ba0f84ab4af421b273d5b2ddf63be04", checked := Tryz.checked }
namespace Rows
def none {H : Type} : Left H := { results := [], args := [] }

/- WHAT THE LISTED PACKAGE-LEVEL VARIABLES READ AS WHEN THE CALL BEGINS. Each datum BY PROGRAM (the guide's laid-datum.mjs) off the statement by which the dump's own 'gosem.cut.vars' lays the variable. In a bare row this is a premise. The card (YtbhpmmofgdppdaaGreatDoorCards.lean) ties it to the program's text. -/
def laid_unicode_utf8_acceptRanges {H : Type} : DataW H := .agg [.agg [.lit (.int .u8 128), .lit (.int .u8 191)], .agg [.lit (.int .u8 160), .lit (.int .u8 191)], .agg [.lit (.int .u8 128), .lit (.int .u8 159)], .agg [.lit (.int .u8 144), .lit (.int .u8 191)], .agg [.lit (.int .u8 128), .lit (.int .u8 143)], .agg [.lit (.int .u8 0), .lit (.int .u8 0)], .agg [.lit (.int .u8 0), .lit (.int .u8 0)], .agg [.lit (.int .u8 0), .lit (.int .u8 0)], .agg [.lit (.int .u8 0), .lit (.int .u8 0)], .agg [.lit (.int .u8 0), .lit (.int .u8 0)], .agg [.lit (.int .u8 0), .lit (.int .u8 0)], .agg [.lit (.int .u8 0), .lit (.int .u8 0)], .agg [.lit (.int .u8 0), .lit (.int .u8 0)], .agg [.lit (.int .u8 0), .lit (.int .u8 0)], .agg [.lit (.int .u8 0), .lit (.int .u8 0)], .agg [.lit (.int .u8 0), .lit (.int .u8 0)]]
/-- One of Go's own tables, pinned by name: the form's constant. -/
def laid_unicode_utf8_first : DataW Unit := Go.Pinned.utf8First

/-- 'demoticlaw10.KindsFull': WHATEVER THE INPUT: true; the input reads as it did. -/
def kindsFullSpec : ChangeSpec := { name := "kindsFull", fn := fun _ => fun
  | [d1, d2] => { results := [.lit (.bool true)], args := [d1, d2] }
  | _ => none }
def kindsFullRow : OpenClaim := { program := "ytbhpmmofgdppdaagreatdoor", sum := "d16eebbf5fe9247d33edc422d76fd3180ba0f84ab4af421b273d5b2ddf63be04", func := "demotic/demoticlaw10.KindsFull", spec := "kindsFull", inPlace := ["internal/abi.NoEscape", "internal/bytealg.MakeNoZero", "internal/bytealg.CountString", "internal/bytealg.IndexByteString", "internal/bytealg.IndexString"], unfollowed := true, recurses := true, named := ["internal/bytealg.MaxLen", "unicode/utf8.first", "unicode/utf8.acceptRanges"], loops := true, apart := false, laid := [("unicode/utf8.acceptRanges", laid_unicode_utf8_acceptRanges), ("unicode/utf8.first", laid_unicode_utf8_first)] }
def KindsFullSaid : Prop := kindsFullRow.holds Tryz.pinned (OpenSpec.ofChange kindsFullSpec)

/-- ITS FALSE NEIGHBOUR: 'it returns false'. Refute it at one input. -/
def kindsFullWrong : ChangeSpec := { name := "kindsFull", fn := fun _ => fun
  | [d1, d2] => { results := [.lit (.bool false)], args := [d1, d2] }
  | _ => none }
def KindsFullWrongFalsely : Prop := kindsFullRow.holds Tryz.pinned (OpenSpec.ofChange kindsFullWrong)

/-- 'demoticlaw10.KindsOthers': WHATEVER THE INPUT: true; the input reads as it did. -/
def kindsOthersSpec : ChangeSpec := { name := "kindsOthers", fn := fun _ => fun
  | [d1, d2, d3] => { results := [.lit (.bool true)], args := [d1, d2, d3] }
  | _ => none }
def kindsOthersRow : OpenClaim := { program := "ytbhpmmofgdppdaagreatdoor", sum := "d16eebbf5fe9247d33edc422d76fd3180ba0f84ab4af421b273d5b2ddf63be04", func := "demotic/demoticlaw10.KindsOthers", spec := "kindsOthers", inPlace := ["internal/abi.NoEscape", "internal/bytealg.MakeNoZero", "internal/bytealg.CountString", "internal/bytealg.IndexByteString", "internal/bytealg.IndexString"], unfollowed := true, recurses := true, named := ["internal/bytealg.MaxLen", "unicode/utf8.first", "unicode/utf8.acceptRanges"], loops := true, apart := false, laid := [("unicode/utf8.acceptRanges", laid_unicode_utf8_acceptRanges), ("unicode/utf8.first", laid_unicode_utf8_first)] }
def KindsOthersSaid : Prop := kindsOthersRow.holds Tryz.pinned (OpenSpec.ofChange kindsOthersSpec)

/-- ITS FALSE NEIGHBOUR: 'it returns false'. Refute it at one input. -/
def kindsOthersWrong : ChangeSpec := { name := "kindsOthers", fn := fun _ => fun
  | [d1, d2, d3] => { results := [.lit (.bool false)], args := [d1, d2, d3] }
  | _ => none }
def KindsOthersWrongFalsely : Prop := kindsOthersRow.holds Tryz.pinned (OpenSpec.ofChange kindsOthersWrong)

/-- 'demoticlaw10.KindsBehind': WHATEVER THE INPUT: true; the input reads as it did. -/
def kindsBehindSpec : ChangeSpec := { name := "kindsBehind", fn := fun _ => fun
  | [d1, d2] => { results := [.lit (.bool true)], args := [d1, d2] }
  | _ => none }
def kindsBehindRow : OpenClaim := { program := "ytbhpmmofgdppdaagreatdoor", sum := "d16eebbf5fe9247d33edc422d76fd3180ba0f84ab4af421b273d5b2ddf63be04", func := "demotic/demoticlaw10.KindsBehind", spec := "kindsBehind", inPlace := ["internal/abi.NoEscape", "internal/bytealg.MakeNoZero", "internal/bytealg.CountString", "internal/bytealg.IndexByteString", "internal/bytealg.IndexString"], unfollowed := true, recurses := true, named := ["internal/bytealg.MaxLen", "unicode/utf8.first", "unicode/utf8.acceptRanges"], loops := true, apart := false, laid := [("unicode/utf8.acceptRanges", laid_unicode_utf8_acceptRanges), ("unicode/utf8.first", laid_unicode_utf8_first)] }
def KindsBehindSaid : Prop := kindsBehindRow.holds Tryz.pinned (OpenSpec.ofChange kindsBehindSpec)

/-- ITS FALSE NEIGHBOUR: 'it returns false'. Refute it at one input. -/
def kindsBehindWrong : ChangeSpec := { name := "kindsBehind", fn := fun _ => fun
  | [d1, d2] => { results := [.lit (.bool false)], args := [d1, d2] }
  | _ => none }
def KindsBehindWrongFalsely : Prop := kindsBehindRow.holds Tryz.pinned (OpenSpec.ofChange kindsBehindWrong)

/-- 'demoticlaw10.KindsOrder': WHATEVER THE INPUT: true; the input reads as it did. -/
def kindsOrderSpec : ChangeSpec := { name := "kindsOrder", fn := fun _ => fun
  | [d1, d2] => { results := [.lit (.bool true)], args := [d1, d2] }
  | _ => none }
def kindsOrderRow : OpenClaim := { program := "ytbhpmmofgdppdaagreatdoor", sum := "d16eebbf5fe9247d33edc422d76fd3180ba0f84ab4af421b273d5b2ddf63be04", func := "demotic/demoticlaw10.KindsOrder", spec := "kindsOrder", inPlace := ["internal/abi.NoEscape", "internal/bytealg.MakeNoZero", "internal/bytealg.CountString", "internal/bytealg.IndexByteString", "internal/bytealg.IndexString"], unfollowed := true, recurses := true, named := ["internal/bytealg.MaxLen", "unicode/utf8.first", "unicode/utf8.acceptRanges"], loops := true, apart := false, laid := [("unicode/utf8.acceptRanges", laid_unicode_utf8_acceptRanges), ("unicode/utf8.first", laid_unicode_utf8_first)] }
def KindsOrderSaid : Prop := kindsOrderRow.holds Tryz.pinned (OpenSpec.ofChange kindsOrderSpec)

/-- ITS FALSE NEIGHBOUR: 'it returns false'. Refute it at one input. -/
def kindsOrderWrong : ChangeSpec := { name := "kindsOrder", fn := fun _ => fun
  | [d1, d2] => { results := [.lit (.bool false)], args := [d1, d2] }
  | _ => none }
def KindsOrderWrongFalsely : Prop := kindsOrderRow.holds Tryz.pinned (OpenSpec.ofChange kindsOrderWrong)

/-- 'demoticlaw10.KindsBack': WHATEVER THE INPUT: true; the input reads as it did. -/
def kindsBackSpec : ChangeSpec := { name := "kindsBack", fn := fun _ => fun
  | [d] => { results := [.lit (.bool true)], args := [d] }
  | _ => none }
def kindsBackRow : OpenClaim := { program := "ytbhpmmofgdppdaagreatdoor", sum := "d16eebbf5fe9247d33edc422d76fd3180ba0f84ab4af421b273d5b2ddf63be04", func := "demotic/demoticlaw10.KindsBack", spec := "kindsBack", inPlace := ["internal/abi.NoEscape", "internal/bytealg.MakeNoZero", "internal/bytealg.CountString", "internal/bytealg.IndexByteString", "internal/bytealg.IndexString"], unfollowed := true, recurses := true, named := ["internal/bytealg.MaxLen", "unicode/utf8.first", "unicode/utf8.acceptRanges"], loops := true, apart := false, laid := [("unicode/utf8.acceptRanges", laid_unicode_utf8_acceptRanges), ("unicode/utf8.first", laid_unicode_utf8_first)] }
def KindsBackSaid : Prop := kindsBackRow.holds Tryz.pinned (OpenSpec.ofChange kindsBackSpec)

/-- ITS FALSE NEIGHBOUR: 'it returns false'. Refute it at one input. -/
def kindsBackWrong : ChangeSpec := { name := "kindsBack", fn := fun _ => fun
  | [d] => { results := [.lit (.bool false)], args := [d] }
  | _ => none }
def KindsBackWrongFalsely : Prop := kindsBackRow.holds Tryz.pinned (OpenSpec.ofChange kindsBackWrong)

/-- 'demoticlaw10.KindsRight': WHATEVER THE INPUT: true; the input reads as it did. -/
def kindsRightSpec : ChangeSpec := { name := "kindsRight", fn := fun _ => fun
  | [d1, d2] => { results := [.lit (.bool true)], args := [d1, d2] }
  | _ => none }
def kindsRightRow : OpenClaim := { program := "ytbhpmmofgdppdaagreatdoor", sum := "d16eebbf5fe9247d33edc422d76fd3180ba0f84ab4af421b273d5b2ddf63be04", func := "demotic/demoticlaw10.KindsRight", spec := "kindsRight", inPlace := ["internal/abi.NoEscape", "internal/bytealg.MakeNoZero", "internal/bytealg.CountString", "internal/bytealg.IndexByteString", "internal/bytealg.IndexString"], unfollowed := true, recurses := true, named := ["internal/bytealg.MaxLen", "unicode/utf8.first", "unicode/utf8.acceptRanges"], loops := true, apart := false, laid := [("unicode/utf8.acceptRanges", laid_unicode_utf8_acceptRanges), ("unicode/utf8.first", laid_unicode_utf8_first)] }
def KindsRightSaid : Prop := kindsRightRow.holds Tryz.pinned (OpenSpec.ofChange kindsRightSpec)

/-- ITS FALSE NEIGHBOUR: 'it returns false'. Refute it at one input. -/
def kindsRightWrong : ChangeSpec := { name := "kindsRight", fn := fun _ => fun
  | [d1, d2] => { results := [.lit (.bool false)], args := [d1, d2] }
  | _ => none }
def KindsRightWrongFalsely : Prop := kindsRightRow.holds Tryz.pinned (OpenSpec.ofChange kindsRightWrong)

/- THE SECOND FORM. 'bulk': how many values and letters a reading holds, each counted each time it is reached (what is shared counts as often as it is met; a slice's spare places count too). A statement '..UptoSaid' is the law's where the arguments, and the package variables that the reading takes, are together of bulk at most 1048576: NARROWER than '..Said'. Prove '..Said' where nothing that the law and all that it calls make is longer than what came in: it says more and counts as full. Else prove '..UptoSaid'. A law counts once. -/
mutual
def uptoBulk {H : Type} : DataW H → Nat
  | .lit (.string bytes) => bytes.length + 1
  | .lit _ => 1
  | .nil => 1
  | .ptr d => uptoBulk d + 1
  | .slice elems spare => uptoBulkAll elems + uptoBulkAll spare + 1
  | .agg parts => uptoBulkAll parts + 1
  | .iface _ d => uptoBulk d + 1
  | .map entries => uptoBulkEntries entries + 1
  | .held _ => 1
def uptoBulkAll {H : Type} : List (DataW H) → Nat
  | [] => 0
  | d :: r => uptoBulk d + uptoBulkAll r
def uptoBulkEntries {H : Type} : List (Lit × DataW H) → Nat
  | [] => 0
  | x :: r => uptoBulkEntry x + uptoBulkEntries r
def uptoBulkEntry {H : Type} : Lit × DataW H → Nat
  | (.string bytes, d) => bytes.length + uptoBulk d + 1
  | (_, d) => uptoBulk d + 1
 end
def uptoSmall : (H : Type) → List (DataW H) → Bool := fun _ ds => decide (uptoBulkAll ds ≤ 1048576)
def OpenSpec.upto (s : _root_.Go.ChangeSpec) : _root_.Go.OpenSpec := { _root_.Go.OpenSpec.ofChange s with cond := some uptoSmall }

/-- 'demoticlaw10.KindsFull', WHERE WHAT IT READS IS OF BULK AT MOST 1048576: true; the input reads as it did. -/
def kindsFullUptoRow : OpenClaim := { program := "ytbhpmmofgdppdaagreatdoor", sum := "d16eebbf5fe9247d33edc422d76fd3180ba0f84ab4af421b273d5b2ddf63be04", func := "demotic/demoticlaw10.KindsFull", spec := "kindsFull", inPlace := ["internal/abi.NoEscape", "internal/bytealg.MakeNoZero", "internal/bytealg.CountString", "internal/bytealg.IndexByteString", "internal/bytealg.IndexString"], unfollowed := true, recurses := true, named := ["internal/bytealg.MaxLen", "unicode/utf8.first", "unicode/utf8.acceptRanges"], loops := true, apart := false, laid := [("unicode/utf8.acceptRanges", laid_unicode_utf8_acceptRanges), ("unicode/utf8.first", laid_unicode_utf8_first)], narrowed := true }
def KindsFullUptoSaid : Prop := kindsFullUptoRow.holds Tryz.pinned (OpenSpec.upto kindsFullSpec)

/-- 'demoticlaw10.KindsOthers', WHERE WHAT IT READS IS OF BULK AT MOST 1048576: true; the input reads as it did. -/
def kindsOthersUptoRow : OpenClaim := { program := "ytbhpmmofgdppdaagreatdoor", sum := "d16eebbf5fe9247d33edc422d76fd3180ba0f84ab4af421b273d5b2ddf63be04", func := "demotic/demoticlaw10.KindsOthers", spec := "kindsOthers", inPlace := ["internal/abi.NoEscape", "internal/bytealg.MakeNoZero", "internal/bytealg.CountString", "internal/bytealg.IndexByteString", "internal/bytealg.IndexString"], unfollowed := true, recurses := true, named := ["internal/bytealg.MaxLen", "unicode/utf8.first", "unicode/utf8.acceptRanges"], loops := true, apart := false, laid := [("unicode/utf8.acceptRanges", laid_unicode_utf8_acceptRanges), ("unicode/utf8.first", laid_unicode_utf8_first)], narrowed := true }
def KindsOthersUptoSaid : Prop := kindsOthersUptoRow.holds Tryz.pinned (OpenSpec.upto kindsOthersSpec)

/-- 'demoticlaw10.KindsBehind', WHERE WHAT IT READS IS OF BULK AT MOST 1048576: true; the input reads as it did. -/
def kindsBehindUptoRow : OpenClaim := { program := "ytbhpmmofgdppdaagreatdoor", sum := "d16eebbf5fe9247d33edc422d76fd3180ba0f84ab4af421b273d5b2ddf63be04", func := "demotic/demoticlaw10.KindsBehind", spec := "kindsBehind", inPlace := ["internal/abi.NoEscape", "internal/bytealg.MakeNoZero", "internal/bytealg.CountString", "internal/bytealg.IndexByteString", "internal/bytealg.IndexString"], unfollowed := true, recurses := true, named := ["internal/bytealg.MaxLen", "unicode/utf8.first", "unicode/utf8.acceptRanges"], loops := true, apart := false, laid := [("unicode/utf8.acceptRanges", laid_unicode_utf8_acceptRanges), ("unicode/utf8.first", laid_unicode_utf8_first)], narrowed := true }
def KindsBehindUptoSaid : Prop := kindsBehindUptoRow.holds Tryz.pinned (OpenSpec.upto kindsBehindSpec)

/-- 'demoticlaw10.KindsOrder', WHERE WHAT IT READS IS OF BULK AT MOST 1048576: true; the input reads as it did. -/
def kindsOrderUptoRow : OpenClaim := { program := "ytbhpmmofgdppdaagreatdoor", sum := "d16eebbf5fe9247d33edc422d76fd3180ba0f84ab4af421b273d5b2ddf63be04", func := "demotic/demoticlaw10.KindsOrder", spec := "kindsOrder", inPlace := ["internal/abi.NoEscape", "internal/bytealg.MakeNoZero", "internal/bytealg.CountString", "internal/bytealg.IndexByteString", "internal/bytealg.IndexString"], unfollowed := true, recurses := true, named := ["internal/bytealg.MaxLen", "unicode/utf8.first", "unicode/utf8.acceptRanges"], loops := true, apart := false, laid := [("unicode/utf8.acceptRanges", laid_unicode_utf8_acceptRanges), ("unicode/utf8.first", laid_unicode_utf8_first)], narrowed := true }
def KindsOrderUptoSaid : Prop := kindsOrderUptoRow.holds Tryz.pinned (OpenSpec.upto kindsOrderSpec)

/-- 'demoticlaw10.KindsBack', WHERE WHAT IT READS IS OF BULK AT MOST 1048576: true; the input reads as it did. -/
def kindsBackUptoRow : OpenClaim := { program := "ytbhpmmofgdppdaagreatdoor", sum := "d16eebbf5fe9247d33edc422d76fd3180ba0f84ab4af421b273d5b2ddf63be04", func := "demotic/demoticlaw10.KindsBack", spec := "kindsBack", inPlace := ["internal/abi.NoEscape", "internal/bytealg.MakeNoZero", "internal/bytealg.CountString", "internal/bytealg.IndexByteString", "internal/bytealg.IndexString"], unfollowed := true, recurses := true, named := ["internal/bytealg.MaxLen", "unicode/utf8.first", "unicode/utf8.acceptRanges"], loops := true, apart := false, laid := [("unicode/utf8.acceptRanges", laid_unicode_utf8_acceptRanges), ("unicode/utf8.first", laid_unicode_utf8_first)], narrowed := true }
def KindsBackUptoSaid : Prop := kindsBackUptoRow.holds Tryz.pinned (OpenSpec.upto kindsBackSpec)

/-- 'demoticlaw10.KindsRight', WHERE WHAT IT READS IS OF BULK AT MOST 1048576: true; the input reads as it did. -/
def kindsRightUptoRow : OpenClaim := { program := "ytbhpmmofgdppdaagreatdoor", sum := "d16eebbf5fe9247d33edc422d76fd3180ba0f84ab4af421b273d5b2ddf63be04", func := "demotic/demoticlaw10.KindsRight", spec := "kindsRight", inPlace := ["internal/abi.NoEscape", "internal/bytealg.MakeNoZero", "internal/bytealg.CountString", "internal/bytealg.IndexByteString", "internal/bytealg.IndexString"], unfollowed := true, recurses := true, named := ["internal/bytealg.MaxLen", "unicode/utf8.first", "unicode/utf8.acceptRanges"], loops := true, apart := false, laid := [("unicode/utf8.acceptRanges", laid_unicode_utf8_acceptRanges), ("unicode/utf8.first", laid_unicode_utf8_first)], narrowed := true }
def KindsRightUptoSaid : Prop := kindsRightUptoRow.holds Tryz.pinned (OpenSpec.upto kindsRightSpec)

end Rows
end Go.Proofs.YtbhpmmofgdppdaaGreatDoor
