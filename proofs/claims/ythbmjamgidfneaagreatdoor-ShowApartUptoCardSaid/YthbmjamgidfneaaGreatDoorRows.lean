/-
  NARROWER THAN 'FOR EVERY INPUT', by the rows' own cells (each row's printed sentence says how): ShowTexts: loops, laid · ShowApart: loops, laid · ShowCalls: loops, laid · ShowFiles: loops, laid · ShowJoins: loops, laid · ShowPlain: loops, laid.
  DERIVED. THE GIVEN ROWS OF THIS SEAT. 6 by the template 'for every input the law returns true; each argument reads behind the call as it read before'; 0 by the template 'total and deterministic' (their statements: YthbmjamgidfneaaGreatDoorTotals.lean).
  GIVEN WITH THE SEED: the statements are not yours to turn. If you find one false, say at which input.
  Laid BY PROGRAM, IN A SANDBOX (cutbox-rows.mjs): the forced cells as the released guide's own fill.sh prints them over the translation 5072764ed5f01239… (all of the seat's roots in one cut). By AI agents, Wed Nov 11 2026. No macro, syntax, notation, axiom, sorry.
-/
import Derived.Test.YthbmjamgidfneaaGreatDoorChecked
import GoSem.PinnedTables
import GoSem.Claim
import GoSem.ClaimJoined
import GoSem.ClaimMapViews
import Derived.JoinedTies
import Derived.KernelRfl
namespace Go.Proofs.YthbmjamgidfneaaGreatDoor
/- THE CELL 'sum', in the pinned program and in every row, IS THE sha256 OF THE DUMP (.gsa) THAT YthbmjamgidfneaaGreatDoorProg.lean LOADS. Nothing in Lean hashes anything: it is a label: what it is worth is what the hold of that sum in a sandbox is worth. -/
noncomputable def Tryz.pinned : Pinned := { name := "ythbmjamgidfneaagreatdoor", sum := "5072764ed5f0123943f6304056f916ba4bdfd352105b468d9316d94b0e8fc823", checked := Tryz.checked }
namespace Rows
def none {H : Type} : Left H := { results := [], args := [] }

/- WHAT THE LISTED PACKAGE-LEVEL VARIABLES READ AS WHEN THE CALL BEGINS. Each datum BY PROGRAM (the guide's laid-datum.mjs) off the statement by which the dump's own 'gosem.cut.vars' lays the variable. In a bare row this is a premise. The card (YthbmjamgidfneaaGreatDoorCards.lean) ties it to the program's text. -/
def laid_unicode_utf8_acceptRanges {H : Type} : DataW H := .agg [.agg [.lit (.int .u8 128), .lit (.int .u8 191)], .agg [.lit (.int .u8 160), .lit (.int .u8 191)], .agg [.lit (.int .u8 128), .lit (.int .u8 159)], .agg [.lit (.int .u8 144), .lit (.int .u8 191)], .agg [.lit (.int .u8 128), .lit (.int .u8 143)], .agg [.lit (.int .u8 0), .lit (.int .u8 0)], .agg [.lit (.int .u8 0), .lit (.int .u8 0)], .agg [.lit (.int .u8 0), .lit (.int .u8 0)], .agg [.lit (.int .u8 0), .lit (.int .u8 0)], .agg [.lit (.int .u8 0), .lit (.int .u8 0)], .agg [.lit (.int .u8 0), .lit (.int .u8 0)], .agg [.lit (.int .u8 0), .lit (.int .u8 0)], .agg [.lit (.int .u8 0), .lit (.int .u8 0)], .agg [.lit (.int .u8 0), .lit (.int .u8 0)], .agg [.lit (.int .u8 0), .lit (.int .u8 0)], .agg [.lit (.int .u8 0), .lit (.int .u8 0)]]
/-- One of Go's own tables, pinned by name: the form's constant. -/
def laid_unicode_utf8_first : DataW Unit := Go.Pinned.utf8First

/-- 'demoticlaw07.ShowTexts': WHATEVER THE INPUT: true; the input reads as it did. -/
def showTextsSpec : ChangeSpec := { name := "showTexts", fn := fun _ => fun
  | [d1, d2] => { results := [.lit (.bool true)], args := [d1, d2] }
  | _ => none }
def showTextsRow : OpenClaim := { program := "ythbmjamgidfneaagreatdoor", sum := "5072764ed5f0123943f6304056f916ba4bdfd352105b468d9316d94b0e8fc823", func := "demotic/demoticlaw07.ShowTexts", spec := "showTexts", inPlace := ["internal/abi.NoEscape", "internal/bytealg.MakeNoZero", "internal/bytealg.CountString", "internal/bytealg.IndexByteString", "internal/bytealg.IndexString"], unfollowed := true, recurses := true, named := ["internal/bytealg.MaxLen", "unicode/utf8.first", "unicode/utf8.acceptRanges"], loops := true, apart := false, laid := [("unicode/utf8.acceptRanges", laid_unicode_utf8_acceptRanges), ("unicode/utf8.first", laid_unicode_utf8_first)] }
def ShowTextsSaid : Prop := showTextsRow.holds Tryz.pinned (OpenSpec.ofChange showTextsSpec)

/-- ITS FALSE NEIGHBOUR: 'it returns false'. Refute it at one input. -/
def showTextsWrong : ChangeSpec := { name := "showTexts", fn := fun _ => fun
  | [d1, d2] => { results := [.lit (.bool false)], args := [d1, d2] }
  | _ => none }
def ShowTextsWrongFalsely : Prop := showTextsRow.holds Tryz.pinned (OpenSpec.ofChange showTextsWrong)

/-- 'demoticlaw07.ShowApart': WHATEVER THE INPUT: true; the input reads as it did. -/
def showApartSpec : ChangeSpec := { name := "showApart", fn := fun _ => fun
  | [d1, d2] => { results := [.lit (.bool true)], args := [d1, d2] }
  | _ => none }
def showApartRow : OpenClaim := { program := "ythbmjamgidfneaagreatdoor", sum := "5072764ed5f0123943f6304056f916ba4bdfd352105b468d9316d94b0e8fc823", func := "demotic/demoticlaw07.ShowApart", spec := "showApart", inPlace := ["internal/abi.NoEscape", "internal/bytealg.MakeNoZero", "internal/bytealg.CountString", "internal/bytealg.IndexByteString", "internal/bytealg.IndexString"], unfollowed := true, recurses := true, named := ["internal/bytealg.MaxLen", "unicode/utf8.first", "unicode/utf8.acceptRanges"], loops := true, apart := false, laid := [("unicode/utf8.acceptRanges", laid_unicode_utf8_acceptRanges), ("unicode/utf8.first", laid_unicode_utf8_first)] }
def ShowApartSaid : Prop := showApartRow.holds Tryz.pinned (OpenSpec.ofChange showApartSpec)

/-- ITS FALSE NEIGHBOUR: 'it returns false'. Refute it at one input. -/
def showApartWrong : ChangeSpec := { name := "showApart", fn := fun _ => fun
  | [d1, d2] => { results := [.lit (.bool false)], args := [d1, d2] }
  | _ => none }
def ShowApartWrongFalsely : Prop := showApartRow.holds Tryz.pinned (OpenSpec.ofChange showApartWrong)

/-- 'demoticlaw07.ShowCalls': WHATEVER THE INPUT: true; the input reads as it did. -/
def showCallsSpec : ChangeSpec := { name := "showCalls", fn := fun _ => fun
  | [d1, d2, d3] => { results := [.lit (.bool true)], args := [d1, d2, d3] }
  | _ => none }
def showCallsRow : OpenClaim := { program := "ythbmjamgidfneaagreatdoor", sum := "5072764ed5f0123943f6304056f916ba4bdfd352105b468d9316d94b0e8fc823", func := "demotic/demoticlaw07.ShowCalls", spec := "showCalls", inPlace := ["internal/abi.NoEscape", "internal/bytealg.MakeNoZero", "internal/bytealg.CountString", "internal/bytealg.IndexByteString", "internal/bytealg.IndexString"], unfollowed := true, recurses := true, named := ["internal/bytealg.MaxLen", "unicode/utf8.first", "unicode/utf8.acceptRanges"], loops := true, apart := false, laid := [("unicode/utf8.acceptRanges", laid_unicode_utf8_acceptRanges), ("unicode/utf8.first", laid_unicode_utf8_first)] }
def ShowCallsSaid : Prop := showCallsRow.holds Tryz.pinned (OpenSpec.ofChange showCallsSpec)

/-- ITS FALSE NEIGHBOUR: 'it returns false'. Refute it at one input. -/
def showCallsWrong : ChangeSpec := { name := "showCalls", fn := fun _ => fun
  | [d1, d2, d3] => { results := [.lit (.bool false)], args := [d1, d2, d3] }
  | _ => none }
def ShowCallsWrongFalsely : Prop := showCallsRow.holds Tryz.pinned (OpenSpec.ofChange showCallsWrong)

/-- 'demoticlaw07.ShowFiles': WHATEVER THE INPUT: true; the input reads as it did. -/
def showFilesSpec : ChangeSpec := { name := "showFiles", fn := fun _ => fun
  | [d] => { results := [.lit (.bool true)], args := [d] }
  | _ => none }
def showFilesRow : OpenClaim := { program := "ythbmjamgidfneaagreatdoor", sum := "5072764ed5f0123943f6304056f916ba4bdfd352105b468d9316d94b0e8fc823", func := "demotic/demoticlaw07.ShowFiles", spec := "showFiles", inPlace := ["internal/bytealg.IndexByteString", "internal/bytealg.IndexString", "internal/abi.NoEscape", "internal/bytealg.MakeNoZero", "internal/bytealg.CountString"], unfollowed := true, recurses := true, named := ["internal/bytealg.MaxLen", "unicode/utf8.first", "unicode/utf8.acceptRanges"], loops := true, apart := false, laid := [("unicode/utf8.acceptRanges", laid_unicode_utf8_acceptRanges), ("unicode/utf8.first", laid_unicode_utf8_first)] }
def ShowFilesSaid : Prop := showFilesRow.holds Tryz.pinned (OpenSpec.ofChange showFilesSpec)

/-- ITS FALSE NEIGHBOUR: 'it returns false'. Refute it at one input. -/
def showFilesWrong : ChangeSpec := { name := "showFiles", fn := fun _ => fun
  | [d] => { results := [.lit (.bool false)], args := [d] }
  | _ => none }
def ShowFilesWrongFalsely : Prop := showFilesRow.holds Tryz.pinned (OpenSpec.ofChange showFilesWrong)

/-- 'demoticlaw07.ShowJoins': WHATEVER THE INPUT: true; the input reads as it did. -/
def showJoinsSpec : ChangeSpec := { name := "showJoins", fn := fun _ => fun
  | [d] => { results := [.lit (.bool true)], args := [d] }
  | _ => none }
def showJoinsRow : OpenClaim := { program := "ythbmjamgidfneaagreatdoor", sum := "5072764ed5f0123943f6304056f916ba4bdfd352105b468d9316d94b0e8fc823", func := "demotic/demoticlaw07.ShowJoins", spec := "showJoins", inPlace := ["internal/bytealg.IndexByteString", "internal/bytealg.IndexString", "internal/abi.NoEscape", "internal/bytealg.MakeNoZero", "internal/bytealg.CountString"], unfollowed := true, recurses := true, named := ["internal/bytealg.MaxLen", "unicode/utf8.first", "unicode/utf8.acceptRanges"], loops := true, apart := false, laid := [("unicode/utf8.acceptRanges", laid_unicode_utf8_acceptRanges), ("unicode/utf8.first", laid_unicode_utf8_first)] }
def ShowJoinsSaid : Prop := showJoinsRow.holds Tryz.pinned (OpenSpec.ofChange showJoinsSpec)

/-- ITS FALSE NEIGHBOUR: 'it returns false'. Refute it at one input. -/
def showJoinsWrong : ChangeSpec := { name := "showJoins", fn := fun _ => fun
  | [d] => { results := [.lit (.bool false)], args := [d] }
  | _ => none }
def ShowJoinsWrongFalsely : Prop := showJoinsRow.holds Tryz.pinned (OpenSpec.ofChange showJoinsWrong)

/-- 'demoticlaw07.ShowPlain': WHATEVER THE INPUT: true; the input reads as it did. -/
def showPlainSpec : ChangeSpec := { name := "showPlain", fn := fun _ => fun
  | [d] => { results := [.lit (.bool true)], args := [d] }
  | _ => none }
def showPlainRow : OpenClaim := { program := "ythbmjamgidfneaagreatdoor", sum := "5072764ed5f0123943f6304056f916ba4bdfd352105b468d9316d94b0e8fc823", func := "demotic/demoticlaw07.ShowPlain", spec := "showPlain", inPlace := ["internal/bytealg.IndexByteString", "internal/bytealg.IndexString", "internal/abi.NoEscape", "internal/bytealg.MakeNoZero", "internal/bytealg.CountString"], unfollowed := true, recurses := true, named := ["internal/bytealg.MaxLen", "unicode/utf8.first", "unicode/utf8.acceptRanges"], loops := true, apart := false, laid := [("unicode/utf8.acceptRanges", laid_unicode_utf8_acceptRanges), ("unicode/utf8.first", laid_unicode_utf8_first)] }
def ShowPlainSaid : Prop := showPlainRow.holds Tryz.pinned (OpenSpec.ofChange showPlainSpec)

/-- ITS FALSE NEIGHBOUR: 'it returns false'. Refute it at one input. -/
def showPlainWrong : ChangeSpec := { name := "showPlain", fn := fun _ => fun
  | [d] => { results := [.lit (.bool false)], args := [d] }
  | _ => none }
def ShowPlainWrongFalsely : Prop := showPlainRow.holds Tryz.pinned (OpenSpec.ofChange showPlainWrong)

/- THE SECOND FORM. 'bulk': how many values and letters a reading holds, each counted each time it is reached (what is shared counts as often as it is met; a slice's spare places count too). A statement '..UptoSaid' is the law's where the arguments, and the package variables that the reading takes, are together of bulk at most 1048576: NARROWER than '..Said'. Prove '..Said' where nothing that the law and all that it calls make is longer than what came in: it says more and counts as full. Else prove '..UptoSaid'. A law counts once. -/
mutual
def uptoBulk {H : Type} : DataW H → Nat
  | .lit (.string bytes) => bytes.length + 1
  | .lit _ => 1
  | .nil => 1
  | .ptr d => uptoBulk d + 1
  | .slice elems spare => uptoBulkAll elems + uptoBulkAll spare + 1
  | .agg parts => uptoBulkAll parts + 1
  | .iface _ d => uptoBulk d + 1
  | .map entries => uptoBulkEntries entries + 1
  | .held _ => 1
def uptoBulkAll {H : Type} : List (DataW H) → Nat
  | [] => 0
  | d :: r => uptoBulk d + uptoBulkAll r
def uptoBulkEntries {H : Type} : List (Lit × DataW H) → Nat
  | [] => 0
  | x :: r => uptoBulkEntry x + uptoBulkEntries r
def uptoBulkEntry {H : Type} : Lit × DataW H → Nat
  | (.string bytes, d) => bytes.length + uptoBulk d + 1
  | (_, d) => uptoBulk d + 1
 end
def uptoSmall : (H : Type) → List (DataW H) → Bool := fun _ ds => decide (uptoBulkAll ds ≤ 1048576)
def OpenSpec.upto (s : _root_.Go.ChangeSpec) : _root_.Go.OpenSpec := { _root_.Go.OpenSpec.ofChange s with cond := some uptoSmall }

/-- 'demoticlaw07.ShowTexts', WHERE WHAT IT READS IS OF BULK AT MOST 1048576: true; the input reads as it did. -/
def showTextsUptoRow : OpenClaim := { program := "ythbmjamgidfneaagreatdoor", sum := "5072764ed5f0123943f6304056f916ba4bdfd352105b468d9316d94b0e8fc823", func := "demotic/demoticlaw07.ShowTexts", spec := "showTexts", inPlace := ["internal/abi.NoEscape", "internal/bytealg.MakeNoZero", "internal/bytealg.CountString", "internal/bytealg.IndexByteString", "internal/bytealg.IndexString"], unfollowed := true, recurses := true, named := ["internal/bytealg.MaxLen", "unicode/utf8.first", "unicode/utf8.acceptRanges"], loops := true, apart := false, laid := [("unicode/utf8.acceptRanges", laid_unicode_utf8_acceptRanges), ("unicode/utf8.first", laid_unicode_utf8_first)], narrowed := true }
def ShowTextsUptoSaid : Prop := showTextsUptoRow.holds Tryz.pinned (OpenSpec.upto showTextsSpec)

/-- 'demoticlaw07.ShowApart', WHERE WHAT IT READS IS OF BULK AT MOST 1048576: true; the input reads as it did. -/
def showApartUptoRow : OpenClaim := { program := "ythbmjamgidfneaagreatdoor", sum := "5072764ed5f0123943f6304056f916ba4bdfd352105b468d9316d94b0e8fc823", func := "demotic/demoticlaw07.ShowApart", spec := "showApart", inPlace := ["internal/abi.NoEscape", "internal/bytealg.MakeNoZero", "internal/bytealg.CountString", "internal/bytealg.IndexByteString", "internal/bytealg.IndexString"], unfollowed := true, recurses := true, named := ["internal/bytealg.MaxLen", "unicode/utf8.first", "unicode/utf8.acceptRanges"], loops := true, apart := false, laid := [("unicode/utf8.acceptRanges", laid_unicode_utf8_acceptRanges), ("unicode/utf8.first", laid_unicode_utf8_first)], narrowed := true }
def ShowApartUptoSaid : Prop := showApartUptoRow.holds Tryz.pinned (OpenSpec.upto showApartSpec)

/-- 'demoticlaw07.ShowCalls', WHERE WHAT IT READS IS OF BULK AT MOST 1048576: true; the input reads as it did. -/
def showCallsUptoRow : OpenClaim := { program := "ythbmjamgidfneaagreatdoor", sum := "5072764ed5f0123943f6304056f916ba4bdfd352105b468d9316d94b0e8fc823", func := "demotic/demoticlaw07.ShowCalls", spec := "showCalls", inPlace := ["internal/abi.NoEscape", "internal/bytealg.MakeNoZero", "internal/bytealg.CountString", "internal/bytealg.IndexByteString", "internal/bytealg.IndexString"], unfollowed := true, recurses := true, named := ["internal/bytealg.MaxLen", "unicode/utf8.first", "unicode/utf8.acceptRanges"], loops := true, apart := false, laid := [("unicode/utf8.acceptRanges", laid_unicode_utf8_acceptRanges), ("unicode/utf8.first", laid_unicode_utf8_first)], narrowed := true }
def ShowCallsUptoSaid : Prop := showCallsUptoRow.holds Tryz.pinned (OpenSpec.upto showCallsSpec)

/-- 'demoticlaw07.ShowFiles', WHERE WHAT IT READS IS OF BULK AT MOST 1048576: true; the input reads as it did. -/
def showFilesUptoRow : OpenClaim := { program := "ythbmjamgidfneaagreatdoor", sum := "5072764ed5f0123943f6304056f916ba4bdfd352105b468d9316d94b0e8fc823", func := "demotic/demoticlaw07.ShowFiles", spec := "showFiles", inPlace := ["internal/bytealg.IndexByteString", "internal/bytealg.IndexString", "internal/abi.NoEscape", "internal/bytealg.MakeNoZero", "internal/bytealg.CountString"], unfollowed := true, recurses := true, named := ["internal/bytealg.MaxLen", "unicode/utf8.first", "unicode/utf8.acceptRanges"], loops := true, apart := false, laid := [("unicode/utf8.acceptRanges", laid_unicode_utf8_acceptRanges), ("unicode/utf8.first", laid_unicode_utf8_first)], narrowed := true }
def ShowFilesUptoSaid : Prop := showFilesUptoRow.holds Tryz.pinned (OpenSpec.upto showFilesSpec)

/-- 'demoticlaw07.ShowJoins', WHERE WHAT IT READS IS OF BULK AT MOST 1048576: true; the input reads as it did. -/
def showJoinsUptoRow : OpenClaim := { program := "ythbmjamgidfneaagreatdoor", sum := "5072764ed5f0123943f6304056f916ba4bdfd352105b468d9316d94b0e8fc823", func := "demotic/demoticlaw07.ShowJoins", spec := "showJoins", inPlace := ["internal/bytealg.IndexByteString", "internal/bytealg.IndexString", "internal/abi.NoEscape", "internal/bytealg.MakeNoZero", "internal/bytealg.CountString"], unfollowed := true, recurses := true, named := ["internal/bytealg.MaxLen", "unicode/utf8.first", "unicode/utf8.acceptRanges"], loops := true, apart := false, laid := [("unicode/utf8.acceptRanges", laid_unicode_utf8_acceptRanges), ("unicode/utf8.first", laid_unicode_utf8_first)], narrowed := true }
def ShowJoinsUptoSaid : Prop := showJoinsUptoRow.holds Tryz.pinned (OpenSpec.upto showJoinsSpec)

/-- 'demoticlaw07.ShowPlain', WHERE WHAT IT READS IS OF BULK AT MOST 1048576: true; the input reads as it did. -/
def showPlainUptoRow : OpenClaim := { program := "ythbmjamgidfneaagreatdoor", sum := "5072764ed5f0123943f6304056f916ba4bdfd352105b468d9316d94b0e8fc823", func := "demotic/demoticlaw07.ShowPlain", spec := "showPlain", inPlace := ["internal/bytealg.IndexByteString", "internal/bytealg.IndexString", "internal/abi.NoEscape", "internal/bytealg.MakeNoZero", "internal/bytealg.CountString"], unfollowed := true, recurses := true, named := ["internal/bytealg.MaxLen", "unicode/utf8.first", "unicode/utf8.acceptRanges"], loops := true, apart := false, laid := [("unicode/utf8.acceptRanges", laid_unicode_utf8_acceptRanges), ("unicode/utf8.first", laid_unicode_utf8_first)], narrowed := true }
def ShowPlainUptoSaid : Prop := showPlainUptoRow.holds Tryz.pinned (OpenSpec.upto showPlainSpec)

end Rows
end Go.Proofs.YthbmjamgidfneaaGreatDoor
