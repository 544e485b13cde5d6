/-
  NARROWER THAN 'FOR EVERY INPUT', by the rows' own cells (each row's printed sentence says how): TokenJoins: laid · TokenLines: laid · TokenScans: laid · TokenStands: laid · TokenLong: laid · TokenNames: laid · TokenKinds: laid.
  DERIVED. THE GIVEN ROWS OF THIS SEAT. 7 by the template 'for every input the law returns true; each argument reads behind the call as it read before'; 0 by the template 'total and deterministic' (their statements: YtokjnalmjdighaaDoorTotals.lean).
  GIVEN WITH THE SEED: the statements are not yours to turn. If you find one false, say at which input.
  Laid BY PROGRAM, IN A SANDBOX (cutbox-rows.mjs): the forced cells as the released guide's own fill.sh prints them over the translation f89bfd61ccaf0154… (all of the seat's roots in one cut). By AI agents, Wed Nov 11 2026. No macro, syntax, notation, axiom, sorry.
-/
import Derived.Test.YtokjnalmjdighaaDoorChecked
import GoSem.PinnedTables
import GoSem.Claim
import GoSem.ClaimJoined
import GoSem.ClaimMapViews
import Derived.JoinedTies
import Derived.KernelRfl
namespace Go.Proofs.YtokjnalmjdighaaDoor
/- THE CELL 'sum', in the pinned program and in every row, IS THE sha256 OF THE DUMP (.gsa) THAT YtokjnalmjdighaaDoorProg.lean LOADS. Nothing in Lean hashes anything: it is a label: what it is worth is what the hold of that sum in a sandbox is worth. -/
noncomputable def Tryd.pinned : Pinned := { name := "ytokjnalmjdighaadoor", sum := "f89bfd61ccaf0154adac6bfabb53ad6bb91bb8c2c1b2fdb008a89beebe5693a9", checked := Tryd.checked }
namespace Rows
def none {H : Type} : Left H := { results := [], args := [] }

/- WHAT THE LISTED PACKAGE-LEVEL VARIABLES READ AS WHEN THE CALL BEGINS. Each datum BY PROGRAM (the guide's laid-datum.mjs) off the statement by which the dump's own 'gosem.cut.vars' lays the variable. In a bare row this is a premise. The card (YtokjnalmjdighaaDoorCards.lean) ties it to the program's text. -/
def laid_unicode_utf8_acceptRanges {H : Type} : DataW H := .agg [.agg [.lit (.int .u8 128), .lit (.int .u8 191)], .agg [.lit (.int .u8 160), .lit (.int .u8 191)], .agg [.lit (.int .u8 128), .lit (.int .u8 159)], .agg [.lit (.int .u8 144), .lit (.int .u8 191)], .agg [.lit (.int .u8 128), .lit (.int .u8 143)], .agg [.lit (.int .u8 0), .lit (.int .u8 0)], .agg [.lit (.int .u8 0), .lit (.int .u8 0)], .agg [.lit (.int .u8 0), .lit (.int .u8 0)], .agg [.lit (.int .u8 0), .lit (.int .u8 0)], .agg [.lit (.int .u8 0), .lit (.int .u8 0)], .agg [.lit (.int .u8 0), .lit (.int .u8 0)], .agg [.lit (.int .u8 0), .lit (.int .u8 0)], .agg [.lit (.int .u8 0), .lit (.int .u8 0)], .agg [.lit (.int .u8 0), .lit (.int .u8 0)], .agg [.lit (.int .u8 0), .lit (.int .u8 0)], .agg [.lit (.int .u8 0), .lit (.int .u8 0)]]
/-- One of Go's own tables, pinned by name: the form's constant. -/
def laid_unicode_utf8_first : DataW Unit := Go.Pinned.utf8First

/-- 'demoticlaw02.TokenJoins': WHATEVER THE INPUT: true; the input reads as it did. -/
def tokenJoinsSpec : ChangeSpec := { name := "tokenJoins", fn := fun _ => fun
  | [d] => { results := [.lit (.bool true)], args := [d] }
  | _ => none }
def tokenJoinsRow : OpenClaim := { program := "ytokjnalmjdighaadoor", sum := "f89bfd61ccaf0154adac6bfabb53ad6bb91bb8c2c1b2fdb008a89beebe5693a9", func := "demotic/demoticlaw02.TokenJoins", spec := "tokenJoins", inPlace := ["internal/bytealg.IndexByteString", "internal/bytealg.IndexString"], unfollowed := true, recurses := true, named := ["unicode/utf8.first", "unicode/utf8.acceptRanges", "internal/bytealg.MaxLen"], apart := false, laid := [("unicode/utf8.acceptRanges", laid_unicode_utf8_acceptRanges), ("unicode/utf8.first", laid_unicode_utf8_first)] }
def TokenJoinsSaid : Prop := tokenJoinsRow.holds Tryd.pinned (OpenSpec.ofChange tokenJoinsSpec)

/-- ITS FALSE NEIGHBOUR: 'it returns false'. Refute it at one input. -/
def tokenJoinsWrong : ChangeSpec := { name := "tokenJoins", fn := fun _ => fun
  | [d] => { results := [.lit (.bool false)], args := [d] }
  | _ => none }
def TokenJoinsWrongFalsely : Prop := tokenJoinsRow.holds Tryd.pinned (OpenSpec.ofChange tokenJoinsWrong)

/-- 'demoticlaw02.TokenLines': WHATEVER THE INPUT: true; the input reads as it did. -/
def tokenLinesSpec : ChangeSpec := { name := "tokenLines", fn := fun _ => fun
  | [d] => { results := [.lit (.bool true)], args := [d] }
  | _ => none }
def tokenLinesRow : OpenClaim := { program := "ytokjnalmjdighaadoor", sum := "f89bfd61ccaf0154adac6bfabb53ad6bb91bb8c2c1b2fdb008a89beebe5693a9", func := "demotic/demoticlaw02.TokenLines", spec := "tokenLines", inPlace := ["internal/bytealg.IndexByteString", "internal/bytealg.IndexString"], unfollowed := true, recurses := true, named := ["unicode/utf8.first", "unicode/utf8.acceptRanges", "internal/bytealg.MaxLen"], apart := false, laid := [("unicode/utf8.acceptRanges", laid_unicode_utf8_acceptRanges), ("unicode/utf8.first", laid_unicode_utf8_first)] }
def TokenLinesSaid : Prop := tokenLinesRow.holds Tryd.pinned (OpenSpec.ofChange tokenLinesSpec)

/-- ITS FALSE NEIGHBOUR: 'it returns false'. Refute it at one input. -/
def tokenLinesWrong : ChangeSpec := { name := "tokenLines", fn := fun _ => fun
  | [d] => { results := [.lit (.bool false)], args := [d] }
  | _ => none }
def TokenLinesWrongFalsely : Prop := tokenLinesRow.holds Tryd.pinned (OpenSpec.ofChange tokenLinesWrong)

/-- 'demoticlaw02.TokenScans': WHATEVER THE INPUT: true; the input reads as it did. -/
def tokenScansSpec : ChangeSpec := { name := "tokenScans", fn := fun _ => fun
  | [d] => { results := [.lit (.bool true)], args := [d] }
  | _ => none }
def tokenScansRow : OpenClaim := { program := "ytokjnalmjdighaadoor", sum := "f89bfd61ccaf0154adac6bfabb53ad6bb91bb8c2c1b2fdb008a89beebe5693a9", func := "demotic/demoticlaw02.TokenScans", spec := "tokenScans", inPlace := ["internal/bytealg.IndexByteString", "internal/bytealg.IndexString"], unfollowed := true, recurses := true, named := ["unicode/utf8.first", "unicode/utf8.acceptRanges", "internal/bytealg.MaxLen"], apart := false, laid := [("unicode/utf8.acceptRanges", laid_unicode_utf8_acceptRanges), ("unicode/utf8.first", laid_unicode_utf8_first)] }
def TokenScansSaid : Prop := tokenScansRow.holds Tryd.pinned (OpenSpec.ofChange tokenScansSpec)

/-- ITS FALSE NEIGHBOUR: 'it returns false'. Refute it at one input. -/
def tokenScansWrong : ChangeSpec := { name := "tokenScans", fn := fun _ => fun
  | [d] => { results := [.lit (.bool false)], args := [d] }
  | _ => none }
def TokenScansWrongFalsely : Prop := tokenScansRow.holds Tryd.pinned (OpenSpec.ofChange tokenScansWrong)

/-- 'demoticlaw02.TokenStands': WHATEVER THE INPUT: true; the input reads as it did. -/
def tokenStandsSpec : ChangeSpec := { name := "tokenStands", fn := fun _ => fun
  | [d] => { results := [.lit (.bool true)], args := [d] }
  | _ => none }
def tokenStandsRow : OpenClaim := { program := "ytokjnalmjdighaadoor", sum := "f89bfd61ccaf0154adac6bfabb53ad6bb91bb8c2c1b2fdb008a89beebe5693a9", func := "demotic/demoticlaw02.TokenStands", spec := "tokenStands", inPlace := ["internal/bytealg.IndexByteString", "internal/bytealg.IndexString"], unfollowed := true, recurses := true, named := ["unicode/utf8.first", "unicode/utf8.acceptRanges", "internal/bytealg.MaxLen"], apart := false, laid := [("unicode/utf8.acceptRanges", laid_unicode_utf8_acceptRanges), ("unicode/utf8.first", laid_unicode_utf8_first)] }
def TokenStandsSaid : Prop := tokenStandsRow.holds Tryd.pinned (OpenSpec.ofChange tokenStandsSpec)

/-- ITS FALSE NEIGHBOUR: 'it returns false'. Refute it at one input. -/
def tokenStandsWrong : ChangeSpec := { name := "tokenStands", fn := fun _ => fun
  | [d] => { results := [.lit (.bool false)], args := [d] }
  | _ => none }
def TokenStandsWrongFalsely : Prop := tokenStandsRow.holds Tryd.pinned (OpenSpec.ofChange tokenStandsWrong)

/-- 'demoticlaw02.TokenLong': WHATEVER THE INPUT: true; the input reads as it did. -/
def tokenLongSpec : ChangeSpec := { name := "tokenLong", fn := fun _ => fun
  | [d1, d2] => { results := [.lit (.bool true)], args := [d1, d2] }
  | _ => none }
def tokenLongRow : OpenClaim := { program := "ytokjnalmjdighaadoor", sum := "f89bfd61ccaf0154adac6bfabb53ad6bb91bb8c2c1b2fdb008a89beebe5693a9", func := "demotic/demoticlaw02.TokenLong", spec := "tokenLong", inPlace := ["internal/bytealg.IndexByteString", "internal/bytealg.IndexString"], unfollowed := true, recurses := true, named := ["unicode/utf8.first", "unicode/utf8.acceptRanges", "internal/bytealg.MaxLen"], apart := false, laid := [("unicode/utf8.acceptRanges", laid_unicode_utf8_acceptRanges), ("unicode/utf8.first", laid_unicode_utf8_first)] }
def TokenLongSaid : Prop := tokenLongRow.holds Tryd.pinned (OpenSpec.ofChange tokenLongSpec)

/-- ITS FALSE NEIGHBOUR: 'it returns false'. Refute it at one input. -/
def tokenLongWrong : ChangeSpec := { name := "tokenLong", fn := fun _ => fun
  | [d1, d2] => { results := [.lit (.bool false)], args := [d1, d2] }
  | _ => none }
def TokenLongWrongFalsely : Prop := tokenLongRow.holds Tryd.pinned (OpenSpec.ofChange tokenLongWrong)

/-- 'demoticlaw02.TokenNames': WHATEVER THE INPUT: true; the input reads as it did. -/
def tokenNamesSpec : ChangeSpec := { name := "tokenNames", fn := fun _ => fun
  | [d] => { results := [.lit (.bool true)], args := [d] }
  | _ => none }
def tokenNamesRow : OpenClaim := { program := "ytokjnalmjdighaadoor", sum := "f89bfd61ccaf0154adac6bfabb53ad6bb91bb8c2c1b2fdb008a89beebe5693a9", func := "demotic/demoticlaw02.TokenNames", spec := "tokenNames", inPlace := ["internal/bytealg.IndexByteString", "internal/bytealg.IndexString"], unfollowed := true, recurses := true, named := ["unicode/utf8.first", "unicode/utf8.acceptRanges", "internal/bytealg.MaxLen"], apart := false, laid := [("unicode/utf8.acceptRanges", laid_unicode_utf8_acceptRanges), ("unicode/utf8.first", laid_unicode_utf8_first)] }
def TokenNamesSaid : Prop := tokenNamesRow.holds Tryd.pinned (OpenSpec.ofChange tokenNamesSpec)

/-- ITS FALSE NEIGHBOUR: 'it returns false'. Refute it at one input. -/
def tokenNamesWrong : ChangeSpec := { name := "tokenNames", fn := fun _ => fun
  | [d] => { results := [.lit (.bool false)], args := [d] }
  | _ => none }
def TokenNamesWrongFalsely : Prop := tokenNamesRow.holds Tryd.pinned (OpenSpec.ofChange tokenNamesWrong)

/-- 'demoticlaw02.TokenKinds': WHATEVER THE INPUT: true; the input reads as it did. -/
def tokenKindsSpec : ChangeSpec := { name := "tokenKinds", fn := fun _ => fun
  | [d] => { results := [.lit (.bool true)], args := [d] }
  | _ => none }
def tokenKindsRow : OpenClaim := { program := "ytokjnalmjdighaadoor", sum := "f89bfd61ccaf0154adac6bfabb53ad6bb91bb8c2c1b2fdb008a89beebe5693a9", func := "demotic/demoticlaw02.TokenKinds", spec := "tokenKinds", inPlace := ["internal/bytealg.IndexByteString", "internal/bytealg.IndexString"], unfollowed := true, recurses := true, named := ["unicode/utf8.first", "unicode/utf8.acceptRanges", "internal/bytealg.MaxLen"], apart := false, laid := [("unicode/utf8.acceptRanges", laid_unicode_utf8_acceptRanges), ("unicode/utf8.first", laid_unicode_utf8_first)] }
def TokenKindsSaid : Prop := tokenKindsRow.holds Tryd.pinned (OpenSpec.ofChange tokenKindsSpec)

/-- ITS FALSE NEIGHBOUR: 'it returns false'. Refute it at one input. -/
def tokenKindsWrong : ChangeSpec := { name := "tokenKinds", fn := fun _ => fun
  | [d] => { results := [.lit (.bool false)], args := [d] }
  | _ => none }
def TokenKindsWrongFalsely : Prop := tokenKindsRow.holds Tryd.pinned (OpenSpec.ofChange tokenKindsWrong)

/- THE SECOND FORM. 'bulk': how many values and letters a reading holds, each counted each time it is reached (what is shared counts as often as it is met; a slice's spare places count too). A statement '..UptoSaid' is the law's where the arguments, and the package variables that the reading takes, are together of bulk at most 1048576: NARROWER than '..Said'. Prove '..Said' where nothing that the law and all that it calls make is longer than what came in: it says more and counts as full. Else prove '..UptoSaid'. A law counts once. -/
mutual
def uptoBulk {H : Type} : DataW H → Nat
  | .lit (.string bytes) => bytes.length + 1
  | .lit _ => 1
  | .nil => 1
  | .ptr d => uptoBulk d + 1
  | .slice elems spare => uptoBulkAll elems + uptoBulkAll spare + 1
  | .agg parts => uptoBulkAll parts + 1
  | .iface _ d => uptoBulk d + 1
  | .map entries => uptoBulkEntries entries + 1
  | .held _ => 1
def uptoBulkAll {H : Type} : List (DataW H) → Nat
  | [] => 0
  | d :: r => uptoBulk d + uptoBulkAll r
def uptoBulkEntries {H : Type} : List (Lit × DataW H) → Nat
  | [] => 0
  | x :: r => uptoBulkEntry x + uptoBulkEntries r
def uptoBulkEntry {H : Type} : Lit × DataW H → Nat
  | (.string bytes, d) => bytes.length + uptoBulk d + 1
  | (_, d) => uptoBulk d + 1
 end
def uptoSmall : (H : Type) → List (DataW H) → Bool := fun _ ds => decide (uptoBulkAll ds ≤ 1048576)
def OpenSpec.upto (s : _root_.Go.ChangeSpec) : _root_.Go.OpenSpec := { _root_.Go.OpenSpec.ofChange s with cond := some uptoSmall }

/-- 'demoticlaw02.TokenJoins', WHERE WHAT IT READS IS OF BULK AT MOST 1048576: true; the input reads as it did. -/
def tokenJoinsUptoRow : OpenClaim := { program := "ytokjnalmjdighaadoor", sum := "f89bfd61ccaf0154adac6bfabb53ad6bb91bb8c2c1b2fdb008a89beebe5693a9", func := "demotic/demoticlaw02.TokenJoins", spec := "tokenJoins", inPlace := ["internal/bytealg.IndexByteString", "internal/bytealg.IndexString"], unfollowed := true, recurses := true, named := ["unicode/utf8.first", "unicode/utf8.acceptRanges", "internal/bytealg.MaxLen"], apart := false, laid := [("unicode/utf8.acceptRanges", laid_unicode_utf8_acceptRanges), ("unicode/utf8.first", laid_unicode_utf8_first)], narrowed := true }
def TokenJoinsUptoSaid : Prop := tokenJoinsUptoRow.holds Tryd.pinned (OpenSpec.upto tokenJoinsSpec)

/-- 'demoticlaw02.TokenLines', WHERE WHAT IT READS IS OF BULK AT MOST 1048576: true; the input reads as it did. -/
def tokenLinesUptoRow : OpenClaim := { program := "ytokjnalmjdighaadoor", sum := "f89bfd61ccaf0154adac6bfabb53ad6bb91bb8c2c1b2fdb008a89beebe5693a9", func := "demotic/demoticlaw02.TokenLines", spec := "tokenLines", inPlace := ["internal/bytealg.IndexByteString", "internal/bytealg.IndexString"], unfollowed := true, recurses := true, named := ["unicode/utf8.first", "unicode/utf8.acceptRanges", "internal/bytealg.MaxLen"], apart := false, laid := [("unicode/utf8.acceptRanges", laid_unicode_utf8_acceptRanges), ("unicode/utf8.first", laid_unicode_utf8_first)], narrowed := true }
def TokenLinesUptoSaid : Prop := tokenLinesUptoRow.holds Tryd.pinned (OpenSpec.upto tokenLinesSpec)

/-- 'demoticlaw02.TokenScans', WHERE WHAT IT READS IS OF BULK AT MOST 1048576: true; the input reads as it did. -/
def tokenScansUptoRow : OpenClaim := { program := "ytokjnalmjdighaadoor", sum := "f89bfd61ccaf0154adac6bfabb53ad6bb91bb8c2c1b2fdb008a89beebe5693a9", func := "demotic/demoticlaw02.TokenScans", spec := "tokenScans", inPlace := ["internal/bytealg.IndexByteString", "internal/bytealg.IndexString"], unfollowed := true, recurses := true, named := ["unicode/utf8.first", "unicode/utf8.acceptRanges", "internal/bytealg.MaxLen"], apart := false, laid := [("unicode/utf8.acceptRanges", laid_unicode_utf8_acceptRanges), ("unicode/utf8.first", laid_unicode_utf8_first)], narrowed := true }
def TokenScansUptoSaid : Prop := tokenScansUptoRow.holds Tryd.pinned (OpenSpec.upto tokenScansSpec)

/-- 'demoticlaw02.TokenStands', WHERE WHAT IT READS IS OF BULK AT MOST 1048576: true; the input reads as it did. -/
def tokenStandsUptoRow : OpenClaim := { program := "ytokjnalmjdighaadoor", sum := "f89bfd61ccaf0154adac6bfabb53ad6bb91bb8c2c1b2fdb008a89beebe5693a9", func := "demotic/demoticlaw02.TokenStands", spec := "tokenStands", inPlace := ["internal/bytealg.IndexByteString", "internal/bytealg.IndexString"], unfollowed := true, recurses := true, named := ["unicode/utf8.first", "unicode/utf8.acceptRanges", "internal/bytealg.MaxLen"], apart := false, laid := [("unicode/utf8.acceptRanges", laid_unicode_utf8_acceptRanges), ("unicode/utf8.first", laid_unicode_utf8_first)], narrowed := true }
def TokenStandsUptoSaid : Prop := tokenStandsUptoRow.holds Tryd.pinned (OpenSpec.upto tokenStandsSpec)

/-- 'demoticlaw02.TokenLong', WHERE WHAT IT READS IS OF BULK AT MOST 1048576: true; the input reads as it did. -/
def tokenLongUptoRow : OpenClaim := { program := "ytokjnalmjdighaadoor", sum := "f89bfd61ccaf0154adac6bfabb53ad6bb91bb8c2c1b2fdb008a89beebe5693a9", func := "demotic/demoticlaw02.TokenLong", spec := "tokenLong", inPlace := ["internal/bytealg.IndexByteString", "internal/bytealg.IndexString"], unfollowed := true, recurses := true, named := ["unicode/utf8.first", "unicode/utf8.acceptRanges", "internal/bytealg.MaxLen"], apart := false, laid := [("unicode/utf8.acceptRanges", laid_unicode_utf8_acceptRanges), ("unicode/utf8.first", laid_unicode_utf8_first)], narrowed := true }
def TokenLongUptoSaid : Prop := tokenLongUptoRow.holds Tryd.pinned (OpenSpec.upto tokenLongSpec)

/-- 'demoticlaw02.TokenNames', WHERE WHAT IT READS IS OF BULK AT MOST 1048576: true; the input reads as it did. -/
def tokenNamesUptoRow : OpenClaim := { program := "ytokjnalmjdighaadoor", sum := "f89bfd61ccaf0154adac6bfabb53ad6bb91bb8c2c1b2fdb008a89beebe5693a9", func := "demotic/demoticlaw02.TokenNames", spec := "tokenNames", inPlace := ["internal/bytealg.IndexByteString", "internal/bytealg.IndexString"], unfollowed := true, recurses := true, named := ["unicode/utf8.first", "unicode/utf8.acceptRanges", "internal/bytealg.MaxLen"], apart := false, laid := [("unicode/utf8.acceptRanges", laid_unicode_utf8_acceptRanges), ("unicode/utf8.first", laid_unicode_utf8_first)], narrowed := true }
def TokenNamesUptoSaid : Prop := tokenNamesUptoRow.holds Tryd.pinned (OpenSpec.upto tokenNamesSpec)

/-- 'demoticlaw02.TokenKinds', WHERE WHAT IT READS IS OF BULK AT MOST 1048576: true; the input reads as it did. -/
def tokenKindsUptoRow : OpenClaim := { program := "ytokjnalmjdighaadoor", sum := "f89bfd61ccaf0154adac6bfabb53ad6bb91bb8c2c1b2fdb008a89beebe5693a9", func := "demotic/demoticlaw02.TokenKinds", spec := "tokenKinds", inPlace := ["internal/bytealg.IndexByteString", "internal/bytealg.IndexString"], unfollowed := true, recurses := true, named := ["unicode/utf8.first", "unicode/utf8.acceptRanges", "internal/bytealg.MaxLen"], apart := false, laid := [("unicode/utf8.acceptRanges", laid_unicode_utf8_acceptRanges), ("unicode/utf8.first", laid_unicode_utf8_first)], narrowed := true }
def TokenKindsUptoSaid : Prop := tokenKindsUptoRow.holds Tryd.pinned (OpenSpec.upto tokenKindsSpec)

end Rows
end Go.Proofs.YtokjnalmjdighaaDoor
