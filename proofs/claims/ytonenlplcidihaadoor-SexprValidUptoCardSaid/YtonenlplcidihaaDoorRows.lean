/-
  NARROWER THAN 'FOR EVERY INPUT', by the rows' own cells (each row's printed sentence says how): SexprParse: laid · SexprSpoiled: laid · SexprPositions: laid · SexprConcat: laid · SexprDepth: laid · SexprStructure: laid · SexprRoundTrip: laid · SexprValid: laid.
  DERIVED. THE GIVEN ROWS OF THIS SEAT. 8 by the template 'for every input the law returns true; each argument reads behind the call as it read before'; 0 by the template 'total and deterministic' (their statements: YtonenlplcidihaaDoorTotals.lean).
  GIVEN WITH THE SEED: the statements are not yours to turn. If you find one false, say at which input.
  Laid BY PROGRAM, IN A SANDBOX (cutbox-rows.mjs): the forced cells as the released guide's own fill.sh prints them over the translation e767620fc081030e… (all of the seat's roots in one cut). By AI agents, Wed Nov 11 2026. No macro, syntax, notation, axiom, sorry.
-/
import Derived.Test.YtonenlplcidihaaDoorChecked
import GoSem.PinnedTables
import GoSem.Claim
import GoSem.ClaimJoined
import GoSem.ClaimMapViews
import Derived.JoinedTies
import Derived.KernelRfl
namespace Go.Proofs.YtonenlplcidihaaDoor
/- THE CELL 'sum', in the pinned program and in every row, IS THE sha256 OF THE DUMP (.gsa) THAT YtonenlplcidihaaDoorProg.lean LOADS. Nothing in Lean hashes anything: it is a label: what it is worth is what the hold of that sum in a sandbox is worth. -/
noncomputable def Tryd.pinned : Pinned := { name := "ytonenlplcidihaadoor", sum := "e767620fc081030e142d8609d4faf2db0775f0b4674a74bfd7ed92e9e702aaf3", checked := Tryd.checked }
namespace Rows
def none {H : Type} : Left H := { results := [], args := [] }

/- WHAT THE LISTED PACKAGE-LEVEL VARIABLES READ AS WHEN THE CALL BEGINS. Each datum BY PROGRAM (the guide's laid-datum.mjs) off the statement by which the dump's own 'gosem.cut.vars' lays the variable. In a bare row this is a premise. The card (YtonenlplcidihaaDoorCards.lean) ties it to the program's text. -/
def laid_unicode_utf8_acceptRanges {H : Type} : DataW H := .agg [.agg [.lit (.int .u8 128), .lit (.int .u8 191)], .agg [.lit (.int .u8 160), .lit (.int .u8 191)], .agg [.lit (.int .u8 128), .lit (.int .u8 159)], .agg [.lit (.int .u8 144), .lit (.int .u8 191)], .agg [.lit (.int .u8 128), .lit (.int .u8 143)], .agg [.lit (.int .u8 0), .lit (.int .u8 0)], .agg [.lit (.int .u8 0), .lit (.int .u8 0)], .agg [.lit (.int .u8 0), .lit (.int .u8 0)], .agg [.lit (.int .u8 0), .lit (.int .u8 0)], .agg [.lit (.int .u8 0), .lit (.int .u8 0)], .agg [.lit (.int .u8 0), .lit (.int .u8 0)], .agg [.lit (.int .u8 0), .lit (.int .u8 0)], .agg [.lit (.int .u8 0), .lit (.int .u8 0)], .agg [.lit (.int .u8 0), .lit (.int .u8 0)], .agg [.lit (.int .u8 0), .lit (.int .u8 0)], .agg [.lit (.int .u8 0), .lit (.int .u8 0)]]
/-- One of Go's own tables, pinned by name: the form's constant. -/
def laid_unicode_utf8_first : DataW Unit := Go.Pinned.utf8First

/-- 'chcsolverlaw02.SexprParse': WHATEVER THE INPUT: true; the input reads as it did. -/
def sexprParseSpec : ChangeSpec := { name := "sexprParse", fn := fun _ => fun
  | [d] => { results := [.lit (.bool true)], args := [d] }
  | _ => none }
def sexprParseRow : OpenClaim := { program := "ytonenlplcidihaadoor", sum := "e767620fc081030e142d8609d4faf2db0775f0b4674a74bfd7ed92e9e702aaf3", func := "chcsolver/chcsolverlaw02.SexprParse", spec := "sexprParse", inPlace := ["internal/abi.NoEscape", "internal/bytealg.IndexByteString", "internal/bytealg.IndexString"], named := ["internal/bytealg.MaxLen", "unicode/utf8.first", "unicode/utf8.acceptRanges"], apart := false, laid := [("unicode/utf8.acceptRanges", laid_unicode_utf8_acceptRanges), ("unicode/utf8.first", laid_unicode_utf8_first)] }
def SexprParseSaid : Prop := sexprParseRow.holds Tryd.pinned (OpenSpec.ofChange sexprParseSpec)

/-- ITS FALSE NEIGHBOUR: 'it returns false'. Refute it at one input. -/
def sexprParseWrong : ChangeSpec := { name := "sexprParse", fn := fun _ => fun
  | [d] => { results := [.lit (.bool false)], args := [d] }
  | _ => none }
def SexprParseWrongFalsely : Prop := sexprParseRow.holds Tryd.pinned (OpenSpec.ofChange sexprParseWrong)

/-- 'chcsolverlaw02.SexprSpoiled': WHATEVER THE INPUT: true; the input reads as it did. -/
def sexprSpoiledSpec : ChangeSpec := { name := "sexprSpoiled", fn := fun _ => fun
  | [d1, d2, d3, d4] => { results := [.lit (.bool true)], args := [d1, d2, d3, d4] }
  | _ => none }
def sexprSpoiledRow : OpenClaim := { program := "ytonenlplcidihaadoor", sum := "e767620fc081030e142d8609d4faf2db0775f0b4674a74bfd7ed92e9e702aaf3", func := "chcsolver/chcsolverlaw02.SexprSpoiled", spec := "sexprSpoiled", inPlace := ["internal/abi.NoEscape", "internal/bytealg.IndexByteString", "internal/bytealg.IndexString"], recurses := true, named := ["internal/bytealg.MaxLen", "unicode/utf8.first", "unicode/utf8.acceptRanges"], apart := false, laid := [("unicode/utf8.acceptRanges", laid_unicode_utf8_acceptRanges), ("unicode/utf8.first", laid_unicode_utf8_first)] }
def SexprSpoiledSaid : Prop := sexprSpoiledRow.holds Tryd.pinned (OpenSpec.ofChange sexprSpoiledSpec)

/-- ITS FALSE NEIGHBOUR: 'it returns false'. Refute it at one input. -/
def sexprSpoiledWrong : ChangeSpec := { name := "sexprSpoiled", fn := fun _ => fun
  | [d1, d2, d3, d4] => { results := [.lit (.bool false)], args := [d1, d2, d3, d4] }
  | _ => none }
def SexprSpoiledWrongFalsely : Prop := sexprSpoiledRow.holds Tryd.pinned (OpenSpec.ofChange sexprSpoiledWrong)

/-- 'chcsolverlaw02.SexprPositions': WHATEVER THE INPUT: true; the input reads as it did. -/
def sexprPositionsSpec : ChangeSpec := { name := "sexprPositions", fn := fun _ => fun
  | [d1, d2] => { results := [.lit (.bool true)], args := [d1, d2] }
  | _ => none }
def sexprPositionsRow : OpenClaim := { program := "ytonenlplcidihaadoor", sum := "e767620fc081030e142d8609d4faf2db0775f0b4674a74bfd7ed92e9e702aaf3", func := "chcsolver/chcsolverlaw02.SexprPositions", spec := "sexprPositions", inPlace := ["internal/abi.NoEscape", "internal/bytealg.IndexByteString", "internal/bytealg.IndexString"], recurses := true, named := ["internal/bytealg.MaxLen", "unicode/utf8.first", "unicode/utf8.acceptRanges"], apart := false, laid := [("unicode/utf8.acceptRanges", laid_unicode_utf8_acceptRanges), ("unicode/utf8.first", laid_unicode_utf8_first)] }
def SexprPositionsSaid : Prop := sexprPositionsRow.holds Tryd.pinned (OpenSpec.ofChange sexprPositionsSpec)

/-- ITS FALSE NEIGHBOUR: 'it returns false'. Refute it at one input. -/
def sexprPositionsWrong : ChangeSpec := { name := "sexprPositions", fn := fun _ => fun
  | [d1, d2] => { results := [.lit (.bool false)], args := [d1, d2] }
  | _ => none }
def SexprPositionsWrongFalsely : Prop := sexprPositionsRow.holds Tryd.pinned (OpenSpec.ofChange sexprPositionsWrong)

/-- 'chcsolverlaw02.SexprConcat': WHATEVER THE INPUT: true; the input reads as it did. -/
def sexprConcatSpec : ChangeSpec := { name := "sexprConcat", fn := fun _ => fun
  | [d1, d2, d3, d4] => { results := [.lit (.bool true)], args := [d1, d2, d3, d4] }
  | _ => none }
def sexprConcatRow : OpenClaim := { program := "ytonenlplcidihaadoor", sum := "e767620fc081030e142d8609d4faf2db0775f0b4674a74bfd7ed92e9e702aaf3", func := "chcsolver/chcsolverlaw02.SexprConcat", spec := "sexprConcat", inPlace := ["internal/abi.NoEscape", "internal/bytealg.IndexByteString", "internal/bytealg.IndexString"], recurses := true, named := ["internal/bytealg.MaxLen", "unicode/utf8.first", "unicode/utf8.acceptRanges"], apart := false, laid := [("unicode/utf8.acceptRanges", laid_unicode_utf8_acceptRanges), ("unicode/utf8.first", laid_unicode_utf8_first)] }
def SexprConcatSaid : Prop := sexprConcatRow.holds Tryd.pinned (OpenSpec.ofChange sexprConcatSpec)

/-- ITS FALSE NEIGHBOUR: 'it returns false'. Refute it at one input. -/
def sexprConcatWrong : ChangeSpec := { name := "sexprConcat", fn := fun _ => fun
  | [d1, d2, d3, d4] => { results := [.lit (.bool false)], args := [d1, d2, d3, d4] }
  | _ => none }
def SexprConcatWrongFalsely : Prop := sexprConcatRow.holds Tryd.pinned (OpenSpec.ofChange sexprConcatWrong)

/-- 'chcsolverlaw02.SexprDepth': WHATEVER THE INPUT: true; the input reads as it did. -/
def sexprDepthSpec : ChangeSpec := { name := "sexprDepth", fn := fun _ => fun
  | [d] => { results := [.lit (.bool true)], args := [d] }
  | _ => none }
def sexprDepthRow : OpenClaim := { program := "ytonenlplcidihaadoor", sum := "e767620fc081030e142d8609d4faf2db0775f0b4674a74bfd7ed92e9e702aaf3", func := "chcsolver/chcsolverlaw02.SexprDepth", spec := "sexprDepth", inPlace := ["internal/abi.NoEscape", "internal/bytealg.IndexByteString", "internal/bytealg.IndexString"], named := ["internal/bytealg.MaxLen", "unicode/utf8.first", "unicode/utf8.acceptRanges"], apart := false, laid := [("unicode/utf8.acceptRanges", laid_unicode_utf8_acceptRanges), ("unicode/utf8.first", laid_unicode_utf8_first)] }
def SexprDepthSaid : Prop := sexprDepthRow.holds Tryd.pinned (OpenSpec.ofChange sexprDepthSpec)

/-- ITS FALSE NEIGHBOUR: 'it returns false'. Refute it at one input. -/
def sexprDepthWrong : ChangeSpec := { name := "sexprDepth", fn := fun _ => fun
  | [d] => { results := [.lit (.bool false)], args := [d] }
  | _ => none }
def SexprDepthWrongFalsely : Prop := sexprDepthRow.holds Tryd.pinned (OpenSpec.ofChange sexprDepthWrong)

/-- 'chcsolverlaw02.SexprStructure': WHATEVER THE INPUT: true; the input reads as it did. -/
def sexprStructureSpec : ChangeSpec := { name := "sexprStructure", fn := fun _ => fun
  | [d] => { results := [.lit (.bool true)], args := [d] }
  | _ => none }
def sexprStructureRow : OpenClaim := { program := "ytonenlplcidihaadoor", sum := "e767620fc081030e142d8609d4faf2db0775f0b4674a74bfd7ed92e9e702aaf3", func := "chcsolver/chcsolverlaw02.SexprStructure", spec := "sexprStructure", inPlace := ["internal/bytealg.IndexByteString", "internal/bytealg.IndexString", "internal/abi.NoEscape"], recurses := true, named := ["internal/bytealg.MaxLen", "unicode/utf8.first", "unicode/utf8.acceptRanges"], apart := false, laid := [("unicode/utf8.acceptRanges", laid_unicode_utf8_acceptRanges), ("unicode/utf8.first", laid_unicode_utf8_first)] }
def SexprStructureSaid : Prop := sexprStructureRow.holds Tryd.pinned (OpenSpec.ofChange sexprStructureSpec)

/-- ITS FALSE NEIGHBOUR: 'it returns false'. Refute it at one input. -/
def sexprStructureWrong : ChangeSpec := { name := "sexprStructure", fn := fun _ => fun
  | [d] => { results := [.lit (.bool false)], args := [d] }
  | _ => none }
def SexprStructureWrongFalsely : Prop := sexprStructureRow.holds Tryd.pinned (OpenSpec.ofChange sexprStructureWrong)

/-- 'chcsolverlaw02.SexprRoundTrip': WHATEVER THE INPUT: true; the input reads as it did. -/
def sexprRoundTripSpec : ChangeSpec := { name := "sexprRoundTrip", fn := fun _ => fun
  | [d] => { results := [.lit (.bool true)], args := [d] }
  | _ => none }
def sexprRoundTripRow : OpenClaim := { program := "ytonenlplcidihaadoor", sum := "e767620fc081030e142d8609d4faf2db0775f0b4674a74bfd7ed92e9e702aaf3", func := "chcsolver/chcsolverlaw02.SexprRoundTrip", spec := "sexprRoundTrip", inPlace := ["internal/bytealg.IndexByteString", "internal/bytealg.IndexString", "internal/abi.NoEscape", "internal/bytealg.CountString", "internal/bytealg.MakeNoZero"], recurses := true, named := ["internal/bytealg.MaxLen", "unicode/utf8.first", "unicode/utf8.acceptRanges"], apart := false, laid := [("unicode/utf8.acceptRanges", laid_unicode_utf8_acceptRanges), ("unicode/utf8.first", laid_unicode_utf8_first)] }
def SexprRoundTripSaid : Prop := sexprRoundTripRow.holds Tryd.pinned (OpenSpec.ofChange sexprRoundTripSpec)

/-- ITS FALSE NEIGHBOUR: 'it returns false'. Refute it at one input. -/
def sexprRoundTripWrong : ChangeSpec := { name := "sexprRoundTrip", fn := fun _ => fun
  | [d] => { results := [.lit (.bool false)], args := [d] }
  | _ => none }
def SexprRoundTripWrongFalsely : Prop := sexprRoundTripRow.holds Tryd.pinned (OpenSpec.ofChange sexprRoundTripWrong)

/-- 'chcsolverlaw02.SexprValid': WHATEVER THE INPUT: true; the input reads as it did. -/
def sexprValidSpec : ChangeSpec := { name := "sexprValid", fn := fun _ => fun
  | [d1, d2, d3, d4, d5] => { results := [.lit (.bool true)], args := [d1, d2, d3, d4, d5] }
  | _ => none }
def sexprValidRow : OpenClaim := { program := "ytonenlplcidihaadoor", sum := "e767620fc081030e142d8609d4faf2db0775f0b4674a74bfd7ed92e9e702aaf3", func := "chcsolver/chcsolverlaw02.SexprValid", spec := "sexprValid", inPlace := ["internal/abi.NoEscape", "internal/bytealg.IndexByteString", "internal/bytealg.IndexString", "internal/bytealg.CountString", "internal/bytealg.MakeNoZero"], recurses := true, named := ["internal/bytealg.MaxLen", "unicode/utf8.first", "unicode/utf8.acceptRanges"], apart := false, laid := [("unicode/utf8.acceptRanges", laid_unicode_utf8_acceptRanges), ("unicode/utf8.first", laid_unicode_utf8_first)] }
def SexprValidSaid : Prop := sexprValidRow.holds Tryd.pinned (OpenSpec.ofChange sexprValidSpec)

/-- ITS FALSE NEIGHBOUR: 'it returns false'. Refute it at one input. -/
def sexprValidWrong : ChangeSpec := { name := "sexprValid", fn := fun _ => fun
  | [d1, d2, d3, d4, d5] => { results := [.lit (.bool false)], args := [d1, d2, d3, d4, d5] }
  | _ => none }
def SexprValidWrongFalsely : Prop := sexprValidRow.holds Tryd.pinned (OpenSpec.ofChange sexprValidWrong)

/- THE SECOND FORM. 'bulk': how many values and letters a reading holds, each counted each time it is reached (what is shared counts as often as it is met; a slice's spare places count too). A statement '..UptoSaid' is the law's where the arguments, and the package variables that the reading takes, are together of bulk at most 1048576: NARROWER than '..Said'. Prove '..Said' where nothing that the law and all that it calls make is longer than what came in: it says more and counts as full. Else prove '..UptoSaid'. A law counts once. -/
mutual
def uptoBulk {H : Type} : DataW H → Nat
  | .lit (.string bytes) => bytes.length + 1
  | .lit _ => 1
  | .nil => 1
  | .ptr d => uptoBulk d + 1
  | .slice elems spare => uptoBulkAll elems + uptoBulkAll spare + 1
  | .agg parts => uptoBulkAll parts + 1
  | .iface _ d => uptoBulk d + 1
  | .map entries => uptoBulkEntries entries + 1
  | .held _ => 1
def uptoBulkAll {H : Type} : List (DataW H) → Nat
  | [] => 0
  | d :: r => uptoBulk d + uptoBulkAll r
def uptoBulkEntries {H : Type} : List (Lit × DataW H) → Nat
  | [] => 0
  | x :: r => uptoBulkEntry x + uptoBulkEntries r
def uptoBulkEntry {H : Type} : Lit × DataW H → Nat
  | (.string bytes, d) => bytes.length + uptoBulk d + 1
  | (_, d) => uptoBulk d + 1
 end
def uptoSmall : (H : Type) → List (DataW H) → Bool := fun _ ds => decide (uptoBulkAll ds ≤ 1048576)
def OpenSpec.upto (s : _root_.Go.ChangeSpec) : _root_.Go.OpenSpec := { _root_.Go.OpenSpec.ofChange s with cond := some uptoSmall }

/-- 'chcsolverlaw02.SexprParse', WHERE WHAT IT READS IS OF BULK AT MOST 1048576: true; the input reads as it did. -/
def sexprParseUptoRow : OpenClaim := { program := "ytonenlplcidihaadoor", sum := "e767620fc081030e142d8609d4faf2db0775f0b4674a74bfd7ed92e9e702aaf3", func := "chcsolver/chcsolverlaw02.SexprParse", spec := "sexprParse", inPlace := ["internal/abi.NoEscape", "internal/bytealg.IndexByteString", "internal/bytealg.IndexString"], named := ["internal/bytealg.MaxLen", "unicode/utf8.first", "unicode/utf8.acceptRanges"], apart := false, laid := [("unicode/utf8.acceptRanges", laid_unicode_utf8_acceptRanges), ("unicode/utf8.first", laid_unicode_utf8_first)], narrowed := true }
def SexprParseUptoSaid : Prop := sexprParseUptoRow.holds Tryd.pinned (OpenSpec.upto sexprParseSpec)

/-- 'chcsolverlaw02.SexprSpoiled', WHERE WHAT IT READS IS OF BULK AT MOST 1048576: true; the input reads as it did. -/
def sexprSpoiledUptoRow : OpenClaim := { program := "ytonenlplcidihaadoor", sum := "e767620fc081030e142d8609d4faf2db0775f0b4674a74bfd7ed92e9e702aaf3", func := "chcsolver/chcsolverlaw02.SexprSpoiled", spec := "sexprSpoiled", inPlace := ["internal/abi.NoEscape", "internal/bytealg.IndexByteString", "internal/bytealg.IndexString"], recurses := true, named := ["internal/bytealg.MaxLen", "unicode/utf8.first", "unicode/utf8.acceptRanges"], apart := false, laid := [("unicode/utf8.acceptRanges", laid_unicode_utf8_acceptRanges), ("unicode/utf8.first", laid_unicode_utf8_first)], narrowed := true }
def SexprSpoiledUptoSaid : Prop := sexprSpoiledUptoRow.holds Tryd.pinned (OpenSpec.upto sexprSpoiledSpec)

/-- 'chcsolverlaw02.SexprPositions', WHERE WHAT IT READS IS OF BULK AT MOST 1048576: true; the input reads as it did. -/
def sexprPositionsUptoRow : OpenClaim := { program := "ytonenlplcidihaadoor", sum := "e767620fc081030e142d8609d4faf2db0775f0b4674a74bfd7ed92e9e702aaf3", func := "chcsolver/chcsolverlaw02.SexprPositions", spec := "sexprPositions", inPlace := ["internal/abi.NoEscape", "internal/bytealg.IndexByteString", "internal/bytealg.IndexString"], recurses := true, named := ["internal/bytealg.MaxLen", "unicode/utf8.first", "unicode/utf8.acceptRanges"], apart := false, laid := [("unicode/utf8.acceptRanges", laid_unicode_utf8_acceptRanges), ("unicode/utf8.first", laid_unicode_utf8_first)], narrowed := true }
def SexprPositionsUptoSaid : Prop := sexprPositionsUptoRow.holds Tryd.pinned (OpenSpec.upto sexprPositionsSpec)

/-- 'chcsolverlaw02.SexprConcat', WHERE WHAT IT READS IS OF BULK AT MOST 1048576: true; the input reads as it did. -/
def sexprConcatUptoRow : OpenClaim := { program := "ytonenlplcidihaadoor", sum := "e767620fc081030e142d8609d4faf2db0775f0b4674a74bfd7ed92e9e702aaf3", func := "chcsolver/chcsolverlaw02.SexprConcat", spec := "sexprConcat", inPlace := ["internal/abi.NoEscape", "internal/bytealg.IndexByteString", "internal/bytealg.IndexString"], recurses := true, named := ["internal/bytealg.MaxLen", "unicode/utf8.first", "unicode/utf8.acceptRanges"], apart := false, laid := [("unicode/utf8.acceptRanges", laid_unicode_utf8_acceptRanges), ("unicode/utf8.first", laid_unicode_utf8_first)], narrowed := true }
def SexprConcatUptoSaid : Prop := sexprConcatUptoRow.holds Tryd.pinned (OpenSpec.upto sexprConcatSpec)

/-- 'chcsolverlaw02.SexprDepth', WHERE WHAT IT READS IS OF BULK AT MOST 1048576: true; the input reads as it did. -/
def sexprDepthUptoRow : OpenClaim := { program := "ytonenlplcidihaadoor", sum := "e767620fc081030e142d8609d4faf2db0775f0b4674a74bfd7ed92e9e702aaf3", func := "chcsolver/chcsolverlaw02.SexprDepth", spec := "sexprDepth", inPlace := ["internal/abi.NoEscape", "internal/bytealg.IndexByteString", "internal/bytealg.IndexString"], named := ["internal/bytealg.MaxLen", "unicode/utf8.first", "unicode/utf8.acceptRanges"], apart := false, laid := [("unicode/utf8.acceptRanges", laid_unicode_utf8_acceptRanges), ("unicode/utf8.first", laid_unicode_utf8_first)], narrowed := true }
def SexprDepthUptoSaid : Prop := sexprDepthUptoRow.holds Tryd.pinned (OpenSpec.upto sexprDepthSpec)

/-- 'chcsolverlaw02.SexprStructure', WHERE WHAT IT READS IS OF BULK AT MOST 1048576: true; the input reads as it did. -/
def sexprStructureUptoRow : OpenClaim := { program := "ytonenlplcidihaadoor", sum := "e767620fc081030e142d8609d4faf2db0775f0b4674a74bfd7ed92e9e702aaf3", func := "chcsolver/chcsolverlaw02.SexprStructure", spec := "sexprStructure", inPlace := ["internal/bytealg.IndexByteString", "internal/bytealg.IndexString", "internal/abi.NoEscape"], recurses := true, named := ["internal/bytealg.MaxLen", "unicode/utf8.first", "unicode/utf8.acceptRanges"], apart := false, laid := [("unicode/utf8.acceptRanges", laid_unicode_utf8_acceptRanges), ("unicode/utf8.first", laid_unicode_utf8_first)], narrowed := true }
def SexprStructureUptoSaid : Prop := sexprStructureUptoRow.holds Tryd.pinned (OpenSpec.upto sexprStructureSpec)

/-- 'chcsolverlaw02.SexprRoundTrip', WHERE WHAT IT READS IS OF BULK AT MOST 1048576: true; the input reads as it did. -/
def sexprRoundTripUptoRow : OpenClaim := { program := "ytonenlplcidihaadoor", sum := "e767620fc081030e142d8609d4faf2db0775f0b4674a74bfd7ed92e9e702aaf3", func := "chcsolver/chcsolverlaw02.SexprRoundTrip", spec := "sexprRoundTrip", inPlace := ["internal/bytealg.IndexByteString", "internal/bytealg.IndexString", "internal/abi.NoEscape", "internal/bytealg.CountString", "internal/bytealg.MakeNoZero"], recurses := true, named := ["internal/bytealg.MaxLen", "unicode/utf8.first", "unicode/utf8.acceptRanges"], apart := false, laid := [("unicode/utf8.acceptRanges", laid_unicode_utf8_acceptRanges), ("unicode/utf8.first", laid_unicode_utf8_first)], narrowed := true }
def SexprRoundTripUptoSaid : Prop := sexprRoundTripUptoRow.holds Tryd.pinned (OpenSpec.upto sexprRoundTripSpec)

/-- 'chcsolverlaw02.SexprValid', WHERE WHAT IT READS IS OF BULK AT MOST 1048576: true; the input reads as it did. -/
def sexprValidUptoRow : OpenClaim := { program := "ytonenlplcidihaadoor", sum := "e767620fc081030e142d8609d4faf2db0775f0b4674a74bfd7ed92e9e702aaf3", func := "chcsolver/chcsolverlaw02.SexprValid", spec := "sexprValid", inPlace := ["internal/abi.NoEscape", "internal/bytealg.IndexByteString", "internal/bytealg.IndexString", "internal/bytealg.CountString", "internal/bytealg.MakeNoZero"], recurses := true, named := ["internal/bytealg.MaxLen", "unicode/utf8.first", "unicode/utf8.acceptRanges"], apart := false, laid := [("unicode/utf8.acceptRanges", laid_unicode_utf8_acceptRanges), ("unicode/utf8.first", laid_unicode_utf8_first)], narrowed := true }
def SexprValidUptoSaid : Prop := sexprValidUptoRow.holds Tryd.pinned (OpenSpec.upto sexprValidSpec)

end Rows
end Go.Proofs.YtonenlplcidihaaDoor
