/-
  NARROWER THAN 'FOR EVERY INPUT', by the rows' own cells (each row's printed sentence says how): SimplexHoldsMatchesSpec: laid · SimplexCheckMatchesSpec: laid · SimplexAnswers: laid · SimplexComplete: laid · SimplexMaximizes: laid · SimplexMaxBounds: laid · SimplexImplies: laid · SimplexImpliesHolds: laid · SimplexScales: laid · CutsRelaxed: laid · CutsTightenKeeps: laid · CutsTightenMatchesSpec: laid · CutsCheckMatchesSpec: laid · CutsAnswers: laid · CutsSound: laid · CutsMonotone: laid · CutsBounded: laid.
  DERIVED. THE GIVEN ROWS OF THIS SEAT. 17 by the template 'for every input the law returns true; each argument reads behind the call as it read before'; 0 by the template 'total and deterministic' (their statements: YtoaiappkhcjagaaGreatDoorTotals.lean).
  GIVEN WITH THE SEED: the statements are not yours to turn. If you find one false, say at which input.
  Laid BY PROGRAM, IN A SANDBOX (cutbox-rows.mjs): the forced cells as the released guide's own fill.sh prints them over the translation ebc6ca4e7531d1d8… (all of the seat's roots in one cut). By AI agents, Wed Nov 11 2026. No macro, syntax, notation, axiom, sorry.
-/
import Derived.Test.YtoaiappkhcjagaaGreatDoorChecked
import GoSem.Claim
import GoSem.ClaimJoined
import GoSem.ClaimMapViews
import Derived.JoinedTies
import Derived.KernelRfl
namespace Go.Proofs.YtoaiappkhcjagaaGreatDoor
/- THE CELL 'sum', in the pinned program and in every row, IS THE sha256 OF THE DUMP (.gsa) THAT YtoaiappkhcjagaaGreatDoorProg.lean LOADS. Nothing in Lean hashes anything: it is a label: what it is worth is what the hold of that sum in a sandbox is worth. -/
noncomputable def Tryz.pinned : Pinned := { name := "ytoaiappkhcjagaagreatdoor", sum := "ebc6ca4e7531d1d87405ce207608d442e36adc57219373f6b70e4b30afb13412", checked := Tryz.checked }
namespace Rows
def none {H : Type} : Left H := { results := [], args := [] }

/- WHAT THE LISTED PACKAGE-LEVEL VARIABLES READ AS WHEN THE CALL BEGINS. Each datum BY PROGRAM (the guide's laid-datum.mjs) off the statement by which the dump's own 'gosem.cut.vars' lays the variable. In a bare row this is a premise. The card (YtoaiappkhcjagaaGreatDoorCards.lean) ties it to the program's text. -/
def laid_math_bits_deBruijn32tab {H : Type} : DataW H := .agg [.lit (.int .u8 0), .lit (.int .u8 1), .lit (.int .u8 28), .lit (.int .u8 2), .lit (.int .u8 29), .lit (.int .u8 14), .lit (.int .u8 24), .lit (.int .u8 3), .lit (.int .u8 30), .lit (.int .u8 22), .lit (.int .u8 20), .lit (.int .u8 15), .lit (.int .u8 25), .lit (.int .u8 17), .lit (.int .u8 4), .lit (.int .u8 8), .lit (.int .u8 31), .lit (.int .u8 27), .lit (.int .u8 13), .lit (.int .u8 23), .lit (.int .u8 21), .lit (.int .u8 19), .lit (.int .u8 16), .lit (.int .u8 7), .lit (.int .u8 26), .lit (.int .u8 12), .lit (.int .u8 18), .lit (.int .u8 6), .lit (.int .u8 11), .lit (.int .u8 5), .lit (.int .u8 10), .lit (.int .u8 9)]
def laid_math_bits_deBruijn64tab {H : Type} : DataW H := .agg [.lit (.int .u8 0), .lit (.int .u8 1), .lit (.int .u8 56), .lit (.int .u8 2), .lit (.int .u8 57), .lit (.int .u8 49), .lit (.int .u8 28), .lit (.int .u8 3), .lit (.int .u8 61), .lit (.int .u8 58), .lit (.int .u8 42), .lit (.int .u8 50), .lit (.int .u8 38), .lit (.int .u8 29), .lit (.int .u8 17), .lit (.int .u8 4), .lit (.int .u8 62), .lit (.int .u8 47), .lit (.int .u8 59), .lit (.int .u8 36), .lit (.int .u8 45), .lit (.int .u8 43), .lit (.int .u8 51), .lit (.int .u8 22), .lit (.int .u8 53), .lit (.int .u8 39), .lit (.int .u8 33), .lit (.int .u8 30), .lit (.int .u8 24), .lit (.int .u8 18), .lit (.int .u8 12), .lit (.int .u8 5), .lit (.int .u8 63), .lit (.int .u8 55), .lit (.int .u8 48), .lit (.int .u8 27), .lit (.int .u8 60), .lit (.int .u8 41), .lit (.int .u8 37), .lit (.int .u8 16), .lit (.int .u8 46), .lit (.int .u8 35), .lit (.int .u8 44), .lit (.int .u8 21), .lit (.int .u8 52), .lit (.int .u8 32), .lit (.int .u8 23), .lit (.int .u8 11), .lit (.int .u8 54), .lit (.int .u8 26), .lit (.int .u8 40), .lit (.int .u8 15), .lit (.int .u8 34), .lit (.int .u8 20), .lit (.int .u8 31), .lit (.int .u8 10), .lit (.int .u8 25), .lit (.int .u8 14), .lit (.int .u8 19), .lit (.int .u8 9), .lit (.int .u8 13), .lit (.int .u8 8), .lit (.int .u8 7), .lit (.int .u8 6)]
def laid_internal_strconv_uint64pow10 {H : Type} : DataW H := .agg [.lit (.int .u64 1), .lit (.int .u64 10), .lit (.int .u64 100), .lit (.int .u64 1000), .lit (.int .u64 10000), .lit (.int .u64 100000), .lit (.int .u64 1000000), .lit (.int .u64 10000000), .lit (.int .u64 100000000), .lit (.int .u64 1000000000), .lit (.int .u64 10000000000), .lit (.int .u64 100000000000), .lit (.int .u64 1000000000000), .lit (.int .u64 10000000000000), .lit (.int .u64 100000000000000), .lit (.int .u64 1000000000000000), .lit (.int .u64 10000000000000000), .lit (.int .u64 100000000000000000), .lit (.int .u64 1000000000000000000), .lit (.int .u64 10000000000000000000)]
def laid_strconv_ErrRange {H : Type} : DataW H := .iface "*errors.errorString" (.ptr (.agg [.lit (.string [118, 97, 108, 117, 101, 32, 111, 117, 116, 32, 111, 102, 32, 114, 97, 110, 103, 101])]))
def laid_strconv_ErrSyntax {H : Type} : DataW H := .iface "*errors.errorString" (.ptr (.agg [.lit (.string [105, 110, 118, 97, 108, 105, 100, 32, 115, 121, 110, 116, 97, 120])]))

/-- 'chcsolverlaw27.SimplexHoldsMatchesSpec': WHATEVER THE INPUT: true; the input reads as it did. -/
def simplexHoldsMatchesSpecSpec : ChangeSpec := { name := "simplexHoldsMatchesSpec", fn := fun _ => fun
  | [d1, d2] => { results := [.lit (.bool true)], args := [d1, d2] }
  | _ => none }
def simplexHoldsMatchesSpecRow : OpenClaim := { program := "ytoaiappkhcjagaagreatdoor", sum := "ebc6ca4e7531d1d87405ce207608d442e36adc57219373f6b70e4b30afb13412", func := "chcsolver/chcsolverlaw27.SimplexHoldsMatchesSpec", spec := "simplexHoldsMatchesSpec", inPlace := ["internal/bytealg.IndexByteString", "internal/bytealg.IndexString", "internal/abi.NoEscape"], unfollowed := true, recurses := true, named := ["internal/bytealg.MaxLen", "strconv.ErrSyntax", "strconv.ErrRange", "internal/strconv.uint64pow10", "math/bits.deBruijn32tab", "math/bits.deBruijn64tab"], apart := false, laid := [("math/bits.deBruijn32tab", laid_math_bits_deBruijn32tab), ("math/bits.deBruijn64tab", laid_math_bits_deBruijn64tab), ("internal/strconv.uint64pow10", laid_internal_strconv_uint64pow10), ("strconv.ErrRange", laid_strconv_ErrRange), ("strconv.ErrSyntax", laid_strconv_ErrSyntax)] }
def SimplexHoldsMatchesSpecSaid : Prop := simplexHoldsMatchesSpecRow.holds Tryz.pinned (OpenSpec.ofChange simplexHoldsMatchesSpecSpec)

/-- ITS FALSE NEIGHBOUR: 'it returns false'. Refute it at one input. -/
def simplexHoldsMatchesSpecWrong : ChangeSpec := { name := "simplexHoldsMatchesSpec", fn := fun _ => fun
  | [d1, d2] => { results := [.lit (.bool false)], args := [d1, d2] }
  | _ => none }
def SimplexHoldsMatchesSpecWrongFalsely : Prop := simplexHoldsMatchesSpecRow.holds Tryz.pinned (OpenSpec.ofChange simplexHoldsMatchesSpecWrong)

/-- 'chcsolverlaw27.SimplexCheckMatchesSpec': WHATEVER THE INPUT: true; the input reads as it did. -/
def simplexCheckMatchesSpecSpec : ChangeSpec := { name := "simplexCheckMatchesSpec", fn := fun _ => fun
  | [d1, d2, d3] => { results := [.lit (.bool true)], args := [d1, d2, d3] }
  | _ => none }
def simplexCheckMatchesSpecRow : OpenClaim := { program := "ytoaiappkhcjagaagreatdoor", sum := "ebc6ca4e7531d1d87405ce207608d442e36adc57219373f6b70e4b30afb13412", func := "chcsolver/chcsolverlaw27.SimplexCheckMatchesSpec", spec := "simplexCheckMatchesSpec", inPlace := ["internal/bytealg.IndexByteString", "internal/bytealg.IndexString", "internal/abi.NoEscape"], unfollowed := true, recurses := true, named := ["internal/bytealg.MaxLen", "strconv.ErrSyntax", "strconv.ErrRange", "internal/strconv.uint64pow10", "math/bits.deBruijn32tab", "math/bits.deBruijn64tab"], apart := false, laid := [("math/bits.deBruijn32tab", laid_math_bits_deBruijn32tab), ("math/bits.deBruijn64tab", laid_math_bits_deBruijn64tab), ("internal/strconv.uint64pow10", laid_internal_strconv_uint64pow10), ("strconv.ErrRange", laid_strconv_ErrRange), ("strconv.ErrSyntax", laid_strconv_ErrSyntax)] }
def SimplexCheckMatchesSpecSaid : Prop := simplexCheckMatchesSpecRow.holds Tryz.pinned (OpenSpec.ofChange simplexCheckMatchesSpecSpec)

/-- ITS FALSE NEIGHBOUR: 'it returns false'. Refute it at one input. -/
def simplexCheckMatchesSpecWrong : ChangeSpec := { name := "simplexCheckMatchesSpec", fn := fun _ => fun
  | [d1, d2, d3] => { results := [.lit (.bool false)], args := [d1, d2, d3] }
  | _ => none }
def SimplexCheckMatchesSpecWrongFalsely : Prop := simplexCheckMatchesSpecRow.holds Tryz.pinned (OpenSpec.ofChange simplexCheckMatchesSpecWrong)

/-- 'chcsolverlaw27.SimplexAnswers': WHATEVER THE INPUT: true; the input reads as it did. -/
def simplexAnswersSpec : ChangeSpec := { name := "simplexAnswers", fn := fun _ => fun
  | [d1, d2] => { results := [.lit (.bool true)], args := [d1, d2] }
  | _ => none }
def simplexAnswersRow : OpenClaim := { program := "ytoaiappkhcjagaagreatdoor", sum := "ebc6ca4e7531d1d87405ce207608d442e36adc57219373f6b70e4b30afb13412", func := "chcsolver/chcsolverlaw27.SimplexAnswers", spec := "simplexAnswers", inPlace := ["internal/bytealg.IndexByteString", "internal/bytealg.IndexString", "internal/abi.NoEscape"], unfollowed := true, recurses := true, named := ["internal/bytealg.MaxLen", "strconv.ErrSyntax", "strconv.ErrRange", "internal/strconv.uint64pow10", "math/bits.deBruijn32tab", "math/bits.deBruijn64tab"], apart := false, laid := [("math/bits.deBruijn32tab", laid_math_bits_deBruijn32tab), ("math/bits.deBruijn64tab", laid_math_bits_deBruijn64tab), ("internal/strconv.uint64pow10", laid_internal_strconv_uint64pow10), ("strconv.ErrRange", laid_strconv_ErrRange), ("strconv.ErrSyntax", laid_strconv_ErrSyntax)] }
def SimplexAnswersSaid : Prop := simplexAnswersRow.holds Tryz.pinned (OpenSpec.ofChange simplexAnswersSpec)

/-- ITS FALSE NEIGHBOUR: 'it returns false'. Refute it at one input. -/
def simplexAnswersWrong : ChangeSpec := { name := "simplexAnswers", fn := fun _ => fun
  | [d1, d2] => { results := [.lit (.bool false)], args := [d1, d2] }
  | _ => none }
def SimplexAnswersWrongFalsely : Prop := simplexAnswersRow.holds Tryz.pinned (OpenSpec.ofChange simplexAnswersWrong)

/-- 'chcsolverlaw27.SimplexComplete': WHATEVER THE INPUT: true; the input reads as it did. -/
def simplexCompleteSpec : ChangeSpec := { name := "simplexComplete", fn := fun _ => fun
  | [d1, d2, d3, d4] => { results := [.lit (.bool true)], args := [d1, d2, d3, d4] }
  | _ => none }
def simplexCompleteRow : OpenClaim := { program := "ytoaiappkhcjagaagreatdoor", sum := "ebc6ca4e7531d1d87405ce207608d442e36adc57219373f6b70e4b30afb13412", func := "chcsolver/chcsolverlaw27.SimplexComplete", spec := "simplexComplete", inPlace := ["internal/bytealg.IndexByteString", "internal/bytealg.IndexString", "internal/abi.NoEscape"], unfollowed := true, recurses := true, named := ["internal/bytealg.MaxLen", "strconv.ErrSyntax", "strconv.ErrRange", "internal/strconv.uint64pow10", "math/bits.deBruijn32tab", "math/bits.deBruijn64tab"], apart := false, laid := [("math/bits.deBruijn32tab", laid_math_bits_deBruijn32tab), ("math/bits.deBruijn64tab", laid_math_bits_deBruijn64tab), ("internal/strconv.uint64pow10", laid_internal_strconv_uint64pow10), ("strconv.ErrRange", laid_strconv_ErrRange), ("strconv.ErrSyntax", laid_strconv_ErrSyntax)] }
def SimplexCompleteSaid : Prop := simplexCompleteRow.holds Tryz.pinned (OpenSpec.ofChange simplexCompleteSpec)

/-- ITS FALSE NEIGHBOUR: 'it returns false'. Refute it at one input. -/
def simplexCompleteWrong : ChangeSpec := { name := "simplexComplete", fn := fun _ => fun
  | [d1, d2, d3, d4] => { results := [.lit (.bool false)], args := [d1, d2, d3, d4] }
  | _ => none }
def SimplexCompleteWrongFalsely : Prop := simplexCompleteRow.holds Tryz.pinned (OpenSpec.ofChange simplexCompleteWrong)

/-- 'chcsolverlaw27.SimplexMaximizes': WHATEVER THE INPUT: true; the input reads as it did. -/
def simplexMaximizesSpec : ChangeSpec := { name := "simplexMaximizes", fn := fun _ => fun
  | [d1, d2, d3] => { results := [.lit (.bool true)], args := [d1, d2, d3] }
  | _ => none }
def simplexMaximizesRow : OpenClaim := { program := "ytoaiappkhcjagaagreatdoor", sum := "ebc6ca4e7531d1d87405ce207608d442e36adc57219373f6b70e4b30afb13412", func := "chcsolver/chcsolverlaw27.SimplexMaximizes", spec := "simplexMaximizes", inPlace := ["internal/bytealg.IndexByteString", "internal/bytealg.IndexString", "internal/abi.NoEscape"], unfollowed := true, recurses := true, named := ["internal/bytealg.MaxLen", "strconv.ErrSyntax", "strconv.ErrRange", "internal/strconv.uint64pow10", "math/bits.deBruijn32tab", "math/bits.deBruijn64tab"], apart := false, laid := [("math/bits.deBruijn32tab", laid_math_bits_deBruijn32tab), ("math/bits.deBruijn64tab", laid_math_bits_deBruijn64tab), ("internal/strconv.uint64pow10", laid_internal_strconv_uint64pow10), ("strconv.ErrRange", laid_strconv_ErrRange), ("strconv.ErrSyntax", laid_strconv_ErrSyntax)] }
def SimplexMaximizesSaid : Prop := simplexMaximizesRow.holds Tryz.pinned (OpenSpec.ofChange simplexMaximizesSpec)

/-- ITS FALSE NEIGHBOUR: 'it returns false'. Refute it at one input. -/
def simplexMaximizesWrong : ChangeSpec := { name := "simplexMaximizes", fn := fun _ => fun
  | [d1, d2, d3] => { results := [.lit (.bool false)], args := [d1, d2, d3] }
  | _ => none }
def SimplexMaximizesWrongFalsely : Prop := simplexMaximizesRow.holds Tryz.pinned (OpenSpec.ofChange simplexMaximizesWrong)

/-- 'chcsolverlaw27.SimplexMaxBounds': WHATEVER THE INPUT: true; the input reads as it did. -/
def simplexMaxBoundsSpec : ChangeSpec := { name := "simplexMaxBounds", fn := fun _ => fun
  | [d1, d2, d3, d4] => { results := [.lit (.bool true)], args := [d1, d2, d3, d4] }
  | _ => none }
def simplexMaxBoundsRow : OpenClaim := { program := "ytoaiappkhcjagaagreatdoor", sum := "ebc6ca4e7531d1d87405ce207608d442e36adc57219373f6b70e4b30afb13412", func := "chcsolver/chcsolverlaw27.SimplexMaxBounds", spec := "simplexMaxBounds", inPlace := ["internal/bytealg.IndexByteString", "internal/bytealg.IndexString", "internal/abi.NoEscape"], unfollowed := true, recurses := true, named := ["internal/bytealg.MaxLen", "strconv.ErrSyntax", "strconv.ErrRange", "internal/strconv.uint64pow10", "math/bits.deBruijn32tab", "math/bits.deBruijn64tab"], apart := false, laid := [("math/bits.deBruijn32tab", laid_math_bits_deBruijn32tab), ("math/bits.deBruijn64tab", laid_math_bits_deBruijn64tab), ("internal/strconv.uint64pow10", laid_internal_strconv_uint64pow10), ("strconv.ErrRange", laid_strconv_ErrRange), ("strconv.ErrSyntax", laid_strconv_ErrSyntax)] }
def SimplexMaxBoundsSaid : Prop := simplexMaxBoundsRow.holds Tryz.pinned (OpenSpec.ofChange simplexMaxBoundsSpec)

/-- ITS FALSE NEIGHBOUR: 'it returns false'. Refute it at one input. -/
def simplexMaxBoundsWrong : ChangeSpec := { name := "simplexMaxBounds", fn := fun _ => fun
  | [d1, d2, d3, d4] => { results := [.lit (.bool false)], args := [d1, d2, d3, d4] }
  | _ => none }
def SimplexMaxBoundsWrongFalsely : Prop := simplexMaxBoundsRow.holds Tryz.pinned (OpenSpec.ofChange simplexMaxBoundsWrong)

/-- 'chcsolverlaw27.SimplexImplies': WHATEVER THE INPUT: true; the input reads as it did. -/
def simplexImpliesSpec : ChangeSpec := { name := "simplexImplies", fn := fun _ => fun
  | [d1, d2, d3] => { results := [.lit (.bool true)], args := [d1, d2, d3] }
  | _ => none }
def simplexImpliesRow : OpenClaim := { program := "ytoaiappkhcjagaagreatdoor", sum := "ebc6ca4e7531d1d87405ce207608d442e36adc57219373f6b70e4b30afb13412", func := "chcsolver/chcsolverlaw27.SimplexImplies", spec := "simplexImplies", inPlace := ["internal/bytealg.IndexByteString", "internal/bytealg.IndexString", "internal/abi.NoEscape"], unfollowed := true, recurses := true, named := ["internal/bytealg.MaxLen", "strconv.ErrSyntax", "strconv.ErrRange", "internal/strconv.uint64pow10", "math/bits.deBruijn32tab", "math/bits.deBruijn64tab"], apart := false, laid := [("math/bits.deBruijn32tab", laid_math_bits_deBruijn32tab), ("math/bits.deBruijn64tab", laid_math_bits_deBruijn64tab), ("internal/strconv.uint64pow10", laid_internal_strconv_uint64pow10), ("strconv.ErrRange", laid_strconv_ErrRange), ("strconv.ErrSyntax", laid_strconv_ErrSyntax)] }
def SimplexImpliesSaid : Prop := simplexImpliesRow.holds Tryz.pinned (OpenSpec.ofChange simplexImpliesSpec)

/-- ITS FALSE NEIGHBOUR: 'it returns false'. Refute it at one input. -/
def simplexImpliesWrong : ChangeSpec := { name := "simplexImplies", fn := fun _ => fun
  | [d1, d2, d3] => { results := [.lit (.bool false)], args := [d1, d2, d3] }
  | _ => none }
def SimplexImpliesWrongFalsely : Prop := simplexImpliesRow.holds Tryz.pinned (OpenSpec.ofChange simplexImpliesWrong)

/-- 'chcsolverlaw27.SimplexImpliesHolds': WHATEVER THE INPUT: true; the input reads as it did. -/
def simplexImpliesHoldsSpec : ChangeSpec := { name := "simplexImpliesHolds", fn := fun _ => fun
  | [d1, d2, d3, d4] => { results := [.lit (.bool true)], args := [d1, d2, d3, d4] }
  | _ => none }
def simplexImpliesHoldsRow : OpenClaim := { program := "ytoaiappkhcjagaagreatdoor", sum := "ebc6ca4e7531d1d87405ce207608d442e36adc57219373f6b70e4b30afb13412", func := "chcsolver/chcsolverlaw27.SimplexImpliesHolds", spec := "simplexImpliesHolds", inPlace := ["internal/bytealg.IndexByteString", "internal/bytealg.IndexString", "internal/abi.NoEscape"], unfollowed := true, recurses := true, named := ["internal/bytealg.MaxLen", "strconv.ErrSyntax", "strconv.ErrRange", "internal/strconv.uint64pow10", "math/bits.deBruijn32tab", "math/bits.deBruijn64tab"], apart := false, laid := [("math/bits.deBruijn32tab", laid_math_bits_deBruijn32tab), ("math/bits.deBruijn64tab", laid_math_bits_deBruijn64tab), ("internal/strconv.uint64pow10", laid_internal_strconv_uint64pow10), ("strconv.ErrRange", laid_strconv_ErrRange), ("strconv.ErrSyntax", laid_strconv_ErrSyntax)] }
def SimplexImpliesHoldsSaid : Prop := simplexImpliesHoldsRow.holds Tryz.pinned (OpenSpec.ofChange simplexImpliesHoldsSpec)

/-- ITS FALSE NEIGHBOUR: 'it returns false'. Refute it at one input. -/
def simplexImpliesHoldsWrong : ChangeSpec := { name := "simplexImpliesHolds", fn := fun _ => fun
  | [d1, d2, d3, d4] => { results := [.lit (.bool false)], args := [d1, d2, d3, d4] }
  | _ => none }
def SimplexImpliesHoldsWrongFalsely : Prop := simplexImpliesHoldsRow.holds Tryz.pinned (OpenSpec.ofChange simplexImpliesHoldsWrong)

/-- 'chcsolverlaw27.SimplexScales': WHATEVER THE INPUT: true; the input reads as it did. -/
def simplexScalesSpec : ChangeSpec := { name := "simplexScales", fn := fun _ => fun
  | [d1, d2, d3] => { results := [.lit (.bool true)], args := [d1, d2, d3] }
  | _ => none }
def simplexScalesRow : OpenClaim := { program := "ytoaiappkhcjagaagreatdoor", sum := "ebc6ca4e7531d1d87405ce207608d442e36adc57219373f6b70e4b30afb13412", func := "chcsolver/chcsolverlaw27.SimplexScales", spec := "simplexScales", inPlace := ["internal/bytealg.IndexByteString", "internal/bytealg.IndexString", "internal/abi.NoEscape"], unfollowed := true, recurses := true, named := ["internal/bytealg.MaxLen", "strconv.ErrSyntax", "strconv.ErrRange", "internal/strconv.uint64pow10", "math/bits.deBruijn32tab", "math/bits.deBruijn64tab"], apart := false, laid := [("math/bits.deBruijn32tab", laid_math_bits_deBruijn32tab), ("math/bits.deBruijn64tab", laid_math_bits_deBruijn64tab), ("internal/strconv.uint64pow10", laid_internal_strconv_uint64pow10), ("strconv.ErrRange", laid_strconv_ErrRange), ("strconv.ErrSyntax", laid_strconv_ErrSyntax)] }
def SimplexScalesSaid : Prop := simplexScalesRow.holds Tryz.pinned (OpenSpec.ofChange simplexScalesSpec)

/-- ITS FALSE NEIGHBOUR: 'it returns false'. Refute it at one input. -/
def simplexScalesWrong : ChangeSpec := { name := "simplexScales", fn := fun _ => fun
  | [d1, d2, d3] => { results := [.lit (.bool false)], args := [d1, d2, d3] }
  | _ => none }
def SimplexScalesWrongFalsely : Prop := simplexScalesRow.holds Tryz.pinned (OpenSpec.ofChange simplexScalesWrong)

/-- 'chcsolverlaw28.CutsRelaxed': WHATEVER THE INPUT: true; the input reads as it did. -/
def cutsRelaxedSpec : ChangeSpec := { name := "cutsRelaxed", fn := fun _ => fun
  | [d1, d2, d3, d4] => { results := [.lit (.bool true)], args := [d1, d2, d3, d4] }
  | _ => none }
def cutsRelaxedRow : OpenClaim := { program := "ytoaiappkhcjagaagreatdoor", sum := "ebc6ca4e7531d1d87405ce207608d442e36adc57219373f6b70e4b30afb13412", func := "chcsolver/chcsolverlaw28.CutsRelaxed", spec := "cutsRelaxed", inPlace := ["internal/bytealg.IndexByteString", "internal/bytealg.IndexString", "internal/abi.NoEscape"], unfollowed := true, recurses := true, named := ["internal/bytealg.MaxLen", "strconv.ErrSyntax", "strconv.ErrRange", "internal/strconv.uint64pow10", "math/bits.deBruijn32tab", "math/bits.deBruijn64tab"], apart := false, laid := [("math/bits.deBruijn32tab", laid_math_bits_deBruijn32tab), ("math/bits.deBruijn64tab", laid_math_bits_deBruijn64tab), ("internal/strconv.uint64pow10", laid_internal_strconv_uint64pow10), ("strconv.ErrRange", laid_strconv_ErrRange), ("strconv.ErrSyntax", laid_strconv_ErrSyntax)] }
def CutsRelaxedSaid : Prop := cutsRelaxedRow.holds Tryz.pinned (OpenSpec.ofChange cutsRelaxedSpec)

/-- ITS FALSE NEIGHBOUR: 'it returns false'. Refute it at one input. -/
def cutsRelaxedWrong : ChangeSpec := { name := "cutsRelaxed", fn := fun _ => fun
  | [d1, d2, d3, d4] => { results := [.lit (.bool false)], args := [d1, d2, d3, d4] }
  | _ => none }
def CutsRelaxedWrongFalsely : Prop := cutsRelaxedRow.holds Tryz.pinned (OpenSpec.ofChange cutsRelaxedWrong)

/-- 'chcsolverlaw28.CutsTightenKeeps': WHATEVER THE INPUT: true; the input reads as it did. -/
def cutsTightenKeepsSpec : ChangeSpec := { name := "cutsTightenKeeps", fn := fun _ => fun
  | [d1, d2] => { results := [.lit (.bool true)], args := [d1, d2] }
  | _ => none }
def cutsTightenKeepsRow : OpenClaim := { program := "ytoaiappkhcjagaagreatdoor", sum := "ebc6ca4e7531d1d87405ce207608d442e36adc57219373f6b70e4b30afb13412", func := "chcsolver/chcsolverlaw28.CutsTightenKeeps", spec := "cutsTightenKeeps", inPlace := ["internal/bytealg.IndexByteString", "internal/bytealg.IndexString", "internal/abi.NoEscape"], unfollowed := true, recurses := true, named := ["internal/bytealg.MaxLen", "strconv.ErrSyntax", "strconv.ErrRange", "internal/strconv.uint64pow10", "math/bits.deBruijn32tab", "math/bits.deBruijn64tab"], apart := false, laid := [("math/bits.deBruijn32tab", laid_math_bits_deBruijn32tab), ("math/bits.deBruijn64tab", laid_math_bits_deBruijn64tab), ("internal/strconv.uint64pow10", laid_internal_strconv_uint64pow10), ("strconv.ErrRange", laid_strconv_ErrRange), ("strconv.ErrSyntax", laid_strconv_ErrSyntax)] }
def CutsTightenKeepsSaid : Prop := cutsTightenKeepsRow.holds Tryz.pinned (OpenSpec.ofChange cutsTightenKeepsSpec)

/-- ITS FALSE NEIGHBOUR: 'it returns false'. Refute it at one input. -/
def cutsTightenKeepsWrong : ChangeSpec := { name := "cutsTightenKeeps", fn := fun _ => fun
  | [d1, d2] => { results := [.lit (.bool false)], args := [d1, d2] }
  | _ => none }
def CutsTightenKeepsWrongFalsely : Prop := cutsTightenKeepsRow.holds Tryz.pinned (OpenSpec.ofChange cutsTightenKeepsWrong)

/-- 'chcsolverlaw28.CutsTightenMatchesSpec': WHATEVER THE INPUT: true; the input reads as it did. -/
def cutsTightenMatchesSpecSpec : ChangeSpec := { name := "cutsTightenMatchesSpec", fn := fun _ => fun
  | [d] => { results := [.lit (.bool true)], args := [d] }
  | _ => none }
def cutsTightenMatchesSpecRow : OpenClaim := { program := "ytoaiappkhcjagaagreatdoor", sum := "ebc6ca4e7531d1d87405ce207608d442e36adc57219373f6b70e4b30afb13412", func := "chcsolver/chcsolverlaw28.CutsTightenMatchesSpec", spec := "cutsTightenMatchesSpec", inPlace := ["internal/bytealg.IndexByteString", "internal/bytealg.IndexString", "internal/abi.NoEscape"], unfollowed := true, recurses := true, named := ["internal/bytealg.MaxLen", "strconv.ErrSyntax", "strconv.ErrRange", "internal/strconv.uint64pow10", "math/bits.deBruijn32tab", "math/bits.deBruijn64tab"], apart := false, laid := [("math/bits.deBruijn32tab", laid_math_bits_deBruijn32tab), ("math/bits.deBruijn64tab", laid_math_bits_deBruijn64tab), ("internal/strconv.uint64pow10", laid_internal_strconv_uint64pow10), ("strconv.ErrRange", laid_strconv_ErrRange), ("strconv.ErrSyntax", laid_strconv_ErrSyntax)] }
def CutsTightenMatchesSpecSaid : Prop := cutsTightenMatchesSpecRow.holds Tryz.pinned (OpenSpec.ofChange cutsTightenMatchesSpecSpec)

/-- ITS FALSE NEIGHBOUR: 'it returns false'. Refute it at one input. -/
def cutsTightenMatchesSpecWrong : ChangeSpec := { name := "cutsTightenMatchesSpec", fn := fun _ => fun
  | [d] => { results := [.lit (.bool false)], args := [d] }
  | _ => none }
def CutsTightenMatchesSpecWrongFalsely : Prop := cutsTightenMatchesSpecRow.holds Tryz.pinned (OpenSpec.ofChange cutsTightenMatchesSpecWrong)

/-- 'chcsolverlaw28.CutsCheckMatchesSpec': WHATEVER THE INPUT: true; the input reads as it did. -/
def cutsCheckMatchesSpecSpec : ChangeSpec := { name := "cutsCheckMatchesSpec", fn := fun _ => fun
  | [d1, d2, d3] => { results := [.lit (.bool true)], args := [d1, d2, d3] }
  | _ => none }
def cutsCheckMatchesSpecRow : OpenClaim := { program := "ytoaiappkhcjagaagreatdoor", sum := "ebc6ca4e7531d1d87405ce207608d442e36adc57219373f6b70e4b30afb13412", func := "chcsolver/chcsolverlaw28.CutsCheckMatchesSpec", spec := "cutsCheckMatchesSpec", inPlace := ["internal/bytealg.IndexByteString", "internal/bytealg.IndexString", "internal/abi.NoEscape"], unfollowed := true, recurses := true, named := ["internal/bytealg.MaxLen", "strconv.ErrSyntax", "strconv.ErrRange", "internal/strconv.uint64pow10", "math/bits.deBruijn32tab", "math/bits.deBruijn64tab"], apart := false, laid := [("math/bits.deBruijn32tab", laid_math_bits_deBruijn32tab), ("math/bits.deBruijn64tab", laid_math_bits_deBruijn64tab), ("internal/strconv.uint64pow10", laid_internal_strconv_uint64pow10), ("strconv.ErrRange", laid_strconv_ErrRange), ("strconv.ErrSyntax", laid_strconv_ErrSyntax)] }
def CutsCheckMatchesSpecSaid : Prop := cutsCheckMatchesSpecRow.holds Tryz.pinned (OpenSpec.ofChange cutsCheckMatchesSpecSpec)

/-- ITS FALSE NEIGHBOUR: 'it returns false'. Refute it at one input. -/
def cutsCheckMatchesSpecWrong : ChangeSpec := { name := "cutsCheckMatchesSpec", fn := fun _ => fun
  | [d1, d2, d3] => { results := [.lit (.bool false)], args := [d1, d2, d3] }
  | _ => none }
def CutsCheckMatchesSpecWrongFalsely : Prop := cutsCheckMatchesSpecRow.holds Tryz.pinned (OpenSpec.ofChange cutsCheckMatchesSpecWrong)

/-- 'chcsolverlaw28.CutsAnswers': WHATEVER THE INPUT: true; the input reads as it did. -/
def cutsAnswersSpec : ChangeSpec := { name := "cutsAnswers", fn := fun _ => fun
  | [d1, d2, d3] => { results := [.lit (.bool true)], args := [d1, d2, d3] }
  | _ => none }
def cutsAnswersRow : OpenClaim := { program := "ytoaiappkhcjagaagreatdoor", sum := "ebc6ca4e7531d1d87405ce207608d442e36adc57219373f6b70e4b30afb13412", func := "chcsolver/chcsolverlaw28.CutsAnswers", spec := "cutsAnswers", inPlace := ["internal/bytealg.IndexByteString", "internal/bytealg.IndexString", "internal/abi.NoEscape"], unfollowed := true, recurses := true, named := ["internal/bytealg.MaxLen", "strconv.ErrSyntax", "strconv.ErrRange", "internal/strconv.uint64pow10", "math/bits.deBruijn32tab", "math/bits.deBruijn64tab"], apart := false, laid := [("math/bits.deBruijn32tab", laid_math_bits_deBruijn32tab), ("math/bits.deBruijn64tab", laid_math_bits_deBruijn64tab), ("internal/strconv.uint64pow10", laid_internal_strconv_uint64pow10), ("strconv.ErrRange", laid_strconv_ErrRange), ("strconv.ErrSyntax", laid_strconv_ErrSyntax)] }
def CutsAnswersSaid : Prop := cutsAnswersRow.holds Tryz.pinned (OpenSpec.ofChange cutsAnswersSpec)

/-- ITS FALSE NEIGHBOUR: 'it returns false'. Refute it at one input. -/
def cutsAnswersWrong : ChangeSpec := { name := "cutsAnswers", fn := fun _ => fun
  | [d1, d2, d3] => { results := [.lit (.bool false)], args := [d1, d2, d3] }
  | _ => none }
def CutsAnswersWrongFalsely : Prop := cutsAnswersRow.holds Tryz.pinned (OpenSpec.ofChange cutsAnswersWrong)

/-- 'chcsolverlaw28.CutsSound': WHATEVER THE INPUT: true; the input reads as it did. -/
def cutsSoundSpec : ChangeSpec := { name := "cutsSound", fn := fun _ => fun
  | [d1, d2, d3, d4, d5] => { results := [.lit (.bool true)], args := [d1, d2, d3, d4, d5] }
  | _ => none }
def cutsSoundRow : OpenClaim := { program := "ytoaiappkhcjagaagreatdoor", sum := "ebc6ca4e7531d1d87405ce207608d442e36adc57219373f6b70e4b30afb13412", func := "chcsolver/chcsolverlaw28.CutsSound", spec := "cutsSound", inPlace := ["internal/bytealg.IndexByteString", "internal/bytealg.IndexString", "internal/abi.NoEscape"], unfollowed := true, recurses := true, named := ["internal/bytealg.MaxLen", "strconv.ErrSyntax", "strconv.ErrRange", "internal/strconv.uint64pow10", "math/bits.deBruijn32tab", "math/bits.deBruijn64tab"], apart := false, laid := [("math/bits.deBruijn32tab", laid_math_bits_deBruijn32tab), ("math/bits.deBruijn64tab", laid_math_bits_deBruijn64tab), ("internal/strconv.uint64pow10", laid_internal_strconv_uint64pow10), ("strconv.ErrRange", laid_strconv_ErrRange), ("strconv.ErrSyntax", laid_strconv_ErrSyntax)] }
def CutsSoundSaid : Prop := cutsSoundRow.holds Tryz.pinned (OpenSpec.ofChange cutsSoundSpec)

/-- ITS FALSE NEIGHBOUR: 'it returns false'. Refute it at one input. -/
def cutsSoundWrong : ChangeSpec := { name := "cutsSound", fn := fun _ => fun
  | [d1, d2, d3, d4, d5] => { results := [.lit (.bool false)], args := [d1, d2, d3, d4, d5] }
  | _ => none }
def CutsSoundWrongFalsely : Prop := cutsSoundRow.holds Tryz.pinned (OpenSpec.ofChange cutsSoundWrong)

/-- 'chcsolverlaw28.CutsMonotone': WHATEVER THE INPUT: true; the input reads as it did. -/
def cutsMonotoneSpec : ChangeSpec := { name := "cutsMonotone", fn := fun _ => fun
  | [d1, d2, d3, d4] => { results := [.lit (.bool true)], args := [d1, d2, d3, d4] }
  | _ => none }
def cutsMonotoneRow : OpenClaim := { program := "ytoaiappkhcjagaagreatdoor", sum := "ebc6ca4e7531d1d87405ce207608d442e36adc57219373f6b70e4b30afb13412", func := "chcsolver/chcsolverlaw28.CutsMonotone", spec := "cutsMonotone", inPlace := ["internal/bytealg.IndexByteString", "internal/bytealg.IndexString", "internal/abi.NoEscape"], unfollowed := true, recurses := true, named := ["internal/bytealg.MaxLen", "strconv.ErrSyntax", "strconv.ErrRange", "internal/strconv.uint64pow10", "math/bits.deBruijn32tab", "math/bits.deBruijn64tab"], apart := false, laid := [("math/bits.deBruijn32tab", laid_math_bits_deBruijn32tab), ("math/bits.deBruijn64tab", laid_math_bits_deBruijn64tab), ("internal/strconv.uint64pow10", laid_internal_strconv_uint64pow10), ("strconv.ErrRange", laid_strconv_ErrRange), ("strconv.ErrSyntax", laid_strconv_ErrSyntax)] }
def CutsMonotoneSaid : Prop := cutsMonotoneRow.holds Tryz.pinned (OpenSpec.ofChange cutsMonotoneSpec)

/-- ITS FALSE NEIGHBOUR: 'it returns false'. Refute it at one input. -/
def cutsMonotoneWrong : ChangeSpec := { name := "cutsMonotone", fn := fun _ => fun
  | [d1, d2, d3, d4] => { results := [.lit (.bool false)], args := [d1, d2, d3, d4] }
  | _ => none }
def CutsMonotoneWrongFalsely : Prop := cutsMonotoneRow.holds Tryz.pinned (OpenSpec.ofChange cutsMonotoneWrong)

/-- 'chcsolverlaw28.CutsBounded': WHATEVER THE INPUT: true; the input reads as it did. -/
def cutsBoundedSpec : ChangeSpec := { name := "cutsBounded", fn := fun _ => fun
  | [d1, d2, d3] => { results := [.lit (.bool true)], args := [d1, d2, d3] }
  | _ => none }
def cutsBoundedRow : OpenClaim := { program := "ytoaiappkhcjagaagreatdoor", sum := "ebc6ca4e7531d1d87405ce207608d442e36adc57219373f6b70e4b30afb13412", func := "chcsolver/chcsolverlaw28.CutsBounded", spec := "cutsBounded", inPlace := ["internal/bytealg.IndexByteString", "internal/bytealg.IndexString", "internal/abi.NoEscape"], unfollowed := true, recurses := true, named := ["internal/bytealg.MaxLen", "strconv.ErrSyntax", "strconv.ErrRange", "internal/strconv.uint64pow10", "math/bits.deBruijn32tab", "math/bits.deBruijn64tab"], apart := false, laid := [("math/bits.deBruijn32tab", laid_math_bits_deBruijn32tab), ("math/bits.deBruijn64tab", laid_math_bits_deBruijn64tab), ("internal/strconv.uint64pow10", laid_internal_strconv_uint64pow10), ("strconv.ErrRange", laid_strconv_ErrRange), ("strconv.ErrSyntax", laid_strconv_ErrSyntax)] }
def CutsBoundedSaid : Prop := cutsBoundedRow.holds Tryz.pinned (OpenSpec.ofChange cutsBoundedSpec)

/-- ITS FALSE NEIGHBOUR: 'it returns false'. Refute it at one input. -/
def cutsBoundedWrong : ChangeSpec := { name := "cutsBounded", fn := fun _ => fun
  | [d1, d2, d3] => { results := [.lit (.bool false)], args := [d1, d2, d3] }
  | _ => none }
def CutsBoundedWrongFalsely : Prop := cutsBoundedRow.holds Tryz.pinned (OpenSpec.ofChange cutsBoundedWrong)

/- THE SECOND FORM. 'bulk': how many values and letters a reading holds, each counted each time it is reached (what is shared counts as often as it is met; a slice's spare places count too). A statement '..UptoSaid' is the law's where the arguments, and the package variables that the reading takes, are together of bulk at most 1048576: NARROWER than '..Said'. Prove '..Said' where nothing that the law and all that it calls make is longer than what came in: it says more and counts as full. Else prove '..UptoSaid'. A law counts once. -/
mutual
def uptoBulk {H : Type} : DataW H → Nat
  | .lit (.string bytes) => bytes.length + 1
  | .lit _ => 1
  | .nil => 1
  | .ptr d => uptoBulk d + 1
  | .slice elems spare => uptoBulkAll elems + uptoBulkAll spare + 1
  | .agg parts => uptoBulkAll parts + 1
  | .iface _ d => uptoBulk d + 1
  | .map entries => uptoBulkEntries entries + 1
  | .held _ => 1
def uptoBulkAll {H : Type} : List (DataW H) → Nat
  | [] => 0
  | d :: r => uptoBulk d + uptoBulkAll r
def uptoBulkEntries {H : Type} : List (Lit × DataW H) → Nat
  | [] => 0
  | x :: r => uptoBulkEntry x + uptoBulkEntries r
def uptoBulkEntry {H : Type} : Lit × DataW H → Nat
  | (.string bytes, d) => bytes.length + uptoBulk d + 1
  | (_, d) => uptoBulk d + 1
 end
def uptoSmall : (H : Type) → List (DataW H) → Bool := fun _ ds => decide (uptoBulkAll ds ≤ 1048576)
def OpenSpec.upto (s : _root_.Go.ChangeSpec) : _root_.Go.OpenSpec := { _root_.Go.OpenSpec.ofChange s with cond := some uptoSmall }

/-- 'chcsolverlaw27.SimplexHoldsMatchesSpec', WHERE WHAT IT READS IS OF BULK AT MOST 1048576: true; the input reads as it did. -/
def simplexHoldsMatchesSpecUptoRow : OpenClaim := { program := "ytoaiappkhcjagaagreatdoor", sum := "ebc6ca4e7531d1d87405ce207608d442e36adc57219373f6b70e4b30afb13412", func := "chcsolver/chcsolverlaw27.SimplexHoldsMatchesSpec", spec := "simplexHoldsMatchesSpec", inPlace := ["internal/bytealg.IndexByteString", "internal/bytealg.IndexString", "internal/abi.NoEscape"], unfollowed := true, recurses := true, named := ["internal/bytealg.MaxLen", "strconv.ErrSyntax", "strconv.ErrRange", "internal/strconv.uint64pow10", "math/bits.deBruijn32tab", "math/bits.deBruijn64tab"], apart := false, laid := [("math/bits.deBruijn32tab", laid_math_bits_deBruijn32tab), ("math/bits.deBruijn64tab", laid_math_bits_deBruijn64tab), ("internal/strconv.uint64pow10", laid_internal_strconv_uint64pow10), ("strconv.ErrRange", laid_strconv_ErrRange), ("strconv.ErrSyntax", laid_strconv_ErrSyntax)], narrowed := true }
def SimplexHoldsMatchesSpecUptoSaid : Prop := simplexHoldsMatchesSpecUptoRow.holds Tryz.pinned (OpenSpec.upto simplexHoldsMatchesSpecSpec)

/-- 'chcsolverlaw27.SimplexCheckMatchesSpec', WHERE WHAT IT READS IS OF BULK AT MOST 1048576: true; the input reads as it did. -/
def simplexCheckMatchesSpecUptoRow : OpenClaim := { program := "ytoaiappkhcjagaagreatdoor", sum := "ebc6ca4e7531d1d87405ce207608d442e36adc57219373f6b70e4b30afb13412", func := "chcsolver/chcsolverlaw27.SimplexCheckMatchesSpec", spec := "simplexCheckMatchesSpec", inPlace := ["internal/bytealg.IndexByteString", "internal/bytealg.IndexString", "internal/abi.NoEscape"], unfollowed := true, recurses := true, named := ["internal/bytealg.MaxLen", "strconv.ErrSyntax", "strconv.ErrRange", "internal/strconv.uint64pow10", "math/bits.deBruijn32tab", "math/bits.deBruijn64tab"], apart := false, laid := [("math/bits.deBruijn32tab", laid_math_bits_deBruijn32tab), ("math/bits.deBruijn64tab", laid_math_bits_deBruijn64tab), ("internal/strconv.uint64pow10", laid_internal_strconv_uint64pow10), ("strconv.ErrRange", laid_strconv_ErrRange), ("strconv.ErrSyntax", laid_strconv_ErrSyntax)], narrowed := true }
def SimplexCheckMatchesSpecUptoSaid : Prop := simplexCheckMatchesSpecUptoRow.holds Tryz.pinned (OpenSpec.upto simplexCheckMatchesSpecSpec)

/-- 'chcsolverlaw27.SimplexAnswers', WHERE WHAT IT READS IS OF BULK AT MOST 1048576: true; the input reads as it did. -/
def simplexAnswersUptoRow : OpenClaim := { program := "ytoaiappkhcjagaagreatdoor", sum := "ebc6ca4e7531d1d87405ce207608d442e36adc57219373f6b70e4b30afb13412", func := "chcsolver/chcsolverlaw27.SimplexAnswers", spec := "simplexAnswers", inPlace := ["internal/bytealg.IndexByteString", "internal/bytealg.IndexString", "internal/abi.NoEscape"], unfollowed := true, recurses := true, named := ["internal/bytealg.MaxLen", "strconv.ErrSyntax", "strconv.ErrRange", "internal/strconv.uint64pow10", "math/bits.deBruijn32tab", "math/bits.deBruijn64tab"], apart := false, laid := [("math/bits.deBruijn32tab", laid_math_bits_deBruijn32tab), ("math/bits.deBruijn64tab", laid_math_bits_deBruijn64tab), ("internal/strconv.uint64pow10", laid_internal_strconv_uint64pow10), ("strconv.ErrRange", laid_strconv_ErrRange), ("strconv.ErrSyntax", laid_strconv_ErrSyntax)], narrowed := true }
def SimplexAnswersUptoSaid : Prop := simplexAnswersUptoRow.holds Tryz.pinned (OpenSpec.upto simplexAnswersSpec)

/-- 'chcsolverlaw27.SimplexComplete', WHERE WHAT IT READS IS OF BULK AT MOST 1048576: true; the input reads as it did. -/
def simplexCompleteUptoRow : OpenClaim := { program := "ytoaiappkhcjagaagreatdoor", sum := "ebc6ca4e7531d1d87405ce207608d442e36adc57219373f6b70e4b30afb13412", func := "chcsolver/chcsolverlaw27.SimplexComplete", spec := "simplexComplete", inPlace := ["internal/bytealg.IndexByteString", "internal/bytealg.IndexString", "internal/abi.NoEscape"], unfollowed := true, recurses := true, named := ["internal/bytealg.MaxLen", "strconv.ErrSyntax", "strconv.ErrRange", "internal/strconv.uint64pow10", "math/bits.deBruijn32tab", "math/bits.deBruijn64tab"], apart := false, laid := [("math/bits.deBruijn32tab", laid_math_bits_deBruijn32tab), ("math/bits.deBruijn64tab", laid_math_bits_deBruijn64tab), ("internal/strconv.uint64pow10", laid_internal_strconv_uint64pow10), ("strconv.ErrRange", laid_strconv_ErrRange), ("strconv.ErrSyntax", laid_strconv_ErrSyntax)], narrowed := true }
def SimplexCompleteUptoSaid : Prop := simplexCompleteUptoRow.holds Tryz.pinned (OpenSpec.upto simplexCompleteSpec)

/-- 'chcsolverlaw27.SimplexMaximizes', WHERE WHAT IT READS IS OF BULK AT MOST 1048576: true; the input reads as it did. -/
def simplexMaximizesUptoRow : OpenClaim := { program := "ytoaiappkhcjagaagreatdoor", sum := "ebc6ca4e7531d1d87405ce207608d442e36adc57219373f6b70e4b30afb13412", func := "chcsolver/chcsolverlaw27.SimplexMaximizes", spec := "simplexMaximizes", inPlace := ["internal/bytealg.IndexByteString", "internal/bytealg.IndexString", "internal/abi.NoEscape"], unfollowed := true, recurses := true, named := ["internal/bytealg.MaxLen", "strconv.ErrSyntax", "strconv.ErrRange", "internal/strconv.uint64pow10", "math/bits.deBruijn32tab", "math/bits.deBruijn64tab"], apart := false, laid := [("math/bits.deBruijn32tab", laid_math_bits_deBruijn32tab), ("math/bits.deBruijn64tab", laid_math_bits_deBruijn64tab), ("internal/strconv.uint64pow10", laid_internal_strconv_uint64pow10), ("strconv.ErrRange", laid_strconv_ErrRange), ("strconv.ErrSyntax", laid_strconv_ErrSyntax)], narrowed := true }
def SimplexMaximizesUptoSaid : Prop := simplexMaximizesUptoRow.holds Tryz.pinned (OpenSpec.upto simplexMaximizesSpec)

/-- 'chcsolverlaw27.SimplexMaxBounds', WHERE WHAT IT READS IS OF BULK AT MOST 1048576: true; the input reads as it did. -/
def simplexMaxBoundsUptoRow : OpenClaim := { program := "ytoaiappkhcjagaagreatdoor", sum := "ebc6ca4e7531d1d87405ce207608d442e36adc57219373f6b70e4b30afb13412", func := "chcsolver/chcsolverlaw27.SimplexMaxBounds", spec := "simplexMaxBounds", inPlace := ["internal/bytealg.IndexByteString", "internal/bytealg.IndexString", "internal/abi.NoEscape"], unfollowed := true, recurses := true, named := ["internal/bytealg.MaxLen", "strconv.ErrSyntax", "strconv.ErrRange", "internal/strconv.uint64pow10", "math/bits.deBruijn32tab", "math/bits.deBruijn64tab"], apart := false, laid := [("math/bits.deBruijn32tab", laid_math_bits_deBruijn32tab), ("math/bits.deBruijn64tab", laid_math_bits_deBruijn64tab), ("internal/strconv.uint64pow10", laid_internal_strconv_uint64pow10), ("strconv.ErrRange", laid_strconv_ErrRange), ("strconv.ErrSyntax", laid_strconv_ErrSyntax)], narrowed := true }
def SimplexMaxBoundsUptoSaid : Prop := simplexMaxBoundsUptoRow.holds Tryz.pinned (OpenSpec.upto simplexMaxBoundsSpec)

/-- 'chcsolverlaw27.SimplexImplies', WHERE WHAT IT READS IS OF BULK AT MOST 1048576: true; the input reads as it did. -/
def simplexImpliesUptoRow : OpenClaim := { program := "ytoaiappkhcjagaagreatdoor", sum := "ebc6ca4e7531d1d87405ce207608d442e36adc57219373f6b70e4b30afb13412", func := "chcsolver/chcsolverlaw27.SimplexImplies", spec := "simplexImplies", inPlace := ["internal/bytealg.IndexByteString", "internal/bytealg.IndexString", "internal/abi.NoEscape"], unfollowed := true, recurses := true, named := ["internal/bytealg.MaxLen", "strconv.ErrSyntax", "strconv.ErrRange", "internal/strconv.uint64pow10", "math/bits.deBruijn32tab", "math/bits.deBruijn64tab"], apart := false, laid := [("math/bits.deBruijn32tab", laid_math_bits_deBruijn32tab), ("math/bits.deBruijn64tab", laid_math_bits_deBruijn64tab), ("internal/strconv.uint64pow10", laid_internal_strconv_uint64pow10), ("strconv.ErrRange", laid_strconv_ErrRange), ("strconv.ErrSyntax", laid_strconv_ErrSyntax)], narrowed := true }
def SimplexImpliesUptoSaid : Prop := simplexImpliesUptoRow.holds Tryz.pinned (OpenSpec.upto simplexImpliesSpec)

/-- 'chcsolverlaw27.SimplexImpliesHolds', WHERE WHAT IT READS IS OF BULK AT MOST 1048576: true; the input reads as it did. -/
def simplexImpliesHoldsUptoRow : OpenClaim := { program := "ytoaiappkhcjagaagreatdoor", sum := "ebc6ca4e7531d1d87405ce207608d442e36adc57219373f6b70e4b30afb13412", func := "chcsolver/chcsolverlaw27.SimplexImpliesHolds", spec := "simplexImpliesHolds", inPlace := ["internal/bytealg.IndexByteString", "internal/bytealg.IndexString", "internal/abi.NoEscape"], unfollowed := true, recurses := true, named := ["internal/bytealg.MaxLen", "strconv.ErrSyntax", "strconv.ErrRange", "internal/strconv.uint64pow10", "math/bits.deBruijn32tab", "math/bits.deBruijn64tab"], apart := false, laid := [("math/bits.deBruijn32tab", laid_math_bits_deBruijn32tab), ("math/bits.deBruijn64tab", laid_math_bits_deBruijn64tab), ("internal/strconv.uint64pow10", laid_internal_strconv_uint64pow10), ("strconv.ErrRange", laid_strconv_ErrRange), ("strconv.ErrSyntax", laid_strconv_ErrSyntax)], narrowed := true }
def SimplexImpliesHoldsUptoSaid : Prop := simplexImpliesHoldsUptoRow.holds Tryz.pinned (OpenSpec.upto simplexImpliesHoldsSpec)

/-- 'chcsolverlaw27.SimplexScales', WHERE WHAT IT READS IS OF BULK AT MOST 1048576: true; the input reads as it did. -/
def simplexScalesUptoRow : OpenClaim := { program := "ytoaiappkhcjagaagreatdoor", sum := "ebc6ca4e7531d1d87405ce207608d442e36adc57219373f6b70e4b30afb13412", func := "chcsolver/chcsolverlaw27.SimplexScales", spec := "simplexScales", inPlace := ["internal/bytealg.IndexByteString", "internal/bytealg.IndexString", "internal/abi.NoEscape"], unfollowed := true, recurses := true, named := ["internal/bytealg.MaxLen", "strconv.ErrSyntax", "strconv.ErrRange", "internal/strconv.uint64pow10", "math/bits.deBruijn32tab", "math/bits.deBruijn64tab"], apart := false, laid := [("math/bits.deBruijn32tab", laid_math_bits_deBruijn32tab), ("math/bits.deBruijn64tab", laid_math_bits_deBruijn64tab), ("internal/strconv.uint64pow10", laid_internal_strconv_uint64pow10), ("strconv.ErrRange", laid_strconv_ErrRange), ("strconv.ErrSyntax", laid_strconv_ErrSyntax)], narrowed := true }
def SimplexScalesUptoSaid : Prop := simplexScalesUptoRow.holds Tryz.pinned (OpenSpec.upto simplexScalesSpec)

/-- 'chcsolverlaw28.CutsRelaxed', WHERE WHAT IT READS IS OF BULK AT MOST 1048576: true; the input reads as it did. -/
def cutsRelaxedUptoRow : OpenClaim := { program := "ytoaiappkhcjagaagreatdoor", sum := "ebc6ca4e7531d1d87405ce207608d442e36adc57219373f6b70e4b30afb13412", func := "chcsolver/chcsolverlaw28.CutsRelaxed", spec := "cutsRelaxed", inPlace := ["internal/bytealg.IndexByteString", "internal/bytealg.IndexString", "internal/abi.NoEscape"], unfollowed := true, recurses := true, named := ["internal/bytealg.MaxLen", "strconv.ErrSyntax", "strconv.ErrRange", "internal/strconv.uint64pow10", "math/bits.deBruijn32tab", "math/bits.deBruijn64tab"], apart := false, laid := [("math/bits.deBruijn32tab", laid_math_bits_deBruijn32tab), ("math/bits.deBruijn64tab", laid_math_bits_deBruijn64tab), ("internal/strconv.uint64pow10", laid_internal_strconv_uint64pow10), ("strconv.ErrRange", laid_strconv_ErrRange), ("strconv.ErrSyntax", laid_strconv_ErrSyntax)], narrowed := true }
def CutsRelaxedUptoSaid : Prop := cutsRelaxedUptoRow.holds Tryz.pinned (OpenSpec.upto cutsRelaxedSpec)

/-- 'chcsolverlaw28.CutsTightenKeeps', WHERE WHAT IT READS IS OF BULK AT MOST 1048576: true; the input reads as it did. -/
def cutsTightenKeepsUptoRow : OpenClaim := { program := "ytoaiappkhcjagaagreatdoor", sum := "ebc6ca4e7531d1d87405ce207608d442e36adc57219373f6b70e4b30afb13412", func := "chcsolver/chcsolverlaw28.CutsTightenKeeps", spec := "cutsTightenKeeps", inPlace := ["internal/bytealg.IndexByteString", "internal/bytealg.IndexString", "internal/abi.NoEscape"], unfollowed := true, recurses := true, named := ["internal/bytealg.MaxLen", "strconv.ErrSyntax", "strconv.ErrRange", "internal/strconv.uint64pow10", "math/bits.deBruijn32tab", "math/bits.deBruijn64tab"], apart := false, laid := [("math/bits.deBruijn32tab", laid_math_bits_deBruijn32tab), ("math/bits.deBruijn64tab", laid_math_bits_deBruijn64tab), ("internal/strconv.uint64pow10", laid_internal_strconv_uint64pow10), ("strconv.ErrRange", laid_strconv_ErrRange), ("strconv.ErrSyntax", laid_strconv_ErrSyntax)], narrowed := true }
def CutsTightenKeepsUptoSaid : Prop := cutsTightenKeepsUptoRow.holds Tryz.pinned (OpenSpec.upto cutsTightenKeepsSpec)

/-- 'chcsolverlaw28.CutsTightenMatchesSpec', WHERE WHAT IT READS IS OF BULK AT MOST 1048576: true; the input reads as it did. -/
def cutsTightenMatchesSpecUptoRow : OpenClaim := { program := "ytoaiappkhcjagaagreatdoor", sum := "ebc6ca4e7531d1d87405ce207608d442e36adc57219373f6b70e4b30afb13412", func := "chcsolver/chcsolverlaw28.CutsTightenMatchesSpec", spec := "cutsTightenMatchesSpec", inPlace := ["internal/bytealg.IndexByteString", "internal/bytealg.IndexString", "internal/abi.NoEscape"], unfollowed := true, recurses := true, named := ["internal/bytealg.MaxLen", "strconv.ErrSyntax", "strconv.ErrRange", "internal/strconv.uint64pow10", "math/bits.deBruijn32tab", "math/bits.deBruijn64tab"], apart := false, laid := [("math/bits.deBruijn32tab", laid_math_bits_deBruijn32tab), ("math/bits.deBruijn64tab", laid_math_bits_deBruijn64tab), ("internal/strconv.uint64pow10", laid_internal_strconv_uint64pow10), ("strconv.ErrRange", laid_strconv_ErrRange), ("strconv.ErrSyntax", laid_strconv_ErrSyntax)], narrowed := true }
def CutsTightenMatchesSpecUptoSaid : Prop := cutsTightenMatchesSpecUptoRow.holds Tryz.pinned (OpenSpec.upto cutsTightenMatchesSpecSpec)

/-- 'chcsolverlaw28.CutsCheckMatchesSpec', WHERE WHAT IT READS IS OF BULK AT MOST 1048576: true; the input reads as it did. -/
def cutsCheckMatchesSpecUptoRow : OpenClaim := { program := "ytoaiappkhcjagaagreatdoor", sum := "ebc6ca4e7531d1d87405ce207608d442e36adc57219373f6b70e4b30afb13412", func := "chcsolver/chcsolverlaw28.CutsCheckMatchesSpec", spec := "cutsCheckMatchesSpec", inPlace := ["internal/bytealg.IndexByteString", "internal/bytealg.IndexString", "internal/abi.NoEscape"], unfollowed := true, recurses := true, named := ["internal/bytealg.MaxLen", "strconv.ErrSyntax", "strconv.ErrRange", "internal/strconv.uint64pow10", "math/bits.deBruijn32tab", "math/bits.deBruijn64tab"], apart := false, laid := [("math/bits.deBruijn32tab", laid_math_bits_deBruijn32tab), ("math/bits.deBruijn64tab", laid_math_bits_deBruijn64tab), ("internal/strconv.uint64pow10", laid_internal_strconv_uint64pow10), ("strconv.ErrRange", laid_strconv_ErrRange), ("strconv.ErrSyntax", laid_strconv_ErrSyntax)], narrowed := true }
def CutsCheckMatchesSpecUptoSaid : Prop := cutsCheckMatchesSpecUptoRow.holds Tryz.pinned (OpenSpec.upto cutsCheckMatchesSpecSpec)

/-- 'chcsolverlaw28.CutsAnswers', WHERE WHAT IT READS IS OF BULK AT MOST 1048576: true; the input reads as it did. -/
def cutsAnswersUptoRow : OpenClaim := { program := "ytoaiappkhcjagaagreatdoor", sum := "ebc6ca4e7531d1d87405ce207608d442e36adc57219373f6b70e4b30afb13412", func := "chcsolver/chcsolverlaw28.CutsAnswers", spec := "cutsAnswers", inPlace := ["internal/bytealg.IndexByteString", "internal/bytealg.IndexString", "internal/abi.NoEscape"], unfollowed := true, recurses := true, named := ["internal/bytealg.MaxLen", "strconv.ErrSyntax", "strconv.ErrRange", "internal/strconv.uint64pow10", "math/bits.deBruijn32tab", "math/bits.deBruijn64tab"], apart := false, laid := [("math/bits.deBruijn32tab", laid_math_bits_deBruijn32tab), ("math/bits.deBruijn64tab", laid_math_bits_deBruijn64tab), ("internal/strconv.uint64pow10", laid_internal_strconv_uint64pow10), ("strconv.ErrRange", laid_strconv_ErrRange), ("strconv.ErrSyntax", laid_strconv_ErrSyntax)], narrowed := true }
def CutsAnswersUptoSaid : Prop := cutsAnswersUptoRow.holds Tryz.pinned (OpenSpec.upto cutsAnswersSpec)

/-- 'chcsolverlaw28.CutsSound', WHERE WHAT IT READS IS OF BULK AT MOST 1048576: true; the input reads as it did. -/
def cutsSoundUptoRow : OpenClaim := { program := "ytoaiappkhcjagaagreatdoor", sum := "ebc6ca4e7531d1d87405ce207608d442e36adc57219373f6b70e4b30afb13412", func := "chcsolver/chcsolverlaw28.CutsSound", spec := "cutsSound", inPlace := ["internal/bytealg.IndexByteString", "internal/bytealg.IndexString", "internal/abi.NoEscape"], unfollowed := true, recurses := true, named := ["internal/bytealg.MaxLen", "strconv.ErrSyntax", "strconv.ErrRange", "internal/strconv.uint64pow10", "math/bits.deBruijn32tab", "math/bits.deBruijn64tab"], apart := false, laid := [("math/bits.deBruijn32tab", laid_math_bits_deBruijn32tab), ("math/bits.deBruijn64tab", laid_math_bits_deBruijn64tab), ("internal/strconv.uint64pow10", laid_internal_strconv_uint64pow10), ("strconv.ErrRange", laid_strconv_ErrRange), ("strconv.ErrSyntax", laid_strconv_ErrSyntax)], narrowed := true }
def CutsSoundUptoSaid : Prop := cutsSoundUptoRow.holds Tryz.pinned (OpenSpec.upto cutsSoundSpec)

/-- 'chcsolverlaw28.CutsMonotone', WHERE WHAT IT READS IS OF BULK AT MOST 1048576: true; the input reads as it did. -/
def cutsMonotoneUptoRow : OpenClaim := { program := "ytoaiappkhcjagaagreatdoor", sum := "ebc6ca4e7531d1d87405ce207608d442e36adc57219373f6b70e4b30afb13412", func := "chcsolver/chcsolverlaw28.CutsMonotone", spec := "cutsMonotone", inPlace := ["internal/bytealg.IndexByteString", "internal/bytealg.IndexString", "internal/abi.NoEscape"], unfollowed := true, recurses := true, named := ["internal/bytealg.MaxLen", "strconv.ErrSyntax", "strconv.ErrRange", "internal/strconv.uint64pow10", "math/bits.deBruijn32tab", "math/bits.deBruijn64tab"], apart := false, laid := [("math/bits.deBruijn32tab", laid_math_bits_deBruijn32tab), ("math/bits.deBruijn64tab", laid_math_bits_deBruijn64tab), ("internal/strconv.uint64pow10", laid_internal_strconv_uint64pow10), ("strconv.ErrRange", laid_strconv_ErrRange), ("strconv.ErrSyntax", laid_strconv_ErrSyntax)], narrowed := true }
def CutsMonotoneUptoSaid : Prop := cutsMonotoneUptoRow.holds Tryz.pinned (OpenSpec.upto cutsMonotoneSpec)

/-- 'chcsolverlaw28.CutsBounded', WHERE WHAT IT READS IS OF BULK AT MOST 1048576: true; the input reads as it did. -/
def cutsBoundedUptoRow : OpenClaim := { program := "ytoaiappkhcjagaagreatdoor", sum := "ebc6ca4e7531d1d87405ce207608d442e36adc57219373f6b70e4b30afb13412", func := "chcsolver/chcsolverlaw28.CutsBounded", spec := "cutsBounded", inPlace := ["internal/bytealg.IndexByteString", "internal/bytealg.IndexString", "internal/abi.NoEscape"], unfollowed := true, recurses := true, named := ["internal/bytealg.MaxLen", "strconv.ErrSyntax", "strconv.ErrRange", "internal/strconv.uint64pow10", "math/bits.deBruijn32tab", "math/bits.deBruijn64tab"], apart := false, laid := [("math/bits.deBruijn32tab", laid_math_bits_deBruijn32tab), ("math/bits.deBruijn64tab", laid_math_bits_deBruijn64tab), ("internal/strconv.uint64pow10", laid_internal_strconv_uint64pow10), ("strconv.ErrRange", laid_strconv_ErrRange), ("strconv.ErrSyntax", laid_strconv_ErrSyntax)], narrowed := true }
def CutsBoundedUptoSaid : Prop := cutsBoundedUptoRow.holds Tryz.pinned (OpenSpec.upto cutsBoundedSpec)

end Rows
end Go.Proofs.YtoaiappkhcjagaaGreatDoor
