/-
  DERIVED. GIVEN WITH THE SEED: THE CARDS: each row of YtonenlplcidihaaDoorRows.lean that lists a variable, with what it lists TIED to the program's text (the seventh form; the later family's looks); each row that meets fmt, with fmt's text TOLD by the authors' own Lean function (tested against real Go, not proved from fmt's source: count such statements apart). THE CARD IS WHAT COUNTS. Prove the row's statement (the work); the ties are given (YtonenlplcidihaaDoorTie.lean); close each card by the builder's one call (the guide's Derived/Test/ToyasCard.lean, 'card_holds'). Laid BY PROGRAM, IN A SANDBOX (cutbox-door.mjs). By AI agents, Wed Nov 11 2026. No macro, syntax, notation, axiom, sorry.
-/
import Derived.Test.YtonenlplcidihaaDoorRows
import GoSem.ClaimSeven
namespace Go.Proofs.YtonenlplcidihaaDoor
namespace Rows

/-- THE TIED CARD OF 'chcsolverlaw02.SexprParse'. -/
def sexprParseCard : Claim7 := { stood := { row := sexprParseRow, standIns := [], harness := (true, "4104577aa53ef28f94370e91399e8514372385fcd8c879a2a68e549d2b349cba"), looks := false }, kinds := [], alts := [], laidByText := true, laidKinds := [.data, .pinned], laidTests := true, laidLooks := .later }
def SexprParseCardSaid : Prop := Claim7.holds Tryd.pinned (.plain (OpenSpec.ofChange sexprParseSpec)) sexprParseCard

/-- THE TIED CARD OF 'chcsolverlaw02.SexprSpoiled'. -/
def sexprSpoiledCard : Claim7 := { stood := { row := sexprSpoiledRow, standIns := [], harness := (true, "4104577aa53ef28f94370e91399e8514372385fcd8c879a2a68e549d2b349cba"), looks := false }, kinds := [], alts := [], laidByText := true, laidKinds := [.data, .pinned], laidTests := true, laidLooks := .later }
def SexprSpoiledCardSaid : Prop := Claim7.holds Tryd.pinned (.plain (OpenSpec.ofChange sexprSpoiledSpec)) sexprSpoiledCard

/-- THE TIED CARD OF 'chcsolverlaw02.SexprPositions'. -/
def sexprPositionsCard : Claim7 := { stood := { row := sexprPositionsRow, standIns := [], harness := (true, "4104577aa53ef28f94370e91399e8514372385fcd8c879a2a68e549d2b349cba"), looks := false }, kinds := [], alts := [], laidByText := true, laidKinds := [.data, .pinned], laidTests := true, laidLooks := .later }
def SexprPositionsCardSaid : Prop := Claim7.holds Tryd.pinned (.plain (OpenSpec.ofChange sexprPositionsSpec)) sexprPositionsCard

/-- THE TIED CARD OF 'chcsolverlaw02.SexprConcat'. -/
def sexprConcatCard : Claim7 := { stood := { row := sexprConcatRow, standIns := [], harness := (true, "4104577aa53ef28f94370e91399e8514372385fcd8c879a2a68e549d2b349cba"), looks := false }, kinds := [], alts := [], laidByText := true, laidKinds := [.data, .pinned], laidTests := true, laidLooks := .later }
def SexprConcatCardSaid : Prop := Claim7.holds Tryd.pinned (.plain (OpenSpec.ofChange sexprConcatSpec)) sexprConcatCard

/-- THE TIED CARD OF 'chcsolverlaw02.SexprDepth'. -/
def sexprDepthCard : Claim7 := { stood := { row := sexprDepthRow, standIns := [], harness := (true, "4104577aa53ef28f94370e91399e8514372385fcd8c879a2a68e549d2b349cba"), looks := false }, kinds := [], alts := [], laidByText := true, laidKinds := [.data, .pinned], laidTests := true, laidLooks := .later }
def SexprDepthCardSaid : Prop := Claim7.holds Tryd.pinned (.plain (OpenSpec.ofChange sexprDepthSpec)) sexprDepthCard

/-- THE TIED CARD OF 'chcsolverlaw02.SexprStructure'. -/
def sexprStructureCard : Claim7 := { stood := { row := sexprStructureRow, standIns := [], harness := (true, "4104577aa53ef28f94370e91399e8514372385fcd8c879a2a68e549d2b349cba"), looks := false }, kinds := [], alts := [], laidByText := true, laidKinds := [.data, .pinned], laidTests := true, laidLooks := .later }
def SexprStructureCardSaid : Prop := Claim7.holds Tryd.pinned (.plain (OpenSpec.ofChange sexprStructureSpec)) sexprStructureCard

/-- THE TIED CARD OF 'chcsolverlaw02.SexprRoundTrip'. -/
def sexprRoundTripCard : Claim7 := { stood := { row := sexprRoundTripRow, standIns := [], harness := (true, "4104577aa53ef28f94370e91399e8514372385fcd8c879a2a68e549d2b349cba"), looks := false }, kinds := [], alts := [], laidByText := true, laidKinds := [.data, .pinned], laidTests := true, laidLooks := .later }
def SexprRoundTripCardSaid : Prop := Claim7.holds Tryd.pinned (.plain (OpenSpec.ofChange sexprRoundTripSpec)) sexprRoundTripCard

/-- THE TIED CARD OF 'chcsolverlaw02.SexprValid'. -/
def sexprValidCard : Claim7 := { stood := { row := sexprValidRow, standIns := [], harness := (true, "4104577aa53ef28f94370e91399e8514372385fcd8c879a2a68e549d2b349cba"), looks := false }, kinds := [], alts := [], laidByText := true, laidKinds := [.data, .pinned], laidTests := true, laidLooks := .later }
def SexprValidCardSaid : Prop := Claim7.holds Tryd.pinned (.plain (OpenSpec.ofChange sexprValidSpec)) sexprValidCard

/-- THE SECOND FORM's CARD OF 'chcsolverlaw02.SexprParse'. -/
def sexprParseUptoCard : Claim7 := { stood := { row := sexprParseUptoRow, standIns := [], harness := (true, "4104577aa53ef28f94370e91399e8514372385fcd8c879a2a68e549d2b349cba"), looks := false }, kinds := [], alts := [], laidByText := true, laidKinds := [.data, .pinned], laidTests := true, laidLooks := .later }
def SexprParseUptoCardSaid : Prop := Claim7.holds Tryd.pinned (.plain (OpenSpec.upto sexprParseSpec)) sexprParseUptoCard

/-- THE SECOND FORM's CARD OF 'chcsolverlaw02.SexprSpoiled'. -/
def sexprSpoiledUptoCard : Claim7 := { stood := { row := sexprSpoiledUptoRow, standIns := [], harness := (true, "4104577aa53ef28f94370e91399e8514372385fcd8c879a2a68e549d2b349cba"), looks := false }, kinds := [], alts := [], laidByText := true, laidKinds := [.data, .pinned], laidTests := true, laidLooks := .later }
def SexprSpoiledUptoCardSaid : Prop := Claim7.holds Tryd.pinned (.plain (OpenSpec.upto sexprSpoiledSpec)) sexprSpoiledUptoCard

/-- THE SECOND FORM's CARD OF 'chcsolverlaw02.SexprPositions'. -/
def sexprPositionsUptoCard : Claim7 := { stood := { row := sexprPositionsUptoRow, standIns := [], harness := (true, "4104577aa53ef28f94370e91399e8514372385fcd8c879a2a68e549d2b349cba"), looks := false }, kinds := [], alts := [], laidByText := true, laidKinds := [.data, .pinned], laidTests := true, laidLooks := .later }
def SexprPositionsUptoCardSaid : Prop := Claim7.holds Tryd.pinned (.plain (OpenSpec.upto sexprPositionsSpec)) sexprPositionsUptoCard

/-- THE SECOND FORM's CARD OF 'chcsolverlaw02.SexprConcat'. -/
def sexprConcatUptoCard : Claim7 := { stood := { row := sexprConcatUptoRow, standIns := [], harness := (true, "4104577aa53ef28f94370e91399e8514372385fcd8c879a2a68e549d2b349cba"), looks := false }, kinds := [], alts := [], laidByText := true, laidKinds := [.data, .pinned], laidTests := true, laidLooks := .later }
def SexprConcatUptoCardSaid : Prop := Claim7.holds Tryd.pinned (.plain (OpenSpec.upto sexprConcatSpec)) sexprConcatUptoCard

/-- THE SECOND FORM's CARD OF 'chcsolverlaw02.SexprDepth'. -/
def sexprDepthUptoCard : Claim7 := { stood := { row := sexprDepthUptoRow, standIns := [], harness := (true, "4104577aa53ef28f94370e91399e8514372385fcd8c879a2a68e549d2b349cba"), looks := false }, kinds := [], alts := [], laidByText := true, laidKinds := [.data, .pinned], laidTests := true, laidLooks := .later }
def SexprDepthUptoCardSaid : Prop := Claim7.holds Tryd.pinned (.plain (OpenSpec.upto sexprDepthSpec)) sexprDepthUptoCard

/-- THE SECOND FORM's CARD OF 'chcsolverlaw02.SexprStructure'. -/
def sexprStructureUptoCard : Claim7 := { stood := { row := sexprStructureUptoRow, standIns := [], harness := (true, "4104577aa53ef28f94370e91399e8514372385fcd8c879a2a68e549d2b349cba"), looks := false }, kinds := [], alts := [], laidByText := true, laidKinds := [.data, .pinned], laidTests := true, laidLooks := .later }
def SexprStructureUptoCardSaid : Prop := Claim7.holds Tryd.pinned (.plain (OpenSpec.upto sexprStructureSpec)) sexprStructureUptoCard

/-- THE SECOND FORM's CARD OF 'chcsolverlaw02.SexprRoundTrip'. -/
def sexprRoundTripUptoCard : Claim7 := { stood := { row := sexprRoundTripUptoRow, standIns := [], harness := (true, "4104577aa53ef28f94370e91399e8514372385fcd8c879a2a68e549d2b349cba"), looks := false }, kinds := [], alts := [], laidByText := true, laidKinds := [.data, .pinned], laidTests := true, laidLooks := .later }
def SexprRoundTripUptoCardSaid : Prop := Claim7.holds Tryd.pinned (.plain (OpenSpec.upto sexprRoundTripSpec)) sexprRoundTripUptoCard

/-- THE SECOND FORM's CARD OF 'chcsolverlaw02.SexprValid'. -/
def sexprValidUptoCard : Claim7 := { stood := { row := sexprValidUptoRow, standIns := [], harness := (true, "4104577aa53ef28f94370e91399e8514372385fcd8c879a2a68e549d2b349cba"), looks := false }, kinds := [], alts := [], laidByText := true, laidKinds := [.data, .pinned], laidTests := true, laidLooks := .later }
def SexprValidUptoCardSaid : Prop := Claim7.holds Tryd.pinned (.plain (OpenSpec.upto sexprValidSpec)) sexprValidUptoCard
end Rows
end Go.Proofs.YtonenlplcidihaaDoor
