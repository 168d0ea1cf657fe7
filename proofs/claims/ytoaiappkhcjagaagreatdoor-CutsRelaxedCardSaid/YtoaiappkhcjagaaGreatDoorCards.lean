/-
  DERIVED. GIVEN WITH THE SEED: THE CARDS: each row of YtoaiappkhcjagaaGreatDoorRows.lean that lists a variable, with what it lists TIED to the program's text (the seventh form; the later family's looks); each row that meets fmt, with fmt's text TOLD by the authors' own Lean function (tested against real Go, not proved from fmt's source: count such statements apart). THE CARD IS WHAT COUNTS. Prove the row's statement (the work); the ties are given (YtoaiappkhcjagaaGreatDoorTie.lean); close each card by the builder's one call (the guide's Derived/Test/ToyasCard.lean, 'card_holds'). Laid BY PROGRAM, IN A SANDBOX (cutbox-door.mjs). By AI agents, Wed Nov 11 2026. No macro, syntax, notation, axiom, sorry.
-/
import Derived.Test.YtoaiappkhcjagaaGreatDoorRows
import GoSem.ClaimSeven
namespace Go.Proofs.YtoaiappkhcjagaaGreatDoor
namespace Rows

/-- THE TIED CARD OF 'chcsolverlaw27.SimplexHoldsMatchesSpec'. -/
def simplexHoldsMatchesSpecCard : Claim7 := { stood := { row := simplexHoldsMatchesSpecRow, standIns := [], harness := (true, "a0384fe1acfe31daf06a4b8989364a167a0165e5f21e50d1b2194e9e4a00963a"), looks := true }, kinds := [], alts := [], laidByText := true, laidKinds := [.data, .data, .data, .sentinel, .sentinel], laidTests := true, laidLooks := .later }
def SimplexHoldsMatchesSpecCardSaid : Prop := Claim7.holds Tryz.pinned (.plain (OpenSpec.ofChange simplexHoldsMatchesSpecSpec)) simplexHoldsMatchesSpecCard

/-- THE TIED CARD OF 'chcsolverlaw27.SimplexCheckMatchesSpec'. -/
def simplexCheckMatchesSpecCard : Claim7 := { stood := { row := simplexCheckMatchesSpecRow, standIns := [], harness := (true, "a0384fe1acfe31daf06a4b8989364a167a0165e5f21e50d1b2194e9e4a00963a"), looks := true }, kinds := [], alts := [], laidByText := true, laidKinds := [.data, .data, .data, .sentinel, .sentinel], laidTests := true, laidLooks := .later }
def SimplexCheckMatchesSpecCardSaid : Prop := Claim7.holds Tryz.pinned (.plain (OpenSpec.ofChange simplexCheckMatchesSpecSpec)) simplexCheckMatchesSpecCard

/-- THE TIED CARD OF 'chcsolverlaw27.SimplexAnswers'. -/
def simplexAnswersCard : Claim7 := { stood := { row := simplexAnswersRow, standIns := [], harness := (true, "a0384fe1acfe31daf06a4b8989364a167a0165e5f21e50d1b2194e9e4a00963a"), looks := true }, kinds := [], alts := [], laidByText := true, laidKinds := [.data, .data, .data, .sentinel, .sentinel], laidTests := true, laidLooks := .later }
def SimplexAnswersCardSaid : Prop := Claim7.holds Tryz.pinned (.plain (OpenSpec.ofChange simplexAnswersSpec)) simplexAnswersCard

/-- THE TIED CARD OF 'chcsolverlaw27.SimplexComplete'. -/
def simplexCompleteCard : Claim7 := { stood := { row := simplexCompleteRow, standIns := [], harness := (true, "a0384fe1acfe31daf06a4b8989364a167a0165e5f21e50d1b2194e9e4a00963a"), looks := true }, kinds := [], alts := [], laidByText := true, laidKinds := [.data, .data, .data, .sentinel, .sentinel], laidTests := true, laidLooks := .later }
def SimplexCompleteCardSaid : Prop := Claim7.holds Tryz.pinned (.plain (OpenSpec.ofChange simplexCompleteSpec)) simplexCompleteCard

/-- THE TIED CARD OF 'chcsolverlaw27.SimplexMaximizes'. -/
def simplexMaximizesCard : Claim7 := { stood := { row := simplexMaximizesRow, standIns := [], harness := (true, "a0384fe1acfe31daf06a4b8989364a167a0165e5f21e50d1b2194e9e4a00963a"), looks := true }, kinds := [], alts := [], laidByText := true, laidKinds := [.data, .data, .data, .sentinel, .sentinel], laidTests := true, laidLooks := .later }
def SimplexMaximizesCardSaid : Prop := Claim7.holds Tryz.pinned (.plain (OpenSpec.ofChange simplexMaximizesSpec)) simplexMaximizesCard

/-- THE TIED CARD OF 'chcsolverlaw27.SimplexMaxBounds'. -/
def simplexMaxBoundsCard : Claim7 := { stood := { row := simplexMaxBoundsRow, standIns := [], harness := (true, "a0384fe1acfe31daf06a4b8989364a167a0165e5f21e50d1b2194e9e4a00963a"), looks := true }, kinds := [], alts := [], laidByText := true, laidKinds := [.data, .data, .data, .sentinel, .sentinel], laidTests := true, laidLooks := .later }
def SimplexMaxBoundsCardSaid : Prop := Claim7.holds Tryz.pinned (.plain (OpenSpec.ofChange simplexMaxBoundsSpec)) simplexMaxBoundsCard

/-- THE TIED CARD OF 'chcsolverlaw27.SimplexImplies'. -/
def simplexImpliesCard : Claim7 := { stood := { row := simplexImpliesRow, standIns := [], harness := (true, "a0384fe1acfe31daf06a4b8989364a167a0165e5f21e50d1b2194e9e4a00963a"), looks := true }, kinds := [], alts := [], laidByText := true, laidKinds := [.data, .data, .data, .sentinel, .sentinel], laidTests := true, laidLooks := .later }
def SimplexImpliesCardSaid : Prop := Claim7.holds Tryz.pinned (.plain (OpenSpec.ofChange simplexImpliesSpec)) simplexImpliesCard

/-- THE TIED CARD OF 'chcsolverlaw27.SimplexImpliesHolds'. -/
def simplexImpliesHoldsCard : Claim7 := { stood := { row := simplexImpliesHoldsRow, standIns := [], harness := (true, "a0384fe1acfe31daf06a4b8989364a167a0165e5f21e50d1b2194e9e4a00963a"), looks := true }, kinds := [], alts := [], laidByText := true, laidKinds := [.data, .data, .data, .sentinel, .sentinel], laidTests := true, laidLooks := .later }
def SimplexImpliesHoldsCardSaid : Prop := Claim7.holds Tryz.pinned (.plain (OpenSpec.ofChange simplexImpliesHoldsSpec)) simplexImpliesHoldsCard

/-- THE TIED CARD OF 'chcsolverlaw27.SimplexScales'. -/
def simplexScalesCard : Claim7 := { stood := { row := simplexScalesRow, standIns := [], harness := (true, "a0384fe1acfe31daf06a4b8989364a167a0165e5f21e50d1b2194e9e4a00963a"), looks := true }, kinds := [], alts := [], laidByText := true, laidKinds := [.data, .data, .data, .sentinel, .sentinel], laidTests := true, laidLooks := .later }
def SimplexScalesCardSaid : Prop := Claim7.holds Tryz.pinned (.plain (OpenSpec.ofChange simplexScalesSpec)) simplexScalesCard

/-- THE TIED CARD OF 'chcsolverlaw28.CutsRelaxed'. -/
def cutsRelaxedCard : Claim7 := { stood := { row := cutsRelaxedRow, standIns := [], harness := (true, "a0384fe1acfe31daf06a4b8989364a167a0165e5f21e50d1b2194e9e4a00963a"), looks := true }, kinds := [], alts := [], laidByText := true, laidKinds := [.data, .data, .data, .sentinel, .sentinel], laidTests := true, laidLooks := .later }
def CutsRelaxedCardSaid : Prop := Claim7.holds Tryz.pinned (.plain (OpenSpec.ofChange cutsRelaxedSpec)) cutsRelaxedCard

/-- THE TIED CARD OF 'chcsolverlaw28.CutsTightenKeeps'. -/
def cutsTightenKeepsCard : Claim7 := { stood := { row := cutsTightenKeepsRow, standIns := [], harness := (true, "a0384fe1acfe31daf06a4b8989364a167a0165e5f21e50d1b2194e9e4a00963a"), looks := true }, kinds := [], alts := [], laidByText := true, laidKinds := [.data, .data, .data, .sentinel, .sentinel], laidTests := true, laidLooks := .later }
def CutsTightenKeepsCardSaid : Prop := Claim7.holds Tryz.pinned (.plain (OpenSpec.ofChange cutsTightenKeepsSpec)) cutsTightenKeepsCard

/-- THE TIED CARD OF 'chcsolverlaw28.CutsTightenMatchesSpec'. -/
def cutsTightenMatchesSpecCard : Claim7 := { stood := { row := cutsTightenMatchesSpecRow, standIns := [], harness := (true, "a0384fe1acfe31daf06a4b8989364a167a0165e5f21e50d1b2194e9e4a00963a"), looks := true }, kinds := [], alts := [], laidByText := true, laidKinds := [.data, .data, .data, .sentinel, .sentinel], laidTests := true, laidLooks := .later }
def CutsTightenMatchesSpecCardSaid : Prop := Claim7.holds Tryz.pinned (.plain (OpenSpec.ofChange cutsTightenMatchesSpecSpec)) cutsTightenMatchesSpecCard

/-- THE TIED CARD OF 'chcsolverlaw28.CutsCheckMatchesSpec'. -/
def cutsCheckMatchesSpecCard : Claim7 := { stood := { row := cutsCheckMatchesSpecRow, standIns := [], harness := (true, "a0384fe1acfe31daf06a4b8989364a167a0165e5f21e50d1b2194e9e4a00963a"), looks := true }, kinds := [], alts := [], laidByText := true, laidKinds := [.data, .data, .data, .sentinel, .sentinel], laidTests := true, laidLooks := .later }
def CutsCheckMatchesSpecCardSaid : Prop := Claim7.holds Tryz.pinned (.plain (OpenSpec.ofChange cutsCheckMatchesSpecSpec)) cutsCheckMatchesSpecCard

/-- THE TIED CARD OF 'chcsolverlaw28.CutsAnswers'. -/
def cutsAnswersCard : Claim7 := { stood := { row := cutsAnswersRow, standIns := [], harness := (true, "a0384fe1acfe31daf06a4b8989364a167a0165e5f21e50d1b2194e9e4a00963a"), looks := true }, kinds := [], alts := [], laidByText := true, laidKinds := [.data, .data, .data, .sentinel, .sentinel], laidTests := true, laidLooks := .later }
def CutsAnswersCardSaid : Prop := Claim7.holds Tryz.pinned (.plain (OpenSpec.ofChange cutsAnswersSpec)) cutsAnswersCard

/-- THE TIED CARD OF 'chcsolverlaw28.CutsSound'. -/
def cutsSoundCard : Claim7 := { stood := { row := cutsSoundRow, standIns := [], harness := (true, "a0384fe1acfe31daf06a4b8989364a167a0165e5f21e50d1b2194e9e4a00963a"), looks := true }, kinds := [], alts := [], laidByText := true, laidKinds := [.data, .data, .data, .sentinel, .sentinel], laidTests := true, laidLooks := .later }
def CutsSoundCardSaid : Prop := Claim7.holds Tryz.pinned (.plain (OpenSpec.ofChange cutsSoundSpec)) cutsSoundCard

/-- THE TIED CARD OF 'chcsolverlaw28.CutsMonotone'. -/
def cutsMonotoneCard : Claim7 := { stood := { row := cutsMonotoneRow, standIns := [], harness := (true, "a0384fe1acfe31daf06a4b8989364a167a0165e5f21e50d1b2194e9e4a00963a"), looks := true }, kinds := [], alts := [], laidByText := true, laidKinds := [.data, .data, .data, .sentinel, .sentinel], laidTests := true, laidLooks := .later }
def CutsMonotoneCardSaid : Prop := Claim7.holds Tryz.pinned (.plain (OpenSpec.ofChange cutsMonotoneSpec)) cutsMonotoneCard

/-- THE TIED CARD OF 'chcsolverlaw28.CutsBounded'. -/
def cutsBoundedCard : Claim7 := { stood := { row := cutsBoundedRow, standIns := [], harness := (true, "a0384fe1acfe31daf06a4b8989364a167a0165e5f21e50d1b2194e9e4a00963a"), looks := true }, kinds := [], alts := [], laidByText := true, laidKinds := [.data, .data, .data, .sentinel, .sentinel], laidTests := true, laidLooks := .later }
def CutsBoundedCardSaid : Prop := Claim7.holds Tryz.pinned (.plain (OpenSpec.ofChange cutsBoundedSpec)) cutsBoundedCard

/-- THE SECOND FORM's CARD OF 'chcsolverlaw27.SimplexHoldsMatchesSpec'. -/
def simplexHoldsMatchesSpecUptoCard : Claim7 := { stood := { row := simplexHoldsMatchesSpecUptoRow, standIns := [], harness := (true, "a0384fe1acfe31daf06a4b8989364a167a0165e5f21e50d1b2194e9e4a00963a"), looks := true }, kinds := [], alts := [], laidByText := true, laidKinds := [.data, .data, .data, .sentinel, .sentinel], laidTests := true, laidLooks := .later }
def SimplexHoldsMatchesSpecUptoCardSaid : Prop := Claim7.holds Tryz.pinned (.plain (OpenSpec.upto simplexHoldsMatchesSpecSpec)) simplexHoldsMatchesSpecUptoCard

/-- THE SECOND FORM's CARD OF 'chcsolverlaw27.SimplexCheckMatchesSpec'. -/
def simplexCheckMatchesSpecUptoCard : Claim7 := { stood := { row := simplexCheckMatchesSpecUptoRow, standIns := [], harness := (true, "a0384fe1acfe31daf06a4b8989364a167a0165e5f21e50d1b2194e9e4a00963a"), looks := true }, kinds := [], alts := [], laidByText := true, laidKinds := [.data, .data, .data, .sentinel, .sentinel], laidTests := true, laidLooks := .later }
def SimplexCheckMatchesSpecUptoCardSaid : Prop := Claim7.holds Tryz.pinned (.plain (OpenSpec.upto simplexCheckMatchesSpecSpec)) simplexCheckMatchesSpecUptoCard

/-- THE SECOND FORM's CARD OF 'chcsolverlaw27.SimplexAnswers'. -/
def simplexAnswersUptoCard : Claim7 := { stood := { row := simplexAnswersUptoRow, standIns := [], harness := (true, "a0384fe1acfe31daf06a4b8989364a167a0165e5f21e50d1b2194e9e4a00963a"), looks := true }, kinds := [], alts := [], laidByText := true, laidKinds := [.data, .data, .data, .sentinel, .sentinel], laidTests := true, laidLooks := .later }
def SimplexAnswersUptoCardSaid : Prop := Claim7.holds Tryz.pinned (.plain (OpenSpec.upto simplexAnswersSpec)) simplexAnswersUptoCard

/-- THE SECOND FORM's CARD OF 'chcsolverlaw27.SimplexComplete'. -/
def simplexCompleteUptoCard : Claim7 := { stood := { row := simplexCompleteUptoRow, standIns := [], harness := (true, "a0384fe1acfe31daf06a4b8989364a167a0165e5f21e50d1b2194e9e4a00963a"), looks := true }, kinds := [], alts := [], laidByText := true, laidKinds := [.data, .data, .data, .sentinel, .sentinel], laidTests := true, laidLooks := .later }
def SimplexCompleteUptoCardSaid : Prop := Claim7.holds Tryz.pinned (.plain (OpenSpec.upto simplexCompleteSpec)) simplexCompleteUptoCard

/-- THE SECOND FORM's CARD OF 'chcsolverlaw27.SimplexMaximizes'. -/
def simplexMaximizesUptoCard : Claim7 := { stood := { row := simplexMaximizesUptoRow, standIns := [], harness := (true, "a0384fe1acfe31daf06a4b8989364a167a0165e5f21e50d1b2194e9e4a00963a"), looks := true }, kinds := [], alts := [], laidByText := true, laidKinds := [.data, .data, .data, .sentinel, .sentinel], laidTests := true, laidLooks := .later }
def SimplexMaximizesUptoCardSaid : Prop := Claim7.holds Tryz.pinned (.plain (OpenSpec.upto simplexMaximizesSpec)) simplexMaximizesUptoCard

/-- THE SECOND FORM's CARD OF 'chcsolverlaw27.SimplexMaxBounds'. -/
def simplexMaxBoundsUptoCard : Claim7 := { stood := { row := simplexMaxBoundsUptoRow, standIns := [], harness := (true, "a0384fe1acfe31daf06a4b8989364a167a0165e5f21e50d1b2194e9e4a00963a"), looks := true }, kinds := [], alts := [], laidByText := true, laidKinds := [.data, .data, .data, .sentinel, .sentinel], laidTests := true, laidLooks := .later }
def SimplexMaxBoundsUptoCardSaid : Prop := Claim7.holds Tryz.pinned (.plain (OpenSpec.upto simplexMaxBoundsSpec)) simplexMaxBoundsUptoCard

/-- THE SECOND FORM's CARD OF 'chcsolverlaw27.SimplexImplies'. -/
def simplexImpliesUptoCard : Claim7 := { stood := { row := simplexImpliesUptoRow, standIns := [], harness := (true, "a0384fe1acfe31daf06a4b8989364a167a0165e5f21e50d1b2194e9e4a00963a"), looks := true }, kinds := [], alts := [], laidByText := true, laidKinds := [.data, .data, .data, .sentinel, .sentinel], laidTests := true, laidLooks := .later }
def SimplexImpliesUptoCardSaid : Prop := Claim7.holds Tryz.pinned (.plain (OpenSpec.upto simplexImpliesSpec)) simplexImpliesUptoCard

/-- THE SECOND FORM's CARD OF 'chcsolverlaw27.SimplexImpliesHolds'. -/
def simplexImpliesHoldsUptoCard : Claim7 := { stood := { row := simplexImpliesHoldsUptoRow, standIns := [], harness := (true, "a0384fe1acfe31daf06a4b8989364a167a0165e5f21e50d1b2194e9e4a00963a"), looks := true }, kinds := [], alts := [], laidByText := true, laidKinds := [.data, .data, .data, .sentinel, .sentinel], laidTests := true, laidLooks := .later }
def SimplexImpliesHoldsUptoCardSaid : Prop := Claim7.holds Tryz.pinned (.plain (OpenSpec.upto simplexImpliesHoldsSpec)) simplexImpliesHoldsUptoCard

/-- THE SECOND FORM's CARD OF 'chcsolverlaw27.SimplexScales'. -/
def simplexScalesUptoCard : Claim7 := { stood := { row := simplexScalesUptoRow, standIns := [], harness := (true, "a0384fe1acfe31daf06a4b8989364a167a0165e5f21e50d1b2194e9e4a00963a"), looks := true }, kinds := [], alts := [], laidByText := true, laidKinds := [.data, .data, .data, .sentinel, .sentinel], laidTests := true, laidLooks := .later }
def SimplexScalesUptoCardSaid : Prop := Claim7.holds Tryz.pinned (.plain (OpenSpec.upto simplexScalesSpec)) simplexScalesUptoCard

/-- THE SECOND FORM's CARD OF 'chcsolverlaw28.CutsRelaxed'. -/
def cutsRelaxedUptoCard : Claim7 := { stood := { row := cutsRelaxedUptoRow, standIns := [], harness := (true, "a0384fe1acfe31daf06a4b8989364a167a0165e5f21e50d1b2194e9e4a00963a"), looks := true }, kinds := [], alts := [], laidByText := true, laidKinds := [.data, .data, .data, .sentinel, .sentinel], laidTests := true, laidLooks := .later }
def CutsRelaxedUptoCardSaid : Prop := Claim7.holds Tryz.pinned (.plain (OpenSpec.upto cutsRelaxedSpec)) cutsRelaxedUptoCard

/-- THE SECOND FORM's CARD OF 'chcsolverlaw28.CutsTightenKeeps'. -/
def cutsTightenKeepsUptoCard : Claim7 := { stood := { row := cutsTightenKeepsUptoRow, standIns := [], harness := (true, "a0384fe1acfe31daf06a4b8989364a167a0165e5f21e50d1b2194e9e4a00963a"), looks := true }, kinds := [], alts := [], laidByText := true, laidKinds := [.data, .data, .data, .sentinel, .sentinel], laidTests := true, laidLooks := .later }
def CutsTightenKeepsUptoCardSaid : Prop := Claim7.holds Tryz.pinned (.plain (OpenSpec.upto cutsTightenKeepsSpec)) cutsTightenKeepsUptoCard

/-- THE SECOND FORM's CARD OF 'chcsolverlaw28.CutsTightenMatchesSpec'. -/
def cutsTightenMatchesSpecUptoCard : Claim7 := { stood := { row := cutsTightenMatchesSpecUptoRow, standIns := [], harness := (true, "a0384fe1acfe31daf06a4b8989364a167a0165e5f21e50d1b2194e9e4a00963a"), looks := true }, kinds := [], alts := [], laidByText := true, laidKinds := [.data, .data, .data, .sentinel, .sentinel], laidTests := true, laidLooks := .later }
def CutsTightenMatchesSpecUptoCardSaid : Prop := Claim7.holds Tryz.pinned (.plain (OpenSpec.upto cutsTightenMatchesSpecSpec)) cutsTightenMatchesSpecUptoCard

/-- THE SECOND FORM's CARD OF 'chcsolverlaw28.CutsCheckMatchesSpec'. -/
def cutsCheckMatchesSpecUptoCard : Claim7 := { stood := { row := cutsCheckMatchesSpecUptoRow, standIns := [], harness := (true, "a0384fe1acfe31daf06a4b8989364a167a0165e5f21e50d1b2194e9e4a00963a"), looks := true }, kinds := [], alts := [], laidByText := true, laidKinds := [.data, .data, .data, .sentinel, .sentinel], laidTests := true, laidLooks := .later }
def CutsCheckMatchesSpecUptoCardSaid : Prop := Claim7.holds Tryz.pinned (.plain (OpenSpec.upto cutsCheckMatchesSpecSpec)) cutsCheckMatchesSpecUptoCard

/-- THE SECOND FORM's CARD OF 'chcsolverlaw28.CutsAnswers'. -/
def cutsAnswersUptoCard : Claim7 := { stood := { row := cutsAnswersUptoRow, standIns := [], harness := (true, "a0384fe1acfe31daf06a4b8989364a167a0165e5f21e50d1b2194e9e4a00963a"), looks := true }, kinds := [], alts := [], laidByText := true, laidKinds := [.data, .data, .data, .sentinel, .sentinel], laidTests := true, laidLooks := .later }
def CutsAnswersUptoCardSaid : Prop := Claim7.holds Tryz.pinned (.plain (OpenSpec.upto cutsAnswersSpec)) cutsAnswersUptoCard

/-- THE SECOND FORM's CARD OF 'chcsolverlaw28.CutsSound'. -/
def cutsSoundUptoCard : Claim7 := { stood := { row := cutsSoundUptoRow, standIns := [], harness := (true, "a0384fe1acfe31daf06a4b8989364a167a0165e5f21e50d1b2194e9e4a00963a"), looks := true }, kinds := [], alts := [], laidByText := true, laidKinds := [.data, .data, .data, .sentinel, .sentinel], laidTests := true, laidLooks := .later }
def CutsSoundUptoCardSaid : Prop := Claim7.holds Tryz.pinned (.plain (OpenSpec.upto cutsSoundSpec)) cutsSoundUptoCard

/-- THE SECOND FORM's CARD OF 'chcsolverlaw28.CutsMonotone'. -/
def cutsMonotoneUptoCard : Claim7 := { stood := { row := cutsMonotoneUptoRow, standIns := [], harness := (true, "a0384fe1acfe31daf06a4b8989364a167a0165e5f21e50d1b2194e9e4a00963a"), looks := true }, kinds := [], alts := [], laidByText := true, laidKinds := [.data, .data, .data, .sentinel, .sentinel], laidTests := true, laidLooks := .later }
def CutsMonotoneUptoCardSaid : Prop := Claim7.holds Tryz.pinned (.plain (OpenSpec.upto cutsMonotoneSpec)) cutsMonotoneUptoCard

/-- THE SECOND FORM's CARD OF 'chcsolverlaw28.CutsBounded'. -/
def cutsBoundedUptoCard : Claim7 := { stood := { row := cutsBoundedUptoRow, standIns := [], harness := (true, "a0384fe1acfe31daf06a4b8989364a167a0165e5f21e50d1b2194e9e4a00963a"), looks := true }, kinds := [], alts := [], laidByText := true, laidKinds := [.data, .data, .data, .sentinel, .sentinel], laidTests := true, laidLooks := .later }
def CutsBoundedUptoCardSaid : Prop := Claim7.holds Tryz.pinned (.plain (OpenSpec.upto cutsBoundedSpec)) cutsBoundedUptoCard
end Rows
end Go.Proofs.YtoaiappkhcjagaaGreatDoor
