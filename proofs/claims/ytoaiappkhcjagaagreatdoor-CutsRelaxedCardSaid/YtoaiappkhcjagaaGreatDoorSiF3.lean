/- Part of the proof: SiF3. -/
import Derived.Test.YtoaiappkhcjagaaGreatDoorRows
import Derived.Test.YtoaiappkhcjagaaGreatDoorMSiZA
import Derived.Lay
import Derived.LaidOnce
import Derived.ProofKit
set_option linter.unusedVariables false
set_option linter.unusedSimpArgs false
namespace Go.Proofs.Si
open Go Go.Proofs Go.Proofs.YtoaiappkhcjagaaGreatDoor Go.RowKit Go.Proofs.Tryz
set_option maxRecDepth 100000
abbrev laidL : List (String × DataW Unit) := [("math/bits.deBruijn32tab", Rows.laid_math_bits_deBruijn32tab), ("math/bits.deBruijn64tab", Rows.laid_math_bits_deBruijn64tab), ("internal/strconv.uint64pow10", Rows.laid_internal_strconv_uint64pow10), ("strconv.ErrRange", Rows.laid_strconv_ErrRange), ("strconv.ErrSyntax", Rows.laid_strconv_ErrSyntax)]
theorem fitsFact (os:Os):(World.holding prog os ⟨#[],#[],[]⟩).layFits prog laidL []=true:=by kernel_rfl
theorem ifaceFact (os:Os):(World.holding prog os ⟨#[],#[],[]⟩).layIfaces prog laidL (World.laidAll prog os laidL)=true:=by kernel_rfl
theorem plainFact:(laidL.all fun x=>x.2.handleName?.isNone)=true:=by kernel_rfl
end Go.Proofs.Si
