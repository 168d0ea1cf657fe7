/- Part of the proof: SxV3. -/
import Derived.Test.YtonenlplcidihaaDoorSxE
namespace Go.Proofs.Sx
open Go Go.V Go.Proofs
set_option maxRecDepth 100000
set_option linter.unusedVariables false

/-! 71: strings.trimLeftASCII (320 ms) -/
def vc71 (s : ByteArray) (as' : Addr) (w : World) (R : Value → World → Prop) : Prop :=
  ∃ (I : List Value → World → Prop),
    ∃ (μ : List Value → World → Nat),
      I [Value.string s] w ∧
        ∀ (s1 : ByteArray) (w1 : World),
          I [Value.string s1] w1 →
            bif decide ((↑s1.size : Int) > 0) then
              ((0 : Int) ≤ 0 ∧ (0 : Int) < (↑s1.size : Int)) ∧
                Called Tryd.prog 81 #[Value.pointer (some as'), Value.int IntKind.u8 (bt s1 0)] w1 fun (v : Value) (w2 : World) =>
                  ∃ (b : Bool),
                    v = Value.bool b ∧ bif !b then R (Value.string s1) w2 else ((0 : Int) ≤ 1 ∧ (1 : Int) ≤ (↑s1.size : Int)) ∧ I [Value.string (s1.extract 1 s1.size)] w2 ∧ μ [Value.string (s1.extract 1 s1.size)] w2 < μ [Value.string s1] w1
            else R (Value.string s1) w1

theorem run71 (s : ByteArray) (as' : Addr) (w : World) (R : Value → World → Prop) (h : vc71 s as' w R) : Ret Tryd.prog 71 #[.string s, .pointer (some as')] w R :=
  vfn_sound sxE_ok (args := [.string s, .pointer (some as')]) Tryd.func71 (Eq.mp (by kernel_rfl : vc71 s as' w R = vfn sxE Tryd.f71 [.string s, .pointer (some as')] w R) h)

/-! 72: strings.trimRightASCII (526 ms) -/
def vc72 (s : ByteArray) (as' : Addr) (w : World) (R : Value → World → Prop) : Prop :=
  ∃ (I : List Value → World → Prop),
    ∃ (μ : List Value → World → Nat),
      I [Value.string s] w ∧
        ∀ (s1 : ByteArray) (w1 : World),
          I [Value.string s1] w1 →
            bif decide ((↑s1.size : Int) > 0) then
              ((0 : Int) ≤ IntKind.i64.wrap ((↑s1.size : Int) - 1) ∧ IntKind.i64.wrap ((↑s1.size : Int) - 1) < (↑s1.size : Int)) ∧
                Called Tryd.prog 81 #[Value.pointer (some as'), Value.int IntKind.u8 (bt s1 (IntKind.i64.wrap ((↑s1.size : Int) - 1)))] w1 fun (v : Value) (w2 : World) =>
                  ∃ (b : Bool),
                    v = Value.bool b ∧
                      bif !b then R (Value.string s1) w2
                      else
                        ((0 : Int) ≤ IntKind.i64.wrap ((↑s1.size : Int) - 1) ∧ IntKind.i64.wrap ((↑s1.size : Int) - 1) ≤ (↑s1.size : Int)) ∧
                          I [Value.string (s1.extract 0 (IntKind.i64.wrap ((↑s1.size : Int) - 1)).toNat)] w2 ∧ μ [Value.string (s1.extract 0 (IntKind.i64.wrap ((↑s1.size : Int) - 1)).toNat)] w2 < μ [Value.string s1] w1
            else R (Value.string s1) w1

theorem run72 (s : ByteArray) (as' : Addr) (w : World) (R : Value → World → Prop) (h : vc72 s as' w R) : Ret Tryd.prog 72 #[.string s, .pointer (some as')] w R :=
  vfn_sound sxE_ok (args := [.string s, .pointer (some as')]) Tryd.func72 (Eq.mp (by kernel_rfl : vc72 s as' w R = vfn sxE Tryd.f72 [.string s, .pointer (some as')] w R) h)

end Go.Proofs.Sx
