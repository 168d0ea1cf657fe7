/- Part of the proof: SxV2. -/
import Derived.Test.YtonenlplcidihaaDoorSxE
namespace Go.Proofs.Sx
open Go Go.V Go.Proofs
set_option maxRecDepth 100000
set_option linter.unusedVariables false

/-! 37: (*strings.Builder).WriteByte (1648 ms) -/
def vc37 (b : Addr) (c : Int) (w : World) (R : Value → World → Prop) : Prop :=
  Called Tryd.prog 54 #[Value.pointer (some b)] w fun (v : Value) (w1 : World) =>
    v = Value.tuple #[] ∧
      ∃ (p : Option Addr),
        ∃ (k : Nat),
          ∃ (k1 : Nat),
            w1.cell? (b.add 1) = some (Value.slice p k k1) ∧
              ∃ (k2 : Nat),
                ∃ (vs : List Value),
                  ∃ (vs1 : List Value),
                    AppOk (w1.alloc (Obj.cells #[Value.int IntKind.u8 c] 5)) k2 5 1 1 p k k1 vs (some { block := w1.heap.size, off := 0 : Addr }) 1 vs1 ∧
                      ∀ (p1 : Option Addr) (k3 : Nat) (w2 : World),
                        AppRes (w1.alloc (Obj.cells #[Value.int IntKind.u8 c] 5)) w2 k2 5 1 p k k1 vs 1 vs1 p1 k3 →
                          ((∃ (v1 : Value), w2.cell? (b.add 1) = some v1) ∧ w2.frozen? (b.add 1) = false) ∧ R Value.nilIface (w2.setCell (b.add 1) (Value.slice p1 (k + 1) k3))

theorem run37 (b : Addr) (c : Int) (w : World) (R : Value → World → Prop) (h : vc37 b c w R) : Ret Tryd.prog 37 #[.pointer (some b), .int .u8 c] w R :=
  vfn_sound sxE_ok (args := [.pointer (some b), .int .u8 c]) Tryd.func37 (Eq.mp (by kernel_rfl : vc37 b c w R = vfn sxE Tryd.f37 [.pointer (some b), .int .u8 c] w R) h)

end Go.Proofs.Sx
