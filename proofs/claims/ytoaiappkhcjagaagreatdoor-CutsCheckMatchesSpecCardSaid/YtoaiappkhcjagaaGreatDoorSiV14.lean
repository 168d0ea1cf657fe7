/- Part of the proof: SiV14. -/
import Derived.Test.YtoaiappkhcjagaaGreatDoorMSiZA
set_option linter.unusedVariables false
set_option linter.unusedSimpArgs false
namespace Go.Proofs.Si
open Go Go.V Go.Proofs
open Go.IntKind (i64 u64 u32 u8)
set_option maxRecDepth 100000
def vcPA(A:OA)(B C:Nat)(D E:Addr)(w:World)(R:RT):Prop :=
 ∃ v,w.drew.cell? D=some v/\(0<=(B:Int)/\(B:Int)<=(B:Int)/\(B:Int)<=(C:Int))/\∃ p k k1 n n1 n2 s,vcells w.drew E 0 [Lv p k k1,Iv n,Iv n1,Iv n2,Sv s]/\Ext w.drew (w.drew.alloc (.cells #[Lv p k k1,Iv n,Iv n1,Iv n2,Sv s] 90))/\∃ k2 vs vs1,AppOk (w.drew.alloc (.cells #[Lv p k k1,Iv n,Iv n1,Iv n2,Sv s] 90)) k2 90 5 64 A (B:Int).toNat (B:Int).toNat vs (some (An w.drew 0)) 1 vs1/\∀ (p1:OA) (k3:Nat) (w1:World),AppRes (w.drew.alloc (.cells #[Lv p k k1,Iv n,Iv n1,Iv n2,Sv s] 90)) w1 k2 90 5 A (B:Int).toNat (B:Int).toNat vs 1 vs1 p1 k3->Ext w.drew w1/\R (.tuple #[v,Lv p1 ((B:Int).toNat+1) k3]) w1
theorem runPA(A:OA)(B C:Nat)(c0 c1 c2 D:Addr)(x5:Value)(x6 E x8:Addr)(w:World)(R:RT)(h:vcPA A B C D E w R):vtail siE 98 opsA [ResultVar.tmp 76,ResultVar.tmp 85] [.slice A B C,.pointer (some c0),.pointer (some c1),.pointer (some c2),.pointer (some D),x5,.pointer (some x6),.pointer (some E),.pointer (some x8)] w R :=
 Eq.mp (by kernel_rfl:vcPA A B C D E w R=vtail siE 98 opsA [ResultVar.tmp 76,ResultVar.tmp 85] [.slice A B C,.pointer (some c0),.pointer (some c1),.pointer (some c2),.pointer (some D),x5,.pointer (some x6),.pointer (some E),.pointer (some x8)] w R) h
theorem runPB(pa:OA)(pn pc:Nat)(c0 c1 c2 c3:Addr)(x5:Value)(x6 x7 x8:Addr)(w:World)(R:RT)(h:vcPA pa pn pc c3 x8 w R):vtail siE 98 opsB [ResultVar.tmp 87,ResultVar.tmp 96] [.slice pa pn pc,.pointer (some c0),.pointer (some c1),.pointer (some c2),.pointer (some c3),x5,.pointer (some x6),.pointer (some x7),.pointer (some x8)] w R :=
 Eq.mp (by kernel_rfl:vcPA pa pn pc c3 x8 w R=vtail siE 98 opsB [ResultVar.tmp 87,ResultVar.tmp 96] [.slice pa pn pc,.pointer (some c0),.pointer (some c1),.pointer (some c2),.pointer (some c3),x5,.pointer (some x6),.pointer (some x7),.pointer (some x8)] w R) h
end Go.Proofs.Si
