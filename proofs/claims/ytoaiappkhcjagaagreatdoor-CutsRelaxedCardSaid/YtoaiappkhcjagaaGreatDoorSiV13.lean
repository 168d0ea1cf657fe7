/- Part of the proof: SiV13. -/
import Derived.Test.YtoaiappkhcjagaaGreatDoorMSiZA
set_option linter.unusedVariables false
set_option linter.unusedSimpArgs false
namespace Go.Proofs.Si
open Go Go.V Go.Proofs Go.Proofs.Tryz
open Go.IntKind (i64 u64 u32 u8)
set_option maxRecDepth 100000
def vcP0 (A:OA) (B C:Nat) (D E F G:Addr) (w:World) (R:RT):Prop :=
 ∃ n,w.cell? D=some (Iv n)/\∃ p k k1,w.cell? E=some (Lv p k k1)/\R (Bv (decide (n>=(k:Int)))) w
theorem runP0 (A:OA) (B C:Nat) (D E F G:Addr) (w:World) (R:RT) (h:vcP0 A B C D E F G w R):vpc siE pc0 [.slice A B C,.pointer (some D),.pointer (some E),.pointer (some F),.pointer (some G)] w R :=
 Eq.mp (by kernel_rfl:vcP0 A B C D E F G w R=vpc siE pc0 [.slice A B C,.pointer (some D),.pointer (some E),.pointer (some F),.pointer (some G)] w R) h
def vcP2 (A:OA) (B C:Nat) (D E F G:Addr) (w:World) (R:RT):Prop :=
 ∃ p k k1,w.cell? E=some (Lv p k k1)/\∃ n,w.cell? D=some (Iv n)/\∃ a,p=some a/\(0<=n/\n<(k:Int))/\∃ b p1 k2 k3 s p2 k4 k5,vcells w (a.add (n.toNat*4)) 0 [Bv b,Lv p1 k2 k3,Sv s,Lv p2 k4 k5]/\writable (w.alloc (.cells #[Bv false,Lv none 0 0,S0,Lv none 0 0] 115)) (An w 0) 4/\R (.pointer (some (An w 0))) (setCells (w.alloc (.cells #[Bv false,Lv none 0 0,S0,Lv none 0 0] 115)) (An w 0) 0 [Bv b,Lv p1 k2 k3,Sv s,Lv p2 k4 k5])
theorem runP2 (A:OA) (B C:Nat) (D E F G:Addr) (w:World) (R:RT) (h:vcP2 A B C D E F G w R):vpc siE pc2 [.slice A B C,.pointer (some D),.pointer (some E),.pointer (some F),.pointer (some G)] w R :=
 Eq.mp (by kernel_rfl:vcP2 A B C D E F G w R=vpc siE pc2 [.slice A B C,.pointer (some D),.pointer (some E),.pointer (some F),.pointer (some G)] w R) h
def vcP3 (A:OA) (B C:Nat) (D E F G:Addr) (H:Value) (J:Addr) (w:World) (R:RT):Prop :=
 ∃ n,w.cell? D=some (Iv n)/\((∃ v,w.cell? D=some v)/\w.frozen? D=false)/\R (.tuple #[]) (w.setCell D (Iv (i64.wrap (n+1))))
theorem runP3 (A:OA) (B C:Nat) (D E F G:Addr) (H:Value) (J:Addr) (w:World) (R:RT) (h:vcP3 A B C D E F G H J w R):vpc siE pc3 [.slice A B C,.pointer (some D),.pointer (some E),.pointer (some F),.pointer (some G),H,.pointer (some J)] w R :=
 Eq.mp (by kernel_rfl:vcP3 A B C D E F G H J w R=vpc siE pc3 [.slice A B C,.pointer (some D),.pointer (some E),.pointer (some F),.pointer (some G),H,.pointer (some J)] w R) h
def vcP4 (A:OA) (B C:Nat) (D E F G:Addr) (H:Value) (J:Addr) (w:World) (R:RT):Prop :=
 ∃ b,w.cell? J=some (Bv b)/\R (Bv b) w
theorem runP4 (A:OA) (B C:Nat) (D E F G:Addr) (H:Value) (J:Addr) (w:World) (R:RT) (h:vcP4 A B C D E F G H J w R):vpc siE pc4 [.slice A B C,.pointer (some D),.pointer (some E),.pointer (some F),.pointer (some G),H,.pointer (some J)] w R :=
 Eq.mp (by kernel_rfl:vcP4 A B C D E F G H J w R=vpc siE pc4 [.slice A B C,.pointer (some D),.pointer (some E),.pointer (some F),.pointer (some G),H,.pointer (some J)] w R) h
def vcP5 (A:OA) (B C:Nat) (D E F G:Addr) (H:Value) (J:Addr) (w:World) (R:RT):Prop :=
 ∀ (K:KT),(∀ (b:Bool) (w1:World),R (Bv b) w1->K [Bv b] w1)->∃ p k k1,w.drew.cell? (J.add 3)=some (Lv p k k1)/\bif (k:Int) != (B:Int) then K [Bv true] w.drew else ∃ p1 k2 k3,w.drew.cell? (J.add 3)=some (Lv p1 k2 k3)/\Cd 62 #[Lv p1 k2 k3] w.drew fun v w2=>∃ b1,v=Bv b1/\Ext w.drew w2/\bif !b1 then K [Bv true] w2 else ∃ n,w.drew.cell? F=some (Iv n)/\∃ p2 k4 k5,w.drew.cell? (J.add 3)=some (Lv p2 k4 k5)/\Cd 64 #[Lv p2 k4 k5] w2 fun v1 w3=>∃ p3 k6 k7,v1=Lv p3 k6 k7/\Ext w.drew w3/\Cd 101 #[Iv n,Lv A B C,Lv p3 k6 k7] w3 fun v2 w4=>∃ b2,v2=Bv b2/\K [Bv !b2] w4
theorem runP5 (A:OA) (B C:Nat) (D E F G:Addr) (H:Value) (J:Addr) (w:World) (R:RT) (h:vcP5 A B C D E F G H J w R):vpc siE pc5 [.slice A B C,.pointer (some D),.pointer (some E),.pointer (some F),.pointer (some G),H,.pointer (some J)] w R :=
 Eq.mp (by kernel_rfl:vcP5 A B C D E F G H J w R=vpc siE pc5 [.slice A B C,.pointer (some D),.pointer (some E),.pointer (some F),.pointer (some G),H,.pointer (some J)] w R) h
end Go.Proofs.Si
