/- Part of the proof: SiV8. -/
import Derived.Test.YtoaiappkhcjagaaGreatDoorSiE
set_option linter.unusedVariables false
set_option linter.unusedSimpArgs false
namespace Go.Proofs.Si
open Go Go.V Go.Proofs Go.Proofs.Tryz
open Go.IntKind (i64 u64 u32 u8)
set_option maxRecDepth 100000
def vc34 (A:OA) (B C:Nat) (D:OA) (E F:Nat) (w:World) (R:RT):Prop :=
 bif (B:Int) != (E:Int) then R (Bv false) w else ∃ (I:KT),∃ (μ:MT),I [Iv 0] w/\∀ (n:Int) (w1:World),I [Iv n] w1->bif decide (n<(B:Int)) then ∃ a,A=some a/\(0<=n/\n<(B:Int))/\∃ s,w1.drew.cell? (a.add (n.toNat*1))=some (Sv s)/\∃ a1,D=some a1/\(0<=n/\n<(E:Int))/\∃ s1,w1.drew.cell? (a1.add (n.toNat*1))=some (Sv s1)/\bif !s.toList==s1.toList then R (Bv false) w1.drew else I [Iv (i64.wrap (n+1))] w1.drew/\μ [Iv (i64.wrap (n+1))] w1.drew<μ [Iv n] w1 else R (Bv true) w1
theorem run34 (A:OA) (B C:Nat) (D:OA) (E F:Nat) (w:World) (R:RT) (h:vc34 A B C D E F w R):Ret prog 34 #[Lv A B C,Lv D E F] w R :=
 zAa siE_ok func34 (Eq.mp (by kernel_rfl) h)
def vc46 (A:OA) (B C:Nat) (D:Int) (w:World) (R:RT):Prop :=
 bif decide ((B:Int)>D) then R (Bv true) w else ∃ (I:KT),∃ (μ:MT),I [Iv 0] w/\∀ (n:Int) (w1:World),I [Iv n] w1->bif decide (n<(B:Int)) then ∃ a,A=some a/\(0<=n/\n<(B:Int))/\∃ s,w1.cell? (a.add (n.toNat*1))=some (Sv s)/\bif decide ((↑s.size:Int)>60) then R (Bv true) w1 else I [Iv (i64.wrap (n+1))] w1/\μ [Iv (i64.wrap (n+1))] w1<μ [Iv n] w1 else R (Bv false) w1
theorem run46 (A:OA) (B C:Nat) (D:Int) (w:World) (R:RT) (h:vc46 A B C D w R):Ret prog 46 #[Lv A B C,Iv D] w R :=
 zAa siE_ok func46 (Eq.mp (by kernel_rfl) h)
def vc52 (A:OA) (B C:Nat) (D:Int) (E:BA) (F:OA) (G H:Nat) (J:Int) (L:BA) (w:World) (R:RT):Prop :=
 ∀ (K:KT),(∀ (b:Bool) (w1:World),R (Bv b) w1->K [Bv b] w1)->∃ n,((w.alloc (.cells #[Lv A B C,Iv D,Sv E] 49)).alloc (.cells #[Lv F G H,Iv J,Sv L] 49)).cell? (An w 1)=some (Iv n)/\∃ n1,((w.alloc (.cells #[Lv A B C,Iv D,Sv E] 49)).alloc (.cells #[Lv F G H,Iv J,Sv L] 49)).cell? (An (w.alloc (.cells #[Lv A B C,Iv D,Sv E] 49)) 1)=some (Iv n1)/\bif n==n1 then ∃ s,((w.alloc (.cells #[Lv A B C,Iv D,Sv E] 49)).alloc (.cells #[Lv F G H,Iv J,Sv L] 49)).cell? (An w 2)=some (Sv s)/\∃ s1,((w.alloc (.cells #[Lv A B C,Iv D,Sv E] 49)).alloc (.cells #[Lv F G H,Iv J,Sv L] 49)).cell? (An (w.alloc (.cells #[Lv A B C,Iv D,Sv E] 49)) 2)=some (Sv s1)/\bif s.toList==s1.toList then ∃ p k k1,((w.alloc (.cells #[Lv A B C,Iv D,Sv E] 49)).alloc (.cells #[Lv F G H,Iv J,Sv L] 49)).cell? (An w 0)=some (Lv p k k1)/\∃ p1 k2 k3,((w.alloc (.cells #[Lv A B C,Iv D,Sv E] 49)).alloc (.cells #[Lv F G H,Iv J,Sv L] 49)).cell? (An (w.alloc (.cells #[Lv A B C,Iv D,Sv E] 49)) 0)=some (Lv p1 k2 k3)/\Cd 34 #[Lv p k k1,Lv p1 k2 k3] ((w.alloc (.cells #[Lv A B C,Iv D,Sv E] 49)).alloc (.cells #[Lv F G H,Iv J,Sv L] 49)) fun v w2=>∃ b1,v=Bv b1/\K [Bv b1] w2 else K [Bv false] ((w.alloc (.cells #[Lv A B C,Iv D,Sv E] 49)).alloc (.cells #[Lv F G H,Iv J,Sv L] 49)) else K [Bv false] ((w.alloc (.cells #[Lv A B C,Iv D,Sv E] 49)).alloc (.cells #[Lv F G H,Iv J,Sv L] 49))
theorem run52 (A:OA) (B C:Nat) (D:Int) (E:BA) (F:OA) (G H:Nat) (J:Int) (L:BA) (w:World) (R:RT) (h:vc52 A B C D E F G H J L w R):Ret prog 52 #[.agg #[Lv A B C,Iv D,Sv E],.agg #[Lv F G H,Iv J,Sv L]] w R :=
 zAa siE_ok func52 (Eq.mp (by kernel_rfl) h)
def vc61 (A:OA) (B C:Nat) (D:Int) (w:World) (R:RT):Prop :=
 bif decide ((B:Int)>D) then R (Bv true) w else ∃ (I:KT),∃ (μ:MT),I [Iv 0] w/\∀ (n:Int) (w1:World),I [Iv n] w1->bif decide (n<(B:Int)) then ∀ (K:KT),(∀ (b:Bool) (w2:World),(bif b then R (Bv true) w2 else I [Iv (i64.wrap (n+1))] w2/\μ [Iv (i64.wrap (n+1))] w2<μ [Iv n] w1)->K [Bv b] w2)->∃ a,A=some a/\(0<=n/\n<(B:Int))/\∃ s,w1.cell? ((a.add (n.toNat*3)).add 2)=some (Sv s)/\bif decide ((↑s.size:Int)>60) then K [Bv true] w1 else ∃ a1,A=some a1/\(0<=n/\n<(B:Int))/\∃ p k k1,w1.cell? (a1.add (n.toNat*3))=some (Lv p k k1)/\Cd 46 #[Lv p k k1,Iv 60] w1 fun v w3=>∃ b1,v=Bv b1/\K [Bv b1] w3 else R (Bv false) w1
theorem run61 (A:OA) (B C:Nat) (D:Int) (w:World) (R:RT) (h:vc61 A B C D w R):Ret prog 61 #[Lv A B C,Iv D] w R :=
 zAa siE_ok func61 (Eq.mp (by kernel_rfl) h)
end Go.Proofs.Si
