/- Part of the proof: SiV8. -/
import Derived.Test.YtoaiappkhcjagaaGreatDoorSiE
set_option linter.unusedVariables false
set_option linter.unusedSimpArgs false
namespace Go.Proofs.Si
open Go Go.V Go.Proofs Go.Proofs.Tryz
open Go.IntKind (i64 u64 u32 u8)
set_option maxRecDepth 100000
def vc22(A:OA)(B C:Nat)(w:World)(R:RT):Prop :=
 ((0:Int)<=0/\(0:Int)<=i64.wrap ((↑B:Int)+2)/\48*i64.wrap ((↑B:Int)+2)<=281474976710656/\i64.wrap ((↑B:Int)+2)<=9223372036854775807)/\∃ (I:List Value->World->Prop),∃ (μ:List Value->World->Nat),I [.int .i64 0,.slice (some { block:=w.heap.size,off:=0:Addr }) 0 (i64.wrap ((↑B:Int)+2)).toNat] (w.alloc (.cells (madeCells (Value.agg #[.slice none 0 0,.int .i64 0,.string ⟨#[]⟩]).cells ((i64.wrap ((↑B:Int)+2)).toNat*siE.P.types[49].size)) 49))/\∀ (n:Int) (p:OA) (k k1:Nat) (w1:World),I [.int .i64 n,.slice p k k1] w1->bif decide (n<(↑B:Int)) then ∀ (K:List Value->World->Prop),(∀ (p1:OA) (k2 k3:Nat) (w2:World),I [.int .i64 (i64.wrap (n+1)),.slice p1 k2 k3] w2/\μ [.int .i64 (i64.wrap (n+1)),.slice p1 k2 k3] w2<μ [.int .i64 n,.slice p k k1] w1->K [.slice p1 k2 k3] w2)->∃ a,A=some a/\((0:Int)<=n/\n<(↑B:Int))/\∃ p2 k4 k5,w1.drew.cell? (a.add (n.toNat*3))=some (.slice p2 k4 k5)/\∃ a1,A=some a1/\((0:Int)<=n/\n<(↑B:Int))/\∃ p3 k6 k7,w1.drew.cell? (a1.add (n.toNat*3))=some (.slice p3 k6 k7)/\∃ a2,A=some a2/\((0:Int)<=n/\n<(↑B:Int))/\∃ n1,w1.drew.cell? ((a2.add (n.toNat*3)).add 1)=some (.int .i64 n1)/\∃ a3,A=some a3/\((0:Int)<=n/\n<(↑B:Int))/\∃ s,w1.drew.cell? ((a3.add (n.toNat*3)).add 2)=some (.string s)/\((0:Int)<=0/\(0:Int)<=i64.wrap ((↑k4:Int)+2)/\16*i64.wrap ((↑k4:Int)+2)<=281474976710656/\i64.wrap ((↑k4:Int)+2)<=9223372036854775807)/\RowKit.Below w1.drew.heap.size w1.drew (w1.drew.alloc (.cells (madeCells (Value.string { data:=#[]:BA }).cells ((i64.wrap ((↑k4:Int)+2)).toNat*siE.P.types[9].size)) 9))/\∃ k8 vs vs1,AppOk (w1.drew.alloc (.cells (madeCells (Value.string { data:=#[]:BA }).cells ((i64.wrap ((↑k4:Int)+2)).toNat*siE.P.types[9].size)) 9)) k8 9 1 16 (some { block:=w1.drew.heap.size,off:=0:Addr }) 0 (i64.wrap ((↑k4:Int)+2)).toNat vs p3 k6 vs1/\∀ (p4:OA) (k9:Nat) (w3:World),(fun (U:World)=>AppRes (w1.drew.alloc (.cells (madeCells (Value.string { data:=#[]:BA }).cells ((i64.wrap ((↑k4:Int)+2)).toNat*siE.P.types[9].size)) 9)) w3 k8 9 1 (some { block:=w1.drew.heap.size,off:=0:Addr }) 0 (i64.wrap ((↑k4:Int)+2)).toNat vs k6 vs1 p4 k9->RowKit.Below w1.drew.heap.size w1.drew w3/\∃ k10 vs2 vs3,AppOk U k10 49 3 48 p k k1 vs2 (some { block:=w3.heap.size,off:=0:Addr }) 1 vs3/\∀ (p5:OA) (k11:Nat) (w4:World),AppRes U w4 k10 49 3 p k k1 vs2 1 vs3 p5 k11->K [.slice p5 (k+1) k11] w4) (w3.alloc (.cells #[.slice p4 (0+k6) k9,.int .i64 n1,.string s] 49)) else R (.slice p k k1) w1
theorem run22(A)(B C:Nat)(w)(R:RT)(h:vc22 A B C w R):Ret prog 22 #[Lv A B C] w R :=
 yS func22 (Eq.mp (by kernel_rfl) h)
def vc25(A:OA)(B C:Nat)(D:OA)(E F:Nat)(w:World)(R:RT):Prop :=
 bif (B:Int) != (E:Int) then R (Bv false) w else ∃ (I:KT),∃ (μ:MT),I [Iv 0] w/\∀ (n:Int) (w1:World),I [Iv n] w1->bif decide (n<(B:Int)) then ∃ a,A=some a/\(0<=n/\n<(B:Int))/\∃ p k k1 n1 s,vcells w1.drew (a.add (n.toNat*3)) 0 [Lv p k k1,Iv n1,Sv s]/\∃ a1,D=some a1/\(0<=n/\n<(E:Int))/\∃ p1 k2 k3 n2 s1,vcells w1.drew (a1.add (n.toNat*3)) 0 [Lv p1 k2 k3,Iv n2,Sv s1]/\Cd 52 #[.agg #[Lv p k k1,Iv n1,Sv s],.agg #[Lv p1 k2 k3,Iv n2,Sv s1]] w1.drew fun v w2=>∃ b,v=Bv b/\bif !b then R (Bv false) w2 else I [Iv (i64.wrap (n+1))] w2/\μ [Iv (i64.wrap (n+1))] w2<μ [Iv n] w1 else R (Bv true) w1
theorem run25(A)(B C:Nat)(D)(E F:Nat)(w)(R:RT)(h:vc25 A B C D E F w R):Ret prog 25 #[Lv A B C,Lv D E F] w R :=
 yS func25 (Eq.mp (by kernel_rfl) h)
def vc34(A:OA)(B C:Nat)(D:OA)(E F:Nat)(w:World)(R:RT):Prop :=
 bif (B:Int) != (E:Int) then R (Bv false) w else ∃ (I:KT),∃ (μ:MT),I [Iv 0] w/\∀ (n:Int) (w1:World),I [Iv n] w1->bif decide (n<(B:Int)) then ∃ a,A=some a/\(0<=n/\n<(B:Int))/\∃ s,w1.drew.cell? (a.add (n.toNat*1))=some (Sv s)/\∃ a1,D=some a1/\(0<=n/\n<(E:Int))/\∃ s1,w1.drew.cell? (a1.add (n.toNat*1))=some (Sv s1)/\bif !s.toList==s1.toList then R (Bv false) w1.drew else I [Iv (i64.wrap (n+1))] w1.drew/\μ [Iv (i64.wrap (n+1))] w1.drew<μ [Iv n] w1 else R (Bv true) w1
theorem run34(A)(B C:Nat)(D)(E F:Nat)(w)(R:RT)(h:vc34 A B C D E F w R):Ret prog 34 #[Lv A B C,Lv D E F] w R :=
 yS func34 (Eq.mp (by kernel_rfl) h)
def vc46(A:OA)(B C:Nat)(D:Int)(w:World)(R:RT):Prop :=
 bif decide ((B:Int)>D) then R (Bv true) w else ∃ (I:KT),∃ (μ:MT),I [Iv 0] w/\∀ (n:Int) (w1:World),I [Iv n] w1->bif decide (n<(B:Int)) then ∃ a,A=some a/\(0<=n/\n<(B:Int))/\∃ s,w1.cell? (a.add (n.toNat*1))=some (Sv s)/\bif decide ((↑s.size:Int)>60) then R (Bv true) w1 else I [Iv (i64.wrap (n+1))] w1/\μ [Iv (i64.wrap (n+1))] w1<μ [Iv n] w1 else R (Bv false) w1
theorem run46(A)(B C:Nat)(D:Int)(w)(R:RT)(h:vc46 A B C D w R):Ret prog 46 #[Lv A B C,Iv D] w R :=
 yS func46 (Eq.mp (by kernel_rfl) h)
def vc52(A:OA)(B C:Nat)(D:Int)(E:BA)(F:OA)(G H:Nat)(J:Int)(L:BA)(w:World)(R:RT):Prop :=
 (fun (U:World)=>(fun (V:World)=>∀ (K:KT),(∀ (b:Bool) (w1:World),R (Bv b) w1->K [Bv b] w1)->∃ n,U.cell? (An w 1)=some (Iv n)/\∃ n1,U.cell? (An V 1)=some (Iv n1)/\bif n==n1 then ∃ s,U.cell? (An w 2)=some (Sv s)/\∃ s1,U.cell? (An V 2)=some (Sv s1)/\bif s.toList==s1.toList then ∃ p k k1,U.cell? (An w 0)=some (Lv p k k1)/\∃ p1 k2 k3,U.cell? (An V 0)=some (Lv p1 k2 k3)/\Cd 34 #[Lv p k k1,Lv p1 k2 k3] U fun v w2=>∃ b1,v=Bv b1/\K [Bv b1] w2 else K [Bv false] U else K [Bv false] U) (w.alloc (.cells #[Lv A B C,Iv D,Sv E] 49))) ((w.alloc (.cells #[Lv A B C,Iv D,Sv E] 49)).alloc (.cells #[Lv F G H,Iv J,Sv L] 49))
theorem run52(A)(B C:Nat)(D:Int)(E:BA)(F)(G H:Nat)(J:Int)(L:BA)(w)(R:RT)(h:vc52 A B C D E F G H J L w R):Ret prog 52 #[.agg #[Lv A B C,Iv D,Sv E],.agg #[Lv F G H,Iv J,Sv L]] w R :=
 yS func52 (Eq.mp (by kernel_rfl) h)
def vc61(A:OA)(B C:Nat)(D:Int)(w:World)(R:RT):Prop :=
 bif decide ((B:Int)>D) then R (Bv true) w else ∃ (I:KT),∃ (μ:MT),I [Iv 0] w/\∀ (n:Int) (w1:World),I [Iv n] w1->bif decide (n<(B:Int)) then ∀ (K:KT),(∀ (b:Bool) (w2:World),(bif b then R (Bv true) w2 else I [Iv (i64.wrap (n+1))] w2/\μ [Iv (i64.wrap (n+1))] w2<μ [Iv n] w1)->K [Bv b] w2)->∃ a,A=some a/\(0<=n/\n<(B:Int))/\∃ s,w1.cell? ((a.add (n.toNat*3)).add 2)=some (Sv s)/\bif decide ((↑s.size:Int)>60) then K [Bv true] w1 else ∃ a1,A=some a1/\(0<=n/\n<(B:Int))/\∃ p k k1,w1.cell? (a1.add (n.toNat*3))=some (Lv p k k1)/\Cd 46 #[Lv p k k1,Iv 60] w1 fun v w3=>∃ b1,v=Bv b1/\K [Bv b1] w3 else R (Bv false) w1
theorem run61(A)(B C:Nat)(D:Int)(w)(R:RT)(h:vc61 A B C D w R):Ret prog 61 #[Lv A B C,Iv D] w R :=
 yS func61 (Eq.mp (by kernel_rfl) h)
end Go.Proofs.Si
