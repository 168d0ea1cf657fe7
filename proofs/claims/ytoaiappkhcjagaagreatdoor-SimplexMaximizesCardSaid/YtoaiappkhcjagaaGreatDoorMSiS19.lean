/- Part of the proof: SiS19, SiS20, SiS21, SiS22, SiF2, SiRow. -/
import Derived.Test.YtoaiappkhcjagaaGreatDoorMSiS15
import Derived.Test.YtoaiappkhcjagaaGreatDoorProg
import Derived.KernelRfl
import GoSem.ClaimSeven
import Derived.ProofKit
import Derived.OpenShut
import Derived.ShutString
import Derived.Below
import Derived.Lay
import Derived.LaidOnce
import Derived.SevenTiedAt
import Derived.ChangeSlices
import Derived.ChangeOld
import Derived.Carry
import Derived.DataReads
import Derived.Lib.LaidTab
import Derived.Stop.LaidErr
set_option linter.unusedVariables false
set_option linter.unusedSimpArgs false
namespace Go.Proofs.Si
open Go Go.V Go.Proofs Go.RowKit Go.Num Go.Tb Go.Proofs.Tryz
open Go.IntKind (i64 u64 u32 u8)
set_option maxRecDepth 100000
def vc7 (n:Int) (A:Option Addr) (B C:Nat) (D:Option Addr) (E F:Nat) (w:World) (R:RT):Prop :=
 Cd 20 #[Iv n,Lv A B C,Lv (some (Ad w.heap.size 0)) 1 1] (w.alloc (.cells #[Lv D E F] 23)) fun v w1=>∃ b,v=Bv b/\bif b then Cd 21 #[] w1 fun v1 w2=>∃ b1,v1=Bv b1/\R (Bv b1) w2 else Cd 22 #[Lv A B C] w1 fun v2 w3=>∃ p k k1,v2=Lv p k k1/\∃ k2 vs vs1,AppOk (w3.alloc (.cells #[] 9)) k2 9 1 16 (some (Ad w3.heap.size 0)) 0 0 vs D E vs1/\∀ (p1:Option Addr) (k3:Nat) (w4:World),AppRes (w3.alloc (.cells #[] 9)) w4 k2 9 1 (some (Ad w3.heap.size 0)) 0 0 vs E vs1 p1 k3->Cd 30 #[Iv n,Lv p k k1,Lv p1 (0+E) k3] w4 fun v3 w5=>∃ n1 s b2 p2 k4 k5 p3 k6 k7 p4 k8 k9 n2,v3 = .tuple #[.agg #[Iv n1,Sv s,Bv b2,Lv p2 k4 k5,Lv p3 k6 k7,Lv p4 k8 k9],Iv n2]/\writable (w5.alloc (.cells #[Iv 0,Sv ⟨#[]⟩,Bv false,Lv none 0 0,Lv none 0 0,Lv none 0 0] 38)) (Ad w5.heap.size 0) 6/\Cd 25 #[Lv p k k1,Lv A B C] (setCells (w5.alloc (.cells #[Iv 0,Sv ⟨#[]⟩,Bv false,Lv none 0 0,Lv none 0 0,Lv none 0 0] 38)) (Ad w5.heap.size 0) 0 [Iv n1,Sv s,Bv b2,Lv p2 k4 k5,Lv p3 k6 k7,Lv p4 k8 k9]) fun v4 w6=>∃ b3,v4=Bv b3/\bif !b3 then R (Bv false) w6 else ∀ (K:KT),(∀ (b4:Bool) (w7:World),(bif b4 then ∀ (K1:KT),(∀ (b5:Bool) (w8:World),R (Bv b5) w8->K1 [Bv b5] w8)->bif n2==1 then ∃ n3,w7.cell? (Ad w5.heap.size 0)=some (Iv n3)/\bif n3==0 then ∃ s1,w7.cell? (Ad w5.heap.size 1)=some (Sv s1)/\bif s1.toList=={ data:=#[]:ByteArray }.toList then ∃ b6,w7.cell? (Ad w5.heap.size 2)=some (Bv b6)/\bif !b6 then ∃ p5 k10 k11,w7.cell? (Ad w5.heap.size 3)=some (Lv p5 k10 k11)/\∃ p6 k12 k13,w7.cell? (Ad w5.heap.size 4)=some (Lv p6 k12 k13)/\∃ p7 k14 k15,w7.cell? (Ad w5.heap.size 5)=some (Lv p7 k14 k15)/\bif i64.wrap (i64.wrap ((↑k10:Int)+(↑k12:Int))+(↑k14:Int))==0 then Cd 21 #[] w7 fun v5 w9=>∃ b7,v5=Bv b7/\K1 [Bv b7] w9 else K1 [Bv false] w7 else K1 [Bv false] w7 else K1 [Bv false] w7 else K1 [Bv false] w7 else K1 [Bv false] w7 else bif n2 != 0 then R (Bv false) w7 else ∃ n4,w7.cell? (Ad w5.heap.size 0)=some (Iv n4)/\bif n4==0 then ∀ (K2:KT),(∀ (b8:Bool) (w10:World),R (Bv b8) w10->K2 [Bv b8] w10)->∃ p8 k16 k17,w7.cell? (Ad w5.heap.size 4)=some (Lv p8 k16 k17)/\Cd 27 #[Iv n,Lv A B C,Lv p8 k16 k17] w7 fun v6 w11=>∃ b9,v6=Bv b9/\bif b9 then ∃ s2,w11.cell? (Ad w5.heap.size 1)=some (Sv s2)/\bif s2.toList=={ data:=#[]:ByteArray }.toList then ∃ b10,w11.cell? (Ad w5.heap.size 2)=some (Bv b10)/\bif !b10 then ∃ p9 k18 k19,w11.cell? (Ad w5.heap.size 3)=some (Lv p9 k18 k19)/\∃ p10 k20 k21,w11.cell? (Ad w5.heap.size 5)=some (Lv p10 k20 k21)/\bif i64.wrap ((↑k18:Int)+(↑k20:Int))==0 then Cd 21 #[] w11 fun v7 w12=>∃ b11,v7=Bv b11/\K2 [Bv b11] w12 else K2 [Bv false] w11 else K2 [Bv false] w11 else K2 [Bv false] w11 else K2 [Bv false] w11 else ∃ n5,w7.cell? (Ad w5.heap.size 0)=some (Iv n5)/\bif n5==2 then ∀ (K3:KT),(∀ (b12:Bool) (w13:World),R (Bv b12) w13->K3 [Bv b12] w13)->∃ p11 k22 k23,w7.cell? (Ad w5.heap.size 3)=some (Lv p11 k22 k23)/\bif (↑k22:Int)==n then ∃ p12 k24 k25,w7.cell? (Ad w5.heap.size 3)=some (Lv p12 k24 k25)/\Cd 24 #[Lv A B C,Lv p12 k24 k25] w7 fun v8 w14=>∃ b13,v8=Bv b13/\bif b13 then ∃ p13 k26 k27,w14.cell? (Ad w5.heap.size 5)=some (Lv p13 k26 k27)/\Cd 32 #[Iv n,Lv A B C,Lv D E F,Lv p13 k26 k27] w14 fun v9 w15=>∃ b14,v9=Bv b14/\bif b14 then ∃ s3,w15.cell? (Ad w5.heap.size 1)=some (Sv s3)/\bif s3.toList=={ data:=#[]:ByteArray }.toList then ∃ b15,w15.cell? (Ad w5.heap.size 2)=some (Bv b15)/\bif !b15 then ∃ p14 k28 k29,w15.cell? (Ad w5.heap.size 4)=some (Lv p14 k28 k29)/\bif (↑k28:Int)==0 then Cd 21 #[] w15 fun v10 w16=>∃ b16,v10=Bv b16/\K3 [Bv b16] w16 else K3 [Bv false] w15 else K3 [Bv false] w15 else K3 [Bv false] w15 else K3 [Bv false] w15 else K3 [Bv false] w14 else K3 [Bv false] w7 else ∀ (K4:KT),(∀ (b17:Bool) (w17:World),(bif b17 then R (Bv false) w17 else ∃ p15 k30 k31,w17.cell? (Ad w5.heap.size 4)=some (Lv p15 k30 k31)/\Cd 33 #[Iv n,Lv A B C,Lv p15 k30 k31] w17 fun v11 w18=>∃ p16 k32 k33 s4 b18 b19,v11 = .agg #[Lv p16 k32 k33,Sv s4,Bv b18,Bv b19]/\writable (w18.alloc (.cells #[Lv none 0 0,Sv ⟨#[]⟩,Bv false,Bv false] 43)) (Ad w18.heap.size 0) 4/\∀ (K5:KT),(∀ (b20:Bool) (w19:World),(bif b20 then R (Bv false) w19 else ∃ b21,w19.cell? (Ad w5.heap.size 2)=some (Bv b21)/\bif b21 then ∀ (K6:KT),(∀ (b22:Bool) (w20:World),R (Bv b22) w20->K6 [Bv b22] w20)->∃ p17 k34 k35,w19.cell? (Ad w5.heap.size 3)=some (Lv p17 k34 k35)/\Cd 24 #[Lv A B C,Lv p17 k34 k35] w19 fun v12 w21=>∃ b23,v12=Bv b23/\bif b23 then Cd 21 #[] w21 fun v13 w22=>∃ b24,v13=Bv b24/\K6 [Bv b24] w22 else K6 [Bv false] w21 else ∀ (K7:KT),(∀ (b25:Bool) (w23:World),R (Bv b25) w23->K7 [Bv b25] w23)->∃ b26,w19.cell? (Ad w18.heap.size 2)=some (Bv b26)/\bif b26 then Cd 21 #[] w19 fun v14 w24=>∃ b27,v14=Bv b27/\K7 [Bv b27] w24 else K7 [Bv false] w19)->K5 [Bv b20] w19)->∃ b28,(setCells (w18.alloc (.cells #[Lv none 0 0,Sv ⟨#[]⟩,Bv false,Bv false] 43)) (Ad w18.heap.size 0) 0 [Lv p16 k32 k33,Sv s4,Bv b18,Bv b19]).drew.cell? (Ad w18.heap.size 3)=some (Bv b28)/\bif !b28 then K5 [Bv true] (setCells (w18.alloc (.cells #[Lv none 0 0,Sv ⟨#[]⟩,Bv false,Bv false] 43)) (Ad w18.heap.size 0) 0 [Lv p16 k32 k33,Sv s4,Bv b18,Bv b19]).drew else ∃ p18 k36 k37,(setCells (w18.alloc (.cells #[Lv none 0 0,Sv ⟨#[]⟩,Bv false,Bv false] 43)) (Ad w18.heap.size 0) 0 [Lv p16 k32 k33,Sv s4,Bv b18,Bv b19]).drew.cell? (Ad w18.heap.size 0)=some (Lv p18 k36 k37)/\Cd 34 #[Lv p18 k36 k37,Lv D E F] (setCells (w18.alloc (.cells #[Lv none 0 0,Sv ⟨#[]⟩,Bv false,Bv false] 43)) (Ad w18.heap.size 0) 0 [Lv p16 k32 k33,Sv s4,Bv b18,Bv b19]).drew fun v15 w25=>∃ b29,v15=Bv b29/\RowKit.Below (setCells (w18.alloc (.cells #[Lv none 0 0,Sv ⟨#[]⟩,Bv false,Bv false] 43)) (Ad w18.heap.size 0) 0 [Lv p16 k32 k33,Sv s4,Bv b18,Bv b19]).drew.heap.size (setCells (w18.alloc (.cells #[Lv none 0 0,Sv ⟨#[]⟩,Bv false,Bv false] 43)) (Ad w18.heap.size 0) 0 [Lv p16 k32 k33,Sv s4,Bv b18,Bv b19]).drew w25/\bif !b29 then K5 [Bv true] w25 else ∃ s5,(setCells (w18.alloc (.cells #[Lv none 0 0,Sv ⟨#[]⟩,Bv false,Bv false] 43)) (Ad w18.heap.size 0) 0 [Lv p16 k32 k33,Sv s4,Bv b18,Bv b19]).drew.cell? (Ad w18.heap.size 1)=some (Sv s5)/\∃ s6,(setCells (w18.alloc (.cells #[Lv none 0 0,Sv ⟨#[]⟩,Bv false,Bv false] 43)) (Ad w18.heap.size 0) 0 [Lv p16 k32 k33,Sv s4,Bv b18,Bv b19]).drew.cell? (Ad w5.heap.size 1)=some (Sv s6)/\bif !s5.toList==s6.toList then K5 [Bv true] w25 else ∃ p19 k38 k39,(setCells (w18.alloc (.cells #[Lv none 0 0,Sv ⟨#[]⟩,Bv false,Bv false] 43)) (Ad w18.heap.size 0) 0 [Lv p16 k32 k33,Sv s4,Bv b18,Bv b19]).drew.cell? (Ad w5.heap.size 3)=some (Lv p19 k38 k39)/\Cd 35 #[Lv A B C] w25 fun v16 w26=>∃ p20 k40 k41,v16=Lv p20 k40 k41/\RowKit.Below (setCells (w18.alloc (.cells #[Lv none 0 0,Sv ⟨#[]⟩,Bv false,Bv false] 43)) (Ad w18.heap.size 0) 0 [Lv p16 k32 k33,Sv s4,Bv b18,Bv b19]).drew.heap.size (setCells (w18.alloc (.cells #[Lv none 0 0,Sv ⟨#[]⟩,Bv false,Bv false] 43)) (Ad w18.heap.size 0) 0 [Lv p16 k32 k33,Sv s4,Bv b18,Bv b19]).drew w26/\Cd 24 #[Lv p20 k40 k41,Lv p19 k38 k39] w26 fun v17 w27=>∃ b30,v17=Bv b30/\RowKit.Below (setCells (w18.alloc (.cells #[Lv none 0 0,Sv ⟨#[]⟩,Bv false,Bv false] 43)) (Ad w18.heap.size 0) 0 [Lv p16 k32 k33,Sv s4,Bv b18,Bv b19]).drew.heap.size (setCells (w18.alloc (.cells #[Lv none 0 0,Sv ⟨#[]⟩,Bv false,Bv false] 43)) (Ad w18.heap.size 0) 0 [Lv p16 k32 k33,Sv s4,Bv b18,Bv b19]).drew w27/\bif !b30 then K5 [Bv true] w27 else ∃ p21 k42 k43,(setCells (w18.alloc (.cells #[Lv none 0 0,Sv ⟨#[]⟩,Bv false,Bv false] 43)) (Ad w18.heap.size 0) 0 [Lv p16 k32 k33,Sv s4,Bv b18,Bv b19]).drew.cell? (Ad w5.heap.size 3)=some (Lv p21 k42 k43)/\∃ s7,(setCells (w18.alloc (.cells #[Lv none 0 0,Sv ⟨#[]⟩,Bv false,Bv false] 43)) (Ad w18.heap.size 0) 0 [Lv p16 k32 k33,Sv s4,Bv b18,Bv b19]).drew.cell? (Ad w5.heap.size 1)=some (Sv s7)/\Cd 36 #[Lv D E F,Lv p21 k42 k43] w27 fun v18 w28=>∃ s8,v18=Sv s8/\RowKit.Below (setCells (w18.alloc (.cells #[Lv none 0 0,Sv ⟨#[]⟩,Bv false,Bv false] 43)) (Ad w18.heap.size 0) 0 [Lv p16 k32 k33,Sv s4,Bv b18,Bv b19]).drew.heap.size (setCells (w18.alloc (.cells #[Lv none 0 0,Sv ⟨#[]⟩,Bv false,Bv false] 43)) (Ad w18.heap.size 0) 0 [Lv p16 k32 k33,Sv s4,Bv b18,Bv b19]).drew w28/\K5 [Bv !s8.toList==s7.toList] w28)->K4 [Bv b17] w17)->∃ n6,w7.cell? (Ad w5.heap.size 0)=some (Iv n6)/\bif n6 != 1 then K4 [Bv true] w7 else ∃ p22 k44 k45,w7.cell? (Ad w5.heap.size 5)=some (Lv p22 k44 k45)/\bif decide ((↑k44:Int)>0) then K4 [Bv true] w7 else ∃ p23 k46 k47,w7.cell? (Ad w5.heap.size 4)=some (Lv p23 k46 k47)/\Cd 31 #[Iv (↑B:Int),Lv p23 k46 k47] w7 fun v19 w29=>∃ b31,v19=Bv b31/\bif !b31 then K4 [Bv true] w29 else ∃ p24 k48 k49,w29.cell? (Ad w5.heap.size 3)=some (Lv p24 k48 k49)/\K4 [Bv ((↑k48:Int) != n)] w29)->K [Bv b4] w7)->Cd 29 #[Iv n,Lv A B C] w6 fun v20 w30=>∃ b32,v20=Bv b32/\bif !b32 then K [Bv true] w30 else Cd 31 #[Iv n,Lv D E F] w30 fun v21 w31=>∃ b33,v21=Bv b33/\K [Bv !b33] w31
theorem run7 (n:Int) (A:Option Addr) (B C:Nat) (D:Option Addr) (E F:Nat) (w:World) (R:RT) (h:vc7 n A B C D E F w R):Ret prog 7 #[.int .i64 n,.slice A B C,.slice D E F] w R :=
 zAc zAj func7 (Eq.mp (by kernel_rfl) h)
theorem copy_ok {w:World} {a:Option Addr} {t:Nat->ByteArray} {n:Nat} (hs:SS w a t n) (hn:n<=1000000):AppOk (w.alloc (.cells #[] 9)) w.heap.size 9 1 16 (some ⟨w.heap.size,0,none⟩) 0 0 [] a n (SL t n) where
 own := .inl (own_box (n:=0) (size:=1) (Box.new w [] 9) rfl (by decide))
 len:=by rw [zCX,Nat.mul_one]
 src:=by
  rcases hs.ext ((Ext.refl w).alloc (.cells #[] 9)) with e | ⟨ad,g1,g2,g3⟩
  ·left
   have:=congrArg List.length e
   rw [zCX] at this
   simpa using this
  ·exact .inr ⟨ad,g1,zCY.2 g3⟩
 plain:=zG1 _ _
 max:=by unfold maxLen;omega
 bytes:=by omega
 base:=((Ext.refl w).alloc (.cells #[] 9)).size
theorem copy_res {w w' : World} {t:Nat->ByteArray} {n c:Nat} {p:Option Addr} (r:AppRes (w.alloc (.cells #[] 9)) w' w.heap.size 9 1 (some ⟨w.heap.size,0,none⟩) 0 0 [] n (SL t n) p c):SS w' p t n/\Ext w w':=by
 have z:=(Ext.refl w).alloc (.cells #[] 9)
 refine⟨?_,r.below (own_box (n:=0) (size:=1) (Box.new w [] 9) rfl (by decide)) z z.size (Nat.le_refl _)⟩
 have h:=zBr r.own
 rw [List.nil_append] at h
 exact h
theorem lists1 {w:World} {a:Option Addr} {n c:Nat} {t:Nat->ByteArray} (h:SS w a t n):ListsT (w.alloc (.cells #[.slice a n c] 23)) (some ⟨w.heap.size,0,none⟩) ⟨fun _=>a,fun _=>n,fun _=>c,fun _=>t⟩ 1 :=
 ⟨(Box.new w [.slice a n c] 23).blk.sl,fun _ _=>h.ext ((Ext.refl w).alloc _)⟩
theorem zFj (X:TX):X.m=X.m/\∀ i,i<X.m->sameRow X X i:=⟨rfl,fun i _=>sameRow.refl X i⟩
theorem zBT {w w1:World} {K:Value->World->Prop} (hg:Gl w) (hx:Ext w w1) (h : ∀ w2,Ext w w2->K (.bool true) w2):Called prog 21 #[] w1 fun v w2=>∃ b,v = .bool b/\K (.bool b) w2 :=
 Called.of (c21 w1 (hg.ext hx)) fun v w2 ⟨hv,he⟩=>⟨true,hv,h w2 (hx.trans he)⟩
theorem zEc {w w1:World} (hg:Gl w) (hx:Ext w w1):Called prog 21 #[] w1 fun v w2=>∃ b,v = .bool b/\(fun (v:Value) (w' : World)=>v = .bool true/\Ext w w') (.bool b) w2 :=
 zBT (K:=fun v w'=>v = .bool true/\Ext w w') hg hx fun w2 h2=>⟨rfl,h2⟩
theorem zFK {X:TX} (h:smallX X 14 60):X.m<=1000000/\∀ i,i<X.m->X.n i<=1000000:=⟨Nat.le_trans h.1 (by decide),fun i hi=>Nat.le_trans (h.2 i hi).2.1 (by decide)⟩
end Go.Proofs.Si
namespace Go.Proofs.Si
open Go Go.V Go.Proofs Go.RowKit Go.Num Go.Tb Go.Proofs.Tryz
set_option maxRecDepth 100000
theorem fits_small {X:TX} {n:Int} (hsm:smallX X 14 60) (hn6:n<=6) (hok:okRows X n):Fits (sysX X n.toNat):=(hsm.sm (by have:=hok.1;omega) hok.nat).fits
theorem fitsC_small {X:TX} {n:Int} {mc:Nat} {t:Nat->ByteArray} (hsm:smallX X 14 60) (hn6:n<=6) (hz : ∀ j,j<mc->(t j).size<=60) (h:okMax X n mc t) :
  FitsC (sysX X n.toNat) (fun j=>rd (t j))/\∀ s,Inv (sysX X n.toNat) s->∀ j,j<n.toNat->dg 2000000 (costs (sysX X n.toNat) s (fun j=>rd (t j)) j):=by
 have h0:=h.1.1
 have h2:=h.2.1
 exact (hsm.sm (n:=n.toNat) (by omega) h.1.nat).fitsC fun j hj=>rd_dg (h.2.2 j (by replace hj:j<n.toNat:=hj;omega)) (hz j (by replace hj:j<n.toNat:=hj;omega))
set_option maxHeartbeats 1000000 in
theorem c32 {X:TX} {A:TA} {S:Tb.Sys} {a ca ra:Option Addr} {c cc rc:Nat} {s t:Nat->ByteArray} {q x:Nat->Rat} (hf:Few S) (hX:Tame X) (hS:Reads X S) (hs:PtReads s S.n q) (ht:PtReads t S.n x) (hsz : ∀ j,j<S.n->(s j).size<=200000000/\(t j).size<=200000000)
  (hq : ∀ j,j<S.n->dg 84001000 (q j*x j)) (hqs : ∀ k,k<=S.n->dg 84001000 (sumN k fun j=>q j*x j)) (hD:Dots S x 84001000) (w:World) (hR:RowsT w a X A) (hc:SS w ca s S.n) (hr:SS w ra t S.n) :
  Ret prog 32 #[.int .i64 S.n,.slice a X.m c,.slice ca S.n cc,.slice ra S.n rc] w fun v w'=>(∃ b,v = .bool b/\(b=true↔RayX S q x))/\Ext w w':=by
 have hf':=hf
 unfold Few at hf'
 have hm:=hS.m
 refine run32 _ _ _ _ _ _ _ _ _ _ _ _ fun K hK=>?_
 refine Called.of (c31 (n:=(S.n:Int)) (by omega) w hr fun j hj=>Nat.le_trans (hsz j hj).2 (by decide)) ?_
 rintro v w5 ⟨⟨b,rfl,hb⟩,he5⟩
 have hbt:=hb.2 ⟨rfl,fun j hj=>ok_of (ht j hj)⟩
 subst hbt
 refine⟨_,rfl,?_⟩
 rw [show (!true)=false from rfl,cond_false]
 refine Called.of (c36 (f:=q) (g:=x) (n:=S.n) (by omega) (Nat.le_refl _) hs ht hsz hq hqs w5 (hc.ext he5) (hr.ext he5)) ?_
 rintro v w6 ⟨⟨u,rfl,hu⟩,he6⟩
 have hzu:=zCz (hqs S.n (Nat.le_refl _)) hu
 refine⟨_,rfl,Called.of (c43 hu (by omega) w6) ?_⟩
 rintro v w7 ⟨rfl,he7⟩
 rw [sgn_eq]
 have hx7:=(he5.trans he6).trans he7
 refine⟨_,rfl,hK _ _ ?_⟩
 refine zAd (fun h=>⟨⟨false,rfl,?_⟩,hx7⟩) (fun h=>?_)
 ·simp only [Bool.false_eq_true,false_iff]
  intro h2
  have:=Tb.sgnQ_pos.2 h2.1
  omega
 have hpos:0<sumN S.n fun j=>q j*x j:=Tb.sgnQ_pos.1 (by omega)
 refine⟨fun vals w1=>∃ i:Nat,vals=[.int .i64 i]/\i<=S.m/\(∀ k,k<i->lhs S x k<=0/\(S.rel k=3->lhs S x k=0))/\Ext w w1,mu1 S.m,⟨0,rfl,Nat.zero_le _,fun k hk=>by omega,hx7⟩,?_⟩
 rintro m w1 ⟨i,hv,hi,hall,he⟩
 cases hv
 refine zAd (fun hlt=>?_) (fun hge=>⟨⟨true,rfl,by simp only [true_iff];exact⟨hpos,fun k hk=>hall k (by omega)⟩⟩,he⟩)
 have him:i<S.m:=by omega
 have hiX:i<X.m:=by omega
 have hni:=hS.n i hiX
 obtain⟨ad,ha,_,q0,q1,q2⟩:=(hR.ext he).cells hiX
 obtain⟨r1,r2,r3⟩:=hS.rel i hiX
 have hDi:=hD i him
 refine⟨ad,ha,⟨by omega,by omega⟩,_,_,_,q0,?_⟩
 have h36:=c36 (f:=S.C i) (g:=x) (n:=X.n i) (ca:=A.cC i) (nb:=S.n) (cb:=rc) (by omega) (by omega) (fun j hj=>hS.C i hiX j (by omega)) (fun j hj=>ht j (by omega)) (fun j hj=>⟨Nat.le_trans (hX.c i hiX j hj) (by decide),(hsz j (by omega)).2⟩) (fun j hj=>hDi.1 j (by omega)) (fun k hk=>hDi.2 k (by omega)) w1 ((hR.ext he).2 i hiX) (hr.ext he)
 refine Called.of h36 ?_
 rintro v w2 ⟨⟨u2,rfl,hu2⟩,he2⟩
 rw [hni] at hu2
 have hzu2:=zCz (hDi.2 S.n (Nat.le_refl _)) hu2
 refine⟨_,rfl,Called.of (c43 hu2 (by omega) w2) ?_⟩
 rintro v w3 ⟨rfl,he3⟩
 rw [sgn_eq]
 have hx3:=(he.trans he2).trans he3
 refine⟨_,rfl,fun K1 hK1=>?_⟩
 have el:(sumN S.n fun j=>S.C i j*x j)=lhs S x i:=rfl
 rw [el]
 have no : ¬ (lhs S x i<=0/\(S.rel i=3->lhs S x i=0))->K1 [.bool true] w3:=fun h=>hK1 true ⟨⟨false,rfl,by simp only [Bool.false_eq_true,false_iff];exact fun h2=>h (h2.2 i him)⟩,hx3⟩
 have yes:(lhs S x i<=0/\(S.rel i=3->lhs S x i=0))->K1 [.bool false] w3:=fun h=>hK1 false (by
  rw [cond_false,zAh (by omega)]
  refine⟨⟨i+1,rfl,him,fun k hk=>?_,hx3⟩,by simp only [mu1,Int.toNat_natCast];omega⟩
  by_cases e:k=i
  ·rw [e];exact h
  ·exact hall k (by omega))
 refine zAd (fun h1=>no fun h=>?_) (fun h1=>zAd (fun h2=>?_) (fun h2=>yes ?_))
 ·exact Rat.not_le.2 (Tb.sgnQ_pos.1 h1) h.1
 ·have hl:=Tb.sgnQ_neg.1 h2
  obtain⟨_,_,_,_,q1',_⟩:=(hR.ext hx3).cells hiX
  have e2:ad=_:=Option.some.inj (ha.symm.trans (by assumption))
  subst e2
  refine⟨_,ha,⟨by omega,by omega⟩,_,q1',?_⟩
  by_cases h3:S.rel i=3
  ·rw [show (X.rel i==3)=true from by rw [r1,h3];rfl]
   exact no fun h=>by have:=h.2 h3;rw [this] at hl;exact Rat.lt_irrefl hl
  ·rw [show (X.rel i==3)=false from by rw [r1];simpa using (by omega : ¬ (S.rel i:Int)=3)]
   exact yes ⟨Rat.le_of_lt hl,fun h=>absurd h h3⟩
 ·have h0:lhs S x i=0:=Tb.sgnQ_zero.1 (by omega)
  rw [h0];exact⟨Rat.le_refl,fun _=>rfl⟩
def rlx (X:TX):TX:={ X with rel:=fun i=>if X.rel i=2 then 1 else X.rel i }
def rlxTo (X:TX) (k:Nat):TX:={ X with rel:=fun i=>if i<k/\X.rel i=2 then 1 else X.rel i }
theorem rel_set {X:TX} {A:TA} {k:Nat} (hk:k<X.m) (h2:X.rel k=2):(GL (rtc (rlxTo X k) A) X.m).set (k*3+1) (.int .i64 1)=GL (rtc (rlxTo X (k+1)) A) X.m:=by
 refine GL_ext (m:=3) (by omega) (fun _=>rfl) (by rw [List.length_set,zAU (m:=3) fun _=>rfl]) fun i hi j hj=>?_
 rw [List.getElem?_set]
 have hl:(GL (rtc (rlxTo X k) A) X.m).length=3*X.m:=zAU (m:=3) (fun _=>rfl) _
 by_cases e:k*3+1=3*i+j
 ·have ei:i=k:=by omega
  have ej:j=1:=by omega
  subst ei ej
  rw [if_pos e,if_pos (by rw [hl];omega)]
  show some (Value.int .i64 1)=some (Value.int .i64 (if i<i+1/\X.rel i=2 then 1 else X.rel i))
  rw [if_pos ⟨by omega,h2⟩]
 ·rw [if_neg e,zGm (m:=3) (fun _=>rfl) hi j hj]
  unfold rtc rlxTo
  by_cases e1:j=1
  ·subst e1
   have hne:i≠k:=fun e2=>e (by omega)
   show some (Value.int .i64 (if i<k/\X.rel i=2 then 1 else X.rel i))=some (Value.int .i64 (if i<k+1/\X.rel i=2 then 1 else X.rel i))
   congr 2
   by_cases h:i<k
   ·by_cases h3:X.rel i=2
    ·rw [if_pos ⟨h,h3⟩,if_pos ⟨by omega,h3⟩]
    ·rw [if_neg fun x=>h3 x.2,if_neg fun x=>h3 x.2]
   ·rw [if_neg fun x=>h x.1,if_neg fun x=>h (by omega)]
  ·match j,hj,e1 with
   | 0,_,_=>rfl
   | 2,_,_=>rfl
set_option maxHeartbeats 1000000 in
theorem c35 {X:TX} {A:TA} {a:Option Addr} {c:Nat} (hm:X.m<=1000000) (hX : ∀ i,i<X.m->X.n i<=1000000) (w:World) (ha:RowsT w a X A) :
  Ret prog 35 #[.slice a X.m c] w fun v w'=>∃ p c' A',v = .slice p X.m c'/\RowsT w' p (rlx X) A'/\Ext w w':=by
 refine run35 _ _ _ _ _ (Called.of (c22 hm hX w ha) ?_)
 rintro v w1 ⟨p,c',A',rfl,hO,he1⟩
 have e0:GL (rtc (rlxTo X 0) A') X.m=GL (rtc X A') X.m:=zCb fun i _=>by unfold rtc rlxTo;simp only [if_neg (fun h:i<0/\X.rel i=2=>Nat.not_lt_zero i h.1)]
 refine⟨_,_,_,rfl,fun vals w2=>∃ k:Nat,vals=[.int .i64 k]/\k<=X.m/\OwnB w2 w.heap.size 49 p (GL (rtc (rlxTo X k) A') X.m)/\(∀ i,i<X.m->w2.ownsRow w.heap.size 9 1 (.slice (A'.cA i) (X.n i) (A'.cC i)) (X.n i) (SL (X.C i) (X.n i)))/\Ext w w2,mu1 X.m,⟨0,rfl,Nat.zero_le _,by rw [e0];exact zDT hO.row,hO.c,he1⟩,?_⟩
 rintro m w2 ⟨k,hv,hk,hB,hc,he⟩
 cases hv
 refine zAd (fun hlt=>?_) (fun hge=>?_)
 ·have hkm:k<X.m:=by omega
  rcases hB with e | ⟨b,rfl,hbw,hB⟩
  ·have:=congrArg List.length e
   rw [zAU (m:=3) fun _=>rfl] at this
   simp only [List.length_nil] at this
   omega
  have hcell:w2.cell? (((⟨b,0,none⟩:Addr).add (k*3)).add 1)=some (.int .i64 (X.rel k)):=by
   rw [zAk,zAk]
   have:=hB.cell (j:=3*k+1) (v := .int .i64 (X.rel k)) (by
    rw [zGm (m:=3) (fun _=>rfl) hkm 1 (by omega)]
    show some (Value.int .i64 (if k<k/\X.rel k=2 then 1 else X.rel k))=_
    rw [if_neg fun h=>Nat.lt_irrefl k h.1])
   rw [show 0+k*3+1=3*k+1 by omega]
   exact this
  refine⟨_,rfl,⟨by omega,hlt⟩,_,hcell,zAa (fun h=>?_) (fun h=>?_)⟩
  ·have h2:X.rel k=2:=by simpa using h
   refine⟨_,rfl,⟨by omega,hlt⟩,⟨⟨_,hcell⟩,?_⟩,?_⟩
   ·rw [zAk,zAk];exact hB.free
   rw [zAh (by omega)]
   have hs:=hB.set (k*3+1) (.int .i64 1) (by rw [zAU (m:=3) fun _=>rfl];omega)
   rw [rel_set hkm h2] at hs
   have ea:(((⟨b,0,none⟩:Addr).add ((k:Int).toNat*3)).add 1)=⟨b,k*3+1,none⟩:=by rw [zAk,zAk,Int.toNat_natCast,Nat.zero_add]
   rw [ea]
   refine⟨⟨k+1,rfl,hkm,.inr ⟨b,rfl,hbw,hs⟩,fun i hi=>zBC (hc i hi) (fun e=>?_) _,he.setCell hbw _⟩,by simp only [mu1,Int.toNat_natCast];omega⟩
   obtain⟨tl,htl⟩:=hB
   exact zAA (hc i hi) htl (by decide) e
  ·have h2 : ¬ X.rel k=2:=by simpa using h
   rw [zAh (by omega)]
   refine⟨⟨k+1,rfl,hkm,.inr ⟨b,rfl,hbw,?_⟩,hc,he⟩,by simp only [mu1,Int.toNat_natCast];omega⟩
   have e:GL (rtc (rlxTo X (k+1)) A') X.m=GL (rtc (rlxTo X k) A') X.m:=zCb fun i _=>by
    unfold rtc rlxTo
    by_cases e2:i=k
    ·simp only [e2,if_neg fun x:k<k+1/\X.rel k=2=>h2 x.2,if_neg fun x:k<k/\X.rel k=2=>h2 x.2]
    ·have:(i<k+1/\X.rel i=2)↔(i<k/\X.rel i=2):=⟨fun x=>⟨by omega,x.2⟩,fun x=>⟨by omega,x.2⟩⟩
     simp only [this]
   rw [e];exact hB
 ·have ek:k=X.m:=by omega
  subst ek
  refine⟨p,c',A',rfl,⟨?_,fun i hi=>zBr (hc i hi)⟩,he⟩
  have e:GL (rtc (rlxTo X X.m) A') X.m=GL (rtc (rlx X) A') (rlx X).m:=zCb fun i hi=>by
   unfold rtc rlxTo rlx
   have:(i<X.m/\X.rel i=2)↔X.rel i=2:=⟨fun x=>x.2,fun x=>⟨hi,x⟩⟩
   simp only [this]
  rw [<- e];exact hB.sl
theorem rlx_small {X:TX} (h:smallX X 14 60):smallX (rlx X) 14 60:=h
theorem rlx_row {X:TX} {n:Int} {i:Nat} (h:okRow X n i):okRow (rlx X) n i:=by
 refine⟨h.1,?_,?_,h.2.2.2⟩
 ·show 1<=(if X.rel i=2 then 1 else X.rel i)
  have:=h.2.1
  split <;> omega
 ·show (if X.rel i=2 then 1 else X.rel i)<=3
  have:=h.2.2.1
  split <;> omega
theorem rlx_sat {X:TX} {n:Nat} {pt:Nat->Rat} (hok : ∀ i,i<X.m->okRow X n i) (h : ∀ k,k<X.m->lhs (sysX X n) pt k<=(sysX X n).K k/\((sysX X n).rel k=3->lhs (sysX X n) pt k=(sysX X n).K k)):Sat (sysX (rlx X) n) pt:=by
 intro k hk
 obtain⟨h1,h2⟩:=h k hk
 have er:(sysX (rlx X) n).rel k=(if X.rel k=2 then 1 else X.rel k).toNat:=rfl
 have e3:(sysX X n).rel k=(X.rel k).toNat:=rfl
 refine⟨h1,fun hr=>?_,fun hr=>?_⟩
 ·rw [er] at hr
  have:=(hok k hk).2.1
  split at hr <;> omega
 ·rw [er] at hr
  refine h2 ?_
  rw [e3]
  split at hr
  ·omega
  ·exact hr
set_option maxHeartbeats 2000000 in
theorem c7 {X:TX} {A:TA} {n:Int} {a ca:Option Addr} {c cn cc:Nat} {s:Nat->ByteArray} (w:World) (hR:RowsT w a X A) (hc:SS w ca s cn) (hg:Gl w) :
    Ret prog 7 #[.int .i64 n,.slice a X.m c,.slice ca cn cc] w fun v w'=>v = .bool true/\Ext w w':=by
  have z1:=(Ext.refl w).alloc (.cells #[.slice ca cn cc] 23)
  refine run7 _ _ _ _ _ _ _ _ _ (Called.of (c20 (n:=n) (nl:=1) (by decide) _ (hR.ext z1) (lists1 hc)) ?_)
  rintro v w1 ⟨⟨b,rfl,hb⟩,rfl⟩
  refine⟨_,rfl,?_⟩
  cases b with
  | true=>rw [cond_true];exact zEc hg z1
  | false =>
  rw [cond_false]
  obtain⟨hn6,hsm,hl⟩:=hb rfl
  obtain⟨hcn,hcz⟩:=hl 0 (by decide)
  replace hcn:cn<=40:=hcn
  replace hcz : ∀ j,j<cn->(s j).size<=60:=hcz
  have htm:=hsm.tame (by decide)
  clear hb hl
  generalize w.alloc (.cells #[.slice ca cn cc] 23)=w1 at z1 ⊢
  refine Called.of (c22 (zFK hsm).1 (zFK hsm).2 w1 (hR.ext z1)) ?_
  rintro v w3 ⟨p,c',A',rfl,hO,he3⟩
  have hx3:=z1.trans he3
  refine⟨_,_,_,rfl,_,_,_,copy_ok (hc.ext hx3) (by omega),?_⟩
  intro p1 k3 w4 r
  obtain⟨hs4,he4⟩:=copy_res r
  have hx4:=hx3.trans he4
  have hRo:=(hO.ext he4).t
  rw [Nat.zero_add]
  refine Called.of (c30 htm (by omega) (fun j hj=>Nat.le_trans (hcz j hj) (by decide)) (fun h=>fits_small hsm hn6 h) (fun h=>fitsC_small hsm hn6 hcz h) w4 hRo hs4 (hg.ext hx4)) ?_
  rintro v w5 ⟨hOp,he5⟩
  have hx5:=hx4.trans he5
  have hN:=Box.new w5 (ob 0 { data:=#[] } false nsl nsl nsl) 38
  obtain⟨k,u,bt,p2,n2,p3,n3,p4,n4,e,rfl,hans⟩ : ∃ (k:Int) (u:ByteArray) (bt:Bool) (p2:Option Addr) (n2:Nat) (p3:Option Addr) (n3:Nat) (p4:Option Addr) (n4:Nat) (e:Int),v=opv k u bt (.slice p2 n2 n2) (.slice p3 n3 n3) (.slice p4 n4 n4) e /\
      ((¬ okMax X n cn s/\k=0/\u = { data:=#[] }/\bt=false/\n2=0/\n3=0/\n4=0/\e=1) \/
       (okMax X n cn s/\e=0 /\
        ((k=0/\u = { data:=#[] }/\bt=false/\n2=0/\n3=X.m/\n4=0/\∃ b y,p3=some ⟨b,0,none⟩/\zBG w5 b y X.m/\zAQ (sysX X n.toNat) y/\∀ k,dg 2000000 (y k)) \/
         (k=2/\u = { data:=#[] }/\bt=false/\n2=n.toNat/\n3=0/\n4=n.toNat/\∃ b1 b2 pt r,p2=some ⟨b1,0,none⟩/\p4=some ⟨b2,0,none⟩/\zBG w5 b1 pt n.toNat/\zBG w5 b2 r n.toNat/\Sat (sysX X n.toNat) pt/\(∀ j,j<n.toNat->dg 14000000 (pt j))/\RayX (sysX X n.toNat) (fun j=>rd (s j)) r/\∀ j,j<n.toNat->dg 2000002 (r j)) \/
         (k=1/\n2=n.toNat/\n3=X.m/\n4=0/\∃ b1 b2 pt y,p2=some ⟨b1,0,none⟩/\p3=some ⟨b2,0,none⟩/\bs u=txtQ (combK (sysX X n.toNat) y)/\zBG w5 b1 pt n.toNat/\zBG w5 b2 y X.m/\BestX (sysX X n.toNat) (fun j=>rd (s j)) pt y bt/\(∀ j,j<n.toNat->dg 14000000 (pt j))/\∀ k,dg 2000000 (y k))))):=by
    rcases hOp with ⟨h,rfl⟩ | ⟨h,⟨b,y,_,rfl,h1,h2,h3⟩ | ⟨b1,b2,pt,r,_,_,rfl,h1,h2,h3,h4,h5,h6⟩ | ⟨b1,b2,u,att,pt,y,_,_,rfl,h1,_,h2,h3,h4,h5,h6⟩⟩
    · exact⟨_,_,_,_,_,_,_,_,_,_,rfl,.inl ⟨h,rfl,rfl,rfl,rfl,rfl,rfl,rfl⟩⟩
    · exact⟨_,_,_,_,_,_,_,_,_,_,rfl,.inr ⟨h,rfl,.inl ⟨rfl,rfl,rfl,rfl,rfl,rfl,b,y,rfl,h1,h2,h3⟩⟩⟩
    · exact⟨_,_,_,_,_,_,_,_,_,_,rfl,.inr ⟨h,rfl,.inr (.inl ⟨rfl,rfl,rfl,rfl,rfl,rfl,b1,b2,pt,r,rfl,rfl,h1,h2,h3,h4,h5,h6⟩)⟩⟩
    · exact⟨_,_,_,_,_,_,_,_,_,_,rfl,.inr ⟨h,rfl,.inr (.inr ⟨rfl,rfl,rfl,rfl,b1,b2,pt,y,rfl,rfl,h1,h2,h3,h4,h5,h6⟩)⟩⟩
  have hP:=hN.put (ob k u bt (.slice p2 n2 n2) (.slice p3 n3 n3) (.slice p4 n4 n4)) (by rfl)
  have eP:Ext w5 (setCells (w5.alloc (.cells (ob 0 { data:=#[] } false nsl nsl nsl).toArray 38)) ⟨w5.heap.size,0,none⟩ 0 (ob k u bt (.slice p2 n2 n2) (.slice p3 n3 n3) (.slice p4 n4 n4))):=((Ext.refl w5).alloc _).put (Nat.le_refl _) _ _
  have hxP:=hx5.trans eP
  refine⟨_,_,_,_,_,_,_,_,_,_,_,_,_,rfl,hN.blk.writable (by decide),?_⟩
  refine Called.of (c25 (X:=X) (Y:=X) (fun i hi=>htm.n i hi) (by have:=hsm.1;omega) _ ((hRo.ext he5).ext eP) (hR.ext hxP)) ?_
  rintro v w6 ⟨⟨b5,rfl,hb5⟩,he6⟩
  have hb5t:=hb5.2 (zFj X)
  subst hb5t
  refine⟨_,rfl,?_⟩
  rw [show (!true)=false from rfl,cond_false]
  have hx6:=hxP.trans he6
  intro K hK
  have pre : ∀ b w7,Ext w6 w7->(b=true↔¬ okMax X n cn s)->K [.bool b] w7:=by
    intro b w7 he7 hbk
    refine hK b w7 ?_
    have hx7:=hx6.trans he7
    have hP7:=(hP.ext he6).ext he7
    have e57:=(eP.trans he6).trans he7
    rcases hans with ⟨hno,rfl,rfl,rfl,rfl,rfl,rfl,rfl⟩ | ⟨hokM,rfl,hans⟩
    · rw [hbk.2 hno,cond_true]
      intro K1 hK1
      refine zAa (fun _=>?_) (fun h=>absurd h (by decide))
      refine⟨_,hP7.blk.cell (j:=0) rfl,zAa (fun _=>?_) (fun h=>absurd h (by decide))⟩
      refine⟨_,hP7.blk.cell (j:=1) rfl,?_⟩
      rw [zAw]
      refine zAd (fun _=>?_) (fun h=>absurd rfl h)
      refine⟨_,hP7.blk.cell (j:=2) rfl,zAa (fun _=>?_) (fun h=>absurd h (by decide))⟩
      refine⟨_,_,_,hP7.blk.cell (j:=3) rfl,_,_,_,hP7.blk.cell (j:=4) rfl,_,_,_,hP7.blk.cell (j:=5) rfl,zAa (fun _=>?_) (fun h=>absurd h (by decide))⟩
      exact zBT (K:=fun v w=>K1 [v] w) hg hx7 fun w2 h2=>hK1 true w2 ⟨rfl,h2⟩
    have hbf:b=false:=by
      cases b with
      | false=>rfl
      | true=>exact absurd hokM (hbk.1 rfl)
    rw [hbf,cond_false]
    have hok:=hokM.1
    have h0:=hok.1
    have hnn:((n.toNat:Nat):Int)=n:=Int.toNat_of_nonneg h0
    have ecn:cn=n.toNat:=by have:=hokM.2.1;omega
    have s6:=hsm.sm (n:=n.toNat) (by omega) hok.nat
    have hS:=zBh hok.nat
    refine zAa (fun h=>absurd h (by decide)) (fun _=>⟨_,hP7.blk.cell (j:=0) rfl,?_⟩)
    rcases hans with ⟨rfl,rfl,rfl,rfl,rfl,rfl,b,y,rfl,hT,href,hyd⟩ | ⟨rfl,rfl,rfl,rfl,rfl,rfl,b1,b2,pt,r,rfl,rfl,hT1,hT2,hsat,hpd,hray,hrd⟩ | ⟨rfl,rfl,rfl,rfl,b1,b2,pt,y,rfl,rfl,hu,hT1,hT2,hB,hpd,hyd⟩
    · refine zAa (fun _=>?_) (fun h=>absurd h (by decide))
      intro K2 hK2
      refine⟨_,_,_,hP7.blk.cell (j:=4) rfl,Called.of (c27 (t:=fun j=>mk (txtQ (y j))) htm (by have:=hsm.1;omega) (fun j hj=>Nat.le_trans (zG3 (hyd j)) (by decide)) (fun _ _ _=>s6.dotsZ fun k _=>by rw [rd_mk];exact hyd k) w7 (hR.ext hx7) (Box.ext hT e57).blk.sl) ?_⟩
      rintro v w11 ⟨⟨b7,rfl,hb7⟩,he11⟩
      have hb7t:=hb7.2 (checkX_of hok href)
      subst hb7t
      have hP11:=hP7.ext he11
      refine⟨_,rfl,?_⟩
      rw [cond_true]
      refine⟨_,hP11.blk.cell (j:=1) rfl,?_⟩
      rw [zAw]
      refine zAd (fun _=>?_) (fun h=>absurd rfl h)
      refine⟨_,hP11.blk.cell (j:=2) rfl,zAa (fun _=>?_) (fun h=>absurd h (by decide))⟩
      refine⟨_,_,_,hP11.blk.cell (j:=3) rfl,_,_,_,hP11.blk.cell (j:=5) rfl,zAa (fun _=>?_) (fun h=>absurd h (by decide))⟩
      exact zBT (K:=fun v w=>K2 [v] w) hg (hx7.trans he11) fun w2 h2=>hK2 true w2 ⟨rfl,h2⟩
    · refine zAa (fun h=>absurd h (by decide)) (fun _=>⟨_,hP7.blk.cell (j:=0) rfl,zAa (fun _=>?_) (fun h=>absurd h (by decide))⟩)
      intro K3 hK3
      have hokN:=hok.nat
      have hd:=dots_pt s6 hpd hok.nat
      refine⟨_,_,_,hP7.blk.cell (j:=3) rfl,?_⟩
      rw [hnn,show (n==n)=true by simp,cond_true]
      refine⟨_,_,_,hP7.blk.cell (j:=3) rfl,Called.of (c24 (nx:=n.toNat) (t:=fun j=>mk (txtQ (pt j))) htm (by have:=hsm.1;omega) (fun j hj=>Nat.le_trans (zG3 (hpd j hj)) (by decide)) (fun S x a b c=>(hd S x a b c).1) w7 (hR.ext hx7) (Box.ext hT1 e57).blk.sl) ?_⟩
      rintro v w14 ⟨⟨b13,rfl,hb13⟩,he14⟩
      have hb13t:=hb13.2 (zEv.2 (holdsX_of hok.nat hsat))
      subst hb13t
      refine⟨_,rfl,?_⟩
      rw [cond_true]
      have hP14:=hP7.ext he14
      have hx14:=hx7.trans he14
      have hcl:SS w14 ca s n.toNat:=by rw [<- ecn];exact hc.ext hx14
      have hcd : ∀ j,j<n.toNat->dg 61 (rd (s j)):=fun j hj=>rd_dg (hokM.2.2 j (by omega)) (hcz j (by omega))
      have h32:=c32 (ca:=ca) (cc:=cc) (c:=c) (rc:=n.toNat) (s:=s) (t:=fun j=>mk (txtQ (r j))) (q:=fun j=>rd (s j)) (x:=r) s6.fits.few htm hS (fun j hj=>rd_ok (hokM.2.2 j (by replace hj:j<n.toNat:=hj;omega))) (fun j hj=>bs_mk _)
        (fun j hj=>⟨Nat.le_trans (hcz j (by replace hj:j<n.toNat:=hj;omega)) (by decide),Nat.le_trans (zG3 (hrd j hj)) (by decide)⟩)
        (fun j hj=>((hcd j hj).mul (hrd j hj)).mono (by decide)) (fun k hk=>(zFL (h:=2000064) fun j hj=>(hcd j (by replace hk:k<=n.toNat:=hk;omega)).mul (hrd j (by replace hk:k<=n.toNat:=hk;omega))).mono (by replace hk:k<=n.toNat:=hk;omega))
        (s6.dots fun j hj=>(hrd j hj).mono (by decide)) w14 (hR.ext hx14) hcl (Box.ext hT2 (e57.trans he14)).blk.sl
      rw [show (((sysX X n.toNat).n:Nat):Int)=n from hnn,show (sysX X n.toNat).n=n.toNat from rfl] at h32
      have ecn':=ecn
      subst ecn'
      refine⟨_,_,_,hP14.blk.cell (j:=5) rfl,Called.of h32 ?_⟩
      rintro v w15 ⟨⟨b14,rfl,hb14⟩,he15⟩
      have hb14t:=hb14.2 hray
      subst hb14t
      refine⟨_,rfl,?_⟩
      rw [cond_true]
      have hP15:=hP14.ext he15
      refine⟨_,hP15.blk.cell (j:=1) rfl,?_⟩
      rw [zAw]
      refine zAd (fun _=>?_) (fun h=>absurd rfl h)
      refine⟨_,hP15.blk.cell (j:=2) rfl,zAa (fun _=>?_) (fun h=>absurd h (by decide))⟩
      refine⟨_,_,_,hP15.blk.cell (j:=4) rfl,zAa (fun _=>?_) (fun h=>absurd h (by decide))⟩
      exact zBT (K:=fun v w=>K3 [v] w) hg (hx14.trans he15) fun w2 h2=>hK3 true w2 ⟨rfl,h2⟩
    · refine zAa (fun h=>absurd h (by decide)) (fun _=>⟨_,hP7.blk.cell (j:=0) rfl,zAa (fun h=>absurd h (by decide)) (fun _=>?_)⟩)
      have hokN:=hok.nat
      have hd:=dots_pt s6 hpd hok.nat
      have ecn':=ecn
      intro K4 hK4
      refine⟨_,hP7.blk.cell (j:=0) rfl,zAa (fun h=>absurd h (by decide)) (fun _=>?_)⟩
      refine⟨_,_,_,hP7.blk.cell (j:=5) rfl,zAa (fun h=>absurd h (by decide)) (fun _=>?_)⟩
      refine⟨_,_,_,hP7.blk.cell (j:=4) rfl,Called.of (c31 (n:=(X.m:Int)) (s:=fun j=>mk (txtQ (y j))) (by have:=hsm.1;omega) w7 (Box.ext hT2 e57).blk.sl fun j hj=>Nat.le_trans (zG3 (hyd j)) (by decide)) ?_⟩
      rintro v w29 ⟨⟨b31,rfl,hb31⟩,he29⟩
      have hb31t:=hb31.2 ⟨rfl,fun j hj=>ok_of (bs_mk _)⟩
      subst hb31t
      refine⟨_,rfl,?_⟩
      rw [show (!true)=false from rfl,cond_false]
      have hP29:=hP7.ext he29
      have hx29:=hx7.trans he29
      refine⟨_,_,_,hP29.blk.cell (j:=3) rfl,hK4 _ _ ?_⟩
      rw [hnn,show (n != n)=false by simp,cond_false]
      have hy:PtReads (fun j=>mk (txtQ (y j))) (sysX X n.toNat).m y:=fun j hj=>bs_mk _
      have h33:=c33 (mc:=X.m) (c:=c) s6.fits.few htm hS hy (fun k hk=>Nat.le_trans (zG3 (hyd k)) (by decide)) (s6.dotsZ fun k _=>hyd k) w29 (hR.ext hx29) (Box.ext hT2 (e57.trans he29)).blk.sl
      rw [show (((sysX X n.toNat).n:Nat):Int)=n from hnn,show (sysX X n.toNat).m=X.m from rfl] at h33
      refine⟨_,_,_,hP29.blk.cell (j:=4) rfl,Called.of h33 ?_⟩
      rintro v w18 ⟨p16,c33,s4,st,adm,rfl,hT,hs4c,hst,hadm,he18⟩
      have hN43:=Box.new w18 [Value.slice none 0 0,.string { data:=#[] },.bool false,.bool false] 43
      have hP43:=hN43.put [Value.slice p16 (sysX X n.toNat).n c33,.string s4,.bool st,.bool adm] (by rfl)
      have hx43:Ext w18 (setCells (w18.alloc (.cells [Value.slice none 0 0,.string { data:=#[] },.bool false,.bool false].toArray 43)) ⟨w18.heap.size,0,none⟩ 0 [Value.slice p16 (sysX X n.toNat).n c33,.string s4,.bool st,.bool adm]):=((Ext.refl w18).alloc _).put (Nat.le_refl _) _ _
      refine⟨_,_,_,_,_,_,rfl,hN43.blk.writable (by decide),?_⟩
      have hxA:=(hx29.trans he18).trans hx43
      have eA:=((e57.trans he29).trans he18).trans hx43
      have hPA:=((hP29.ext he18).ext hx43).ext (Ext.refl _).drew
      have h43A:=hP43.ext (Ext.refl _).drew
      intro K5 hK5
      have fin : ∀ w19,Ext (World.drew (setCells (w18.alloc (.cells [Value.slice none 0 0,.string { data:=#[] },.bool false,.bool false].toArray 43)) ⟨w18.heap.size,0,none⟩ 0 [Value.slice p16 (sysX X n.toNat).n c33,.string s4,.bool st,.bool adm])) w19->K5 [.bool false] w19:=by
        intro w19 h19
        refine hK5 false w19 ?_
        rw [cond_false]
        have hP19:=hPA.ext h19
        have h4319:=h43A.ext h19
        have hx19:=hxA.drew.trans h19
        have e19:=eA.drew.trans h19
        refine⟨_,hP19.blk.cell (j:=2) rfl,?_⟩
        cases bt with
        | true =>
          rw [cond_true]
          intro K6 hK6
          refine⟨_,_,_,hP19.blk.cell (j:=3) rfl,Called.of (c24 (nx:=n.toNat) (t:=fun j=>mk (txtQ (pt j))) htm (by have:=hsm.1;omega) (fun j hj=>Nat.le_trans (zG3 (hpd j hj)) (by decide)) (fun S x a b c=>(hd S x a b c).1) w19 (hR.ext hx19) (Box.ext hT1 e19).blk.sl) ?_⟩
          rintro v w21 ⟨⟨b,rfl,hb⟩,he21⟩
          have hbt:=hb.2 (zEv.2 (holdsX_of hok.nat (hB.sat rfl)))
          subst hbt
          refine⟨_,rfl,?_⟩
          rw [cond_true]
          exact zBT (K:=fun v w=>K6 [v] w) hg (hx19.trans he21) fun w2 h2=>hK6 true w2 ⟨rfl,h2⟩
        | false =>
          rw [cond_false]
          intro K7 hK7
          have hstt:=hst.2 (hB.strict rfl)
          subst hstt
          refine⟨_,h4319.blk.cell (j:=2) rfl,?_⟩
          rw [cond_true]
          exact zBT (K:=fun v w=>K7 [v] w) hg hx19 fun w2 h2=>hK7 true w2 ⟨rfl,h2⟩
      have hadmt:=hadm.2 hB.adm
      subst hadmt
      refine⟨_,h43A.blk.cell (j:=3) rfl,?_⟩
      rw [show (!true)=false from rfl,cond_false]
      have hsj : ∀ j,j<n.toNat->bs (s j)=txtQ (rd (s j)):=fun j hj=>rd_ok (hokM.2.2 j (by omega))
      have hcd : ∀ j,j<n.toNat->dg 61 (rd (s j)):=fun j hj=>rd_dg (hokM.2.2 j (by omega)) (hcz j (by omega))
      refine⟨_,_,_,h43A.blk.cell (j:=0) rfl,Called.of (c34 (s:=fun j=>mk (txtQ (comb (sysX X n.toNat) y j))) (by show n.toNat<=_;omega) _ (SlAt.ext hT hx43.drew) (hc.ext hxA.drew)) ?_⟩
      rintro v w25 ⟨⟨b29,rfl,hb29⟩,he25⟩
      have hb29t:=hb29.2 ⟨ecn.symm,fun j hj=>by rw [hB.cb j hj,<- hsj j hj,mk_bs]⟩
      subst hb29t
      refine⟨_,rfl,he25,?_⟩
      rw [show (!true)=false from rfl,cond_false]
      refine⟨_,h43A.blk.cell (j:=1) rfl,_,hPA.blk.cell (j:=1) rfl,?_⟩
      rw [zAw,hs4c,hu,decide_eq_true rfl,show (!true)=false from rfl,cond_false]
      have hxA25:=hxA.drew.trans he25
      refine⟨_,_,_,hPA.blk.cell (j:=3) rfl,Called.of (c35 (zFK hsm).1 (zFK hsm).2 w25 (hR.ext hxA25)) ?_⟩
      rintro v w26 ⟨p20,c20,A20,rfl,hR20,he26⟩
      have hxA26:=hxA25.trans he26
      have hokR : ∀ i,i<(rlx X).m->okRow (rlx X) n.toNat i:=fun i hi=>rlx_row (hok.nat i hi)
      have s6R:Sm6 (sysX (rlx X) n.toNat):=(rlx_small hsm).sm (n:=n.toNat) (by omega) hokR
      have hdR:=dots_pt s6R hpd hokR
      refine⟨_,_,_,rfl,he25.trans he26,Called.of (c24 (X:=rlx X) (A:=A20) (nx:=n.toNat) (t:=fun j=>mk (txtQ (pt j))) ((rlx_small hsm).tame (by decide)) (by show n.toNat+X.m<=_;have:=hsm.1;omega) (fun j hj=>Nat.le_trans (zG3 (hpd j hj)) (by decide)) (fun S x a b c=>(hdR S x a b c).1) w26 hR20 (Box.ext hT1 (((eA.drew).trans he25).trans he26)).blk.sl) ?_⟩
      rintro v w27 ⟨⟨b30,rfl,hb30⟩,he27⟩
      have hb30t:=hb30.2 (zEv.2 (holdsX_of hokR (rlx_sat hok.nat hB.rel)))
      subst hb30t
      refine⟨_,rfl,(he25.trans he26).trans he27,?_⟩
      rw [show (!true)=false from rfl,cond_false]
      have hxA27:=hxA26.trans he27
      have hcl:SS w27 ca s n.toNat:=by rw [<- ecn];exact hc.ext hxA27
      have h36:=c36 (a:=ca) (b:=some ⟨b1,0,none⟩) (s:=s) (t:=fun j=>mk (txtQ (pt j))) (f:=fun j=>rd (s j)) (g:=pt) (n:=n.toNat) (ca:=cc) (cb:=n.toNat) (nb:=n.toNat) (by omega) (Nat.le_refl _) hsj (fun j hj=>bs_mk _)
        (fun j hj=>⟨Nat.le_trans (hcz j (by omega)) (by decide),Nat.le_trans (zG3 (hpd j hj)) (by decide)⟩)
        (fun j hj=>((hcd j hj).mul (hpd j hj)).mono (by decide)) (fun k hk=>(zFL (h:=14000062) fun j hj=>(hcd j (by omega)).mul (hpd j (by omega))).mono (by omega)) w27 hcl (Box.ext hT1 (((eA.drew.trans he25).trans he26).trans he27)).blk.sl
      rw [<- ecn] at h36
      refine⟨_,_,_,hPA.blk.cell (j:=3) (by rw [<- ecn];rfl),_,hPA.blk.cell (j:=1) rfl,Called.of h36 ?_⟩
      rintro v w28 ⟨⟨s8,rfl,hs8⟩,he28⟩
      refine⟨_,rfl,((he25.trans he26).trans he27).trans he28,?_⟩
      have e8:bs s8=bs u:=by
        rw [hs8,hu,<- hB.val,ecn]
        rfl
      rw [zAw,decide_eq_true e8]
      exact fin _ (((he25.trans he26).trans he27).trans he28)
  refine Called.of (c29 htm w6 (hR.ext hx6)) ?_
  rintro v w7 ⟨⟨b6,rfl,hb6⟩,he7⟩
  refine⟨_,rfl,?_⟩
  cases b6 with
  | false =>
    rw [show (!false)=true from rfl,cond_true]
    exact pre true w7 he7 (by simp only [true_iff];exact fun h=>by have:=hb6.2 h.1;cases this)
  | true =>
    rw [show (!true)=false from rfl,cond_false]
    refine Called.of (c31 (n:=n) (by omega) w7 (hc.ext (hx6.trans he7)) fun j hj=>Nat.le_trans (hcz j hj) (by decide)) ?_
    rintro v w8 ⟨⟨b7,rfl,hb7⟩,he8⟩
    refine⟨_,rfl,pre _ w8 (he7.trans he8) ?_⟩
    cases b7 with
    | true=>simp only [Bool.not_true,Bool.false_eq_true,false_iff];exact fun h=>h ⟨hb6.1 rfl,hb7.1 rfl⟩
    | false=>simp only [Bool.not_false,true_iff];exact fun h=>by have:=hb7.2 h.2;cases this
end Go.Proofs.Si
namespace Go.Proofs.Si
open Go Go.Proofs Go.Proofs.Tryz
set_option maxRecDepth 100000
theorem looksFact:true=prog.looks []:=by kernel_rfl
theorem ownFact:ownKnob prog.godebug=none:=by kernel_rfl
end Go.Proofs.Si
namespace Go.Proofs.Si
open Go Go.V Go.Proofs Go.RowKit Go.Proofs.Tryz
open Go.ChangeShapes Go.WideShapes Go.ChangeAt Go.Proofs.Tryz
set_option maxRecDepth 100000
theorem laidOutK:laidOutB prog=true:=by kernel_rfl
theorem spot_none {w:World} {x:Addr} {v:Value} (h:w.cell? x=some v):x.spot=none:=by
 unfold World.cell? at h
 cases hb:w.heap[x.block]? with
 | none=>rw [hb] at h;cases h
 | some o =>
  rw [hb] at h
  cases o with
  | cells c e f =>
   cases hsp:x.spot with
   | none=>rfl
   | some y=>simp [hsp] at h
  | _=>cases h
theorem add_zero (x:Addr):x.add 0=x:=by unfold Addr.add;simp
theorem pick {α:Type} [Inhabited α] {P:Nat->α->Prop} {n:Nat} (h : ∀ i,i<n->∃ y,P i y) : ∃ f:Nat->α,∀ i,i<n->P i (f i):=by
 classical
 refine⟨fun i=>if hi:i<n then Classical.choose (h i hi) else default,fun i hi=>?_⟩
 show P i (dite _ _ _)
 rw [dif_pos hi]
 exact Classical.choose_spec (h i hi)
theorem open_strs {H:Type} {enc:TypeId × Value->H} {W:World} {fuel:Nat} {a:Option Addr} {len cap:Nat} {x:DataW H × List MemPlace} (h:DataW.trod enc prog W 0 (fun _=>true) true fuel 23 [.slice a len cap]=some x) : ∃ t:Nat->ByteArray,SS W a t len:=by
 rcases DataW.trod_slice underlying23 h with ⟨e,_⟩ | ⟨ad,len',cap',elems,rest,n,_,e,rfl,_,hl,hm,hlen,hel,_,_⟩
 ·cases e
  exact⟨fun _=>ByteArray.empty,.inl rfl⟩
 ·cases e
  have hc:prog.cellsOf 9=1:=by kernel_rfl
  have each : ∀ i,i<len->∃ s:ByteArray,W.cell? (ad.add i)=some (.string s):=by
   intro i hi
   have h1:=hel i hi
   rw [hc,List.getElem?_eq_getElem (by omega)] at h1
   obtain⟨cs,h2,h3⟩:=Option.bind_eq_some_iff.1 h1
   obtain⟨s,e1,_,_⟩:=DataW.trod_string underlying9 h3
   obtain⟨_,_,h4⟩:=World.cells?_some h2
   have h5:=h4 0 (by decide)
   rw [Nat.mul_one,add_zero] at h5
   refine⟨s,?_⟩
   rw [h5,e1];rfl
  haveI:Inhabited ByteArray:=⟨ByteArray.empty⟩
  obtain⟨t,ht⟩:=pick each
  refine⟨t,?_⟩
  cases len with
  | zero=>exact .inl rfl
  | succ k =>
   right
   have h0:=ht 0 (by omega)
   rw [add_zero] at h0
   refine⟨ad,rfl,spot_none h0,fun j v hj=>?_⟩
   have hj' : j<k+1:=by
    have:=(List.getElem?_eq_some_iff.1 hj).1
    rwa [zCX] at this
   have e:=zBg (f:=fun i=>Value.string (t i)) hj'
   have hj2:(SL t (k+1))[j]? = some (.string (t j)):=e
   rw [hj2] at hj
   cases hj
   exact ht j hj'
theorem open_row {H:Type} {enc:TypeId × Value->H} {W:World} {fuel:Nat} {cs:List Value} {x:DataW H × List MemPlace} (h:DataW.trod enc prog W 0 (fun _=>true) true fuel 49 cs=some x) :
  ∃ (a:Option Addr) (n c:Nat) (t:Nat->ByteArray) (rel:Int) (k:ByteArray),cs=[.slice a n c,.int .i64 rel,.string k]/\SS W a t n:=by
 obtain⟨xs,n,_,rfl,hl,hlen,hf⟩:=DataW.trod_struct underlying49 h
 have hc:prog.cellsOf 49=3:=by kernel_rfl
 have h3:prog.cellsOf 3=1:=by kernel_rfl
 have h9:prog.cellsOf 9=1:=by kernel_rfl
 have h23:prog.cellsOf 23=1:=by kernel_rfl
 rw [hc] at hl
 match cs,hl with
 | [c0,c1,c2],_ =>
  match xs,hlen with
  | [x0,x1,x2],_ =>
   have f0:DataW.trod enc prog W 0 (fun _=>true) true n 23 (([c0,c1,c2].drop 0).take (prog.cellsOf 23))=some x0:=hf 0 _ rfl
   have f1:DataW.trod enc prog W 0 (fun _=>true) true n 3 (([c0,c1,c2].drop 1).take (prog.cellsOf 3))=some x1:=hf 1 _ rfl
   have f2:DataW.trod enc prog W 0 (fun _=>true) true n 9 (([c0,c1,c2].drop 2).take (prog.cellsOf 9))=some x2:=hf 2 _ rfl
   rw [h23] at f0
   rw [h3] at f1
   rw [h9] at f2
   obtain⟨n1,e1,_,_⟩:=DataW.trod_int underlying3 f1
   obtain⟨s2,e2,_,_⟩:=DataW.trod_string underlying9 f2
   have e1' : c1 = .int .i64 n1:=(List.cons.inj e1).1
   have e2' : c2 = .string s2:=(List.cons.inj e2).1
   subst e1' e2'
   have f0' : DataW.trod enc prog W 0 (fun _=>true) true n 23 [c0]=some x0:=f0
   rcases DataW.trod_slice underlying23 f0' with ⟨e,_⟩ | ⟨ad,len',cap',elems,rest,n',_,e,rfl,_⟩
   ·have e' : c0 = .slice none 0 0:=(List.cons.inj e).1
    subst e'
    exact⟨none,0,0,fun _=>ByteArray.empty,n1,s2,rfl,.inl rfl⟩
   ·have e':=(List.cons.inj e).1
    subst e'
    obtain⟨t,ht⟩:=open_strs f0'
    exact⟨_,_,_,t,n1,s2,rfl,ht⟩
structure RowD where
 a:Option Addr
 n:Nat
 c:Nat
 t:Nat->ByteArray
 rel:Int
 k:ByteArray
instance:Inhabited RowD:=⟨⟨none,0,0,fun _=>ByteArray.empty,0,ByteArray.empty⟩⟩
theorem open_rows {H:Type} {enc:TypeId × Value->H} {W:World} {fuel:Nat} {a:Option Addr} {len cap:Nat} {x:DataW H × List MemPlace} (h:DataW.trod enc prog W 0 (fun _=>true) true fuel 22 [.slice a len cap]=some x) :
  ∃ (X:TX) (A:TA),X.m=len/\RowsT W a X A:=by
 rcases DataW.trod_slice underlying22 h with ⟨e,_⟩ | ⟨ad,len',cap',elems,rest,n,_,e,rfl,_,hl,hm,hlen,hel,_,_⟩
 ·cases e
  exact⟨⟨0,fun _=>0,fun _ _=>ByteArray.empty,fun _=>0,fun _=>ByteArray.empty⟩,⟨fun _=>none,fun _=>0⟩,rfl,.inl rfl,fun i hi=>absurd hi (Nat.not_lt_zero i)⟩
 ·cases e
  have hc:prog.cellsOf 49=3:=by kernel_rfl
  have each : ∀ i,i<len->∃ y:RowD,(∀ k v,[Value.slice y.a y.n y.c,.int .i64 y.rel,.string y.k][k]? = some v->W.cell? ((ad.add (i*3)).add k)=some v)/\SS W y.a y.t y.n:=by
   intro i hi
   have h1:=hel i hi
   rw [hc,List.getElem?_eq_getElem (by omega)] at h1
   obtain⟨cs,h2,h3⟩:=Option.bind_eq_some_iff.1 h1
   obtain⟨ra,rn,rc,rt,rrel,rk,rfl,hss⟩:=open_row h3
   obtain⟨_,_,h4⟩:=World.cells?_some h2
   refine⟨⟨ra,rn,rc,rt,rrel,rk⟩,fun k v hk=>?_,hss⟩
   have hk3:k<3:=(List.getElem?_eq_some_iff.1 hk).1
   rw [h4 k hk3]
   exact hk
  obtain⟨f,hf⟩:=pick each
  refine⟨⟨len,fun i=>(f i).n,fun i=>(f i).t,fun i=>(f i).rel,fun i=>(f i).k⟩,⟨fun i=>(f i).a,fun i=>(f i).c⟩,rfl,?_,fun i hi=>(hf i hi).2⟩
  cases len with
  | zero=>exact .inl rfl
  | succ k =>
   right
   have h0:=(hf 0 (by omega)).1 0 _ rfl
   rw [Nat.zero_mul,add_zero,add_zero] at h0
   have hs:=spot_none h0
   refine⟨ad,rfl,hs,fun j v hj=>?_⟩
   have hg3 : ∀ i,(rtc ⟨k+1,fun i=>(f i).n,fun i=>(f i).t,fun i=>(f i).rel,fun i=>(f i).k⟩ ⟨fun i=>(f i).a,fun i=>(f i).c⟩ i).length=3:=fun _=>rfl
   have hj' : j<3*(k+1):=by
    have:=(List.getElem?_eq_some_iff.1 hj).1
    rwa [zAU hg3] at this
   have hq:j / 3<k+1:=by omega
   have e:=zGm hg3 hq (j % 3) (by omega)
   rw [show 3*(j / 3)+j % 3=j by omega] at e
   rw [e] at hj
   have:=(hf (j / 3) hq).1 (j % 3) v hj
   rw [add_add _ hs] at this
   rw [show j / 3*3+j % 3=j by omega] at this
   exact this
end Go.Proofs.Si
