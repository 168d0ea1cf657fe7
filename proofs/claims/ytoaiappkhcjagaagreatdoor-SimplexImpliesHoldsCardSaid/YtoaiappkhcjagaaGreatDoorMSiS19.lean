/- Part of the proof: SiS19, SiS20, SiF2, SiRow. -/
import Derived.Test.YtoaiappkhcjagaaGreatDoorMSiS15
import Derived.Test.YtoaiappkhcjagaaGreatDoorProg
import Derived.KernelRfl
import GoSem.ClaimSeven
import Derived.ProofKit
import Derived.OpenShut
import Derived.ShutString
import Derived.Below
import Derived.Lay
import Derived.LaidOnce
import Derived.SevenTiedAt
import Derived.ChangeSlices
import Derived.ChangeOld
import Derived.Carry
import Derived.DataReads
import Derived.Lib.LaidTab
import Derived.Stop.LaidErr
set_option linter.unusedVariables false
set_option linter.unusedSimpArgs false
namespace Go.Proofs.Si
open Go Go.V Go.Proofs Go.RowKit Go.Num Go.Tb Go.Proofs.Tryz
set_option maxRecDepth 100000
def vc3 (A:Option Addr) (B C:Nat) (D:Option Addr) (E F:Nat) (w:World) (R:RT):Prop :=
 Cd 20 #[Iv 0,Lv A B C,Lv (some (Ad w.heap.size 0)) 1 1] (w.alloc (.cells #[Lv D E F] 23)) fun v w1=>∃ b,v=Bv b∧bif b then Cd 21 #[] w1 fun v1 w2=>∃ b1,v1=Bv b1∧R (Bv b1) w2 else Cd 22 #[Lv A B C] w1 fun v2 w3=>∃ p k k1,v2=Lv p k k1∧∀ (K:KT),(∀ (b2:Bool) (w4:World),R (Bv b2) w4→K [Bv b2] w4)→∃ k2 vs vs1,AppOk (w3.alloc (.cells #[] 9)) k2 9 1 16 (some (Ad w3.heap.size 0)) 0 0 vs D E vs1∧∀ (p1:Option Addr) (k3:Nat) (w5:World),AppRes (w3.alloc (.cells #[] 9)) w5 k2 9 1 (some (Ad w3.heap.size 0)) 0 0 vs E vs1 p1 k3→Cd 23 #[Lv p k k1,Lv p1 (0+E) k3] w5 fun v3 w6=>∃ b3,v3=Bv b3∧Cd 24 #[Lv A B C,Lv D E F] w6 fun v4 w7=>∃ b4,v4=Bv b4∧bif b3==b4 then Cd 25 #[Lv p k k1,Lv A B C] w7 fun v5 w8=>∃ b5,v5=Bv b5∧bif b5 then Cd 21 #[] w8 fun v6 w9=>∃ b6,v6=Bv b6∧K [Bv b6] w9 else K [Bv false] w8 else K [Bv false] w7
theorem run3 (A:Option Addr) (B C:Nat) (D:Option Addr) (E F:Nat) (w:World) (R:RT) (h:vc3 A B C D E F w R):Ret prog 3 #[.slice A B C,.slice D E F] w R :=
 zAc zAj func3 (Eq.mp (by kernel_rfl) h)
def vc10 (n:Int) (A:Option Addr) (B C:Nat) (D:Option Addr) (E F:Nat) (G:Int) (H:ByteArray) (J:Option Addr) (L M:Nat) (w:World) (R:RT):Prop :=
 ∀ (K:KT),(∀ (b:Bool) (w1:World),(bif b then Cd 21 #[] w1 fun v w2=>∃ b1,v=Bv b1∧R (Bv b1) w2 else ∃ p k k1 n1 s,vcells w1 (Ad w.heap.size 0) 0 [Lv p k k1,Iv n1,Sv s]∧Cd 38 #[Iv n,Lv A B C,.agg #[Lv p k k1,Iv n1,Sv s]] w1 fun v1 w3=>∃ b2 p1 k2 k3 n2,v1 = .tuple #[Bv b2,Lv p1 k2 k3,Iv n2]∧∀ (K1:KT),(∀ (b3:Bool) (w4:World),R (Bv b3) w4→K1 [Bv b3] w4)→bif n2 != 0||!b2 then Cd 21 #[] w3 fun v2 w5=>∃ b4,v2=Bv b4∧K1 [Bv b4] w5 else ∃ p2 k4 k5 n3 s1,vcells w3 (Ad w.heap.size 0) 0 [Lv p2 k4 k5,Iv n3,Sv s1]∧Cd 42 #[.agg #[Lv p2 k4 k5,Iv n3,Sv s1],Lv J L M] w3 fun v3 w6=>∃ b5,v3=Bv b5∧bif b5 then Cd 21 #[] w6 fun v4 w7=>∃ b6,v4=Bv b6∧K1 [Bv b6] w7 else K1 [Bv false] w6)→K [Bv b] w1)→∃ p3 k6 k7,(w.alloc (.cells #[Lv D E F,Iv G,Sv H] 49)).cell? (Ad w.heap.size 0)=some (Lv p3 k6 k7)∧Cd 20 #[Iv n,Lv A B C,Lv (some ⟨(w.alloc (.cells #[Lv D E F,Iv G,Sv H] 49)).heap.size,0,none⟩) 2 2] ((w.alloc (.cells #[Lv D E F,Iv G,Sv H] 49)).alloc (.cells #[Lv p3 k6 k7,Lv J L M] 23)) fun v5 w8=>∃ b7,v5=Bv b7∧bif b7 then K [Bv true] w8 else ∃ s2,w8.cell? (Ad w.heap.size 2)=some (Sv s2)∧bif decide ((↑s2.size:Int)>60) then K [Bv true] w8 else Cd 29 #[Iv n,Lv A B C] w8 fun v6 w9=>∃ b8,v6=Bv b8∧bif !b8 then K [Bv true] w9 else ∃ p4 k8 k9 n4 s3,vcells w9 (Ad w.heap.size 0) 0 [Lv p4 k8 k9,Iv n4,Sv s3]∧Cd 39 #[Iv n,.agg #[Lv p4 k8 k9,Iv n4,Sv s3]] w9 fun v7 w10=>∃ b9,v7=Bv b9∧bif !b9 then K [Bv true] w10 else bif (↑L:Int) != n then K [Bv true] w10 else Cd 24 #[Lv A B C,Lv J L M] w10 fun v8 w11=>∃ b10,v8=Bv b10∧K [Bv !b10] w11
theorem run10 (n:Int) (A:Option Addr) (B C:Nat) (D:Option Addr) (E F:Nat) (G:Int) (H:ByteArray) (J:Option Addr) (L M:Nat) (w:World) (R:RT) (h:vc10 n A B C D E F G H J L M w R):Ret prog 10 #[.int .i64 n,.slice A B C,.agg #[.slice D E F,.int .i64 G,.string H],.slice J L M] w R :=
 zAc zAj func10 (Eq.mp (by kernel_rfl) h)
theorem copy_ok {w:World} {a:Option Addr} {t:Nat→ByteArray} {n:Nat} (hs:SS w a t n) (hn:n≤1000000):AppOk (w.alloc (.cells #[] 9)) w.heap.size 9 1 16 (some ⟨w.heap.size,0,none⟩) 0 0 [] a n (SL t n) where
 own := .inl (own_box (n:=0) (size:=1) (Box.new w [] 9) rfl (by decide))
 len:=by rw [zCX,Nat.mul_one]
 src:=by
  rcases hs.ext ((Ext.refl w).alloc (.cells #[] 9)) with e | ⟨ad,g1,g2,g3⟩
  ·left
   have:=congrArg List.length e
   rw [zCX] at this
   simpa using this
  ·exact .inr ⟨ad,g1,zCY.2 g3⟩
 plain:=zG1 _ _
 max:=by unfold maxLen;omega
 bytes:=by omega
 base:=((Ext.refl w).alloc (.cells #[] 9)).size
theorem copy_res {w w' : World} {t:Nat→ByteArray} {n c:Nat} {p:Option Addr} (r:AppRes (w.alloc (.cells #[] 9)) w' w.heap.size 9 1 (some ⟨w.heap.size,0,none⟩) 0 0 [] n (SL t n) p c):SS w' p t n∧Ext w w':=by
 have z:=(Ext.refl w).alloc (.cells #[] 9)
 refine⟨?_,r.below (own_box (n:=0) (size:=1) (Box.new w [] 9) rfl (by decide)) z z.size (Nat.le_refl _)⟩
 have h:=zBr r.own
 rw [List.nil_append] at h
 exact h
theorem lists1 {w:World} {a:Option Addr} {n c:Nat} {t:Nat→ByteArray} (h:SS w a t n):ListsT (w.alloc (.cells #[.slice a n c] 23)) (some ⟨w.heap.size,0,none⟩) ⟨fun _=>a,fun _=>n,fun _=>c,fun _=>t⟩ 1 :=
 ⟨(Box.new w [.slice a n c] 23).blk.sl,fun _ _=>h.ext ((Ext.refl w).alloc _)⟩
def two2 {α:Type} (x y:α):Nat→α:=fun i=>if i=0 then x else y
theorem lists2 {w:World} {a b:Option Addr} {n m c d:Nat} {t s:Nat→ByteArray} (h:SS w a t n) (k:SS w b s m):ListsT (w.alloc (.cells #[.slice a n c,.slice b m d] 23)) (some ⟨w.heap.size,0,none⟩) ⟨two2 a b,two2 n m,two2 c d,two2 t s⟩ 2 :=
 ⟨(Box.new w [.slice a n c,.slice b m d] 23).blk.sl,fun i _=>by
  by_cases e:i=0
  ·subst e;exact h.ext ((Ext.refl w).alloc _)
  ·show SS _ (two2 a b i) (two2 t s i) (two2 n m i)
   unfold two2
   rw [if_neg e,if_neg e,if_neg e]
   exact k.ext ((Ext.refl w).alloc _)⟩
theorem lists0 (w:World) (L:LT):ListsT w none L 0:=⟨.inl rfl,fun i hi=>by omega⟩
theorem zDz {X:TX} {S:Tb.Sys} (h:smallX X 14 60) (hS:Reads X S):(∀ i,i<S.m→∀ j,j<S.n→dg 61 (S.C i j))∧∀ i,i<S.m→dg 61 (S.K i):=by
 have hm:=hS.m
 refine⟨fun i hi j hj=>zDY ?_,fun i hi=>zDY ?_⟩
 ·rw [← hS.C i (by omega) j hj,← zAg]
  exact (h.2 i (by omega)).2.2 j (by rw [hS.n i (by omega)];exact hj)
 ·rw [← hS.K i (by omega),← zAg]
  exact (h.2 i (by omega)).1
theorem pt_dg {t:Nat→ByteArray} {n:Nat} {x:Nat→Rat} (h:PtReads t n x) (hz : ∀ j,j<n→(t j).size≤60) : ∀ j,j<n→dg 61 (x j):=fun j hj=>zDY (by rw [← h j hj,← zAg];exact hz j hj)
theorem dots40 {X:TX} {n:Nat} {t:Nat→ByteArray} (h:smallX X 14 60) (hn:n≤40) (hz : ∀ j,j<n→(t j).size≤60) :
  ∀ S x,Reads X S→S.n=n→PtReads t n x→Dots S x 84001000∧(∀ i,i<S.m→dg 84001000 (S.K i))∧(∀ j,j<n→dg 40000000 (x j))∧∀ i,i<S.m→∀ j,j<n→dg 40000000 (S.C i j):=by
 intro S x hS hSn hx
 obtain⟨h1,h2⟩:=zDz h hS
 have h3:=pt_dg hx hz
 refine⟨fun i hi=>⟨fun j hj=>((h1 i hi j hj).mul (h3 j (by omega))).mono (by decide),fun k hk=>(zFL (h:=123) fun j hj=>(h1 i hi j (by omega)).mul (h3 j (by omega))).mono (by omega)⟩,fun i hi=>(h2 i hi).mono (by decide),fun j hj=>(h3 j hj).mono (by decide),fun i hi j hj=>(h1 i hi j (by omega)).mono (by decide)⟩
theorem eq_of_iff {a b:Bool} {p:Prop} (ha:a=true↔p) (hb:b=true↔p):(a==b)=true:=by
 cases a <;> cases b <;> simp_all
theorem zFj (X:TX):X.m=X.m∧∀ i,i<X.m→sameRow X X i:=⟨rfl,fun i _=>sameRow.refl X i⟩
theorem zBT {w w1:World} {K:Value→World→Prop} (hg:Gl w) (hx:Ext w w1) (h : ∀ w2,Ext w w2→K (.bool true) w2):Called prog 21 #[] w1 fun v w2=>∃ b,v = .bool b∧K (.bool b) w2 :=
 Called.of (c21 w1 (hg.ext hx)) fun v w2 ⟨hv,he⟩=>⟨true,hv,h w2 (hx.trans he)⟩
theorem zEc {w w1:World} (hg:Gl w) (hx:Ext w w1):Called prog 21 #[] w1 fun v w2=>∃ b,v = .bool b∧(fun (v:Value) (w' : World)=>v = .bool true∧Ext w w') (.bool b) w2 :=
 zBT (K:=fun v w'=>v = .bool true∧Ext w w') hg hx fun w2 h2=>⟨rfl,h2⟩
theorem zFK {X:TX} (h:smallX X 14 60):X.m≤1000000∧∀ i,i<X.m→X.n i≤1000000:=⟨Nat.le_trans h.1 (by decide),fun i hi=>Nat.le_trans (h.2 i hi).2.1 (by decide)⟩
set_option maxHeartbeats 1000000 in
theorem c3 {X:TX} {A:TA} {a pa:Option Addr} {c pn pc:Nat} {t:Nat→ByteArray} (w:World) (hR:RowsT w a X A) (hp:SS w pa t pn) (hg:Gl w) :
  Ret prog 3 #[.slice a X.m c,.slice pa pn pc] w fun v w'=>v = .bool true∧Ext w w':=by
 have z1:=(Ext.refl w).alloc (.cells #[.slice pa pn pc] 23)
 refine run3 _ _ _ _ _ _ _ _ (Called.of (c20 (n:=0) (nl:=1) (by decide) _ (hR.ext z1) (lists1 hp)) ?_)
 rintro v w1 ⟨⟨b,rfl,hb⟩,rfl⟩
 refine⟨_,rfl,?_⟩
 cases b with
 | true=>rw [cond_true];exact zEc hg z1
 | false =>
 rw [cond_false]
 obtain⟨_,hsm,hl⟩:=hb rfl
 obtain⟨hpn,hpz⟩:=hl 0 (by decide)
 replace hpn:pn≤40:=hpn
 replace hpz : ∀ j,j<pn→(t j).size≤60:=hpz
 have htm:=hsm.tame (by decide)
 generalize w.alloc (.cells #[.slice pa pn pc] 23)=w1 at z1 ⊢
 refine Called.of (c22 (zFK hsm).1 (zFK hsm).2 w1 (hR.ext z1)) ?_
 rintro v w3 ⟨p,c',A',rfl,hO,he3⟩
 have hx3:=z1.trans he3
 refine⟨_,_,_,rfl,fun K hK=>⟨_,_,_,copy_ok (hp.ext hx3) (by omega),?_⟩⟩
 intro p1 k3 w5 r
 obtain⟨hs5,he5⟩:=copy_res r
 have hx5:=hx3.trans he5
 have hRo:=(hO.ext he5).t
 have hd:=dots40 hsm hpn hpz
 have hf:pn+X.m≤1048576:=by have:=hsm.1;omega
 rw [Nat.zero_add]
 refine Called.of (c23 htm hf (fun j hj=>Nat.le_trans (hpz j hj) (by decide)) hd w5 hRo hs5 (hg.ext hx5)) ?_
 rintro v w6 ⟨⟨b3,rfl,hb3⟩,he6⟩
 have hx6:=hx5.trans he6
 refine⟨_,rfl,Called.of (c24 htm hf (fun j hj=>Nat.le_trans (hpz j hj) (by decide)) (fun S x a b c=>(hd S x a b c).1) w6 (hR.ext hx6) (hp.ext hx6)) ?_⟩
 rintro v w7 ⟨⟨b4,rfl,hb4⟩,he7⟩
 have hx7:=hx6.trans he7
 refine⟨_,rfl,?_⟩
 rw [eq_of_iff hb3 hb4,cond_true]
 refine Called.of (c25 (X:=X) (Y:=X) (fun i hi=>htm.n i hi) (by have:=hsm.1;omega) w7 ((hRo.ext he6).ext he7) (hR.ext hx7)) ?_
 rintro v w8 ⟨⟨b5,rfl,hb5⟩,he8⟩
 have hb5t:=hb5.2 (zFj X)
 subst hb5t
 refine⟨_,rfl,?_⟩
 rw [cond_true]
 exact zBT (K:=fun v w=>K [v] w) hg (hx7.trans he8) fun w2 h2=>hK true w2 ⟨rfl,h2⟩
theorem tri {S:Tb.Sys} {y x:Nat→Rat} (h:zAQ S y) (k:Sat S x) {p:Prop} : p:=(farkas h k).elim
theorem fits_small {X:TX} {n:Int} (hsm:smallX X 14 60) (hn6:n≤6) (hok:okRows X n):Fits (sysX X n.toNat):=(hsm.sm (by have:=hok.1;omega) hok.nat).fits
theorem fitsC_small {X:TX} {n:Int} {mc:Nat} {t:Nat→ByteArray} (hsm:smallX X 14 60) (hn6:n≤6) (hz : ∀ j,j<mc→(t j).size≤60) (h:okMax X n mc t) :
  FitsC (sysX X n.toNat) (fun j=>rd (t j))∧∀ s,Inv (sysX X n.toNat) s→∀ j,j<n.toNat→dg 2000000 (costs (sysX X n.toNat) s (fun j=>rd (t j)) j):=by
 have h0:=h.1.1
 have h2:=h.2.1
 exact (hsm.sm (n:=n.toNat) (by omega) h.1.nat).fitsC fun j hj=>rd_dg (h.2.2 j (by replace hj:j<n.toNat:=hj;omega)) (hz j (by replace hj:j<n.toNat:=hj;omega))
theorem best_bound {S:Tb.Sys} {c pt y x:Nat→Rat} {att:Bool} (h:BestX S c pt y att) (hx:Sat S x):(sumN S.n fun v=>c v*x v)≤combK S y∧(att=false→(sumN S.n fun v=>c v*x v)<combK S y):=by
 obtain⟨h1,h2⟩:=weak h.adm hx
 have e:(sumN S.n fun v=>c v*x v)=sumN S.m fun k=>y k*lhs S x k:=by
  rw [← comb_dot]
  exact zAi fun j hj=>by rw [h.cb j hj]
 rw [e]
 exact⟨h1,fun ha=>h2 (h.strict ha)⟩
theorem neg_sat {X X1:TX} {n:Int} {x:Nat→Rat} (hok:okRow X1 n.toNat 0) (hsat:Sat (sysX X n.toNat) x) (h3:X1.rel 0≠3) (h : ¬ meets (sysX X1 n.toNat) x 0):Sat (impS X X1 n) x:=by
 intro k hk
 replace hk:k<X.m+1:=hk
 by_cases e:k<X.m
 ·have h1:=hsat k e
  have el:Tb.lhs (impS X X1 n) x k=Tb.lhs (sysX X n.toNat) x k:=by
   show sumN n.toNat (fun j=>(if k<X.m then rd (X.C k j) else -(rd (X1.C 0 j)))*x j)=sumN n.toNat fun j=>rd (X.C k j)*x j
   simp only [if_pos e]
  have er:(impS X X1 n).rel k=(sysX X n.toNat).rel k:=by
   show (if k<X.m then (X.rel k).toNat else _)=_
   rw [if_pos e];rfl
  have eK:(impS X X1 n).K k=(sysX X n.toNat).K k:=by
   show (if k<X.m then rd (X.K k) else _)=_
   rw [if_pos e];rfl
  rw [el,er,eK]
  exact h1
 ·have el:Tb.lhs (impS X X1 n) x k = -(Tb.lhs (sysX X1 n.toNat) x 0):=by
   show sumN n.toNat (fun j=>(if k<X.m then rd (X.C k j) else -(rd (X1.C 0 j)))*x j) = -(sumN n.toNat fun j=>rd (X1.C 0 j)*x j)
   rw [← zDH]
   refine zAi fun j _=>?_
   rw [if_neg e];grind
  have er:(impS X X1 n).rel k=(if (X1.rel 0).toNat=2 then 1 else 2):=by
   show (if k<X.m then (X.rel k).toNat else if (X1.rel 0).toNat=2 then 1 else 2)=_
   rw [if_neg e]
  have eK:(impS X X1 n).K k = -((sysX X1 n.toNat).K 0):=by
   show (if k<X.m then rd (X.K k) else -(rd (X1.K 0)))=_
   rw [if_neg e];rfl
  rw [el,er,eK]
  have r1:=hok.2.1
  have r2:=hok.2.2.1
  have hrel:(sysX X1 n.toNat).rel 0=(X1.rel 0).toNat:=rfl
  unfold meets at h
  rw [hrel] at h
  generalize Tb.lhs (sysX X1 n.toNat) x 0=L at h ⊢
  generalize (sysX X1 n.toNat).K 0=Q at h ⊢
  by_cases e2:(X1.rel 0).toNat=2
  ·rw [if_pos e2]
   have h5 : ¬ L<Q:=fun h6=>h ⟨Rat.le_of_lt h6,fun _=>h6,fun h7=>by omega⟩
   exact⟨by grind,fun h=>absurd h (by decide),fun h=>absurd h (by decide)⟩
  ·rw [if_neg e2]
   have h5 : ¬ L≤Q:=fun h6=>h ⟨h6,fun h7=>absurd h7 e2,fun h7=>by omega⟩
   exact⟨by grind,fun _=>by grind,fun h=>absurd h (by decide)⟩
set_option maxHeartbeats 1000000 in
theorem c10 {X X1:TX} {A A1:TA} {n:Int} {a pa:Option Addr} {c pn pc:Nat} {t:Nat→ByteArray} (hm1:X1.m=1) (w:World) (hR:RowsT w a X A) (hs:SS w (A1.cA 0) (X1.C 0) (X1.n 0)) (hp:SS w pa t pn) (hg:Gl w) :
  Ret prog 10 #[.int .i64 n,.slice a X.m c,.agg #[.slice (A1.cA 0) (X1.n 0) (A1.cC 0),.int .i64 (X1.rel 0),.string (X1.K 0)],.slice pa pn pc] w fun v w'=>v = .bool true∧Ext w w':=by
 have z1:=(Ext.refl w).alloc (.cells (rtc X1 A1 0).toArray 49)
 have b1:=Box.new w (rtc X1 A1 0) 49
 refine run10 _ _ _ _ _ _ _ _ _ _ _ _ _ _ fun K hK=>?_
 have done : ∀ w2,Ext w w2→K [.bool true] w2:=fun w2 h2=>hK true w2 (by rw [cond_true];exact zEc hg h2)
 change ∃ p3 k6 k7,(w.alloc (.cells (rtc X1 A1 0).toArray 49)).cell? _=some (.slice p3 k6 k7)∧Called _ 20 #[_,_,.slice (some ⟨(w.alloc (.cells (rtc X1 A1 0).toArray 49)).heap.size,0,none⟩) 2 2] ((w.alloc (.cells (rtc X1 A1 0).toArray 49)).alloc (.cells #[.slice p3 k6 k7,.slice pa pn pc] 23)) _
 generalize w.alloc (.cells (rtc X1 A1 0).toArray 49)=W1 at z1 b1 ⊢
 refine⟨_,_,_,b1.blk.cell (j:=0) rfl,?_⟩
 have z2:=(Ext.refl W1).alloc (.cells #[.slice (A1.cA 0) (X1.n 0) (A1.cC 0),.slice pa pn pc] 23)
 refine Called.of (c20 (n:=n) (nl:=2) (by decide) _ (hR.ext (z1.trans z2)) (lists2 (hs.ext z1) (hp.ext z1))) ?_
 rintro v w1 ⟨⟨b,rfl,hb⟩,rfl⟩
 have hx1:=z1.trans z2
 have b2:=b1.ext z2
 refine⟨_,rfl,?_⟩
 cases b with
 | true=>exact done _ hx1
 | false =>
 rw [cond_false]
 obtain⟨hn6,hsm,hl⟩:=hb rfl
 obtain⟨hcn,hcz⟩:=hl 0 (by decide)
 replace hcn:X1.n 0≤40:=hcn
 replace hcz : ∀ j,j<X1.n 0→(X1.C 0 j).size≤60:=hcz
 obtain⟨hpn,hpz⟩:=hl 1 (by decide)
 replace hpn:pn≤40:=hpn
 replace hpz : ∀ j,j<pn→(t j).size≤60:=hpz
 have htm:=hsm.tame (by decide)
 clear hb hl
 generalize W1.alloc (.cells #[.slice (A1.cA 0) (X1.n 0) (A1.cC 0),.slice pa pn pc] 23)=w1 at z2 hx1 b2 ⊢
 refine⟨_,b2.blk.cell (j:=2) rfl,zAd (fun _=>done _ hx1) (fun hk60=>?_)⟩
 have hk60:(X1.K 0).size≤60:=by omega
 have h01:0<X1.m:=by omega
 have hsm1:smallX X1 14 60:=⟨by omega,fun i hi=>by
  have:i=0:=by omega
  subst this
  exact⟨hk60,by omega,hcz⟩⟩
 have htm1:=hsm1.tame (by decide)
 refine Called.of (c29 htm w1 (hR.ext hx1)) ?_
 rintro v w2 ⟨⟨b2',rfl,hb2⟩,he2⟩
 have hx2:=hx1.trans he2
 have b3:=b2.ext he2
 refine⟨_,rfl,?_⟩
 cases b2' with
 | false=>exact done _ hx2
 | true =>
 rw [show (!true)=false from rfl,cond_false]
 have hok:=hb2.1 rfl
 have h0:=hok.1
 refine⟨_,_,_,_,_,b3.blk.all,Called.of (c39 (X:=X1) (A:=A1) (n:=n) htm1 h01 w2 (hs.ext hx2)) ?_⟩
 rintro v w3 ⟨⟨b3',rfl,hb3⟩,he3⟩
 have hx3:=hx2.trans he3
 have b4:=b3.ext he3
 refine⟨_,rfl,?_⟩
 cases b3' with
 | false=>exact done _ hx3
 | true =>
 rw [show (!true)=false from rfl,cond_false]
 have hok1:=hb3.1 rfl
 refine zAa (fun _=>done _ hx3) (fun h=>?_)
 have hpnn:(pn:Int)=n:=by simpa using h
 refine Called.of (c24 htm (by have:=hsm.1;omega) (fun j hj=>Nat.le_trans (hpz j hj) (by decide)) (fun S x a b c=>(dots40 hsm hpn hpz S x a b c).1) w3 (hR.ext hx3) (hp.ext hx3)) ?_
 rintro v w4 ⟨⟨b4',rfl,hb4⟩,he4⟩
 have hx4:=hx3.trans he4
 have b5:=b4.ext he4
 refine⟨_,rfl,?_⟩
 cases b4' with
 | false=>exact done _ hx4
 | true =>
 obtain⟨hpok,_,hsat⟩:=zEv.1 (hb4.1 rfl)
 have epn:n.toNat=pn:=by omega
 have hnn:((n.toNat:Nat):Int)=n:=Int.toNat_of_nonneg h0
 rw [← epn] at hsat
 refine hK false w4 ?_
 rw [cond_false]
 have hok1' : okRow X1 n.toNat 0:=by rw [hnn];exact hok1
 have hall1 : ∀ i,i<X1.m→okRow X1 n.toNat i:=fun i hi=>by
  have:i=0:=by omega
  rw [this];exact hok1'
 have s6:=hsm.sm (n:=n.toNat) (by omega) hok.nat
 have s1:=hsm1.sm (n:=n.toNat) (by omega) hall1
 refine⟨_,_,_,_,_,b5.blk.all,?_⟩
 refine Called.of (c38 (A1:=A1) htm htm1 ⟨fun j hj=>Nat.le_trans (hcz j hj) (by decide),Nat.le_trans hk60 (by decide)⟩ hm1 (fun _=>(negR_sm s6 (by have:=hsm.1;exact this) (fun j hj=>s1.C 0 h01 j hj) (s1.K 0 h01)).fits) w4 (hR.ext hx4) (hs.ext hx4) (hg.ext hx4)) ?_
 rintro v w5 ⟨hI,he5⟩
 have hx5:=hx4.trans he5
 have b6:=b5.ext he5
 have okI:okImp X X1 n:=⟨hok,hok1⟩
 rcases hI with ⟨h,_⟩ | ⟨_,⟨h3,rfl⟩ | ⟨h3,⟨x,rfl,_⟩ | ⟨bi,yi,_,rfl,_,href,_⟩⟩⟩
 ·exact absurd okI h
 ·refine⟨_,_,_,_,_,rfl,fun K1 hK1=>zAa (fun _=>?_) (fun h=>absurd h (by decide))⟩
  exact zBT (K:=fun v w=>K1 [v] w) hg hx5 fun w2 h2=>hK1 true w2 ⟨rfl,h2⟩
 ·refine⟨_,_,_,_,_,rfl,fun K1 hK1=>zAa (fun _=>?_) (fun h=>absurd h (by decide))⟩
  exact zBT (K:=fun v w=>K1 [v] w) hg hx5 fun w2 h2=>hK1 true w2 ⟨rfl,h2⟩
 ·refine⟨_,_,_,_,_,rfl,fun K1 hK1=>zAa (fun h=>absurd h (by decide)) (fun _=>?_)⟩
  refine⟨_,_,_,_,_,b6.blk.all,?_⟩
  have dx : ∀ j,j<n.toNat→dg 61 (rd (t j)):=fun j hj=>rd_dg (hpok j (by omega)) (hpz j (by omega))
  have hfew:Few (sysX X1 n.toNat):=by unfold Few;show n.toNat+X1.m≤1048576;omega
  refine Called.of (c42 (S:=sysX X1 n.toNat) (A:=A1) (i:=0) (x:=fun j=>rd (t j)) hfew htm1 (zBh hall1) h01 epn.symm (fun j hj=>rd_ok (hpok j (by replace hj:j<n.toNat:=hj;omega))) (fun j hj=>Nat.le_trans (hpz j (by replace hj:j<n.toNat:=hj;omega)) (by decide))
   (fun j hj=>((s1.C 0 h01 j hj).mul (dx j hj)).mono (by decide)) (fun k hk=>(zFL (h:=123) fun j hj=>(s1.C 0 h01 j (by omega)).mul (dx j (by replace hk:k≤n.toNat:=hk;omega))).mono (by replace hk:k≤n.toNat:=hk;omega)) w5 (hs.ext hx5) (hp.ext hx5)) ?_
  rintro v w6 ⟨⟨b7,rfl,hb7⟩,he6⟩
  have hm7:meets (sysX X1 n.toNat) (fun j=>rd (t j)) 0:=Classical.byContradiction fun h=>farkas href (neg_sat hok1' hsat h3 h)
  have hb7t:=hb7.2 hm7
  subst hb7t
  refine⟨_,rfl,?_⟩
  rw [cond_true]
  exact zBT (K:=fun v w=>K1 [v] w) hg (hx5.trans he6) fun w2 h2=>hK1 true w2 ⟨rfl,h2⟩
end Go.Proofs.Si
namespace Go.Proofs.Si
open Go Go.Proofs Go.Proofs.Tryz
set_option maxRecDepth 100000
theorem looksFact:true=prog.looks []:=by kernel_rfl
theorem ownFact:ownKnob prog.godebug=none:=by kernel_rfl
end Go.Proofs.Si
namespace Go.Proofs.Si
open Go Go.V Go.Proofs Go.RowKit Go.Proofs.Tryz
open Go.ChangeShapes Go.WideShapes Go.ChangeAt Go.Proofs.Tryz
set_option maxRecDepth 100000
theorem laidOutK:laidOutB prog=true:=by kernel_rfl
theorem spot_none {w:World} {x:Addr} {v:Value} (h:w.cell? x=some v):x.spot=none:=by
 unfold World.cell? at h
 cases hb:w.heap[x.block]? with
 | none=>rw [hb] at h;cases h
 | some o =>
  rw [hb] at h
  cases o with
  | cells c e f =>
   cases hsp:x.spot with
   | none=>rfl
   | some y=>simp [hsp] at h
  | _=>cases h
theorem add_zero (x:Addr):x.add 0=x:=by unfold Addr.add;simp
theorem pick {α:Type} [Inhabited α] {P:Nat→α→Prop} {n:Nat} (h : ∀ i,i<n→∃ y,P i y) : ∃ f:Nat→α,∀ i,i<n→P i (f i):=by
 classical
 refine⟨fun i=>if hi:i<n then Classical.choose (h i hi) else default,fun i hi=>?_⟩
 show P i (dite _ _ _)
 rw [dif_pos hi]
 exact Classical.choose_spec (h i hi)
theorem open_strs {H:Type} {enc:TypeId × Value→H} {W:World} {fuel:Nat} {a:Option Addr} {len cap:Nat} {x:DataW H × List MemPlace} (h:DataW.trod enc prog W 0 (fun _=>true) true fuel 23 [.slice a len cap]=some x) : ∃ t:Nat→ByteArray,SS W a t len:=by
 rcases DataW.trod_slice underlying23 h with ⟨e,_⟩ | ⟨ad,len',cap',elems,rest,n,_,e,rfl,_,hl,hm,hlen,hel,_,_⟩
 ·cases e
  exact⟨fun _=>ByteArray.empty,.inl rfl⟩
 ·cases e
  have hc:prog.cellsOf 9=1:=by kernel_rfl
  have each : ∀ i,i<len→∃ s:ByteArray,W.cell? (ad.add i)=some (.string s):=by
   intro i hi
   have h1:=hel i hi
   rw [hc,List.getElem?_eq_getElem (by omega)] at h1
   obtain⟨cs,h2,h3⟩:=Option.bind_eq_some_iff.1 h1
   obtain⟨s,e1,_,_⟩:=DataW.trod_string underlying9 h3
   obtain⟨_,_,h4⟩:=World.cells?_some h2
   have h5:=h4 0 (by decide)
   rw [Nat.mul_one,add_zero] at h5
   refine⟨s,?_⟩
   rw [h5,e1];rfl
  haveI:Inhabited ByteArray:=⟨ByteArray.empty⟩
  obtain⟨t,ht⟩:=pick each
  refine⟨t,?_⟩
  cases len with
  | zero=>exact .inl rfl
  | succ k =>
   right
   have h0:=ht 0 (by omega)
   rw [add_zero] at h0
   refine⟨ad,rfl,spot_none h0,fun j v hj=>?_⟩
   have hj' : j<k+1:=by
    have:=(List.getElem?_eq_some_iff.1 hj).1
    rwa [zCX] at this
   have e:=zBg (f:=fun i=>Value.string (t i)) hj'
   have hj2:(SL t (k+1))[j]? = some (.string (t j)):=e
   rw [hj2] at hj
   cases hj
   exact ht j hj'
theorem open_row {H:Type} {enc:TypeId × Value→H} {W:World} {fuel:Nat} {cs:List Value} {x:DataW H × List MemPlace} (h:DataW.trod enc prog W 0 (fun _=>true) true fuel 49 cs=some x) :
  ∃ (a:Option Addr) (n c:Nat) (t:Nat→ByteArray) (rel:Int) (k:ByteArray),cs=[.slice a n c,.int .i64 rel,.string k]∧SS W a t n:=by
 obtain⟨xs,n,_,rfl,hl,hlen,hf⟩:=DataW.trod_struct underlying49 h
 have hc:prog.cellsOf 49=3:=by kernel_rfl
 have h3:prog.cellsOf 3=1:=by kernel_rfl
 have h9:prog.cellsOf 9=1:=by kernel_rfl
 have h23:prog.cellsOf 23=1:=by kernel_rfl
 rw [hc] at hl
 match cs,hl with
 | [c0,c1,c2],_ =>
  match xs,hlen with
  | [x0,x1,x2],_ =>
   have f0:DataW.trod enc prog W 0 (fun _=>true) true n 23 (([c0,c1,c2].drop 0).take (prog.cellsOf 23))=some x0:=hf 0 _ rfl
   have f1:DataW.trod enc prog W 0 (fun _=>true) true n 3 (([c0,c1,c2].drop 1).take (prog.cellsOf 3))=some x1:=hf 1 _ rfl
   have f2:DataW.trod enc prog W 0 (fun _=>true) true n 9 (([c0,c1,c2].drop 2).take (prog.cellsOf 9))=some x2:=hf 2 _ rfl
   rw [h23] at f0
   rw [h3] at f1
   rw [h9] at f2
   obtain⟨n1,e1,_,_⟩:=DataW.trod_int underlying3 f1
   obtain⟨s2,e2,_,_⟩:=DataW.trod_string underlying9 f2
   have e1' : c1 = .int .i64 n1:=(List.cons.inj e1).1
   have e2' : c2 = .string s2:=(List.cons.inj e2).1
   subst e1' e2'
   have f0' : DataW.trod enc prog W 0 (fun _=>true) true n 23 [c0]=some x0:=f0
   rcases DataW.trod_slice underlying23 f0' with ⟨e,_⟩ | ⟨ad,len',cap',elems,rest,n',_,e,rfl,_⟩
   ·have e' : c0 = .slice none 0 0:=(List.cons.inj e).1
    subst e'
    exact⟨none,0,0,fun _=>ByteArray.empty,n1,s2,rfl,.inl rfl⟩
   ·have e':=(List.cons.inj e).1
    subst e'
    obtain⟨t,ht⟩:=open_strs f0'
    exact⟨_,_,_,t,n1,s2,rfl,ht⟩
structure RowD where
 a:Option Addr
 n:Nat
 c:Nat
 t:Nat→ByteArray
 rel:Int
 k:ByteArray
instance:Inhabited RowD:=⟨⟨none,0,0,fun _=>ByteArray.empty,0,ByteArray.empty⟩⟩
theorem open_rows {H:Type} {enc:TypeId × Value→H} {W:World} {fuel:Nat} {a:Option Addr} {len cap:Nat} {x:DataW H × List MemPlace} (h:DataW.trod enc prog W 0 (fun _=>true) true fuel 22 [.slice a len cap]=some x) :
  ∃ (X:TX) (A:TA),X.m=len∧RowsT W a X A:=by
 rcases DataW.trod_slice underlying22 h with ⟨e,_⟩ | ⟨ad,len',cap',elems,rest,n,_,e,rfl,_,hl,hm,hlen,hel,_,_⟩
 ·cases e
  exact⟨⟨0,fun _=>0,fun _ _=>ByteArray.empty,fun _=>0,fun _=>ByteArray.empty⟩,⟨fun _=>none,fun _=>0⟩,rfl,.inl rfl,fun i hi=>absurd hi (Nat.not_lt_zero i)⟩
 ·cases e
  have hc:prog.cellsOf 49=3:=by kernel_rfl
  have each : ∀ i,i<len→∃ y:RowD,(∀ k v,[Value.slice y.a y.n y.c,.int .i64 y.rel,.string y.k][k]? = some v→W.cell? ((ad.add (i*3)).add k)=some v)∧SS W y.a y.t y.n:=by
   intro i hi
   have h1:=hel i hi
   rw [hc,List.getElem?_eq_getElem (by omega)] at h1
   obtain⟨cs,h2,h3⟩:=Option.bind_eq_some_iff.1 h1
   obtain⟨ra,rn,rc,rt,rrel,rk,rfl,hss⟩:=open_row h3
   obtain⟨_,_,h4⟩:=World.cells?_some h2
   refine⟨⟨ra,rn,rc,rt,rrel,rk⟩,fun k v hk=>?_,hss⟩
   have hk3:k<3:=(List.getElem?_eq_some_iff.1 hk).1
   rw [h4 k hk3]
   exact hk
  obtain⟨f,hf⟩:=pick each
  refine⟨⟨len,fun i=>(f i).n,fun i=>(f i).t,fun i=>(f i).rel,fun i=>(f i).k⟩,⟨fun i=>(f i).a,fun i=>(f i).c⟩,rfl,?_,fun i hi=>(hf i hi).2⟩
  cases len with
  | zero=>exact .inl rfl
  | succ k =>
   right
   have h0:=(hf 0 (by omega)).1 0 _ rfl
   rw [Nat.zero_mul,add_zero,add_zero] at h0
   have hs:=spot_none h0
   refine⟨ad,rfl,hs,fun j v hj=>?_⟩
   have hg3 : ∀ i,(rtc ⟨k+1,fun i=>(f i).n,fun i=>(f i).t,fun i=>(f i).rel,fun i=>(f i).k⟩ ⟨fun i=>(f i).a,fun i=>(f i).c⟩ i).length=3:=fun _=>rfl
   have hj' : j<3*(k+1):=by
    have:=(List.getElem?_eq_some_iff.1 hj).1
    rwa [zAU hg3] at this
   have hq:j / 3<k+1:=by omega
   have e:=zGm hg3 hq (j % 3) (by omega)
   rw [show 3*(j / 3)+j % 3=j by omega] at e
   rw [e] at hj
   have:=(hf (j / 3) hq).1 (j % 3) v hj
   rw [add_add _ hs] at this
   rw [show j / 3*3+j % 3=j by omega] at this
   exact this
end Go.Proofs.Si
