/- Part of the proof: SiL4, SiL5, SiB, SiC, SiN3. -/
import Derived.Test.YtoaiappkhcjagaaGreatDoorMSiR5
import Derived.Test.YtoaiappkhcjagaaGreatDoorShelf
import Derived.Shelf.Strings.BuilderK
import Derived.Lib.ItoaMem
import Derived.Lib.Walk
import Derived.WalkKit
import Derived.BigCall
import Derived.BigGuard
import Derived.RangeFuncNested
import Derived.RangeFuncBound
import Derived.RangeFuncCalls
import Derived.RangeFuncLeaves
import Derived.Shelf.Abstract
import Derived.Shelf.RegionOpen
import Derived.OwnWalkIn
import Derived.TacticsInMore
import Derived.LoopNIn
import Derived.LoopIn
import Derived.Test.YtoaiappkhcjagaaGreatDoorMV7s
set_option linter.unusedVariables false
set_option linter.unusedSimpArgs false
namespace Go.Num
theorem kn1 {g r v1 v2 vl T u0 sl P lS lV:Nat} (hT:g*v1+r=T) (hg:r*1000000000+u0<g*v2) (hV:lV=(v1*1000000000+v2)*P+vl) (hS:lS=(T*1000000000+u0)*P+sl) (hsl:sl<P):lS<g*lV:=by
 have h1:(T*1000000000+u0+1)*P<=g*(v1*1000000000+v2)*P:=by
  apply Nat.mul_le_mul_right
  have:g*(v1*1000000000+v2)=g*v1*1000000000+g*v2:=by rw [Nat.mul_add,Nat.mul_assoc]
  rw [this,<- hT,Nat.add_mul]
  omega
 have h2:g*(v1*1000000000+v2)*P<=g*lV:=by rw [hV,Nat.mul_assoc];exact Nat.mul_le_mul_left _ (Nat.le_add_right _ _)
 rw [Nat.add_mul,Nat.one_mul] at h1
 omega
theorem kn2 {g r v1 v2 vl T u0 sl P lS lV:Nat} (hT:g*v1+r=T) (hg:g*v2<=r*1000000000+u0) (hB:g<=1000000000) (hv1:1<=v1) (hV:lV=(v1*1000000000+v2)*P+vl) (hvl:vl<P) (hS:lS=(T*1000000000+u0)*P+sl):(g - 1)*lV<=lS:=by
 rcases Nat.eq_zero_or_pos g with h0 | h0
 ·subst h0;simp
 obtain⟨k,rfl⟩ : ∃ k,g=k+1:=⟨g - 1,by omega⟩
 rw [Nat.add_sub_cancel]
 have h1:k*lV<=k*((v1*1000000000+v2+1)*P):=by
  apply Nat.mul_le_mul_left
  rw [hV,Nat.add_mul _ 1,Nat.one_mul]
  omega
 have h2:k*(v1*1000000000+v2+1)<=T*1000000000+u0:=by
  have e1:(k+1)*v1*1000000000+(k+1)*v2<=T*1000000000+u0:=by rw [<- hT,Nat.add_mul];omega
  have e2:k*(v1*1000000000+v2+1)=k*v1*1000000000+k*v2+k:=by rw [Nat.mul_add,Nat.mul_add,Nat.mul_one,Nat.mul_assoc]
  rw [e2]
  rw [Nat.add_mul,Nat.add_mul,Nat.add_mul,Nat.one_mul,Nat.one_mul] at e1
  omega
 have h3:k*((v1*1000000000+v2+1)*P)<=(T*1000000000+u0)*P:=by rw [<- Nat.mul_assoc];exact Nat.mul_le_mul_right _ h2
 omega
theorem kn0 {v1 v2 vl T u0 sl P lS lV:Nat} (hV:lV=(v1*1000000000+v2)*P+vl) (hvl:vl<P) (hS:lS=(T*1000000000+u0)*P+sl) (h:lS<1000000000*lV) (hv2:v2<1000000000):T<(v1+1)*1000000000:=by
 rcases Nat.lt_or_ge T ((v1+1)*1000000000) with h' | h'
 ·exact h'
 ·exfalso
  have h1:(v1+1)*1000000000*1000000000*P<=(T*1000000000+u0)*P:=Nat.mul_le_mul_right _ (Nat.le_trans (Nat.mul_le_mul_right _ h') (Nat.le_add_right _ _))
  have h3:lV<(v1*1000000000+v2+1)*P:=by rw [hV,Nat.succ_mul];exact Nat.add_lt_add_left hvl _
  have h4:(v1*1000000000+v2+1)*P<=(v1+1)*1000000000*P:=Nat.mul_le_mul_right _ (by rw [Nat.succ_mul];omega)
  have h5:(v1+1)*1000000000*1000000000*P=1000000000*((v1+1)*1000000000*P):=by rw [Nat.mul_comm ((v1+1)*1000000000) 1000000000,Nat.mul_assoc]
  rw [h5] at h1
  have h6:=Nat.mul_lt_mul_of_pos_left (Nat.lt_of_lt_of_le h3 h4) (show 0<1000000000 by decide)
  rw [hS] at h
  exact absurd (Nat.lt_of_lt_of_le h6 (Nat.le_trans h1 (Nat.le_add_right _ sl))) (Nat.lt_asymm h)
theorem kn3 {v1 v2 vl T u0 sl P lS lV:Nat} (hV:lV=(v1*1000000000+v2)*P+vl) (hS:lS=(T*1000000000+u0)*P+sl) (hsl:sl<P) (hu0:u0<1000000000):lS / lV*v1<=T:=by
 have h1:=Nat.div_mul_le_self lS lV
 rcases Nat.lt_or_ge T (lS / lV*v1) with h | h
 ·exfalso
  have h3:(T+1)*(1000000000*P)<=lS / lV*v1*(1000000000*P):=Nat.mul_le_mul_right _ h
  have h4:lS / lV*v1*(1000000000*P)<=lS / lV*lV:=by
   rw [Nat.mul_assoc]
   apply Nat.mul_le_mul_left
   rw [hV,Nat.add_mul,<- Nat.mul_assoc,Nat.add_assoc]
   exact Nat.le_add_right _ _
  have h5:lS<(T+1)*(1000000000*P):=by
   have:(T*1000000000+u0+1)*P<=(T+1)*1000000000*P:=Nat.mul_le_mul_right _ (by rw [Nat.succ_mul];omega)
   rw [Nat.succ_mul,Nat.mul_assoc (T+1)] at this
   rw [hS]
   exact Nat.lt_of_lt_of_le (Nat.add_lt_add_left hsl _) this
  exact absurd (Nat.lt_of_lt_of_le h5 (Nat.le_trans h3 (Nat.le_trans h4 h1))) (Nat.lt_irrefl _)
 ·exact h
theorem kn_split (k s u0 u1 u2:Nat):s+1000000000 ^ k*u0+1000000000 ^ (k+1)*u1+1000000000 ^ (k+1+1)*u2=((u2*1000000000+u1)*1000000000+u0)*1000000000 ^ k+s:=by
 rw [Nat.pow_succ,Nat.pow_succ,Nat.pow_succ]
 generalize 1000000000 ^ k=P
 have e1:P*1000000000*u1=u1*1000000000*P:=by rw [Nat.mul_comm _ u1,Nat.mul_comm P,Nat.mul_assoc]
 have e2:P*1000000000*1000000000*u2=u2*1000000000*1000000000*P:=by
  rw [Nat.mul_comm _ u2,Nat.mul_comm P,Nat.mul_comm (1000000000*P),<- Nat.mul_assoc,<- Nat.mul_assoc]
 rw [e1,e2,Nat.add_mul,Nat.add_mul,Nat.add_mul,Nat.mul_comm P u0]
 ac_rfl
theorem quo_le {g lS lV:Nat} (h:lS<g*lV):lS / lV<=g - 1:=by
 have:=(Nat.div_lt_iff_lt_mul (x:=lS) (y:=g) (k:=lV) (by
  rcases Nat.eq_zero_or_pos lV with h0 | h0
  ·subst h0;simp at h
  ·exact h0)).2 h
 omega
end Go.Num
namespace Go.Proofs.Si
open Go Go.V Go.Proofs Go.RowKit Go.Num Go.Proofs.Tryz
open Go.IntKind (i64 u64 u32 u8)
set_option maxRecDepth 100000
def muG:List Value->World->Nat
 | _ :: .int _ n::_,_=>n.toNat
 | _,_=>0
theorem c251 {ub o m cu cv:Nat} {v:OA} {U V:List Nat} (w:World) (hU:LimbsT w ub U) (oU:okL U) (hm:o+m<=U.length) (hVm:V.length+1=m) (hv:NatK w ub v V) (oV:okL V) (hl:U.length<=4398046511104)
    (h2:2<=V.length) (htop:500000000<=V.getD (V.length - 1) 0) (hlt:sv U o m<1000000000*lv V) :
    Ret prog 251 #[.slice (some ⟨ub,o,none⟩) m cu,.slice v V.length cv] w fun r w'=>(r = .int .u32 ((sv U o m / lv V:Nat):Int)/\∃ U1,Seg U U1 o m/\okL U1/\sv U1 o m=sv U o m % lv V/\LimbsT w' ub U1)/\Only ub w w':=by
  obtain⟨k,hk⟩ : ∃ k,V.length=k+2:=⟨V.length - 2,by omega⟩
  obtain⟨v1,a4⟩ : ∃ x,x=V.getD (k+1) 0:=⟨_,rfl⟩
  obtain⟨v2,b2⟩ : ∃ x,x=V.getD k 0:=⟨_,rfl⟩
  obtain⟨u2,b1⟩ : ∃ x,x=U.getD (o+(k+2)) 0:=⟨_,rfl⟩
  obtain⟨u1,b0⟩ : ∃ x,x=U.getD (o+(k+1)) 0:=⟨_,rfl⟩
  obtain⟨u0,a9⟩ : ∃ x,x=U.getD (o+k) 0:=⟨_,rfl⟩
  have e6:=zA5 oV (k+1)
  have b5:=zA5 oV k
  have e5:=zA5 oU (o+(k+2))
  have e4:=zA5 oU (o+(k+1))
  have b4:=zA5 oU (o+k)
  rw [<- a4] at e6;rw [<- b2] at b5;rw [<- b1] at e5;rw [<- b0] at e4;rw [<- a9] at b4
  rw [hk,show k+2 - 1=k+1 by omega,<- a4] at htop
  have g4:m=k+3:=by omega
  have a2:lv V=(v1*1000000000+v2)*1000000000 ^ k+lv (V.take k):=by
    have e:lv V=lv (V.take (k+2)):=by rw [List.take_of_length_le (by omega)]
    rw [e,zA7,zA7,<- a4,<- b2,Nat.pow_succ,Nat.add_mul,Nat.mul_comm (1000000000 ^ k*1000000000) v1,Nat.mul_comm (1000000000 ^ k) v2,Nat.mul_comm (1000000000 ^ k) 1000000000,<- Nat.mul_assoc v1]
    omega
  have e0:lv (V.take k)<1000000000 ^ k:=by
    have:=lv_lt (zBB oV k)
    rwa [List.length_take,Nat.min_eq_left (by omega)] at this
  obtain⟨T,hT⟩ : ∃ T,T=u2*1000000000+u1:=⟨_,rfl⟩
  have a1:sv U o m=(T*1000000000+u0)*1000000000 ^ k+sv U o k:=by
    rw [g4,zBR,zBR,zBR,<- a9,<- b0,<- b1,hT]
    exact kn_split _ _ _ _ _
  have d8:sv U o k<1000000000 ^ k:=sv_lt oU o k
  have d:0<lv V:=by
    have h1:1*1000000000 ^ k<=(v1*1000000000+v2)*1000000000 ^ k:=Nat.mul_le_mul_right _ (by omega)
    have:=Nat.pow_pos (n:=k) (show 0<1000000000 by omega)
    omega
  have hq:sv U o m / lv V<1000000000:=(Nat.div_lt_iff_lt_mul d).2 hlt
  have h4:T<(v1+1)*1000000000 :=
     kn0 a2 e0 a1 hlt b5
  have g1:T / v1<=1000000001:=by
    have:T / v1<1000000002:=by
      rw [Nat.div_lt_iff_lt_mul (by omega)]
      have:1000000002*v1=1000000000*v1+2*v1:=by rw [<- Nat.add_mul]
      omega
    omega
  have h7:=hv _ (Only.refl _ _)
  have d4:NatS w.drew v V:=hv _ (Only.refl ub w).drew
  obtain⟨vd,g9,d0⟩:=d4.get (i:=k+1) (by omega)
  have b8:LimbsT w.drew ub U:=hU
  have e7:((V.length:Nat):Int)=((k+2:Nat):Int):=by rw [hk]
  have e8:i64.wrap (((k+2:Nat):Int) - 1)=((k+1:Nat):Int):=by rw [zAd (by omega) (by omega)];omega
  have e9:i64.wrap (((k+2:Nat):Int) - 2)=(k:Int):=by rw [zAd (by omega) (by omega)];omega
  refine run251 _ _ _ _ _ _ _ _ ?_
  unfold vc251
  simp only [e7,e8,e9]
  refine⟨_,rfl,⟨by omega,by omega⟩,(u2:Int),?_,_,rfl,⟨by omega,by omega⟩,(u1:Int),?_,vd,g9,⟨by omega,by omega⟩,(v1:Int),?_,?_⟩
  · rw [yT,Nat.mul_one,zAi,b1];exact b8.cell (by omega)
  · rw [yT,Nat.mul_one,zAi,b0];exact b8.cell (by omega)
  · rw [a4];exact d0
  have b6:u64.wrap (v1:Int)=(v1:Int):=w64u (by omega)
  have f9:decide (u64.wrap (v1:Int)=0)=false:=decide_eq_false (by rw [b6];omega)
  rw [f9,cond_false,cond_false]
  have eT:u64.wrap (u64.wrap (u64.wrap (u2:Int)*1000000000)+u64.wrap (u1:Int))=(T:Int):=by
    rw [w64u (n:=u2) (by omega),w64ui (n:=(u2:Int)*1000000000) (by omega) (by omega),w64u (n:=u1) (by omega),w64ui (by omega) (by omega),hT];omega
  rw [eT,b6,show (T:Int).tmod (v1:Int)=((T % v1:Nat):Int) from rfl,show (T:Int).tdiv (v1:Int)=((T / v1:Nat):Int) from rfl,w64u (n:=T / v1) (by omega)]
  intro K hK
  have fin : ∀ (g r:Nat) (w1:World),g*v1+r=T->sv U o m / lv V<=g->g<=1000000000->g*v2<=r*1000000000+u0->LimbsT w1 ub U->Only ub w w1->K [.int .u64 g] w1:=by
    intro g r w1 hg d6 a7 g3 f7 a3
    refine hK _ _ ?_
    have d3:=kn2 hg g3 a7 (by omega) a2 e0 a1
    have a6:=c264 (cu:=cu) (cv:=cv) w1 f7 oU hm hVm (hv.only a3) oV a7 hl
    refine yC a6 ?_
    rintro x w2 ⟨⟨b,U1,rfl,j,b3,u,a5⟩,p⟩
    refine⟨b,rfl,?_⟩
    cases b with
    | false =>
      rw [cond_false,Nat.mul_zero,Nat.add_zero] at u
      rw [cond_false]
      have g2:g<=sv U o m / lv V:=(Nat.le_div_iff_mul_le d).2 (by omega)
      have l:g=sv U o m / lv V:=by omega
      have s:sv U1 o m=sv U o m % lv V:=by
        have:=Nat.div_add_mod (sv U o m) (lv V)
        rw [l,Nat.mul_comm] at u
        omega
      rw [w32 (by omega)]
      exact⟨⟨by rw [l],U1,j,b3,s,a5⟩,a3.trans p⟩
    | true =>
      rw [cond_true,Nat.mul_one] at u
      rw [cond_true]
      have h1:=sv_lt b3 o m
      have hgt:sv U o m<g*lv V:=by omega
      have h5:=quo_le hgt
      have g2:g - 1<=sv U o m / lv V:=(Nat.le_div_iff_mul_le d).2 d3
      have g0:1<=g:=by
        rcases Nat.eq_zero_or_pos g with h | h
        · subst h;omega
        · exact h
      refine yC (c265 (cu:=cu) (cv:=cv) w2 a5 b3 (by rw [j.len];exact hm) (by omega) ((hv.only a3).only p) oV (by rw [j.len];exact hl)) ?_
      rintro x w3 ⟨⟨rfl,c,U2,hc,a8,e3,g8,f8⟩,d5⟩
      refine⟨rfl,?_⟩
      have l:g - 1=sv U o m / lv V:=by omega
      have h3:=sv_lt e3 o m
      have h6:(g - 1)*lv V+lv V=g*lv V:=by rw [<- Nat.succ_mul];congr 1;omega
      have s:sv U2 o m=sv U o m % lv V:=by
        have:=Nat.div_add_mod (sv U o m) (lv V)
        rw [<- l,Nat.mul_comm] at this
        rcases Nat.eq_zero_or_pos c with h | h
        · subst h;omega
        · have:c=1:=by omega
          subst this;omega
      rw [show (g:Int) - 1=((g - 1:Nat):Int) by omega,w64u (by omega),w32 (by omega)]
      exact⟨⟨by rw [l],U2,j.trans a8,e3,s,f8⟩,(a3.trans p).trans d5⟩
  have g5:sv U o m / lv V<=T / v1:=by
    rw [Nat.le_div_iff_mul_le (by omega)]
    exact kn3 a2 a1 d8 b4
  refine⟨fun vals w1=>∃ (r g:Nat),vals=[.int .u64 r,.int .u64 g]/\g*v1+r=T/\sv U o m / lv V<=g/\g<=1000000001/\r<1000000000/\LimbsT w1 ub U/\Only ub w w1,muG,
    ⟨T % v1,T / v1,rfl,?_,g5,g1,?_,hU,(Only.refl _ _).drew.drew⟩,?_⟩
  · rw [Nat.mul_comm];exact Nat.div_add_mod T v1
  · have:=Nat.mod_lt T (show 0<v1 by omega);omega
  rintro n4 n5 w4 ⟨r,g,g7,hg,d6,a7,hr,a0,f⟩
  cases g7
  intro K1 b7
  have less : ∀ b,b=true->sv U o m / lv V<=g - 1->1<=g->K1 [.bool b] w4.drew:=by
    intro b hb d7 g0
    refine b7 b ?_
    rw [hb,cond_true]
    have er:u64.wrap ((r:Int)+(v1:Int))=((r+v1:Nat):Int):=by rw [w64ui (by omega) (by omega)];omega
    have eg:u64.wrap ((g:Int) - 1)=((g - 1:Nat):Int):=by rw [w64ui (by omega) (by omega)];omega
    rw [er,eg]
    have d2:(g - 1)*v1+(r+v1)=T:=by
      rw [<- hg]
      have:(g - 1)*v1+v1=g*v1:=by rw [<- Nat.succ_mul];congr 1;omega
      omega
    refine zAe (fun b9=>?_) (fun g6=>?_)
    · refine fin (g - 1) (r+v1) _ d2 d7 (by omega) ?_ a0 f.drew
      have h1:(g - 1)*v2<=1000000000*v2:=Nat.mul_le_mul_right _ (by omega)
      have h3:1000000000*1000000000<=(r+v1)*1000000000:=Nat.mul_le_mul_right _ (by omega)
      omega
    · refine⟨⟨r+v1,g - 1,rfl,d2,d7,by omega,by omega,a0,f.drew⟩,?_⟩
      simp only [muG,yT];omega
  refine zAe (fun b9=>?_) (fun g6=>?_)
  · exact less true rfl (by omega) (by omega)
  · obtain⟨h0,d9,d1⟩:=(hv _ f.drew).get (i:=k) (by omega)
    have e1:u64.wrap ((g:Int)*u64.wrap (v2:Int))=((g*v2:Nat):Int):=by
      have:g*v2<=1000000000*1000000000:=Nat.mul_le_mul (by omega) (by omega)
      rw [w64u (n:=v2) (by omega),<- Int.natCast_mul,w64u (by omega)]
    have e2:u64.wrap (u64.wrap ((r:Int)*1000000000)+u64.wrap (u0:Int))=((r*1000000000+u0:Nat):Int):=by
      rw [w64ui (n:=(r:Int)*1000000000) (by omega) (by omega),w64u (n:=u0) (by omega),w64ui (by omega) (by omega)];omega
    refine⟨h0,d9,⟨by omega,by omega⟩,(v2:Int),?_,_,rfl,⟨by omega,by omega⟩,(u0:Int),?_,?_⟩
    · rw [b2];exact d1
    · rw [yT,Nat.mul_one,zAi,a9];exact LimbsT.cell (w:=w4.drew) a0 (by omega)
    · rw [e1,e2]
      cases hd:decide (((g*v2:Nat):Int)>((r*1000000000+u0:Nat):Int)) with
      | true =>
        have h1:=of_decide_eq_true hd
        have h3:=kn1 hg (by omega) a2 a1 d8
        exact less true rfl (quo_le h3) (by
          rcases Nat.eq_zero_or_pos g with h | h
          · subst h;omega
          · exact h)
      | false =>
        have h1:=of_decide_eq_false hd
        refine b7 false ?_
        rw [cond_false]
        exact fin g r _ hg d6 (by omega) (by omega) a0 f.drew
end Go.Proofs.Si
namespace Go.Num
theorem scale_top {t d:Nat} (ht:1<=t) (ht2:t<1000000000) (hd:d=1000000000 / (t+1)):500000000<=t*d/\d*(t+1)<=1000000000/\1<=d/\d<1000000000:=by
 have h1:d*(t+1)<=1000000000:=by rw [hd];exact Nat.div_mul_le_self _ _
 have h2:1000000000<(d+1)*(t+1):=by rw [hd,Nat.mul_comm];exact Nat.lt_mul_div_succ _ (by omega)
 have h3:1<=d:=by rw [hd];exact (Nat.le_div_iff_mul_le (by omega)).2 (by omega)
 have h4:d<1000000000:=by rw [hd];exact Nat.div_lt_self (by omega) (by omega)
 refine⟨?_,h1,h3,h4⟩
 by_cases hdt:d<=t
 ·have:(d+1)*(t+1)=t*d+t+d+1:=by rw [Nat.add_mul,Nat.mul_add,Nat.mul_comm d t];omega
  have h5:t+d+1<=t*d+2:=by
   obtain⟨a,rfl⟩ : ∃ a,t=a+1:=⟨t - 1,by omega⟩
   obtain⟨b,rfl⟩ : ∃ b,d=b+1:=⟨d - 1,by omega⟩
   rw [Nat.add_mul,Nat.mul_add]
   generalize a*b=ab at *
   omega
  omega
 ·have:(d+1)*(t+1)=t*d+t+d+1:=by rw [Nat.add_mul,Nat.mul_add,Nat.mul_comm d t];omega
  by_cases ht1:t=1
  ·subst ht1
   omega
  ·have h5:t+d+1<=t*d+2:=by
    obtain⟨a,rfl⟩ : ∃ a,t=a+1:=⟨t - 1,by omega⟩
    obtain⟨b,rfl⟩ : ∃ b,d=b+1:=⟨d - 1,by omega⟩
    rw [Nat.add_mul,Nat.mul_add]
    generalize a*b=ab at *
    omega
   omega
end Go.Num
namespace Go.Proofs.Si
open Go Go.V Go.Proofs Go.RowKit Go.Num Go.Proofs.Tryz
open Go.IntKind (i64 u64 u32 u8)
set_option maxRecDepth 100000
theorem zF5 (U:List Nat) (i:Nat):lv (U.take i)=sv U 0 i:=by rw [sv,List.drop_zero]
theorem zF6 {U:List Nat} {k n:Nat} (h:U.length<=k+n):lv (U.drop k)=sv U k n:=by rw [sv,List.take_of_length_le];rw [List.length_drop];omega
theorem ld_zero {U:List Nat} {i lb Y:Nat} (hlen:i+(lb+1)<=U.length) (hY:Y<1000000000 ^ lb) (hr:lv (U.drop (i+1))<Y):lv (U.drop (i+(lb+1)))=0:=by
 have h1:=zBP (U.drop (i+1)) lb (by rw [List.length_drop];omega)
 rw [List.drop_drop,show i+1+lb=i+(lb+1) by omega] at h1
 rcases Nat.eq_zero_or_pos (lv (U.drop (i+(lb+1)))) with h | h
 ·exact h
 ·have h2:1000000000 ^ lb*1<=1000000000 ^ lb*lv (U.drop (i+(lb+1))):=Nat.mul_le_mul_left _ h
  rw [Nat.mul_one] at h2
  generalize 1000000000 ^ lb=P at *
  generalize P*lv (U.drop (i+(lb+1)))=Z at *
  omega
theorem ld_S {U:List Nat} {i lb Y:Nat} (hlen:i+(lb+1)<=U.length) (hY:Y<1000000000 ^ lb) (hr:lv (U.drop (i+1))<Y):lv (U.drop i)=sv U i (lb+1):=by
 have h1:=zBP (U.drop i) (lb+1) (by rw [List.length_drop];omega)
 rw [List.drop_drop,ld_zero hlen hY hr,Nat.mul_zero,Nat.add_zero] at h1
 exact h1
theorem ld_lt {U:List Nat} {i lb Y:Nat} (oU:okL U) (hlen:i+(lb+1)<=U.length) (hY:Y<1000000000 ^ lb) (hr:lv (U.drop (i+1))<Y):sv U i (lb+1)<1000000000*Y:=by
 rw [<- ld_S hlen hY hr,zAG (by omega)]
 have:=zA5 oU i
 omega
theorem ld_step {U U1 Q:List Nat} {i lb Y X:Nat} (hseg:Seg U U1 i (lb+1)) (hlen:i+(lb+1)<=U.length) (hY:Y<1000000000 ^ lb) (hr:lv (U.drop (i+1))<Y) (hs:sv U1 i (lb+1)=sv U i (lb+1) % Y)
  (hX:lv U+Y*1000000000 ^ (i+1)*lv (Q.drop (i+1))=X) (hQ:i<Q.length) :
  lv (U1.drop i)<Y/\lv U1+Y*1000000000 ^ i*lv ((Q.set i (sv U i (lb+1) / Y)).drop i)=X:=by
 have g:0<Y:=Nat.lt_of_le_of_lt (Nat.zero_le _) hr
 have k:lv (U1.drop (i+(lb+1)))=0:=by
  rw [<- ld_zero hlen hY hr,zF6 (n:=U.length) (by rw [hseg.len];omega),zF6 (n:=U.length) (by omega)]
  exact zD0 fun j hj=>hseg.out _ (.inr (by omega))
 have h1:=zBP (U1.drop i) (lb+1) (by rw [List.length_drop,hseg.len];omega)
 rw [List.drop_drop,k,Nat.mul_zero,Nat.add_zero] at h1
 have b:lv (U1.drop i)=sv U i (lb+1) % Y:=h1.trans hs
 refine⟨by rw [b];exact Nat.mod_lt _ g,?_⟩
 have ht:lv (U1.take i)=lv (U.take i):=by
  rw [zF5,zF5]
  exact zD0 fun j hj=>hseg.out _ (.inl (by omega))
 have d:=zBP U1 i (by rw [hseg.len];omega)
 have hU:=zBP U i (by omega)
 rw [b,ht] at d
 rw [ld_S hlen hY hr] at hU
 have f:lv ((Q.set i (sv U i (lb+1) / Y)).drop i)=sv U i (lb+1) / Y+1000000000*lv (Q.drop (i+1)):=by
  rw [zAG (by rw [List.length_set];exact hQ),zCq _ _ hQ,if_pos rfl,List.drop_set_of_lt (by omega)]
 have h:=Nat.div_add_mod (sv U i (lb+1)) Y
 rw [f,d,<- hX,hU]
 generalize hS:sv U i (lb+1)=S at *
 have e1:Y*1000000000 ^ i*(S / Y+1000000000*lv (Q.drop (i+1)))=1000000000 ^ i*(Y*(S / Y))+Y*1000000000 ^ (i+1)*lv (Q.drop (i+1)):=by
  rw [Nat.mul_add,Nat.pow_succ]
  ac_rfl
 rw [e1]
 have e2:1000000000 ^ i*S=1000000000 ^ i*(S % Y)+1000000000 ^ i*(Y*(S / Y)):=by rw [<- Nat.mul_add,Nat.add_comm (S % Y),h]
 rw [e2]
 ac_rfl
theorem zCD {w:World} {B n c:Nat} {a:OA} {L:List Nat} (h:w.ownsRow B 209 1 (.slice a L.length c) L.length (L.map u32v)) (hn:0<L.length) : ∃ g,a=some ⟨g,0,none⟩/\(Value.slice a L.length c).ownBlock=some g/\B<=g/\LimbsT w g L:=by
 rcases h.2 with ⟨_,h0⟩ | ⟨g,cap,cur,hv,hb,hg,hnc,hcm,hcs,ht⟩
 ·omega
 ·simp only [Value.slice.injEq,true_and] at hv
  obtain⟨rfl,rfl⟩:=hv
  refine⟨g,rfl,rfl,hb,cur.toList.drop L.length,?_⟩
  rw [Nat.mul_one] at ht
  rw [<- ht,List.take_append_drop,Array.toArray_toList]
  exact hg
theorem own_natK {w:World} {B n c ub:Nat} {a:OA} {L:List Nat} (h:w.ownsRow B 209 1 (.slice a L.length c) L.length (L.map u32v)) (hne:(Value.slice a L.length c).ownBlock≠some ub):NatK w ub a L:=by
 intro w' ho
 have:w'.ownsRow B 209 1 (.slice a L.length c) L.length (L.map u32v):=by
  refine⟨h.1,?_⟩
  rcases h.2 with h2 | ⟨g,cap,cur,hv,hb,hg,r⟩
  ·exact .inl h2
  ·refine .inr ⟨g,cap,cur,hv,hb,ho.keep g _ (fun e=>hne ?_) hg,r⟩
   rw [hv,<- e];rfl
 exact zAJ this
def muS (N:Nat):List Value->World->Nat
 | .slice _ n _::_,_=>N - n
 | _,_=>0
set_option maxHeartbeats 4000000 in
theorem c219 {a b:OA} {ca cb:Nat} {A B:List Nat} (w:World) (ha:NatS w a A) (hb:NatS w b B) (oa:okL A) (ob:okL B) (na:normL A) (nb:normL B) (hca:A.length<=ca) (hB0:0<lv B) (hl:A.length<=1099511627775/\B.length<=1099511627775) :
  Ret prog 219 #[.slice a A.length ca,.slice b B.length cb] w fun v w'=>(∃ q r,v = .tuple #[q,r]/\NatV w' q (lv A / lv B)/\NatV w' r (lv A % lv B))/\Ext w w':=by
 have g5:0<B.length:=by
  rcases Nat.eq_zero_or_pos B.length with h | h
  ·rw [List.eq_nil_of_length_eq_zero h] at hB0;exact absurd hB0 (by decide)
  ·exact h
 refine run219 _ _ _ _ _ _ _ _ (yC (c223 w ha hb oa ob na nb ⟨by omega,by omega⟩) ?_)
 rintro v w1 ⟨⟨z,rfl,hz⟩,a3⟩
 refine⟨z,rfl,zAe (fun j2=>?_) (fun j7=>?_)⟩
 ·have g1:=hz.1 j2
  refine⟨⟨_,_,rfl,⟨none,0,[],rfl,yL,.inl rfl,zBH,by simp [normL],?_⟩,⟨a,ca,A,rfl,hca,ha.ext a3,oa,na,(Nat.mod_eq_of_lt g1).symm⟩⟩,a3⟩
  rw [Nat.div_eq_of_lt g1];rfl
 have m4:lv B<=lv A:=by
  have : ¬ lv A<lv B:=fun h=>j7 (hz.2 h)
  omega
 have p0:=zCs oa nb m4
 have i2:=ha.ext a3
 have b3:=hb.ext a3
 refine zAb (fun h1=>?_) (fun h1=>?_)
 ·have f9:B.length=1:=by have:=of_decide_eq_true (p:=(B.length:Int)=1) (by simpa using h1);omega
  obtain⟨bd,b4,f⟩:=b3.get (i:=0) (by omega)
  have i5:bd.add (0*1)=bd:=by
   rw [Nat.mul_one]
   rcases b3 with h0 | ⟨ad',h1,h2,_⟩
   ·rw [List.map_eq_nil_iff] at h0;rw [h0] at f9;cases f9
   ·rw [b4] at h1;cases h1
    cases bd with
    | mk b o s=>cases h2;rw [zAi];rfl
  rw [i5] at f
  have l2:lv B=B.getD 0 0:=by
   match B,f9 with
   | [x],_=>exact lv_one x
  have hx:=zA5 ob 0
  refine⟨bd,b4,⟨by omega,by omega⟩,_,f,yC (c250 w1 i2 oa (b:=B.getD 0 0) (by omega) hx (by omega)) ?_⟩
  rintro v w2 ⟨⟨q,r,rfl,hq,hr⟩,m1⟩
  rw [<- l2] at hq hr
  have m7:=hq
  have m9:=hr
  obtain⟨qa,qc,Q,rfl,_⟩:=hq
  obtain⟨ra,rc,R,rfl,_⟩:=hr
  exact⟨_,_,_,_,_,_,rfl,⟨_,_,rfl,m7,m9⟩,a3.trans m1⟩
 ·have p2:2<=B.length:=by
   rcases Nat.lt_or_ge B.length 2 with h | h
   ·have:B.length=1:=by omega
    rw [this] at h1;exact absurd h1 (by decide)
   ·exact h
  obtain⟨bd,b4,f⟩:=b3.get (i:=B.length - 1) (by omega)
  obtain⟨t,ht⟩ : ∃ t,t=B.getD (B.length - 1) 0:=⟨_,rfl⟩
  have n1:=zEW nb g5
  have k2:=zA5 ob (B.length - 1)
  rw [<- ht] at n1 k2 f
  obtain⟨d,hd⟩ : ∃ d,d=1000000000 / (t+1):=⟨_,rfl⟩
  obtain⟨m0,i7,i8,i9⟩:=scale_top (by omega) k2 hd
  have ew:i64.wrap ((B.length:Int) - 1)=((B.length - 1:Nat):Int):=wrap_pred (by omega) g5
  have et:u64.wrap (u64.wrap (t:Int)+1)=((t+1:Nat):Int):=by rw [w64u (n:=t) (by omega),w64ui (by omega) (by omega)];omega
  have etz:decide (((t+1:Nat):Int)=0)=false:=decide_eq_false (by omega)
  have ed:u32.wrap (u64.wrap (Int.tdiv 1000000000 ((t+1:Nat):Int)))=(d:Int):=by
   rw [show Int.tdiv 1000000000 ((t+1:Nat):Int)=((1000000000 / (t+1):Nat):Int) from rfl,<- hd,w64u (by omega),w32 (by omega)]
  rw [ew]
  refine⟨bd,b4,⟨by omega,by omega⟩,(t:Int),f,?_⟩
  rw [et,etz,cond_false,ed]
  have g6:LimbsIn (w1.alloc (.cells #[.int .u32 (d:Int)] 209)) w1.heap.size [d]:=heap_alloc_new w1 _
  have e7:=(yE w1).alloc (.cells #[.int .u32 (d:Int)] 209)
  have od:okL [d]:=by rw [zBN];exact⟨i9,zBH⟩
  have g7 : ∀ w',Ext (w1.alloc (.cells #[.int .u32 (d:Int)] 209)) w'->NatS w' (some ⟨w1.heap.size,0,none⟩) [d]:=fun w' h'=>(zAJ ((g6.ext h').own (B:=0) (Nat.zero_le _) (by unfold maxLen;simp)))
  have a4:=c220 (ca:=ca) (cb:=1) (w1.alloc (.cells #[.int .u32 (d:Int)] 209)) (i2.ext e7) (g7 _ (yE _)) oa od ⟨by omega,by simp⟩
  simp only [List.length_singleton] at a4
  refine yC a4 ?_
  rintro v w3 ⟨hu,⟨up,un,uc,rfl,n4⟩,e3⟩
  obtain⟨ua,uc',U0,u,j4,n7,p6,d0⟩:=hu
  simp only [Value.slice.injEq] at u
  obtain⟨rfl,rfl,rfl⟩:=u
  have a5:=c220 (ca:=cb) (cb:=1) w3 ((b3.ext e7).ext e3) (g7 _ e3) ob od ⟨by omega,by simp⟩
  simp only [List.length_singleton] at a5
  refine⟨_,_,_,rfl,yC a5 ?_⟩
  rintro v w4 ⟨hv,⟨vp,vn,vc,rfl,p3⟩,j0⟩
  obtain⟨va,vc',V,u,j5,oV,nV,b0⟩:=hv
  simp only [Value.slice.injEq] at u
  obtain⟨rfl,rfl,rfl⟩:=u
  refine⟨_,_,_,rfl,?_⟩
  rw [lv_one] at d0 b0
  have a7:lv B=t*1000000000 ^ (B.length - 1)+lv (B.take (B.length - 1)):=by
   have:lv B=lv (B.take (B.length - 1+1)):=by rw [List.take_of_length_le (by omega)]
   rw [this,zCG (by omega),<- ht,Nat.mul_comm t];omega
  have d4:lv (B.take (B.length - 1))<1000000000 ^ (B.length - 1):=by
   have:=lv_lt (zBB ob (B.length - 1))
   rwa [List.length_take,Nat.min_eq_left (by omega)] at this
  obtain⟨P,hP⟩ : ∃ P,P=1000000000 ^ (B.length - 1):=⟨_,rfl⟩
  have l5:0<P:=by rw [hP];exact Nat.pow_pos (by omega)
  rw [<- hP] at a7 d4
  have n9:lv V<=1000000000*P:=by
   have h1:lv B<=(t+1)*P:=by rw [a7,Nat.succ_mul];exact Nat.add_le_add_left (Nat.le_of_lt d4) _
   rw [b0]
   refine Nat.le_trans (Nat.mul_le_mul_right _ h1) ?_
   rw [Nat.mul_right_comm]
   refine Nat.mul_le_mul_right _ ?_
   rw [Nat.mul_comm];exact i7
  have d7:500000000*P<=lv V:=by
   rw [b0,a7,Nat.add_mul]
   refine Nat.le_trans (Nat.mul_le_mul_right _ m0) ?_
   rw [Nat.mul_right_comm]
   exact Nat.le_add_right _ _
  have b8:lv V<1000000000*P:=by
   have h1:lv B<(t+1)*P:=by rw [a7,Nat.succ_mul];exact Nat.add_lt_add_left d4 _
   rw [b0]
   refine Nat.lt_of_lt_of_le (Nat.mul_lt_mul_of_pos_right h1 (by omega)) ?_
   rw [Nat.mul_right_comm]
   refine Nat.mul_le_mul_right _ ?_
   rw [Nat.mul_comm];exact i7
  have l4:1000000000 ^ B.length=1000000000*P:=by
   rw [hP,Nat.mul_comm,<- Nat.pow_succ];congr 1;omega
  have a9:V.length=B.length:=by
   apply Nat.le_antisymm
   ·have h0:0<V.length:=by
     rcases Nat.eq_zero_or_pos V.length with h | h
     ·rw [List.eq_nil_of_length_eq_zero h,zCH] at d7;omega
     ·exact h
    have h1:=zDV nV h0
    rw [<- l4] at b8
    have:=(Nat.pow_lt_pow_iff_right (by omega:1<1000000000)).1 (Nat.lt_of_le_of_lt h1 b8)
    omega
   ·have h1:=lv_lt oV
    have h2:1000000000 ^ (B.length - 1)<1000000000 ^ V.length:=by rw [<- hP];omega
    have:=(Nat.pow_lt_pow_iff_right (by omega:1<1000000000)).1 h2
    omega
  have d9:500000000<=V.getD (V.length - 1) 0:=by
   have h1:lv V=lv (V.take (V.length - 1+1)):=by rw [List.take_of_length_le (by omega)]
   rw [zCG (by omega),a9,<- hP] at h1
   have h2:=lv_lt (zBB oV (B.length - 1))
   rw [List.length_take,Nat.min_eq_left (by omega),<- hP] at h2
   rw [a9]
   rcases Nat.lt_or_ge (V.getD (B.length - 1) 0) 500000000 with h | h
   ·have h3:P*V.getD (B.length - 1) 0<=P*499999999:=Nat.mul_le_mul_left _ (by omega)
    omega
   ·exact h
  have a8:lv V<1000000000 ^ V.length:=lv_lt oV
  have l8:lv U0=lv A*d:=d0
  have d6:lv V=lv B*d:=b0
  have n2:=own_lt j4
  have j1:(Value.slice vp V.length vc).ownBlock≠(Value.slice up U0.length uc).ownBlock:=by
   obtain⟨vg,_,b5,o5,_⟩:=zCD (n:=0) j5 (by omega)
   rw [b5]
   intro e
   have:=(n2 vg e.symm).2
   omega
  refine⟨fun vals w5=>∃ (p:OA) (c:Nat) (L:List Nat),vals=[.slice p L.length c]/\okL L/\lv L=lv A*d/\L.length<=A.length+1/\w5.ownsRow (w1.heap.size+1) 209 1 (.slice p L.length c) L.length (L.map u32v) /\
    w5.ownsRow w3.heap.size 209 1 (.slice vp V.length vc) V.length (V.map u32v)/\(Value.slice vp V.length vc).ownBlock≠(Value.slice p L.length c).ownBlock/\Ext (w1.alloc (.cells #[.int .u32 (d:Int)] 209)) w5,muS (A.length+1),⟨up,uc,U0,rfl,n7,l8,n4,?_,j5,j1,e3.trans j0⟩,?_⟩
  ·have:=zAm j4 j0
   rw [size_alloc] at this
   exact this
  rintro p4 k8 k9 w5 ⟨p,c,L,u,oL,g0,o6,b1,g,a2,e4⟩
  cases u
  have d2:w1.heap.size+1<=w5.heap.size:=by have:=e4.size;rw [size_alloc] at this;exact this
  refine zAe (fun k7=>?_) (fun m5=>?_)
  ·refine⟨_,_,_,AppOk.one (L:=[u32v 0]) b1 rfl rfl (by unfold maxLen;omega) (by omega) d2,?_⟩
   intro p5 n6 w6 r
   have hx:=(yE w5).alloc (.cells #[u32v 0] 209)
   have l9:Ext (w1.alloc (.cells #[.int .u32 (d:Int)] 209)) w6:=r.below (zAm b1 hx) (e4.trans hx) (by rw [size_alloc,size_alloc];omega) (by rw [size_alloc];exact yL)
   have e6:(L++[0]).length=L.length+1:=by simp
   refine⟨⟨p5,n6,L++[0],by rw [e6],?_,?_,by omega,?_,?_,?_,l9⟩,by show A.length+1 - (L.length+1)<A.length+1 - L.length;omega⟩
   ·rw [zEV];exact⟨oL,by rw [zBN];exact⟨by omega,zBH⟩⟩
   ·rw [zDp,Nat.mul_zero,Nat.add_zero,g0]
   ·rw [e6,List.map_append];exact r.own
   ·exact zER r.grown (zAm g hx) fun k hk e=>a2 (hk.trans e.symm)
   ·rw [e6]
    rcases r.blk with h | h
    ·rw [h];exact a2
    ·intro e
     obtain⟨vg,_,b5,_,_⟩:=zCD (n:=0) g (by omega)
     have h3:=(own_lt g vg b5).2
     have h4:=h vg (by rw [<- e,b5])
     rw [size_alloc] at h4
     omega
  ·have o7:L.length=A.length+1:=by omega
   obtain⟨ub,rfl,d3,k4,l7⟩:=zCD (n:=0) b1 (by omega)
   have o0:=zES b1
   obtain⟨vb,rfl,a1,o4,o9⟩:=zCD (n:=0) g (by omega)
   have k5:vb≠ub:=by intro e;rw [d3,a1,e] at a2;exact a2 rfl
   obtain⟨N,hN⟩ : ∃ N,N=A.length+1 - B.length:=⟨_,rfl⟩
   have l1:i64.wrap ((L.length:Int) - (V.length:Int))=(N:Int):=by rw [zAd (by omega) (by omega)];omega
   have o8:1<=N:=by omega
   have g4:i64.wrap ((N:Int) - 1)=(N:Int) - 1:=by rw [zAd (by omega) (by omega)]
   simp only [l1,yT,zEL,zDW,g4]
   have o2:ub<w5.heap.size:=(own_lt b1 ub d3).2
   have o3:vb<w5.heap.size:=(own_lt g vb a1).2
   have e8:=(yE w5).alloc (.cells ((List.replicate N 0).map u32v).toArray 209)
   have l6:LimbsIn (w5.alloc (.cells ((List.replicate N 0).map u32v).toArray 209)) w5.heap.size (List.replicate N 0):=heap_alloc_new w5 _
   have h8:LimbsT (w5.alloc (.cells ((List.replicate N 0).map u32v).toArray 209)) ub L:=by
    obtain⟨tl,h⟩:=l7
    exact⟨tl,e8.blk h⟩
   have o1:L.length - V.length=N:=by omega
   refine⟨⟨by omega,by omega,by omega,by omega⟩,fun vals w7=>∃ (j:Nat) (U Q:List Nat),vals=[.int .i64 ((j:Int) - 1)]/\j<=N/\U.length=L.length/\okL U/\Q.length=N/\okL Q/\lv (U.drop j)<lv V /\
     lv U+lv V*1000000000 ^ j*lv (Q.drop j)=lv A*d/\LimbsT w7 ub U/\LimbsIn w7 w5.heap.size Q/\w7.ownsRow w3.heap.size 209 1 (.slice (some ⟨vb,0,none⟩) V.length vc) V.length (V.map u32v) /\
     Ext (w1.alloc (.cells #[.int .u32 (d:Int)] 209)) w7,muD,
    ⟨N,L,_,rfl,yL,rfl,oL,List.length_replicate,zGb _,?_,?_,h8,l6,zAm g e8,e4.trans e8⟩,?_⟩
   ·have h1:=zBP L N (by omega)
    have h2:1000000000 ^ N*lv (L.drop N)<=lv A*d:=by rw [<- g0];omega
    have h3:lv A*d<1000000000 ^ N*lv V:=by
     have h4:=lv_lt oa
     have h5:1000000000 ^ A.length=1000000000 ^ N*P:=by rw [hP,<- Nat.pow_add];congr 1;omega
     rw [h5] at h4
     have h6:1000000000 ^ N*P*d<=1000000000 ^ N*lv V:=by
      rw [Nat.mul_assoc]
      refine Nat.mul_le_mul_left _ ?_
      rw [d6]
      refine Nat.mul_le_mul_right _ ?_
      rw [a7]
      refine Nat.le_trans ?_ (Nat.le_add_right _ _)
      exact Nat.le_mul_of_pos_left _ (by omega)
     exact Nat.lt_of_lt_of_le (Nat.mul_lt_mul_of_pos_right h4 (by omega)) h6
    exact Nat.lt_of_mul_lt_mul_left (Nat.lt_of_le_of_lt h2 h3)
   ·rw [List.drop_of_length_le (by simp),zCH,Nat.mul_zero,Nat.add_zero,g0]
   rintro n3 w7 ⟨j,U,Q,u,hj,i0,oU,h7,oQ,l,a0,b6,g9,b2,e5⟩
   cases u
   refine zAe (fun p1=>?_) (fun g1=>?_)
   ·obtain⟨i,rfl⟩ : ∃ i,j=i+1:=⟨j - 1,by omega⟩
    have e0:((i+1:Nat):Int) - 1=(i:Int):=by omega
    have e1:i64.wrap (i64.wrap ((i:Int)+(V.length:Int))+1)=((i+V.length+1:Nat):Int):=by
     rw [zAd (n:=(i:Int)+(V.length:Int)) (by omega) (by omega),zAd (by omega) (by omega)];omega
    have e2:subA (some ⟨ub,0,none⟩) i k9 1=some ⟨ub,i,none⟩:=by
     unfold subA
     rw [if_neg (by omega),Option.map_some,zAi,Nat.mul_one,Nat.zero_add]
    simp only [e0,e1,yT,e2]
    refine⟨⟨by omega,by omega,by omega⟩,?_⟩
    rw [show i+V.length+1 - i=V.length+1 by omega]
    have m6:=own_natK (n:=0) (ub:=ub) b2 (by rw [a1];intro e;cases e;exact k5 rfl)
    have m:i+(V.length+1)<=U.length:=by omega
    refine yC (c251 w7 b6 oU m rfl m6 oV (by omega) (by omega) d9 (ld_lt oU m a8 l)) ?_
    rintro v w8 ⟨⟨rfl,U1,d1,n8,hs,h9⟩,g2⟩
    refine⟨_,rfl,_,rfl,⟨by omega,by omega⟩,?_⟩
    obtain⟨g3,n5⟩:=ld_step d1 m a8 l hs a0 (by omega)
    have k0:w5.heap.size≠ub:=by omega
    have d5:LimbsIn w8 w5.heap.size Q:=g2.keep _ _ k0 g9
    have k1:sv U i (V.length+1) / lv V<1000000000:=(Nat.div_lt_iff_lt_mul (by omega)).2 (ld_lt oU m a8 l)
    have j6:w8.ownsRow w3.heap.size 209 1 (.slice (some ⟨vb,0,none⟩) V.length vc) V.length (V.map u32v):=zAZ b2 fun k hk=>by
     rw [a1] at hk;cases hk
     obtain⟨vg,h1,_,_,tl,h2⟩:=zCD (n:=0) b2 (by omega)
     cases h1
     rw [h2];exact g2.keep _ _ k5 h2
    have m2:Ext (w1.alloc (.cells #[.int .u32 (d:Int)] 209)) w8:=Below.trans e5 (Below.mono g2.below (by rw [size_alloc];exact k4))
    rw [Nat.mul_one,zAi,Nat.zero_add,zAd (by omega) (by omega)]
    refine⟨⟨⟨_,d5.cell (by omega)⟩,zBc d5⟩,⟨i,U1,Q.set i (sv U i (V.length+1) / lv V),rfl,by omega,by rw [d1.len,i0],n8,by rw [List.length_set,h7],zDU oQ _ k1,g3,n5,?_,d5.set _ _,?_,?_⟩,?_⟩
    ·obtain⟨tl,h⟩:=h9
     exact⟨tl,(zA4 (a:=⟨w5.heap.size,i,none⟩) (fun e=>k0 e.symm)).trans h⟩
    ·exact zAK j6 (by rw [a1];intro e;exact absurd (Option.some.inj e) (by show vb≠w5.heap.size;omega)) _
    ·exact Below.setCell (p:=⟨w5.heap.size,i,none⟩) m2 (by rw [size_alloc];exact d2) _
    ·simp only [muD];omega
   ·have m3:j=0:=by omega
    subst m3
    rw [List.drop_zero] at l a0
    rw [Nat.pow_zero,Nat.mul_one] at a0
    have i6:0<d:=i8
    have d8:0<lv V:=by omega
    have m8:lv Q=lv A / lv B:=by
     have h1:(lv A*d) / lv V=lv Q:=by rw [<- a0,Nat.add_comm,Nat.mul_add_div d8,Nat.div_eq_of_lt l,Nat.add_zero]
     rw [<- h1,d6,Nat.mul_div_mul_right _ _ i6]
    have n0:lv U=lv A % lv B*d:=by
     have h1:(lv A*d) % lv V=lv U:=by rw [<- a0,Nat.add_comm,Nat.mul_add_mod,Nat.mod_eq_of_lt l]
     rw [<- h1,d6,Nat.mul_mod_mul_right]
    intro K hK
    have l3:LimbsIn w7.drew w1.heap.size [d]:=(g6.ext e5).ext ((yE w7).drew)
    have b7:LimbsT w7.drew ub U:=b6
    refine⟨_,rfl,⟨by omega,by omega⟩,(d:Int),l3.cell (i:=0) (by simp),?_⟩
    have e9:(Value.slice (some ⟨ub,0,none⟩) L.length k9) = .slice (some ⟨ub,0,none⟩) U.length k9:=by rw [i0]
    rw [e9]
    refine yC (c218 (by omega) (by omega) w7.drew b7.nat) ?_
    rintro v w9 ⟨rfl,rfl⟩
    refine⟨_,_,_,rfl,Below.refl _ _,?_⟩
    have k3:(U.take (trimN U U.length)).length=trimN U U.length:=by rw [List.length_take,Nat.min_eq_left (zDz _ _)]
    have i1:NatS w7.drew (some ⟨ub,0,none⟩) (U.take (trimN U U.length)):=by
     refine .inr ⟨_,rfl,rfl,fun k v hk=>?_⟩
     rw [List.map_take] at hk
     have f7:(U.map u32v)[k]? = some v:=by
      rw [List.getElem?_take] at hk
      split at hk
      ·exact hk
      ·cases hk
     have f8:k<U.length:=by have:=(List.getElem?_eq_some_iff.1 f7).1;simpa using this
     rw [zAi,Nat.zero_add,b7.cell f8]
     rw [List.getElem?_map,List.getElem?_eq_getElem f8] at f7
     rw [zCN f8];exact f7
    have a6:=c250 (ca:=k9) w7.drew i1 (zBB oU _) i8 i9 (by rw [k3];have:=zDz U U.length;omega)
    rw [k3,zFR,List.take_length,n0,Nat.mul_div_cancel _ i6] at a6
    refine yC a6 ?_
    rintro v k6 ⟨⟨q1,r1,rfl,j8,g3⟩,b9⟩
    have j9:=j8
    obtain⟨qa,qc,Q1,rfl,_⟩:=j8
    obtain⟨ra,rc,R1,rfl,_⟩:=g3
    refine⟨_,_,_,_,_,_,rfl,hK _ _ _ _ ?_⟩
    have g8:LimbsIn k6 w5.heap.size Q:=(LimbsIn.ext (w:=w7.drew) g9 b9)
    have j3:=g8.own (B:=0) (Nat.zero_le _) (by unfold maxLen;omega)
    have l0:(Value.slice (some ⟨w5.heap.size,0,none⟩) N N) = .slice (some ⟨w5.heap.size,0,none⟩) Q.length Q.length:=by rw [h7]
    rw [l0]
    refine yC (c218 yL (by omega) k6 (zAJ j3)) ?_
    rintro v p7 ⟨rfl,rfl⟩
    refine⟨_,_,_,rfl,⟨_,_,rfl,?_,j9⟩,?_⟩
    ·rw [<- m8];exact (zCr j3 oQ).natV
    ·exact (a3.trans e7).trans ((e5.drew).trans b9)
end Go.Proofs.Si
namespace Go.Proofs
open Go Go.Proofs.Tryz
open Go.IntKind (i64 u64 u32 u8)
def Tryz.lays166h_ren:Go.Shelf.Ren:=⟨fun | 166=>236 | 240=>258 | 276=>266 | n=>n,fun | 0=>0 | 3=>3 | 4=>4 | 5=>5 | 9=>9 | 20=>20 | 37=>133 | 70=>255 | 72=>257 | 75=>172 | 80=>106 | 164=>289 | n=>n,fun | n=>n⟩
theorem Tryz.lays166h:Go.Proofs.Lays.n166 prog Tryz.lays166h_ren:={
 mixed:=by kernel_rfl
 f166:=func236.trans (congrArg some (by kernel_rfl))
 f240:=func258.trans (congrArg some (by kernel_rfl))
 f276:=func266.trans (congrArg some (by kernel_rfl))
 t0:=underlying0
 a0:=isAgg0
 z0:=sizeOf0
 v0:=zeroValue0
 t3:=underlying3
 a3:=isAgg3
 z3:=sizeOf3
 v3:=zeroValue3
 t4:=underlying4
 a4:=isAgg4
 z4:=sizeOf4
 v4:=zeroValue4
 t9:=underlying9
 a9:=isAgg9
 z9:=sizeOf9
 v9:=zeroValue9
 t20:=underlying20
 a20:=isAgg20
 z20:=sizeOf20
 v20:=zeroValue20
 t37:=underlying133
 a37:=isAgg133
 z37:=sizeOf133
 v37:=zeroValue133
 t70:=underlying255
 a70:=isAgg255
 z70:=sizeOf255
 v70:=zeroValue255
 t72:=underlying257
 a72:=isAgg257
 z72:=sizeOf257
 v72:=zeroValue257
 t75:=underlying172
 a75:=isAgg172
 z75:=sizeOf172
 v75:=zeroValue172
 t164:=underlying289
 a164:=isAgg289
 z164:=sizeOf289
 v164:=zeroValue289 }
theorem Tryz.Builder_Extra_166h:Builder.Extra prog Tryz.lays166h_ren:={
 sizeBuilder:=by kernel_rfl
 liesBuilder:=by kernel_rfl
 t5:=underlying5
 a5:=isAgg5
 z5:=sizeOf5
 v5:=zeroValue5
 infoByte:=by kernel_rfl
 cellsByte:=by kernel_rfl
 sizeByte:=by kernel_rfl
 neB5:=by decide }
end Go.Proofs
namespace Go.Proofs.Si
open Go Go.V Go.Proofs Go.RowKit Go.Num Go.Lib Go.Sort Go.Proofs.Tryz
open Go.IntKind (i64 u64 u32 u8)
set_option maxRecDepth 100000
def vc237 (i:Int) (base:Int) (w:World) (R:Value->World->Prop):Prop :=
Called prog 259 #[Value.int u64 i,Value.int i64 base] w fun (v:Value) (w1:World) =>
 ∃ (s:BA),v=Value.string s/\R (Value.string s) w1
theorem run237 (i:Int) (base:Int) (w:World) (R:Value->World->Prop) (h:vc237 i base w R):Ret prog 237 #[.int .u64 i,.int .i64 base] w R :=
 zAa siE_ok (args:=[.int .u64 i,.int .i64 base]) func237 (Eq.mp (by kernel_rfl:vc237 i base w R=vfn siE f237 [.int .u64 i,.int .i64 base] w R) h)
theorem zCz (n:Nat):Lib.decDigits n=dec n:=by
 induction n using Nat.strongRecOn with
 | ind n ih =>
  by_cases h:n<10
  ·rw [Lib.decDigits,dif_pos h,zAv h];rfl
  ·rw [Lib.decDigits,dif_neg h,zBC h,ih _ (by omega)];rfl
abbrev P10 (w : World) : Prop := Lib.TabIs prog w "internal/strconv.uint64pow10" .u64 Lib.pow10Tab
theorem var_ext {w w' : World} (he:Ext w w') {P:Program} {name:String} {c:Array Value} (h:w.var? P name=some c):w'.var? P name=some c:=by
 unfold World.var? at h ⊢
 cases hg:P.globalNamed name with
 | none=>rw [hg] at h;cases h
 | some g =>
  rw [hg] at h
  simp only [Option.bind_some] at h ⊢
  cases ho:w.heap[g]? with
  | none=>rw [ho] at h;cases h
  | some o=>rw [ho] at h;rw [he.blk ho];exact h
theorem P10.ext {w w' : World} (h:P10 w) (he:Ext w w'):P10 w':=var_ext he h
theorem size_grow (w:World) (os:Array Obj):(grow w os).heap.size=w.heap.size+os.size:=by simp [grow]
theorem grow_ext (w:World) (k:Nat) (os:Array Obj):Ext w (grow (w.drewN k) os) :=
 ⟨rfl,rfl,rfl,by rw [size_grow];exact Nat.le_add_right _ _,fun i hi=>by
  show (w.heap++os)[i]? = _
  exact Array.getElem?_append_left hi⟩
set_option maxHeartbeats 6400000 in
theorem c259 (u:Nat) (hu64:u<18446744073709551616) (w:World) (htab:P10 w) :
  Calls prog 259 #[.int .u64 u,.int .i64 10] w fun e w'=>e = .returned (.string ⟨(Lib.decDigits u).toArray⟩)/\∃ k os,w' = grow (w.drewN k) os:=by
 have mixed:prog.follows .mixedOrders=true:=by kernel_rfl
 have t3:=underlying3;have a3:=isAgg3;have z3:=sizeOf3;have v3:=zeroValue3
 have t4:=underlying4;have a4:=isAgg4;have z4:=sizeOf4;have v4:=zeroValue4
 have t5:=underlying5;have a5:=isAgg5;have z5:=sizeOf5;have v5:=zeroValue5
 have t9:=underlying9;have a9:=isAgg9;have z9:=sizeOf9;have v9:=zeroValue9
 have x:=underlying201;have p:=isAgg201;have a7:=sizeOf201;have a1:=zeroValue201
 have m:=underlying218;have s:=isAgg218;have a8:=sizeOf218;have a2:=zeroValue218
 have l:=underlying133;have o:=isAgg133;have a6:=sizeOf133;have a0:=zeroValue133
 by_cases hs:u<100
 ·have e1:i64.wrap (u:Int)=(u:Int):=zAd (by omega) (by omega)
  go_enter func259,ntmps259
  go_wp2_with (go_at_call 202;refine (Tryz.internal_strconv_small u hs _).mono ?_;rintro e w' ⟨rfl,rfl⟩)
  go_ret
  exact⟨rfl,0,#[],by simp [World.drewN_zero]⟩
 ·have i:1<=u:=by omega
  have n:Lib.nDigits u<=20:=by have:=Lib.numDigits_eq u i hu64;split at this <;> omega
  have g:prog.arrayLen 218=24:=by kernel_rfl
  have v : ∀ W,(Instr.sliceAt 218 (.pointer (some ⟨w.heap.size,0,none⟩)) none (some (.int .i64 (Lib.nDigits u:Int))) none).run prog W = .ok (.slice (some ⟨w.heap.size,0,none⟩) (Lib.nDigits u) 24) W:=fun W=>by
   rw [run_sliceAt_array_h W 218 ⟨w.heap.size,0,none⟩ (by simp [Program.arrayLen,Program.elem,m]) .i64 (Lib.nDigits u:Int) (by omega) (by rw [g];omega)]
   go_simp
  have f:Holds (fun (b:UInt8)=>Value.int .u8 (b.toNat:Int)) (w.alloc (.cells Lib.zeros24 218)) w.heap.size 0 (Array.replicate (Lib.nDigits u) (0:UInt8)):=fun j hj=>by
   have b1:j<Lib.nDigits u:=by simpa using hj
   refine⟨?_,World.frozen?_alloc_new _ _ _ _⟩
   rw [World.cell?_alloc_new,Lib.zeros24_at _ (by omega),getElem!_pos _ j hj]
   simp
  have d:=Tryz.internal_strconv_formatBase10 w.heap.size 0 24 u (Array.replicate (Lib.nDigits u) 0) (w.alloc (.cells Lib.zeros24 218)) f (by rw [Array.size_replicate];exact Lib.lt_pow_nDigits u) hu64 (by rw [Array.size_replicate];omega)
  rw [Array.size_replicate] at d
  have HH0:=Lib.hid f
  clear f g
  go_enter func259,ntmps259
  go_wp2_with (first
   | (go_at_call 203;refine (Tryz.internal_strconv_numDigits u i hu64 _ (Lib.tabIs_alloc htab _)).mono ?_;rintro e w' ⟨rfl,rfl⟩))
  go_at_call 204
  refine d.mono ?_
  rintro e w' ⟨rfl,k,v',dk,rfl,hF⟩
  have b0:(convert 133 9 (.slice (some ⟨w.heap.size,0,none⟩) (Lib.nDigits u) 24)).run prog ((putRow (fun (b:UInt8)=>Value.int .u8 (b.toNat:Int)) (w.alloc (.cells Lib.zeros24 218)) w.heap.size 0 dk).drewN k) = .ok (.string ⟨(Lib.decDigits u).toArray⟩) ((putRow (fun (b:UInt8)=>Value.int .u8 (b.toNat:Int)) (w.alloc (.cells Lib.zeros24 218)) w.heap.size 0 dk).drewN k):=by
   have h:=run_convert_bytes_back (P:=prog) ((putRow (fun (b:UInt8)=>Value.int .u8 (b.toNat:Int)) (w.alloc (.cells Lib.zeros24 218)) w.heap.size 0 dk).drewN k) 133 9 5 ⟨w.heap.size,0,none⟩ 24 (Lib.decDigits u) l t5 t9 (fun j hj=>by
    rw [Lib.row_is_numeral hF j hj,Lib.add_plain,World.cell?_drewN]
    exact cell?_putRow (fun (b:UInt8)=>Value.int .u8 (b.toNat:Int)) _ w.heap.size 0 _ dk HH0.out (by rw [hF.size,Array.size_replicate]) j (by rw [hF.size];rw [Lib.decDigits_length] at hj;exact hj))
   rw [Lib.decDigits_length] at h
   exact h
  go_wp2
  go_ret
  rw [alloc_eq_grow]
  obtain⟨os',_,e⟩:=putRow_grow_new (fun (b:UInt8)=>Value.int .u8 (b.toNat:Int)) w #[.cells Lib.zeros24 218] w.heap.size 0 dk yL
  refine⟨rfl,k,os',by rw [e];rfl⟩
theorem c237 (u:Nat) (hu64:u<18446744073709551616) (w:World) (htab:P10 w) :
  Ret prog 237 #[.int .u64 u,.int .i64 10] w fun v w'=>(∃ s,v = .string s/\bs s=dec u)/\Ext w w':=by
 refine run237 _ _ _ _ (yC (R:=fun v w'=>(∃ s,v = .string s/\bs s=dec u)/\Ext w w') (Calls.mono (c259 u hu64 w htab) ?_) ?_)
 ·rintro e w' ⟨rfl,k,os,rfl⟩
  exact⟨_,rfl,⟨_,rfl,by rw [zCz];exact bs_mk _⟩,grow_ext _ _ _⟩
 ·rintro v w' ⟨⟨s,rfl,hs⟩,he⟩
  exact⟨s,rfl,⟨s,rfl,hs⟩,he⟩
theorem c132 (n:Int) (h0 : -9223372036854775808<=n) (h1:n<=9223372036854775807) (w:World) (htab:P10 w) :
  Ret prog 132 #[.int .i64 n,.int .i64 10] w fun v w'=>(∃ s,v = .string s/\bs s=(if n<0 then [45] else [])++dec n.natAbs)/\Ext w w':=by
 refine Calls.mono (Tryz.strconv_FormatInt_10 n h0 h1 w htab) ?_
 rintro e w' ⟨rfl,k,os,rfl⟩
 refine⟨_,rfl,⟨_,rfl,?_⟩,grow_ext _ _ _⟩
 show bs (mk _)=_
 rw [bs_mk,Lib.itoa]
 split
 ·rw [zCz];rfl
 ·rw [zCz,List.nil_append];congr 1;omega
end Go.Proofs.Si
namespace Go.Proofs.Si
open Go Go.V Go.Proofs Go.RowKit Go.Num Go.Shelf Go.Proofs.Tryz
open Go.IntKind (i64 u64 u32 u8)
attribute [local go_sem] Oper.semAt_some
set_option maxRecDepth 100000
def upto {α:Type} (f:Nat->α) (k:Nat):List α:=(List.range k).map f
theorem zEG {α:Type} (f:Nat->α) (k:Nat):upto f (k+1)=upto f k++[f k]:=by simp [upto,List.range_succ]
theorem zAB {α:Type} (f:Nat->α) (k:Nat):(upto f k).length=k:=by simp [upto]
structure Kp (n0 bB:Nat) (W W' : World):Prop where
 below:Below n0 W W'
 cells : ∀ k c e f,W.heap[k]? = some (.cells c e f)->e≠5->k≠bB->W'.heap[k]? = some (.cells c e f)
theorem Kp.trans {n0 bB:Nat} {A B C:World} (h:Kp n0 bB A B) (k:Kp n0 bB B C):Kp n0 bB A C :=
 ⟨h.below.trans k.below,fun i c e f hi he hb=>k.cells i c e f (h.cells i c e f hi he hb) he hb⟩
abbrev Lm:={ x:Nat × Nat // x.2<1000000000 }
def bk (L:List Nat) (ho:okL L) (j:Nat):Lm:=⟨(L.length - 1 - j,L.getD (L.length - 1 - j) 0),zA5 ho _⟩
set_option maxHeartbeats 4000000 in
theorem back1_in (F:Fence) (n:Nat) (h7:F.fn 260) (hro:F.round=none) (hn:1<=n) (l Bs n0 bB b cap:Nat) (zs:List Nat) (ho:okL zs) (hreach:zs.length<=1099511627776) (hb:b<n0) (hBs5:Bs≠bB) (J Jx:List Lm->World->Prop)
  (hY : ∀ pre x W,J pre W->pre.length<zs.length->YieldAt F (n - 1) prog l #[.int .i64 (x.1.1:Int),.int .u32 (x.1.2:Int)] W fun e W' =>
   (e = .returned (.bool true)/\J (pre++[x]) W'/\Kp n0 bB W W')\/(e = .returned (.bool false)/\Jx (pre++[x]) W'))
  (W:World) (off:Nat) (hBs:W.heap[Bs]? = some (.cells #[.slice (some ⟨b,off,none⟩) zs.length cap] 182 (0,0))) (hc : ∀ j,j<zs.length->W.cell? ⟨b,off+j,none⟩=some (.int .u32 ((zs.getD j 0:Nat):Int))) (h0:J [] W) :
  CallsIn F n prog 260 #[.func (.yield l) #[] #[],.pointer (some ⟨Bs,0,none⟩)] W fun e W'=>(∃ v,e = .returned v) /\
   ((∃ ys,ys=upto (bk zs ho) zs.length/\J ys W')\/(∃ pre,(∃ k,k<=zs.length/\pre=upto (bk zs ho) k)/\Jx pre W')):=by
 have a6:=underlying182;have a3:=isAgg182;have b0:=sizeOf182;have a8:=zeroValue182
 have a7:=underlying209;have a4:=isAgg209;have b1:=sizeOf209;have a9:=zeroValue209
 have b3:W.cell? ⟨Bs,0,none⟩=some (.slice (some ⟨b,off,none⟩) zs.length cap):=zAj hBs
 have ew:i64.wrap ((zs.length:Int) - 1)=(zs.length:Int) - 1:=by rw [zAd (by omega) (by omega)]
 refine callsIn_of_wp func260 rfl h7 ?_ hro
 simp only [ntmps260,List.size_toArray,List.length_cons,List.length_nil,Nat.reduceAdd,Nat.reduceSub,Array.replicate_succ,Array.replicate_zero,List.push_toArray,List.append_toArray,List.nil_append,List.cons_append]
 gi_wp2
 gi_loopw [3] (fun i wr=>∃ k:Nat,k<=zs.length/\i = .int .i64 ((zs.length:Int) - 1 - k)/\J (upto (bk zs ho) k) wr/\Kp n0 bB W wr)
  (fun i _=>(intOf i+1).toNat)
 case atStart=>exact⟨0,Nat.zero_le _,by simp,h0,⟨Below.refl _ _,fun _ _ _ _ h _ _=>h⟩⟩
 case round =>
  obtain⟨k,hk,rfl,m,g⟩:=hrel
  have b2:wr.cell? ⟨Bs,0,none⟩=some (.slice (some ⟨b,off,none⟩) zs.length cap):=zAj (g.cells _ _ _ _ hBs (by decide) hBs5)
  by_cases hlt:k<zs.length
  ·obtain⟨i,a0,a1⟩ : ∃ i:Nat,(zs.length:Int) - 1 - k=(i:Int)/\zs.length=k+1+i:=⟨zs.length - 1 - k,by omega,by omega⟩
   have u:wr.cell? ⟨b,off+i,none⟩=some (.int .u32 ((zs.getD i 0:Nat):Int)):=(g.below.cell (p:=⟨b,off+i,none⟩) hb).trans (hc i (by omega))
   obtain⟨fn,tmps,assign,body,hy,hR⟩:=hY _ (bk zs ho k) wr m (by rw [zAB];exact hlt)
   obtain⟨z,hz⟩ : ∃ z,z=zs.getD i 0:=⟨_,rfl⟩
   have d:(bk zs ho k).1.1=i:=by show zs.length - 1 - k=i;omega
   have f:(bk zs ho k).1.2=z:=by show zs.getD (zs.length - 1 - k) 0=z;rw [hz,show zs.length - 1 - k=i by omega]
   rw [<- hz] at u
   rw [d,f] at hy
   clear hz d f
   rw [a0]
   have b4:(i:Int)<zs.length:=by omega
   clear a1
   gi_wp2
   refine hR.mono ?_
   rintro e W3 (⟨rfl,s,a2⟩ | ⟨rfl,o⟩)
   ·gi_wp2
    go_roundw
    case rel=>exact⟨k+1,by omega,by congr 1;omega,by rw [zEG];exact s,g.trans a2⟩
    case measure=>simp [intOf]
   ·gi_wp2
    refine bodyPost_ret (results_none rfl _ _ _) rfl ?_
    exact⟨⟨_,rfl⟩,.inr ⟨_,⟨k+1,by omega,by rw [zEG]⟩,o⟩⟩
  ·obtain rfl:k=zs.length:=by omega
   have a5 : ¬ (0:Int)<=(zs.length:Int) - 1 - zs.length:=by omega
   gi_wp2
   go_end0
   exact⟨⟨_,rfl⟩,.inl m⟩
theorem back_in (F:Fence) (n:Nat) (h5:F.fn 238) (hro:F.round=none) (a:OA) (len cap:Nat) (w:World) :
  CallsIn F n prog 238 #[.slice a len cap] w fun e w'=>e = .returned (.func (.func 260) #[] #[.pointer (some ⟨w.heap.size,0,none⟩)])/\w' = w.alloc (.cells #[.slice a len cap] 182):=by
 have d:=underlying182;have b:=isAgg182;have g:=sizeOf182;have f:=zeroValue182
 refine callsIn_of_wp func238 rfl h5 ?_ hro
 simp only [ntmps238,List.size_toArray,List.length_cons,List.length_nil,Nat.reduceAdd,Nat.reduceSub,Array.replicate_succ,Array.replicate_zero,List.push_toArray,List.append_toArray,List.nil_append,List.cons_append]
 gi_wp2
 go_ret
 exact⟨rfl,rfl⟩
theorem back_stops (F:Fence) (n:Nat) (h7:F.fn 260) (hro:F.round=none) (hn:1<=n) (Bs n0 bB b cap off:Nat) (zs:List Nat) (ho:okL zs) (hreach:zs.length<=1099511627776) (w:World) (hBs:w.heap[Bs]? = some (.cells #[.slice (some ⟨b,off,none⟩) zs.length cap] 182 (0,0))) (hn0:n0<=w.heap.size) (hb:b<n0) (hBs5:Bs≠bB)
  (hc : ∀ j,j<zs.length->w.cell? ⟨b,off+j,none⟩=some (.int .u32 ((zs.getD j 0:Nat):Int))) :
  SeqStopsK F n prog 260 #[.pointer (some ⟨Bs,0,none⟩)] (fun x:Lm=>#[Value.int .i64 (x.1.1:Int),Value.int .u32 (x.1.2:Int)]) (Kp n0 bB) (fun ys=>ys=upto (bk zs ho) zs.length)
   (fun pre=>∃ k,k<=zs.length/\pre=upto (bk zs ho) k) zs.length w:=fun l J Jx W hW _ _ hY h0=>by
 have hlt:Bs<w.heap.size:=(Array.getElem?_eq_some_iff.1 hBs).1
 exact back1_in F n h7 hro hn l Bs n0 bB b cap zs ho hreach hb hBs5 J Jx hY W off ((hW.block _ hlt).trans hBs) (fun j hj=>(hW.cell (p:=⟨b,off+j,none⟩) (by show b<_;omega)).trans (hc j hj)) h0
def pad9 (x:Nat):List UInt8:=List.replicate (9 - (dec x).length) 48++dec x
def zBM (top:Nat) (pre:List Lm):List UInt8:=dec top++(pre.map fun x=>pad9 x.1.2).flatten
theorem zDo (top:Nat) (pre:List Lm) (x:Lm):zBM top (pre++[x])=zBM top pre++pad9 x.1.2:=by simp [zBM]
theorem dec_pad : ∀ (k n x:Nat),0<n->x<10 ^ k->dec (n*10 ^ k+x)=dec n++(List.replicate (k - (dec x).length) 48++(if k=0 then [] else dec x)):=by
 intro k
 induction k with
 | zero =>
  intro n x hn hx
  have:x=0:=by simpa using hx
  subst this
  simp
 | succ k ih =>
  intro n x hn hx
  rw [if_neg (by omega)]
  have b : ¬ n*10 ^ (k+1)+x<10:=by
   have h1:1*10 ^ (k+1)<=n*10 ^ (k+1):=Nat.mul_le_mul_right _ hn
   have h2:10 ^ 1<=10 ^ (k+1):=Nat.pow_le_pow_right (by omega) (by omega)
   omega
  rw [zBC b]
  have e1:(n*10 ^ (k+1)+x) / 10=n*10 ^ k+x / 10:=by
   rw [Nat.pow_succ,<- Nat.mul_assoc];omega
  have e2:(n*10 ^ (k+1)+x) % 10=x % 10:=by
   rw [Nat.pow_succ,<- Nat.mul_assoc];omega
  rw [e1,e2,ih n (x / 10) hn (by rw [Nat.pow_succ] at hx;omega)]
  by_cases hx10:x<10
  ·rw [show x / 10=0 by omega,zAv hx10,zAQ]
   simp only [List.length_singleton]
   by_cases hk:k=0
   ·subst hk;simp [Nat.mod_eq_of_lt hx10]
   ·rw [if_neg hk,Nat.mod_eq_of_lt hx10]
    obtain⟨j,rfl⟩ : ∃ j,k=j+1:=⟨k - 1,by omega⟩
    rw [show j+1+1 - 1=j+1 by omega,show j+1 - 1=j by omega,List.replicate_succ' (n:=j)]
    simp
  ·have hk:k≠0:=by
    intro h;subst h;simp at hx;omega
   rw [if_neg hk,zBC hx10]
   simp only [List.length_append,List.length_singleton,List.append_assoc]
   rw [Nat.add_sub_add_right]
theorem dec_limb {n x:Nat} (hn:0<n) (hx:x<1000000000):dec (x+1000000000*n)=dec n++pad9 x:=by
 have:=dec_pad 9 n x hn (by omega)
 rw [if_neg (by omega)] at this
 rw [Nat.add_comm,Nat.mul_comm]
 exact this
theorem dec_limbs {L:List Nat} (hok:okL L) (hn:normL L) (h0:0<L.length) : ∀ k,k<L.length->dec (lv (L.drop (L.length - 1 - k)))=zBM (L.getD (L.length - 1) 0) (upto (bk (L.take (L.length - 1)) (zBB hok _)) k)/\0<lv (L.drop (L.length - 1 - k)):=by
 intro k
 induction k with
 | zero =>
  intro _
  have h1:=zEW hn h0
  rw [Nat.sub_zero,zAG (by omega),show L.length - 1+1=L.length by omega,List.drop_length,zCH]
  simp only [Nat.mul_zero,Nat.add_zero,zBM,upto,List.range_zero,List.map_nil,List.flatten_nil,List.append_nil,true_and]
  omega
 | succ k ih =>
  intro hk
  obtain⟨h1,h2⟩:=ih (by omega)
  rw [zAG (by omega),show L.length - 1 - (k+1)+1=L.length - 1 - k by omega,dec_limb h2 (zA5 hok _),h1,zEG,zDo]
  refine⟨?_,by omega⟩
  congr 2
  show _=(L.take (L.length - 1)).getD _ 0
  rw [List.length_take,Nat.min_eq_left (by omega),List.getD_eq_getElem?_getD,List.getD_eq_getElem?_getD,List.getElem?_take_of_lt (by omega)]
  congr 2;omega
end Go.Proofs.Si
namespace Go.Proofs.Si
open Go Go.V Go.Proofs Go.RowKit Go.Num Go.Proofs.Tryz
open Go.IntKind (i64 u64 u32 u8)
set_option maxRecDepth 100000
abbrev nd (n:Nat):Nat:=(dec n).length
theorem zBp {m n:Nat} (h:n<=m):nd n<=nd m:=zAu h
theorem zEj (n:Nat):0<nd n:=List.length_pos_iff.2 (zBa n)
theorem limbs_nd {L:List Nat} (hn:normL L):L.length<=nd (lv L):=by
 by_cases h0:L.length=0
 ·omega
 ·have h1:=zDV hn (by omega)
  have h2:=(zBh (lv L))
  have h3:(1000000000:Nat) ^ (L.length - 1)=10 ^ (9*(L.length - 1)):=by rw [Nat.pow_mul]
  rw [h3] at h1
  have h4:9*(L.length - 1)<nd (lv L):=(Nat.pow_lt_pow_iff_right (by omega:1<10)).1 (Nat.lt_of_le_of_lt h1 h2)
  omega
theorem NatV.cut {w:World} {v:Value} {n:Nat} (h:NatV w v n) : ∃ a c L,v = .slice a L.length c/\L.length<=c/\NatS w a L/\okL L/\normL L/\lv L=n/\L.length<=nd n:=by
 obtain⟨a,c,L,h1,h2,h3,h4,h5,h6⟩:=h
 exact⟨a,c,L,h1,h2,h3,h4,h5,h6,by rw [<- h6];exact limbs_nd h5⟩
theorem quoV {va vb:Value} {m n:Nat} (w:World) (ha:NatV w va m) (hb:NatV w vb n) (h0:0<n) (hz:nd m<=1000000000000/\nd n<=1000000000000) :
  Ret prog 219 #[va,vb] w fun v w'=>(∃ a1 n1 c1 a2 n2 c2,v = .tuple #[.slice a1 n1 c1,.slice a2 n2 c2]/\NatV w' (.slice a1 n1 c1) (m / n)/\NatV w' (.slice a2 n2 c2) (m % n))/\Ext w w':=by
 obtain⟨a,ca,A,rfl,d,f,oa,na,rfl,la⟩:=ha.cut
 obtain⟨b,cb,B,rfl,h,g,ob,nb,rfl,lb⟩:=hb.cut
 refine (c219 w f g oa ob na nb d h0 ⟨by omega,by omega⟩).mono ?_
 rintro v w' ⟨⟨q,r,rfl,hq,hr⟩,he⟩
 obtain⟨a1,c1,L1,e1,_⟩:=id hq
 obtain⟨a2,c2,L2,e2,_⟩:=id hr
 subst e1 e2
 exact⟨⟨_,_,_,_,_,_,rfl,hq,hr⟩,he⟩
theorem c187 {va vb:Value} {m n:Nat} (w:World) (ha:NatV w va m) (hb:NatV w vb n) (hz:nd m<=1000000000000/\nd n<=1000000000000) :
  Ret prog 187 #[va,vb] w fun v w'=>(∃ a n' c,v = .slice a n' c)/\NatV w' v (Nat.gcd m n)/\Ext w w':=by
 obtain⟨I',μ',h,f⟩:=ghost (G:=Nat × Nat) (fun g vals w1=>∃ x y,vals=[x,y]/\NatV w1 x g.1/\NatV w1 y g.2/\Nat.gcd g.1 g.2=Nat.gcd m n/\nd g.1<=1000000000000/\nd g.2<=1000000000000/\Ext w w1) (fun g=>g.2)
 obtain⟨a,ca,A,e1,_⟩:=id ha
 obtain⟨b,cb,B,e2,_⟩:=id hb
 subst e1 e2
 refine run187 _ _ _ _ _ _ _ _ ⟨I',μ',h (m,n) _ _ ⟨_,_,rfl,ha,hb,rfl,hz.1,hz.2,yE _⟩,fun p k k1 p1 k2 k3 w1 hI=>?_⟩
 obtain⟨⟨m',n'⟩,⟨x,y,hv,hx,hy,hg,z1,z2,he⟩,fin⟩:=f _ _ hI
 cases hv
 dsimp only at hx hy hg z1 z2
 obtain⟨_,_,L,e3,_,_,_,hn,hl,_⟩:=hy.cut
 cases e3
 refine zAe (fun j=>?_) (fun i=>⟨⟨_,_,_,rfl⟩,?_,he⟩)
 ·have h0:0<n':=by
   rw [<- hl]
   exact Nat.pos_of_ne_zero fun e0=>by
    have:=zEW hn (by omega)
    have h2:=zDV hn (by omega)
    have h3:0<1000000000 ^ (L.length - 1):=Nat.pow_pos (by omega)
    omega
  refine yC (quoV w1 hx hy h0 ⟨z1,z2⟩) ?_
  rintro v w2 ⟨⟨a1,n1,c1,a2,n2,c2,rfl,hq,hr⟩,d⟩
  refine⟨_,_,_,_,_,_,rfl,fin (n',m' % n') _ _ ⟨_,_,rfl,hy.ext d,hr,?_,z2,?_,he.trans d⟩ (Nat.mod_lt _ h0)⟩
  ·rw [<- hg]
   show Nat.gcd n' (m' % n')=Nat.gcd m' n'
   rw [Nat.gcd_comm m' n',Nat.gcd_rec n' m',Nat.gcd_comm]
  ·exact Nat.le_trans (zBp (Nat.le_of_lt (Nat.mod_lt _ h0))) z2
 ·have:L=[]:=List.eq_nil_of_length_eq_zero (by omega)
  subst this
  rw [<- hl,zCH,Nat.gcd_zero_right] at hg
  rw [<- hg];exact hx
theorem NatV.put {w:World} {v:Value} {n b ty:Nat} {A:List Value} (h:NatV w v n) (hb:Box w b ty A) (hno : ∀ x:Nat,u32v x∉A) (M:List Value) (o i:Nat):NatV (V.setCells w ⟨b,o,none⟩ i M) v n:=by
 obtain⟨a,c,L,h1,h2,h3,r⟩:=h
 refine⟨a,c,L,h1,h2,SlAt.put h3 hb (fun v hv=>?_) M o i,r⟩
 obtain⟨x,_,rfl⟩:=List.mem_map.1 hv
 exact hno x
def RatM (w:World) (v:Value) (neg:Bool) (a b:Nat):Prop:=∃ a1 n1 c1 a2 n2 c2,v = .agg #[.bool neg,.slice a1 n1 c1,.slice a2 n2 c2]/\NatV w (.slice a1 n1 c1) a/\NatV w (.slice a2 n2 c2) b
theorem c221 (neg:Bool) {va vb:Value} {m n:Nat} (w:World) (ha:NatV w va m) (hb:NatV w vb n) (h0:0<n) (hz:nd m<=1000000000000/\nd n<=1000000000000) :
  Ret prog 221 #[.bool neg,va,vb] w fun v w'=>RatM w' v neg (m / Nat.gcd m n) (n / Nat.gcd m n)/\Ext w w':=by
 obtain⟨a,ca,A,e1,_⟩:=id ha
 obtain⟨b,cb,B,e2,_⟩:=id hb
 subst e1 e2
 have hx:=(yE w).alloc (.cells #[.bool false,.slice none 0 0,.slice none 0 0] 184)
 have o:=yN w [.bool false,.slice none 0 0,.slice none 0 0] 184
 refine run221 _ _ _ _ _ _ _ _ _ (yC (c187 _ (ha.ext hx) (hb.ext hx) hz) ?_)
 rintro v w1 ⟨⟨ag,ng,cg,rfl⟩,hg,d⟩
 refine⟨_,_,_,rfl,fun K hK=>?_⟩
 have h:0<Nat.gcd m n:=Nat.gcd_pos_of_pos_right _ h0
 have j:Nat.gcd m n<=n:=Nat.le_of_dvd h0 (Nat.gcd_dvd_right _ _)
 have fin : ∀ p1 k2 k3 p2 k4 k5 w2,NatV w2 (.slice p1 k2 k3) (m / Nat.gcd m n)->NatV w2 (.slice p2 k4 k5) (n / Nat.gcd m n)->Ext (w.alloc (.cells #[.bool false,.slice none 0 0,.slice none 0 0] 184)) w2->K [.slice p1 k2 k3,.slice p2 k4 k5] w2:=by
  intro p1 k2 k3 p2 k4 k5 w2 h1 h2 he
  have f:=o.ext he
  have l:=f.put [.bool neg,.slice p1 k2 k3,.slice p2 k4 k5] rfl
  have u:w.heap.size<w2.heap.size:=f.lt
  have k : ∀ x:Nat,u32v x∉[Value.bool false,.slice none 0 0,.slice none 0 0]:=fun x=>by simp [u32v]
  exact hK _ _ _ _ _ _ _ ⟨f.blk.writable (by decide),_,_,_,_,_,_,_,l.blk.all,⟨_,_,_,_,_,_,rfl,h1.put f k _ _ _,h2.put f k _ _ _⟩,(Ext.from_alloc he).put yL _ _⟩
 obtain⟨G,hG⟩ : ∃ G,G=Nat.gcd m n:=⟨_,rfl⟩
 rw [<- hG] at hg h j fin
 refine yC (R:=fun v w'=>v = .bool (decide (G=1))/\w' = w1) ?_ ?_
 ·obtain⟨a',c',L,e,_,hs,ho,hn,hl,_⟩:=hg.cut
  cases e
  rw [<- hl]
  exact c188 w1 hs ho hn
 rintro v w3 ⟨rfl,rfl⟩
 refine⟨_,rfl,zAb (fun a0=>?_) (fun p=>?_)⟩
 ·have z3:nd G<=1000000000000:=Nat.le_trans (zBp j) hz.2
  refine yC (quoV w3 ((ha.ext hx).ext d) hg h ⟨hz.1,z3⟩) ?_
  rintro v w4 ⟨⟨a1,n1,c1,a2,n2,c2,rfl,hq,hr⟩,g⟩
  refine⟨_,_,_,_,_,_,rfl,yC (quoV w4 (((hb.ext hx).ext d).ext g) (hg.ext g) h ⟨hz.2,z3⟩) ?_⟩
  rintro v w5 ⟨⟨a3,n3,c3,a4,n4,c4,rfl,s,a5⟩,i⟩
  exact⟨_,_,_,_,_,_,rfl,fin _ _ _ _ _ _ _ (hq.ext i) s ((d.trans g).trans i)⟩
 ·have h1:G=1:=by simpa using p
  refine fin _ _ _ _ _ _ _ ?_ ?_ d
  ·rw [h1,Nat.div_one];exact (ha.ext hx).ext d
  ·rw [h1,Nat.div_one];exact (hb.ext hx).ext d
theorem dig_wrap {c:UInt8} (h:isDig c=true):u32.wrap (u8.wrap ((c.toNat:Int) - 48))=((dv c:Nat):Int):=by
 obtain⟨h1,h2⟩:=zBq h
 have e:u8.wrap ((c.toNat:Int) - 48)=((dv c:Nat):Int):=by
  show ((c.toNat:Int) - 48) % 256=_
  unfold dv;omega
 rw [e]
 exact w32 (by unfold dv;omega)
theorem all_getD {l:List UInt8} (h:l.all isDig=true) {i:Nat} (hi:i<l.length):isDig (l.getD i 0)=true:=by
 rw [List.getD_eq_getElem?_getD,List.getElem?_eq_getElem hi]
 exact List.all_eq_true.1 h _ (List.getElem_mem hi)
theorem c186 (s:BA) (hd:(bs s).all isDig=true) (hz:s.size<=1099511627775) (w:World):Ret prog 186 #[.string s] w fun v w'=>NatO w' w.heap.size v (val (bs s))/\Ext w w':=by
 refine run186 _ _ _ ⟨fun vals w1=>∃ (e:Int) (D:List Nat) (p:OA) (k:Nat),vals=[.int .i64 e,.slice p D.length k]/\e<=s.size /\ -9<=e/\(0<e->9*D.length+e.toNat=s.size)/\okL D /\
  lv D=val (rest s e.toNat)/\D.length<=s.size/\w1.ownsRow w.heap.size 209 1 (.slice p D.length k) D.length (D.map u32v)/\Ext w w1,muD,
  ⟨s.size,[],none,0,rfl,Int.le_refl _,by omega,fun _=>by simp,zBH,?_,Nat.zero_le _,World.ownsRow_nil _ _ _ _,yE _⟩,?_⟩
 ·rw [yT,zEt yL];rfl
 rintro e p k k1 w1 ⟨_,D,p',k',hv,b7,b8,a7,oD,a0,b4,ho,hx⟩
 cases hv
 refine zAe (fun a2=>?_) (fun b3=>?_)
 ·have b2:=a7 a2
  obtain⟨lo,a8⟩ : ∃ lo:Nat,lo=(e - 9).toNat:=⟨_,rfl⟩
  have ew:i64.wrap (e - 9)=e - 9:=zAd (by omega) (by omega)
  have e1:(if 0>i64.wrap (e - 9) then 0 else i64.wrap (e - 9))=(lo:Int):=by rw [ew];split <;> omega
  simp only [e1,yT]
  refine⟨⟨by omega,by omega,by omega⟩,fun k2 w2 o=>?_⟩
  obtain⟨T,hT⟩ : ∃ T,T=bs (s.extract lo e.toNat):=⟨_,rfl⟩
  have g:T=(rest s lo).take (e.toNat - lo):=by rw [hT,zAV]
  have b5:T.length=e.toNat - lo:=by rw [g,List.length_take,zEu];omega
  have a5:(s.extract lo e.toNat).size=T.length:=by rw [hT,zAc]
  have m:T.all isDig=true:=by
   rw [g]
   refine List.all_eq_true.2 fun x hx=>List.all_eq_true.1 hd x ?_
   exact List.mem_of_mem_drop (List.mem_of_mem_take hx)
  rw [a5]
  refine⟨fun vals w3=>∃ (j acc:Nat),vals=[.int .i64 j,.int .u32 acc]/\j<=T.length/\acc=val (T.take j)/\w3=w2,mu1 T.length,⟨0,0,rfl,Nat.zero_le _,rfl,rfl⟩,?_⟩
  rintro n1 n2 w3 ⟨j,acc,hv,hj,b,rfl⟩
  cases hv
  have b1:acc<10 ^ j:=by
   have h1:=zDd (l:=T.take j) (List.all_eq_true.2 fun x hx=>List.all_eq_true.1 m x (List.mem_of_mem_take hx))
   rw [List.length_take,Nat.min_eq_left hj] at h1
   omega
  refine zAe (fun a9=>?_) (fun b9=>?_)
  ·have d:j<T.length:=by omega
   have i:=o.cell j (by omega)
   have u:=all_getD m d
   have b0:10 ^ j<=10 ^ 8:=Nat.pow_le_pow_right (by omega) (by omega)
   have b6:=dv_lt u
   have ea:u32.wrap (u32.wrap ((acc:Int)*10)+u32.wrap (u8.wrap (((T.getD j 0).toNat:Int) - 48)))=((10*acc+dv (T.getD j 0):Nat):Int):=by
    rw [dig_wrap u,w32i (n:=(acc:Int)*10) (by omega) (by omega),w32i (by omega) (by omega)]
    omega
   refine⟨_,rfl,⟨by omega,a9⟩,((((s.extract lo e.toNat).data.toList.getD j 0)).toNat:Int),?_,?_⟩
   ·rw [zAi,Nat.zero_add,yT,Nat.mul_one]
    exact i
   ·have a4:(s.extract lo e.toNat).data.toList=T:=hT.symm
    rw [a4,ea,zAf (by omega)]
    refine⟨⟨j+1,_,rfl,d,?_,rfl⟩,?_⟩
    ·rw [zBA d,<- b]
    ·simp only [mu1,yT];omega
  ·have d:j=T.length:=by omega
   subst d
   rw [List.take_length] at b
   have b0:10 ^ T.length<=10 ^ 9:=Nat.pow_le_pow_right (by omega) (by omega)
   have f:Ext w1 w3:=o.below
   have a1:=zAm ho f
   refine⟨_,_,_,AppOk.one (L:=[u32v acc]) a1 rfl rfl (by unfold maxLen;omega) (by omega) (hx.trans f).size,?_⟩
   intro p1 k4 w4 r
   have a3:=(yE w3).alloc (.cells #[u32v acc] 209)
   have a6:Ext w w4:=r.below (zAm a1 a3) ((hx.trans f).trans a3) (by rw [size_alloc];have:=(hx.trans f).size;omega) yL
   have e6:(D++[acc]).length=D.length+1:=by simp
   rw [ew]
   refine⟨⟨e - 9,D++[acc],p1,k4,by rw [e6],by omega,by omega,fun h=>by omega,?_,?_,by omega,?_,a6⟩,?_⟩
   ·rw [zEV];exact⟨oD,by rw [zBN];exact⟨by omega,zBH⟩⟩
   ·rw [zDp,a0,b,<- a8]
    have er:rest s lo=T++rest s e.toNat:=by
     rw [g]
     have:rest s e.toNat=(rest s lo).drop (e.toNat - lo):=by
      rw [rest,rest,List.drop_drop];congr 1;omega
     rw [this,List.take_append_drop]
    rw [er,val_app,zEu,show s.size - e.toNat=9*D.length by omega,Nat.pow_mul,Nat.add_comm,Nat.mul_comm]
   ·have:=r.own
    rw [e6,List.map_append];exact this
   ·simp only [muD];omega
 ·refine yC (c218 (zES ho) (by omega) w1 (zAJ ho)) ?_
  rintro v w5 ⟨rfl,rfl⟩
  refine⟨_,_,_,rfl,?_,hx⟩
  have:=zCr ho oD
  rw [a0,show e.toNat=0 by omega] at this
  exact this
theorem not_dig2 (c:UInt8):(decide ((c.toNat:Int)<48)||decide ((c.toNat:Int)>57)) = !isDig c:=by
 rw [<- not_dig,Bool.not_and,Bool.not_not,Bool.not_not]
theorem zDt (l:List UInt8) (hd:l.all isDig=true):canon l=(if l=[48] then true else if l=[] then false else l.getD 0 0 != 48):=by
 unfold canon
 rw [hd]
 match l with
 | []=>rfl
 | [c] =>
  by_cases h:c=48
  ·subst h;rfl
  ·rw [if_neg (by simpa using h),if_neg (by simp)]
   simp [h]
 | c::d::l =>
  rw [if_neg (by simp),if_neg (by simp)]
  by_cases h:c=48
  ·subst h;rfl
  ·simp [h]
theorem c184 (s:BA) (hz:s.size<=4611686018427387904) (w:World):Ret prog 184 #[.string s] w fun v w'=>v = .bool (canon (bs s))/\Ext w w':=by
 refine run184 _ _ _ fun k w1 l=>?_
 have g:Ext w w1:=l.below
 refine⟨fun vals w2=>∃ i:Nat,vals=[.int .i64 i]/\i<=s.size/\w2=w1/\(bs s).all isDig=(rest s i).all isDig,mu1 s.size,⟨0,rfl,Nat.zero_le _,rfl,rfl⟩,?_⟩
 rintro n w2 ⟨i,hv,hi,rfl,b⟩
 cases hv
 refine zAe (fun m=>?_) (fun o=>?_)
 ·have d:i<s.size:=by omega
  have hc:=zD6 d
  refine⟨_,rfl,⟨by omega,m⟩,(((bs s).getD i 0).toNat:Int),?_,?_⟩
  ·rw [zAi,Nat.zero_add,yT,Nat.mul_one]
   exact l.cell i d
  ·show bif (decide ((((bs s).getD i 0).toNat:Int)<48)||decide ((((bs s).getD i 0).toNat:Int)>57)) then _ else _
   rw [not_dig2]
   refine zAb (fun h=>⟨?_,g⟩) (fun h=>?_)
   ·have h' : isDig ((bs s).getD i 0)=false:=by simpa using h
    unfold canon
    rw [b,hc,List.all_cons,h',Bool.false_and,Bool.and_false,Bool.false_and]
   ·rw [zAf (by omega)]
    refine⟨⟨i+1,rfl,d,rfl,?_⟩,?_⟩
    ·have h' : isDig ((bs s).getD i 0)=true:=by simpa using h
     rw [b,hc,List.all_cons,h',Bool.true_and]
    ·simp only [mu1,yT];omega
 ·intro K hK
  rw [zEt (by omega)] at b
  have hd:(bs s).all isDig=true:=by rw [b];rfl
  rw [zAt,zAt]
  refine zAe (fun h=>hK _ ⟨?_,g⟩) (fun h=>?_)
  ·rw [zDt _ hd,if_pos (show bs s=[48] from h)]
  ·have j : ¬ bs s=[48]:=h
   refine zAb (fun h2=>?_) (fun h2=>hK _ ⟨?_,g⟩)
   ·have f : ¬ bs s=[]:=by
     have : ¬ bs s=bs { data:=#[] }:=by simpa using h2
     exact this
    have h0:0<s.size:=by
     rw [zAc]
     exact List.length_pos_iff.2 f
    refine⟨⟨by omega,by omega⟩,hK _ ⟨?_,g⟩⟩
    rw [zDt _ hd,if_neg j,if_neg f]
    congr 1
    have:=u8_beq ((bs s).getD 0 0) 48 (by omega)
    show (!(((bs s).getD 0 0).toNat:Int)==48)=_
    rw [show ((48:Nat):Int)=48 from rfl] at this
    rw [this];rfl
   ·have f:bs s=[]:=by
     have:bs s=bs { data:=#[] }:=by simpa using h2
     exact this
    rw [zDt _ hd,if_neg j,if_pos f]
theorem c185 (a b:Nat) (w:World):Ret prog 185 #[.int .i64 a,.int .i64 b] w fun v w'=>v = .int .i64 (Nat.gcd a b:Nat)/\Ext w w':=by
 obtain⟨I',μ',f,d⟩:=ghost (G:=Nat × Nat) (fun g vals w1=>vals=[.int .i64 g.1,.int .i64 g.2]/\Nat.gcd g.1 g.2=Nat.gcd a b/\Ext w w1) (fun g=>g.2)
 refine run185 _ _ _ _ ⟨I',μ',f (a,b) _ _ ⟨rfl,rfl,yE _⟩,fun n n1 w1 hI=>?_⟩
 obtain⟨⟨x,y⟩,⟨hv,hg,he⟩,fin⟩:=d _ _ hI
 cases hv
 refine zAb (fun h=>?_) (fun h=>⟨?_,he⟩)
 ·have hy:y≠0:=by rintro rfl;simp at h
  refine zAe (fun h0=>absurd h0 (by omega)) (fun _=>fin (y,x % y) _ _ ⟨by rw [tmodN],?_,he.drew⟩ (Nat.mod_lt _ (by omega)))
  rw [<- hg]
  show Nat.gcd y (x % y)=Nat.gcd x y
  rw [Nat.gcd_comm x y,Nat.gcd_rec y x,Nat.gcd_comm]
 ·have hy:y=0:=by
   have:((y:Nat):Int)=0:=by simpa using h
   omega
  subst hy
  rw [<- hg];simp
end Go.Proofs.Si
