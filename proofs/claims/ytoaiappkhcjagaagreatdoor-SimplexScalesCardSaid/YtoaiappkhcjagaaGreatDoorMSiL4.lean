/- Part of the proof: SiL4, SiL5, SiB, SiC, SiN3. -/
import Derived.Test.YtoaiappkhcjagaaGreatDoorMSiR5
import Derived.Test.YtoaiappkhcjagaaGreatDoorShelf
import Derived.Shelf.Strings.BuilderK
import Derived.Lib.ItoaMem
import Derived.Lib.Walk
import Derived.WalkKit
import Derived.BigCall
import Derived.BigGuard
import Derived.RangeFuncNested
import Derived.RangeFuncBound
import Derived.RangeFuncCalls
import Derived.RangeFuncLeaves
import Derived.Shelf.Abstract
import Derived.Shelf.RegionOpen
import Derived.OwnWalkIn
import Derived.TacticsInMore
import Derived.LoopNIn
import Derived.LoopIn
import Derived.Test.YtoaiappkhcjagaaGreatDoorMV8
set_option linter.unusedVariables false
set_option linter.unusedSimpArgs false
namespace Go.Num
theorem kn1 {g r v1 v2 vl T u0 sl P lS lV:Nat} (hT:g*v1+r=T) (hg:r*1000000000+u0<g*v2) (hV:lV=(v1*1000000000+v2)*P+vl) (hS:lS=(T*1000000000+u0)*P+sl) (hsl:sl<P):lS<g*lV:=by
 have h1:(T*1000000000+u0+1)*P<=g*(v1*1000000000+v2)*P:=by
  apply Nat.mul_le_mul_right
  have:g*(v1*1000000000+v2)=g*v1*1000000000+g*v2:=by rw [Nat.mul_add,Nat.mul_assoc]
  rw [this,<- hT,Nat.add_mul]
  omega
 have h2:g*(v1*1000000000+v2)*P<=g*lV:=by rw [hV,Nat.mul_assoc];exact Nat.mul_le_mul_left _ (Nat.le_add_right _ _)
 rw [Nat.add_mul,Nat.one_mul] at h1
 omega
theorem kn2 {g r v1 v2 vl T u0 sl P lS lV:Nat} (hT:g*v1+r=T) (hg:g*v2<=r*1000000000+u0) (hB:g<=1000000000) (hv1:1<=v1) (hV:lV=(v1*1000000000+v2)*P+vl) (hvl:vl<P) (hS:lS=(T*1000000000+u0)*P+sl):(g - 1)*lV<=lS:=by
 rcases Nat.eq_zero_or_pos g with h0 | h0
 ·subst h0;simp
 obtain⟨k,rfl⟩ : ∃ k,g=k+1:=⟨g - 1,by omega⟩
 rw [Nat.add_sub_cancel]
 have h1:k*lV<=k*((v1*1000000000+v2+1)*P):=by
  apply Nat.mul_le_mul_left
  rw [hV,Nat.add_mul _ 1,Nat.one_mul]
  omega
 have h2:k*(v1*1000000000+v2+1)<=T*1000000000+u0:=by
  have e1:(k+1)*v1*1000000000+(k+1)*v2<=T*1000000000+u0:=by rw [<- hT,Nat.add_mul];omega
  have e2:k*(v1*1000000000+v2+1)=k*v1*1000000000+k*v2+k:=by rw [Nat.mul_add,Nat.mul_add,Nat.mul_one,Nat.mul_assoc]
  rw [e2]
  rw [Nat.add_mul,Nat.add_mul,Nat.add_mul,Nat.one_mul,Nat.one_mul] at e1
  omega
 have h3:k*((v1*1000000000+v2+1)*P)<=(T*1000000000+u0)*P:=by rw [<- Nat.mul_assoc];exact Nat.mul_le_mul_right _ h2
 omega
theorem kn0 {v1 v2 vl T u0 sl P lS lV:Nat} (hV:lV=(v1*1000000000+v2)*P+vl) (hvl:vl<P) (hS:lS=(T*1000000000+u0)*P+sl) (h:lS<1000000000*lV) (hv2:v2<1000000000):T<(v1+1)*1000000000:=by
 rcases Nat.lt_or_ge T ((v1+1)*1000000000) with h' | h'
 ·exact h'
 ·exfalso
  have h1:(v1+1)*1000000000*1000000000*P<=(T*1000000000+u0)*P:=Nat.mul_le_mul_right _ (Nat.le_trans (Nat.mul_le_mul_right _ h') (Nat.le_add_right _ _))
  have h3:lV<(v1*1000000000+v2+1)*P:=by rw [hV,Nat.succ_mul];exact Nat.add_lt_add_left hvl _
  have h4:(v1*1000000000+v2+1)*P<=(v1+1)*1000000000*P:=Nat.mul_le_mul_right _ (by rw [Nat.succ_mul];omega)
  have h5:(v1+1)*1000000000*1000000000*P=1000000000*((v1+1)*1000000000*P):=by rw [Nat.mul_comm ((v1+1)*1000000000) 1000000000,Nat.mul_assoc]
  rw [h5] at h1
  have h6:=Nat.mul_lt_mul_of_pos_left (Nat.lt_of_lt_of_le h3 h4) (show 0<1000000000 by decide)
  rw [hS] at h
  exact absurd (Nat.lt_of_lt_of_le h6 (Nat.le_trans h1 (Nat.le_add_right _ sl))) (Nat.lt_asymm h)
theorem kn3 {v1 v2 vl T u0 sl P lS lV:Nat} (hV:lV=(v1*1000000000+v2)*P+vl) (hS:lS=(T*1000000000+u0)*P+sl) (hsl:sl<P) (hu0:u0<1000000000):lS / lV*v1<=T:=by
 have h1:=Nat.div_mul_le_self lS lV
 rcases Nat.lt_or_ge T (lS / lV*v1) with h | h
 ·exfalso
  have h3:(T+1)*(1000000000*P)<=lS / lV*v1*(1000000000*P):=Nat.mul_le_mul_right _ h
  have h4:lS / lV*v1*(1000000000*P)<=lS / lV*lV:=by
   rw [Nat.mul_assoc]
   apply Nat.mul_le_mul_left
   rw [hV,Nat.add_mul,<- Nat.mul_assoc,Nat.add_assoc]
   exact Nat.le_add_right _ _
  have h5:lS<(T+1)*(1000000000*P):=by
   have:(T*1000000000+u0+1)*P<=(T+1)*1000000000*P:=Nat.mul_le_mul_right _ (by rw [Nat.succ_mul];omega)
   rw [Nat.succ_mul,Nat.mul_assoc (T+1)] at this
   rw [hS]
   exact Nat.lt_of_lt_of_le (Nat.add_lt_add_left hsl _) this
  exact absurd (Nat.lt_of_lt_of_le h5 (Nat.le_trans h3 (Nat.le_trans h4 h1))) (Nat.lt_irrefl _)
 ·exact h
theorem kn_split (k s u0 u1 u2:Nat):s+1000000000 ^ k*u0+1000000000 ^ (k+1)*u1+1000000000 ^ (k+1+1)*u2=((u2*1000000000+u1)*1000000000+u0)*1000000000 ^ k+s:=by
 rw [Nat.pow_succ,Nat.pow_succ,Nat.pow_succ]
 generalize 1000000000 ^ k=P
 have e1:P*1000000000*u1=u1*1000000000*P:=by rw [Nat.mul_comm _ u1,Nat.mul_comm P,Nat.mul_assoc]
 have e2:P*1000000000*1000000000*u2=u2*1000000000*1000000000*P:=by
  rw [Nat.mul_comm _ u2,Nat.mul_comm P,Nat.mul_comm (1000000000*P),<- Nat.mul_assoc,<- Nat.mul_assoc]
 rw [e1,e2,Nat.add_mul,Nat.add_mul,Nat.add_mul,Nat.mul_comm P u0]
 ac_rfl
theorem quo_le {g lS lV:Nat} (h:lS<g*lV):lS / lV<=g - 1:=by
 have:=(Nat.div_lt_iff_lt_mul (x:=lS) (y:=g) (k:=lV) (by
  rcases Nat.eq_zero_or_pos lV with h0 | h0
  ·subst h0;simp at h
  ·exact h0)).2 h
 omega
end Go.Num
namespace Go.Proofs.Si
open Go Go.V Go.Proofs Go.RowKit Go.Num Go.Proofs.Tryz
open Go.IntKind (i64 u64 u32 u8)
set_option maxRecDepth 100000
def muG:List Value->World->Nat
 | _ :: .int _ n::_,_=>n.toNat
 | _,_=>0
theorem c251 {ub o m cu cv:Nat} {v:Option Addr} {U V:List Nat} (w:World) (hU:LimbsT w ub U) (oU:okL U) (hm:o+m<=U.length) (hVm:V.length+1=m) (hv:NatK w ub v V) (oV:okL V) (hl:U.length<=4398046511104)
    (h2:2<=V.length) (htop:500000000<=V.getD (V.length - 1) 0) (hlt:sv U o m<1000000000*lv V) :
    Ret prog 251 #[.slice (some ⟨ub,o,none⟩) m cu,.slice v V.length cv] w fun r w'=>(r = .int .u32 ((sv U o m / lv V:Nat):Int)/\∃ U1,Seg U U1 o m/\okL U1/\sv U1 o m=sv U o m % lv V/\LimbsT w' ub U1)/\Only ub w w':=by
  obtain⟨k,hk⟩ : ∃ k,V.length=k+2:=⟨V.length - 2,by omega⟩
  obtain⟨v1,hv1⟩ : ∃ x,x=V.getD (k+1) 0:=⟨_,rfl⟩
  obtain⟨v2,hv2⟩ : ∃ x,x=V.getD k 0:=⟨_,rfl⟩
  obtain⟨u2,hu2⟩ : ∃ x,x=U.getD (o+(k+2)) 0:=⟨_,rfl⟩
  obtain⟨u1,hu1⟩ : ∃ x,x=U.getD (o+(k+1)) 0:=⟨_,rfl⟩
  obtain⟨u0,hu0⟩ : ∃ x,x=U.getD (o+k) 0:=⟨_,rfl⟩
  have bv1:=zAz oV (k+1)
  have bv2:=zAz oV k
  have bu2:=zAz oU (o+(k+2))
  have bu1:=zAz oU (o+(k+1))
  have bu0:=zAz oU (o+k)
  rw [<- hv1] at bv1;rw [<- hv2] at bv2;rw [<- hu2] at bu2;rw [<- hu1] at bu1;rw [<- hu0] at bu0
  rw [hk,show k+2 - 1=k+1 by omega,<- hv1] at htop
  have hmk:m=k+3:=by omega
  have hlV:lv V=(v1*1000000000+v2)*1000000000 ^ k+lv (V.take k):=by
    have e:lv V=lv (V.take (k+2)):=by rw [List.take_of_length_le (by omega)]
    rw [e,zA4,zA4,<- hv1,<- hv2,Nat.pow_succ,Nat.add_mul,Nat.mul_comm (1000000000 ^ k*1000000000) v1,Nat.mul_comm (1000000000 ^ k) v2,Nat.mul_comm (1000000000 ^ k) 1000000000,<- Nat.mul_assoc v1]
    omega
  have hvl:lv (V.take k)<1000000000 ^ k:=by
    have:=lv_lt (zBK oV k)
    rwa [List.length_take,Nat.min_eq_left (by omega)] at this
  obtain⟨T,hT⟩ : ∃ T,T=u2*1000000000+u1:=⟨_,rfl⟩
  have hlS:sv U o m=(T*1000000000+u0)*1000000000 ^ k+sv U o k:=by
    rw [hmk,zCc,zCc,zCc,<- hu0,<- hu1,<- hu2,hT]
    exact kn_split _ _ _ _ _
  have hsl:sv U o k<1000000000 ^ k:=sv_lt oU o k
  have hVpos:0<lv V:=by
    have h1:1*1000000000 ^ k<=(v1*1000000000+v2)*1000000000 ^ k:=Nat.mul_le_mul_right _ (by omega)
    have:=Nat.pow_pos (n:=k) (show 0<1000000000 by omega)
    omega
  have hq:sv U o m / lv V<1000000000:=(Nat.div_lt_iff_lt_mul hVpos).2 hlt
  have hTle:T<(v1+1)*1000000000 :=
     kn0 hlV hvl hlS hlt bv2
  have hgT:T / v1<=1000000001:=by
    have:T / v1<1000000002:=by
      rw [Nat.div_lt_iff_lt_mul (by omega)]
      have:1000000002*v1=1000000000*v1+2*v1:=by rw [<- Nat.add_mul]
      omega
    omega
  have hok:=hv _ (Only.refl _ _)
  have hokd:NatS w.drew v V:=hv _ (Only.refl ub w).drew
  obtain⟨vd,hvd,hcv1⟩:=hokd.get (i:=k+1) (by omega)
  have hUd:LimbsT w.drew ub U:=hU
  have eVN:((V.length:Nat):Int)=((k+2:Nat):Int):=by rw [hk]
  have ew1:i64.wrap (((k+2:Nat):Int) - 1)=((k+1:Nat):Int):=by rw [zAf (by omega) (by omega)];omega
  have ew2:i64.wrap (((k+2:Nat):Int) - 2)=(k:Int):=by rw [zAf (by omega) (by omega)];omega
  refine run251 _ _ _ _ _ _ _ _ ?_
  unfold vc251
  simp only [eVN,ew1,ew2]
  refine⟨_,rfl,⟨by omega,by omega⟩,(u2:Int),?_,_,rfl,⟨by omega,by omega⟩,(u1:Int),?_,vd,hvd,⟨by omega,by omega⟩,(v1:Int),?_,?_⟩
  · rw [Int.toNat_natCast,Nat.mul_one,zAk,hu2];exact hUd.cell (by omega)
  · rw [Int.toNat_natCast,Nat.mul_one,zAk,hu1];exact hUd.cell (by omega)
  · rw [hv1];exact hcv1
  have ev1:u64.wrap (v1:Int)=(v1:Int):=w64u (by omega)
  have hbz:decide (u64.wrap (v1:Int)=0)=false:=decide_eq_false (by rw [ev1];omega)
  rw [hbz,cond_false,cond_false]
  have eT:u64.wrap (u64.wrap (u64.wrap (u2:Int)*1000000000)+u64.wrap (u1:Int))=(T:Int):=by
    rw [w64u (n:=u2) (by omega),w64ui (n:=(u2:Int)*1000000000) (by omega) (by omega),w64u (n:=u1) (by omega),w64ui (by omega) (by omega),hT];omega
  rw [eT,ev1,show (T:Int).tmod (v1:Int)=((T % v1:Nat):Int) from rfl,show (T:Int).tdiv (v1:Int)=((T / v1:Nat):Int) from rfl,w64u (n:=T / v1) (by omega)]
  intro K hK
  have fin : ∀ (g r:Nat) (w1:World),g*v1+r=T->sv U o m / lv V<=g->g<=1000000000->g*v2<=r*1000000000+u0->LimbsT w1 ub U->Only ub w w1->K [.int .u64 g] w1:=by
    intro g r w1 hg hqg hgB hgv hU1 hon
    refine hK _ _ ?_
    have hlow:=kn2 hg hgv hgB (by omega) hlV hvl hlS
    have c264':=c264 (cu:=cu) (cv:=cv) w1 hU1 oU hm hVm (hv.only hon) oV hgB hl
    refine Called.of c264' ?_
    rintro x w2 ⟨⟨b,U1,rfl,hseg,oU1,hval,hU1'⟩,hon2⟩
    refine⟨b,rfl,?_⟩
    cases b with
    | false =>
      rw [cond_false,Nat.mul_zero,Nat.add_zero] at hval
      rw [cond_false]
      have hge:g<=sv U o m / lv V:=(Nat.le_div_iff_mul_le hVpos).2 (by omega)
      have hgq:g=sv U o m / lv V:=by omega
      have hrem:sv U1 o m=sv U o m % lv V:=by
        have:=Nat.div_add_mod (sv U o m) (lv V)
        rw [hgq,Nat.mul_comm] at hval
        omega
      rw [w32 (by omega)]
      exact⟨⟨by rw [hgq],U1,hseg,oU1,hrem,hU1'⟩,hon.trans hon2⟩
    | true =>
      rw [cond_true,Nat.mul_one] at hval
      rw [cond_true]
      have h1:=sv_lt oU1 o m
      have hgt:sv U o m<g*lv V:=by omega
      have hqle:=quo_le hgt
      have hge:g - 1<=sv U o m / lv V:=(Nat.le_div_iff_mul_le hVpos).2 hlow
      have hg1:1<=g:=by
        rcases Nat.eq_zero_or_pos g with h | h
        · subst h;omega
        · exact h
      refine Called.of (c265 (cu:=cu) (cv:=cv) w2 hU1' oU1 (by rw [hseg.len];exact hm) (by omega) ((hv.only hon).only hon2) oV (by rw [hseg.len];exact hl)) ?_
      rintro x w3 ⟨⟨rfl,c,U2,hc,hseg2,oU2,hval2,hU2⟩,hon3⟩
      refine⟨rfl,?_⟩
      have hgq:g - 1=sv U o m / lv V:=by omega
      have h3:=sv_lt oU2 o m
      have hgl:(g - 1)*lv V+lv V=g*lv V:=by rw [<- Nat.succ_mul];congr 1;omega
      have hrem:sv U2 o m=sv U o m % lv V:=by
        have:=Nat.div_add_mod (sv U o m) (lv V)
        rw [<- hgq,Nat.mul_comm] at this
        rcases Nat.eq_zero_or_pos c with h | h
        · subst h;omega
        · have:c=1:=by omega
          subst this;omega
      rw [show (g:Int) - 1=((g - 1:Nat):Int) by omega,w64u (by omega),w32 (by omega)]
      exact⟨⟨by rw [hgq],U2,hseg.trans hseg2,oU2,hrem,hU2⟩,(hon.trans hon2).trans hon3⟩
  have hq0:sv U o m / lv V<=T / v1:=by
    rw [Nat.le_div_iff_mul_le (by omega)]
    exact kn3 hlV hlS hsl bu0
  refine⟨fun vals w1=>∃ (r g:Nat),vals=[.int .u64 r,.int .u64 g]/\g*v1+r=T/\sv U o m / lv V<=g/\g<=1000000001/\r<1000000000/\LimbsT w1 ub U/\Only ub w w1,muG,
    ⟨T % v1,T / v1,rfl,?_,hq0,hgT,?_,hU,(Only.refl _ _).drew.drew⟩,?_⟩
  · rw [Nat.mul_comm];exact Nat.div_add_mod T v1
  · have:=Nat.mod_lt T (show 0<v1 by omega);omega
  rintro n4 n5 w4 ⟨r,g,hv',hg,hqg,hgB,hr,hU4,hon4⟩
  cases hv'
  intro K1 hK1
  have less : ∀ b,b=true->sv U o m / lv V<=g - 1->1<=g->K1 [.bool b] w4.drew:=by
    intro b hb hql hg1
    refine hK1 b ?_
    rw [hb,cond_true]
    have er:u64.wrap ((r:Int)+(v1:Int))=((r+v1:Nat):Int):=by rw [w64ui (by omega) (by omega)];omega
    have eg:u64.wrap ((g:Int) - 1)=((g - 1:Nat):Int):=by rw [w64ui (by omega) (by omega)];omega
    rw [er,eg]
    have hg' : (g - 1)*v1+(r+v1)=T:=by
      rw [<- hg]
      have:(g - 1)*v1+v1=g*v1:=by rw [<- Nat.succ_mul];congr 1;omega
      omega
    refine zAd (fun hbig=>?_) (fun hsm=>?_)
    · refine fin (g - 1) (r+v1) _ hg' hql (by omega) ?_ hU4 hon4.drew
      have h1:(g - 1)*v2<=1000000000*v2:=Nat.mul_le_mul_right _ (by omega)
      have h3:1000000000*1000000000<=(r+v1)*1000000000:=Nat.mul_le_mul_right _ (by omega)
      omega
    · refine⟨⟨r+v1,g - 1,rfl,hg',hql,by omega,by omega,hU4,hon4.drew⟩,?_⟩
      simp only [muG,Int.toNat_natCast];omega
  refine zAd (fun hbig=>?_) (fun hsm=>?_)
  · exact less true rfl (by omega) (by omega)
  · obtain⟨vd2,hvd2,hcv2⟩:=(hv _ hon4.drew).get (i:=k) (by omega)
    have e1:u64.wrap ((g:Int)*u64.wrap (v2:Int))=((g*v2:Nat):Int):=by
      have:g*v2<=1000000000*1000000000:=Nat.mul_le_mul (by omega) (by omega)
      rw [w64u (n:=v2) (by omega),<- Int.natCast_mul,w64u (by omega)]
    have e2:u64.wrap (u64.wrap ((r:Int)*1000000000)+u64.wrap (u0:Int))=((r*1000000000+u0:Nat):Int):=by
      rw [w64ui (n:=(r:Int)*1000000000) (by omega) (by omega),w64u (n:=u0) (by omega),w64ui (by omega) (by omega)];omega
    refine⟨vd2,hvd2,⟨by omega,by omega⟩,(v2:Int),?_,_,rfl,⟨by omega,by omega⟩,(u0:Int),?_,?_⟩
    · rw [hv2];exact hcv2
    · rw [Int.toNat_natCast,Nat.mul_one,zAk,hu0];exact LimbsT.cell (w:=w4.drew) hU4 (by omega)
    · rw [e1,e2]
      cases hd:decide (((g*v2:Nat):Int)>((r*1000000000+u0:Nat):Int)) with
      | true =>
        have h1:=of_decide_eq_true hd
        have h3:=kn1 hg (by omega) hlV hlS hsl
        exact less true rfl (quo_le h3) (by
          rcases Nat.eq_zero_or_pos g with h | h
          · subst h;omega
          · exact h)
      | false =>
        have h1:=of_decide_eq_false hd
        refine hK1 false ?_
        rw [cond_false]
        exact fin g r _ hg hqg (by omega) (by omega) hU4 hon4.drew
end Go.Proofs.Si
namespace Go.Num
theorem scale_top {t d:Nat} (ht:1<=t) (ht2:t<1000000000) (hd:d=1000000000 / (t+1)):500000000<=t*d/\d*(t+1)<=1000000000/\1<=d/\d<1000000000:=by
 have h1:d*(t+1)<=1000000000:=by rw [hd];exact Nat.div_mul_le_self _ _
 have h2:1000000000<(d+1)*(t+1):=by rw [hd,Nat.mul_comm];exact Nat.lt_mul_div_succ _ (by omega)
 have h3:1<=d:=by rw [hd];exact (Nat.le_div_iff_mul_le (by omega)).2 (by omega)
 have h4:d<1000000000:=by rw [hd];exact Nat.div_lt_self (by omega) (by omega)
 refine⟨?_,h1,h3,h4⟩
 by_cases hdt:d<=t
 ·have:(d+1)*(t+1)=t*d+t+d+1:=by rw [Nat.add_mul,Nat.mul_add,Nat.mul_comm d t];omega
  have h5:t+d+1<=t*d+2:=by
   obtain⟨a,rfl⟩ : ∃ a,t=a+1:=⟨t - 1,by omega⟩
   obtain⟨b,rfl⟩ : ∃ b,d=b+1:=⟨d - 1,by omega⟩
   rw [Nat.add_mul,Nat.mul_add]
   generalize a*b=ab at *
   omega
  omega
 ·have:(d+1)*(t+1)=t*d+t+d+1:=by rw [Nat.add_mul,Nat.mul_add,Nat.mul_comm d t];omega
  by_cases ht1:t=1
  ·subst ht1
   omega
  ·have h5:t+d+1<=t*d+2:=by
    obtain⟨a,rfl⟩ : ∃ a,t=a+1:=⟨t - 1,by omega⟩
    obtain⟨b,rfl⟩ : ∃ b,d=b+1:=⟨d - 1,by omega⟩
    rw [Nat.add_mul,Nat.mul_add]
    generalize a*b=ab at *
    omega
   omega
end Go.Num
namespace Go.Proofs.Si
open Go Go.V Go.Proofs Go.RowKit Go.Num Go.Proofs.Tryz
open Go.IntKind (i64 u64 u32 u8)
set_option maxRecDepth 100000
theorem zFU (U:List Nat) (i:Nat):lv (U.take i)=sv U 0 i:=by rw [sv,List.drop_zero]
theorem zFV {U:List Nat} {k n:Nat} (h:U.length<=k+n):lv (U.drop k)=sv U k n:=by rw [sv,List.take_of_length_le];rw [List.length_drop];omega
theorem ld_zero {U:List Nat} {i lb Y:Nat} (hlen:i+(lb+1)<=U.length) (hY:Y<1000000000 ^ lb) (hr:lv (U.drop (i+1))<Y):lv (U.drop (i+(lb+1)))=0:=by
 have h1:=zBY (U.drop (i+1)) lb (by rw [List.length_drop];omega)
 rw [List.drop_drop,show i+1+lb=i+(lb+1) by omega] at h1
 rcases Nat.eq_zero_or_pos (lv (U.drop (i+(lb+1)))) with h | h
 ·exact h
 ·have h2:1000000000 ^ lb*1<=1000000000 ^ lb*lv (U.drop (i+(lb+1))):=Nat.mul_le_mul_left _ h
  rw [Nat.mul_one] at h2
  generalize 1000000000 ^ lb=P at *
  generalize P*lv (U.drop (i+(lb+1)))=Z at *
  omega
theorem ld_S {U:List Nat} {i lb Y:Nat} (hlen:i+(lb+1)<=U.length) (hY:Y<1000000000 ^ lb) (hr:lv (U.drop (i+1))<Y):lv (U.drop i)=sv U i (lb+1):=by
 have h1:=zBY (U.drop i) (lb+1) (by rw [List.length_drop];omega)
 rw [List.drop_drop,ld_zero hlen hY hr,Nat.mul_zero,Nat.add_zero] at h1
 exact h1
theorem ld_lt {U:List Nat} {i lb Y:Nat} (oU:okL U) (hlen:i+(lb+1)<=U.length) (hY:Y<1000000000 ^ lb) (hr:lv (U.drop (i+1))<Y):sv U i (lb+1)<1000000000*Y:=by
 rw [<- ld_S hlen hY hr,zAE (by omega)]
 have:=zAz oU i
 omega
theorem ld_step {U U1 Q:List Nat} {i lb Y X:Nat} (hseg:Seg U U1 i (lb+1)) (hlen:i+(lb+1)<=U.length) (hY:Y<1000000000 ^ lb) (hr:lv (U.drop (i+1))<Y) (hs:sv U1 i (lb+1)=sv U i (lb+1) % Y)
  (hX:lv U+Y*1000000000 ^ (i+1)*lv (Q.drop (i+1))=X) (hQ:i<Q.length) :
  lv (U1.drop i)<Y/\lv U1+Y*1000000000 ^ i*lv ((Q.set i (sv U i (lb+1) / Y)).drop i)=X:=by
 have hY0:0<Y:=Nat.lt_of_le_of_lt (Nat.zero_le _) hr
 have hz1:lv (U1.drop (i+(lb+1)))=0:=by
  rw [<- ld_zero hlen hY hr,zFV (n:=U.length) (by rw [hseg.len];omega),zFV (n:=U.length) (by omega)]
  exact zDG fun j hj=>hseg.out _ (.inr (by omega))
 have h1:=zBY (U1.drop i) (lb+1) (by rw [List.length_drop,hseg.len];omega)
 rw [List.drop_drop,hz1,Nat.mul_zero,Nat.add_zero] at h1
 have h1' : lv (U1.drop i)=sv U i (lb+1) % Y:=h1.trans hs
 refine⟨by rw [h1'];exact Nat.mod_lt _ hY0,?_⟩
 have ht:lv (U1.take i)=lv (U.take i):=by
  rw [zFU,zFU]
  exact zDG fun j hj=>hseg.out _ (.inl (by omega))
 have hU1:=zBY U1 i (by rw [hseg.len];omega)
 have hU:=zBY U i (by omega)
 rw [h1',ht] at hU1
 rw [ld_S hlen hY hr] at hU
 have hQ1:lv ((Q.set i (sv U i (lb+1) / Y)).drop i)=sv U i (lb+1) / Y+1000000000*lv (Q.drop (i+1)):=by
  rw [zAE (by rw [List.length_set];exact hQ),zBU _ _ hQ,if_pos rfl,List.drop_set_of_lt (by omega)]
 have hdm:=Nat.div_add_mod (sv U i (lb+1)) Y
 rw [hQ1,hU1,<- hX,hU]
 generalize hS:sv U i (lb+1)=S at *
 have e1:Y*1000000000 ^ i*(S / Y+1000000000*lv (Q.drop (i+1)))=1000000000 ^ i*(Y*(S / Y))+Y*1000000000 ^ (i+1)*lv (Q.drop (i+1)):=by
  rw [Nat.mul_add,Nat.pow_succ]
  ac_rfl
 rw [e1]
 have e2:1000000000 ^ i*S=1000000000 ^ i*(S % Y)+1000000000 ^ i*(Y*(S / Y)):=by rw [<- Nat.mul_add,Nat.add_comm (S % Y),hdm]
 rw [e2]
 ac_rfl
theorem zCD {w:World} {B n c:Nat} {a:Option Addr} {L:List Nat} (h:w.ownsRow B 209 1 (.slice a L.length c) L.length (L.map u32v)) (hn:0<L.length) : ∃ g,a=some ⟨g,0,none⟩/\(Value.slice a L.length c).ownBlock=some g/\B<=g/\LimbsT w g L:=by
 rcases h.2 with ⟨_,h0⟩ | ⟨g,cap,cur,hv,hb,hg,hnc,hcm,hcs,ht⟩
 ·omega
 ·simp only [Value.slice.injEq,true_and] at hv
  obtain⟨rfl,rfl⟩:=hv
  refine⟨g,rfl,rfl,hb,cur.toList.drop L.length,?_⟩
  rw [Nat.mul_one] at ht
  rw [<- ht,List.take_append_drop,Array.toArray_toList]
  exact hg
theorem own_natK {w:World} {B n c ub:Nat} {a:Option Addr} {L:List Nat} (h:w.ownsRow B 209 1 (.slice a L.length c) L.length (L.map u32v)) (hne:(Value.slice a L.length c).ownBlock≠some ub):NatK w ub a L:=by
 intro w' ho
 have:w'.ownsRow B 209 1 (.slice a L.length c) L.length (L.map u32v):=by
  refine⟨h.1,?_⟩
  rcases h.2 with h2 | ⟨g,cap,cur,hv,hb,hg,r⟩
  ·exact .inl h2
  ·refine .inr ⟨g,cap,cur,hv,hb,ho.keep g _ (fun e=>hne ?_) hg,r⟩
   rw [hv,<- e];rfl
 exact zBr this
def muS (N:Nat):List Value->World->Nat
 | .slice _ n _::_,_=>N - n
 | _,_=>0
set_option maxHeartbeats 4000000 in
theorem c219 {a b:Option Addr} {ca cb:Nat} {A B:List Nat} (w:World) (ha:NatS w a A) (hb:NatS w b B) (oa:okL A) (ob:okL B) (na:normL A) (nb:normL B) (hca:A.length<=ca) (hB0:0<lv B) (hl:A.length<=1099511627775/\B.length<=1099511627775) :
  Ret prog 219 #[.slice a A.length ca,.slice b B.length cb] w fun v w'=>(∃ q r,v = .tuple #[q,r]/\NatV w' q (lv A / lv B)/\NatV w' r (lv A % lv B))/\Ext w w':=by
 have hBl:0<B.length:=by
  rcases Nat.eq_zero_or_pos B.length with h | h
  ·rw [List.eq_nil_of_length_eq_zero h] at hB0;exact absurd hB0 (by decide)
  ·exact h
 refine run219 _ _ _ _ _ _ _ _ (Called.of (c223 w ha hb oa ob na nb ⟨by omega,by omega⟩) ?_)
 rintro v w1 ⟨⟨z,rfl,hz⟩,he1⟩
 refine⟨z,rfl,zAd (fun hneg=>?_) (fun hpos=>?_)⟩
 ·have hlt:=hz.1 hneg
  refine⟨⟨_,_,rfl,⟨none,0,[],rfl,Nat.le_refl _,.inl rfl,zBQ,by simp [normL],?_⟩,⟨a,ca,A,rfl,hca,ha.ext he1,oa,na,(Nat.mod_eq_of_lt hlt).symm⟩⟩,he1⟩
  rw [Nat.div_eq_of_lt hlt];rfl
 have hle:lv B<=lv A:=by
  have : ¬ lv A<lv B:=fun h=>hpos (hz.2 h)
  omega
 have hbl:=zCv oa nb hle
 have ha1:=ha.ext he1
 have hb1:=hb.ext he1
 refine zAa (fun h1=>?_) (fun h1=>?_)
 ·have hl1:B.length=1:=by have:=of_decide_eq_true (p:=(B.length:Int)=1) (by simpa using h1);omega
  obtain⟨bd,hbd,hcell⟩:=hb1.get (i:=0) (by omega)
  have hbd0:bd.add (0*1)=bd:=by
   rw [Nat.mul_one]
   rcases hb1 with h0 | ⟨ad',h1,h2,_⟩
   ·rw [List.map_eq_nil_iff] at h0;rw [h0] at hl1;cases hl1
   ·rw [hbd] at h1;cases h1
    cases bd with
    | mk b o s=>cases h2;rw [zAk];rfl
  rw [hbd0] at hcell
  have hBv:lv B=B.getD 0 0:=by
   match B,hl1 with
   | [x],_=>exact lv_one x
  have hx:=zAz ob 0
  refine⟨bd,hbd,⟨by omega,by omega⟩,_,hcell,Called.of (c250 w1 ha1 oa (b:=B.getD 0 0) (by omega) hx (by omega)) ?_⟩
  rintro v w2 ⟨⟨q,r,rfl,hq,hr⟩,he2⟩
  rw [<- hBv] at hq hr
  have hq':=hq
  have hr':=hr
  obtain⟨qa,qc,Q,rfl,_⟩:=hq
  obtain⟨ra,rc,R,rfl,_⟩:=hr
  exact⟨_,_,_,_,_,_,rfl,⟨_,_,rfl,hq',hr'⟩,he1.trans he2⟩
 ·have hl2:2<=B.length:=by
   rcases Nat.lt_or_ge B.length 2 with h | h
   ·have:B.length=1:=by omega
    rw [this] at h1;exact absurd h1 (by decide)
   ·exact h
  obtain⟨bd,hbd,hcell⟩:=hb1.get (i:=B.length - 1) (by omega)
  obtain⟨t,ht⟩ : ∃ t,t=B.getD (B.length - 1) 0:=⟨_,rfl⟩
  have ht0:=zFr nb hBl
  have htB:=zAz ob (B.length - 1)
  rw [<- ht] at ht0 htB hcell
  obtain⟨d,hd⟩ : ∃ d,d=1000000000 / (t+1):=⟨_,rfl⟩
  obtain⟨hd1,hd2,hd3,hd4⟩:=scale_top (by omega) htB hd
  have ew:i64.wrap ((B.length:Int) - 1)=((B.length - 1:Nat):Int):=wrap_pred (by omega) hBl
  have et:u64.wrap (u64.wrap (t:Int)+1)=((t+1:Nat):Int):=by rw [w64u (n:=t) (by omega),w64ui (by omega) (by omega)];omega
  have etz:decide (((t+1:Nat):Int)=0)=false:=decide_eq_false (by omega)
  have ed:u32.wrap (u64.wrap (Int.tdiv 1000000000 ((t+1:Nat):Int)))=(d:Int):=by
   rw [show Int.tdiv 1000000000 ((t+1:Nat):Int)=((1000000000 / (t+1):Nat):Int) from rfl,<- hd,w64u (by omega),w32 (by omega)]
  rw [ew]
  refine⟨bd,hbd,⟨by omega,by omega⟩,(t:Int),hcell,?_⟩
  rw [et,etz,cond_false,ed]
  have hD1:LimbsIn (w1.alloc (.cells #[.int .u32 (d:Int)] 209)) w1.heap.size [d]:=heap_alloc_new w1 _
  have heD:=(Ext.refl w1).alloc (.cells #[.int .u32 (d:Int)] 209)
  have od:okL [d]:=by rw [zBX];exact⟨hd4,zBQ⟩
  have hDs : ∀ w',Ext (w1.alloc (.cells #[.int .u32 (d:Int)] 209)) w'->NatS w' (some ⟨w1.heap.size,0,none⟩) [d]:=fun w' h'=>(zBr ((hD1.ext h').own (B:=0) (Nat.zero_le _) (by unfold maxLen;simp)))
  have c154a:=c220 (ca:=ca) (cb:=1) (w1.alloc (.cells #[.int .u32 (d:Int)] 209)) (ha1.ext heD) (hDs _ (Ext.refl _)) oa od ⟨by omega,by simp⟩
  simp only [List.length_singleton] at c154a
  refine Called.of c154a ?_
  rintro v w3 ⟨hu,⟨up,un,uc,rfl,hun⟩,he3⟩
  obtain⟨ua,uc',U0,hv',hou,oU0,nU0,hlU0⟩:=hu
  simp only [Value.slice.injEq] at hv'
  obtain⟨rfl,rfl,rfl⟩:=hv'
  have c154b:=c220 (ca:=cb) (cb:=1) w3 ((hb1.ext heD).ext he3) (hDs _ he3) ob od ⟨by omega,by simp⟩
  simp only [List.length_singleton] at c154b
  refine⟨_,_,_,rfl,Called.of c154b ?_⟩
  rintro v w4 ⟨hv,⟨vp,vn,vc,rfl,hvn⟩,he4⟩
  obtain⟨va,vc',V,hv',hov,oV,nV,hlV⟩:=hv
  simp only [Value.slice.injEq] at hv'
  obtain⟨rfl,rfl,rfl⟩:=hv'
  refine⟨_,_,_,rfl,?_⟩
  rw [lv_one] at hlU0 hlV
  have hBs:lv B=t*1000000000 ^ (B.length - 1)+lv (B.take (B.length - 1)):=by
   have:lv B=lv (B.take (B.length - 1+1)):=by rw [List.take_of_length_le (by omega)]
   rw [this,zCG (by omega),<- ht,Nat.mul_comm t];omega
  have hBt:lv (B.take (B.length - 1))<1000000000 ^ (B.length - 1):=by
   have:=lv_lt (zBK ob (B.length - 1))
   rwa [List.length_take,Nat.min_eq_left (by omega)] at this
  obtain⟨P,hP⟩ : ∃ P,P=1000000000 ^ (B.length - 1):=⟨_,rfl⟩
  have hPpos:0<P:=by rw [hP];exact Nat.pow_pos (by omega)
  rw [<- hP] at hBs hBt
  have hVup:lv V<=1000000000*P:=by
   have h1:lv B<=(t+1)*P:=by rw [hBs,Nat.succ_mul];exact Nat.add_le_add_left (Nat.le_of_lt hBt) _
   rw [hlV]
   refine Nat.le_trans (Nat.mul_le_mul_right _ h1) ?_
   rw [Nat.mul_right_comm]
   refine Nat.mul_le_mul_right _ ?_
   rw [Nat.mul_comm];exact hd2
  have hVlow:500000000*P<=lv V:=by
   rw [hlV,hBs,Nat.add_mul]
   refine Nat.le_trans (Nat.mul_le_mul_right _ hd1) ?_
   rw [Nat.mul_right_comm]
   exact Nat.le_add_right _ _
  have hVlt:lv V<1000000000*P:=by
   have h1:lv B<(t+1)*P:=by rw [hBs,Nat.succ_mul];exact Nat.add_lt_add_left hBt _
   rw [hlV]
   refine Nat.lt_of_lt_of_le (Nat.mul_lt_mul_of_pos_right h1 (by omega)) ?_
   rw [Nat.mul_right_comm]
   refine Nat.mul_le_mul_right _ ?_
   rw [Nat.mul_comm];exact hd2
  have hPB:1000000000 ^ B.length=1000000000*P:=by
   rw [hP,Nat.mul_comm,<- Nat.pow_succ];congr 1;omega
  have hVlen:V.length=B.length:=by
   apply Nat.le_antisymm
   ·have h0:0<V.length:=by
     rcases Nat.eq_zero_or_pos V.length with h | h
     ·rw [List.eq_nil_of_length_eq_zero h,zCH] at hVlow;omega
     ·exact h
    have h1:=zEs nV h0
    rw [<- hPB] at hVlt
    have:=(Nat.pow_lt_pow_iff_right (by omega:1<1000000000)).1 (Nat.lt_of_le_of_lt h1 hVlt)
    omega
   ·have h1:=lv_lt oV
    have h2:1000000000 ^ (B.length - 1)<1000000000 ^ V.length:=by rw [<- hP];omega
    have:=(Nat.pow_lt_pow_iff_right (by omega:1<1000000000)).1 h2
    omega
  have hVtop:500000000<=V.getD (V.length - 1) 0:=by
   have h1:lv V=lv (V.take (V.length - 1+1)):=by rw [List.take_of_length_le (by omega)]
   rw [zCG (by omega),hVlen,<- hP] at h1
   have h2:=lv_lt (zBK oV (B.length - 1))
   rw [List.length_take,Nat.min_eq_left (by omega),<- hP] at h2
   rw [hVlen]
   rcases Nat.lt_or_ge (V.getD (B.length - 1) 0) 500000000 with h | h
   ·have h3:P*V.getD (B.length - 1) 0<=P*499999999:=Nat.mul_le_mul_left _ (by omega)
    omega
   ·exact h
  have hVlb:lv V<1000000000 ^ V.length:=lv_lt oV
  have hX0:lv U0=lv A*d:=hlU0
  have hVB:lv V=lv B*d:=hlV
  have hub:=own_lt hou
  have hne0:(Value.slice vp V.length vc).ownBlock≠(Value.slice up U0.length uc).ownBlock:=by
   obtain⟨vg,_,hvg,hvge,_⟩:=zCD (n:=0) hov (by omega)
   rw [hvg]
   intro e
   have:=(hub vg e.symm).2
   omega
  refine⟨fun vals w5=>∃ (p:Option Addr) (c:Nat) (L:List Nat),vals=[.slice p L.length c]/\okL L/\lv L=lv A*d/\L.length<=A.length+1/\w5.ownsRow (w1.heap.size+1) 209 1 (.slice p L.length c) L.length (L.map u32v) /\
    w5.ownsRow w3.heap.size 209 1 (.slice vp V.length vc) V.length (V.map u32v)/\(Value.slice vp V.length vc).ownBlock≠(Value.slice p L.length c).ownBlock/\Ext (w1.alloc (.cells #[.int .u32 (d:Int)] 209)) w5,muS (A.length+1),⟨up,uc,U0,rfl,oU0,hX0,hun,?_,hov,hne0,he3.trans he4⟩,?_⟩
  ·have:=zA8 hou he4
   rw [size_alloc] at this
   exact this
  rintro p4 k8 k9 w5 ⟨p,c,L,hv',oL,hlL,hLl,hoL,hov5,hne5,he5⟩
  cases hv'
  have hsz5:w1.heap.size+1<=w5.heap.size:=by have:=he5.size;rw [size_alloc] at this;exact this
  refine zAd (fun hshort=>?_) (fun hlong=>?_)
  ·refine⟨_,_,_,AppOk.one (L:=[u32v 0]) hoL rfl rfl (by unfold maxLen;omega) (by omega) hsz5,?_⟩
   intro p5 k11 w6 r
   have hx:=(Ext.refl w5).alloc (.cells #[u32v 0] 209)
   have hb6:Ext (w1.alloc (.cells #[.int .u32 (d:Int)] 209)) w6:=r.below (zA8 hoL hx) (he5.trans hx) (by rw [size_alloc,size_alloc];omega) (by rw [size_alloc];exact Nat.le_refl _)
   have e6:(L++[0]).length=L.length+1:=by simp
   refine⟨⟨p5,k11,L++[0],by rw [e6],?_,?_,by omega,?_,?_,?_,hb6⟩,by show A.length+1 - (L.length+1)<A.length+1 - L.length;omega⟩
   ·rw [zFq];exact⟨oL,by rw [zBX];exact⟨by omega,zBQ⟩⟩
   ·rw [zD4,Nat.mul_zero,Nat.add_zero,hlL]
   ·rw [e6,List.map_append];exact r.own
   ·exact own_grown r.grown (zA8 hov5 hx) fun k hk e=>hne5 (hk.trans e.symm)
   ·rw [e6]
    rcases r.blk with h | h
    ·rw [h];exact hne5
    ·intro e
     obtain⟨vg,_,hvg,_,_⟩:=zCD (n:=0) hov5 (by omega)
     have h3:=(own_lt hov5 vg hvg).2
     have h4:=h vg (by rw [<- e,hvg])
     rw [size_alloc] at h4
     omega
  ·have hLn:L.length=A.length+1:=by omega
   obtain⟨ub,rfl,hubl,hubB,hUT⟩:=zCD (n:=0) hoL (by omega)
   have hcap:=zFp hoL
   obtain⟨vb,rfl,hvbl,hvbB,hVT⟩:=zCD (n:=0) hov5 (by omega)
   have hvu:vb≠ub:=by intro e;rw [hubl,hvbl,e] at hne5;exact hne5 rfl
   obtain⟨N,hN⟩ : ∃ N,N=A.length+1 - B.length:=⟨_,rfl⟩
   have ewN:i64.wrap ((L.length:Int) - (V.length:Int))=(N:Int):=by rw [zAf (by omega) (by omega)];omega
   have hN1:1<=N:=by omega
   have ewN1:i64.wrap ((N:Int) - 1)=(N:Int) - 1:=by rw [zAf (by omega) (by omega)]
   simp only [ewN,Int.toNat_natCast,zFg,zEu,ewN1]
   have hub5:ub<w5.heap.size:=(own_lt hoL ub hubl).2
   have hvb5:vb<w5.heap.size:=(own_lt hov5 vb hvbl).2
   have heQ:=(Ext.refl w5).alloc (.cells ((List.replicate N 0).map u32v).toArray 209)
   have hQ0:LimbsIn (w5.alloc (.cells ((List.replicate N 0).map u32v).toArray 209)) w5.heap.size (List.replicate N 0):=heap_alloc_new w5 _
   have hUT0:LimbsT (w5.alloc (.cells ((List.replicate N 0).map u32v).toArray 209)) ub L:=by
    obtain⟨tl,h⟩:=hUT
    exact⟨tl,heQ.blk h⟩
   have hsub:L.length - V.length=N:=by omega
   refine⟨⟨by omega,by omega,by omega,by omega⟩,fun vals w7=>∃ (j:Nat) (U Q:List Nat),vals=[.int .i64 ((j:Int) - 1)]/\j<=N/\U.length=L.length/\okL U/\Q.length=N/\okL Q/\lv (U.drop j)<lv V /\
     lv U+lv V*1000000000 ^ j*lv (Q.drop j)=lv A*d/\LimbsT w7 ub U/\LimbsIn w7 w5.heap.size Q/\w7.ownsRow w3.heap.size 209 1 (.slice (some ⟨vb,0,none⟩) V.length vc) V.length (V.map u32v) /\
     Ext (w1.alloc (.cells #[.int .u32 (d:Int)] 209)) w7,muD,
    ⟨N,L,_,rfl,Nat.le_refl _,rfl,oL,List.length_replicate,zG2 _,?_,?_,hUT0,hQ0,zA8 hov5 heQ,he5.trans heQ⟩,?_⟩
   ·have h1:=zBY L N (by omega)
    have h2:1000000000 ^ N*lv (L.drop N)<=lv A*d:=by rw [<- hlL];omega
    have h3:lv A*d<1000000000 ^ N*lv V:=by
     have h4:=lv_lt oa
     have h5:1000000000 ^ A.length=1000000000 ^ N*P:=by rw [hP,<- Nat.pow_add];congr 1;omega
     rw [h5] at h4
     have h6:1000000000 ^ N*P*d<=1000000000 ^ N*lv V:=by
      rw [Nat.mul_assoc]
      refine Nat.mul_le_mul_left _ ?_
      rw [hVB]
      refine Nat.mul_le_mul_right _ ?_
      rw [hBs]
      refine Nat.le_trans ?_ (Nat.le_add_right _ _)
      exact Nat.le_mul_of_pos_left _ (by omega)
     exact Nat.lt_of_lt_of_le (Nat.mul_lt_mul_of_pos_right h4 (by omega)) h6
    exact Nat.lt_of_mul_lt_mul_left (Nat.lt_of_le_of_lt h2 h3)
   ·rw [List.drop_of_length_le (by simp),zCH,Nat.mul_zero,Nat.add_zero,hlL]
   rintro n3 w7 ⟨j,U,Q,hv',hj,hUl,oU,hQl,oQ,hrem,hval,hUT7,hQ7,hov7,he7⟩
   cases hv'
   refine zAd (fun hge=>?_) (fun hlt=>?_)
   ·obtain⟨i,rfl⟩ : ∃ i,j=i+1:=⟨j - 1,by omega⟩
    have e0:((i+1:Nat):Int) - 1=(i:Int):=by omega
    have e1:i64.wrap (i64.wrap ((i:Int)+(V.length:Int))+1)=((i+V.length+1:Nat):Int):=by
     rw [zAf (n:=(i:Int)+(V.length:Int)) (by omega) (by omega),zAf (by omega) (by omega)];omega
    have e2:subA (some ⟨ub,0,none⟩) i k9 1=some ⟨ub,i,none⟩:=by
     unfold subA
     rw [if_neg (by omega),Option.map_some,zAk,Nat.mul_one,Nat.zero_add]
    simp only [e0,e1,Int.toNat_natCast,e2]
    refine⟨⟨by omega,by omega,by omega⟩,?_⟩
    rw [show i+V.length+1 - i=V.length+1 by omega]
    have hnk:=own_natK (n:=0) (ub:=ub) hov7 (by rw [hvbl];intro e;cases e;exact hvu rfl)
    have hlen7:i+(V.length+1)<=U.length:=by omega
    refine Called.of (c251 w7 hUT7 oU hlen7 rfl hnk oV (by omega) (by omega) hVtop (ld_lt oU hlen7 hVlb hrem)) ?_
    rintro v w8 ⟨⟨rfl,U1,hseg,oU1,hs,hUT8⟩,hon⟩
    refine⟨_,rfl,_,rfl,⟨by omega,by omega⟩,?_⟩
    obtain⟨hr1,hv1⟩:=ld_step hseg hlen7 hVlb hrem hs hval (by omega)
    have hqb:w5.heap.size≠ub:=by omega
    have hQ8:LimbsIn w8 w5.heap.size Q:=hon.keep _ _ hqb hQ7
    have hqlt:sv U i (V.length+1) / lv V<1000000000:=(Nat.div_lt_iff_lt_mul (by omega)).2 (ld_lt oU hlen7 hVlb hrem)
    have hov8:w8.ownsRow w3.heap.size 209 1 (.slice (some ⟨vb,0,none⟩) V.length vc) V.length (V.map u32v):=zDf hov7 fun k hk=>by
     rw [hvbl] at hk;cases hk
     obtain⟨vg,h1,_,_,tl,h2⟩:=zCD (n:=0) hov7 (by omega)
     cases h1
     rw [h2];exact hon.keep _ _ hvu h2
    have he8:Ext (w1.alloc (.cells #[.int .u32 (d:Int)] 209)) w8:=Below.trans he7 (Below.mono hon.below (by rw [size_alloc];exact hubB))
    rw [Nat.mul_one,zAk,Nat.zero_add,zAf (by omega) (by omega)]
    refine⟨⟨⟨_,hQ8.cell (by omega)⟩,zBd hQ8⟩,⟨i,U1,Q.set i (sv U i (V.length+1) / lv V),rfl,by omega,by rw [hseg.len,hUl],oU1,by rw [List.length_set,hQl],zEr oQ _ hqlt,hr1,hv1,?_,hQ8.set _ _,?_,?_⟩,?_⟩
    ·obtain⟨tl,h⟩:=hUT8
     exact⟨tl,(zAs (a:=⟨w5.heap.size,i,none⟩) (fun e=>hqb e.symm)).trans h⟩
    ·exact zBC hov8 (by rw [hvbl];intro e;exact absurd (Option.some.inj e) (by show vb≠w5.heap.size;omega)) _
    ·exact Below.setCell (p:=⟨w5.heap.size,i,none⟩) he8 (by rw [size_alloc];exact hsz5) _
    ·simp only [muD];omega
   ·have hj0:j=0:=by omega
    subst hj0
    rw [List.drop_zero] at hrem hval
    rw [Nat.pow_zero,Nat.mul_one] at hval
    have hd0:0<d:=hd3
    have hVpos:0<lv V:=by omega
    have hqv:lv Q=lv A / lv B:=by
     have h1:(lv A*d) / lv V=lv Q:=by rw [<- hval,Nat.add_comm,Nat.mul_add_div hVpos,Nat.div_eq_of_lt hrem,Nat.add_zero]
     rw [<- h1,hVB,Nat.mul_div_mul_right _ _ hd0]
    have hrv:lv U=lv A % lv B*d:=by
     have h1:(lv A*d) % lv V=lv U:=by rw [<- hval,Nat.add_comm,Nat.mul_add_mod,Nat.mod_eq_of_lt hrem]
     rw [<- h1,hVB,Nat.mul_mod_mul_right]
    intro K hK
    have hD7:LimbsIn w7.drew w1.heap.size [d]:=(hD1.ext he7).ext ((Ext.refl w7).drew)
    have hUTd:LimbsT w7.drew ub U:=hUT7
    refine⟨_,rfl,⟨by omega,by omega⟩,(d:Int),hD7.cell (i:=0) (by simp),?_⟩
    have e9:(Value.slice (some ⟨ub,0,none⟩) L.length k9) = .slice (some ⟨ub,0,none⟩) U.length k9:=by rw [hUl]
    rw [e9]
    refine Called.of (c218 (by omega) (by omega) w7.drew hUTd.nat) ?_
    rintro v w9 ⟨rfl,rfl⟩
    refine⟨_,_,_,rfl,Below.refl _ _,?_⟩
    have htl:(U.take (trimN U U.length)).length=trimN U U.length:=by rw [List.length_take,Nat.min_eq_left (zDE _ _)]
    have hUtr:NatS w7.drew (some ⟨ub,0,none⟩) (U.take (trimN U U.length)):=by
     refine .inr ⟨_,rfl,rfl,fun k v hk=>?_⟩
     rw [List.map_take] at hk
     have hk2:(U.map u32v)[k]? = some v:=by
      rw [List.getElem?_take] at hk
      split at hk
      ·exact hk
      ·cases hk
     have hkl:k<U.length:=by have:=(List.getElem?_eq_some_iff.1 hk2).1;simpa using this
     rw [zAk,Nat.zero_add,hUTd.cell hkl]
     rw [List.getElem?_map,List.getElem?_eq_getElem hkl] at hk2
     rw [zCM hkl];exact hk2
    have c250':=c250 (ca:=k9) w7.drew hUtr (zBK oU _) hd3 hd4 (by rw [htl];have:=zDE U U.length;omega)
    rw [htl,zGu,List.take_length,hrv,Nat.mul_div_cancel _ hd0] at c250'
    refine Called.of c250' ?_
    rintro v w10 ⟨⟨q1,r1,rfl,hq1,hr1⟩,he10⟩
    have hq1':=hq1
    obtain⟨qa,qc,Q1,rfl,_⟩:=hq1
    obtain⟨ra,rc,R1,rfl,_⟩:=hr1
    refine⟨_,_,_,_,_,_,rfl,hK _ _ _ _ ?_⟩
    have hQ10:LimbsIn w10 w5.heap.size Q:=(LimbsIn.ext (w:=w7.drew) hQ7 he10)
    have hoQ:=hQ10.own (B:=0) (Nat.zero_le _) (by unfold maxLen;omega)
    have e10:(Value.slice (some ⟨w5.heap.size,0,none⟩) N N) = .slice (some ⟨w5.heap.size,0,none⟩) Q.length Q.length:=by rw [hQl]
    rw [e10]
    refine Called.of (c218 (Nat.le_refl _) (by omega) w10 (zBr hoQ)) ?_
    rintro v w11 ⟨rfl,rfl⟩
    refine⟨_,_,_,rfl,⟨_,_,rfl,?_,hq1'⟩,?_⟩
    ·rw [<- hqv];exact (zCt hoQ oQ).natV
    ·exact (he1.trans heD).trans ((he7.drew).trans he10)
end Go.Proofs.Si
namespace Go.Proofs
open Go Go.Proofs.Tryz
open Go.IntKind (i64 u64 u32 u8)
def Tryz.lays166h_ren:Go.Shelf.Ren:=⟨fun | 166=>236 | 240=>258 | 276=>266 | n=>n,fun | 0=>0 | 3=>3 | 4=>4 | 5=>5 | 9=>9 | 20=>20 | 37=>133 | 70=>255 | 72=>257 | 75=>172 | 80=>106 | 164=>289 | n=>n,fun | n=>n⟩
theorem Tryz.lays166h:Go.Proofs.Lays.n166 prog Tryz.lays166h_ren:={
 mixed:=by kernel_rfl
 f166:=func236.trans (congrArg some (by kernel_rfl))
 f240:=func258.trans (congrArg some (by kernel_rfl))
 f276:=func266.trans (congrArg some (by kernel_rfl))
 t0:=underlying0
 a0:=isAgg0
 z0:=sizeOf0
 v0:=zeroValue0
 t3:=underlying3
 a3:=isAgg3
 z3:=sizeOf3
 v3:=zeroValue3
 t4:=underlying4
 a4:=isAgg4
 z4:=sizeOf4
 v4:=zeroValue4
 t9:=underlying9
 a9:=isAgg9
 z9:=sizeOf9
 v9:=zeroValue9
 t20:=underlying20
 a20:=isAgg20
 z20:=sizeOf20
 v20:=zeroValue20
 t37:=underlying133
 a37:=isAgg133
 z37:=sizeOf133
 v37:=zeroValue133
 t70:=underlying255
 a70:=isAgg255
 z70:=sizeOf255
 v70:=zeroValue255
 t72:=underlying257
 a72:=isAgg257
 z72:=sizeOf257
 v72:=zeroValue257
 t75:=underlying172
 a75:=isAgg172
 z75:=sizeOf172
 v75:=zeroValue172
 t164:=underlying289
 a164:=isAgg289
 z164:=sizeOf289
 v164:=zeroValue289 }
theorem Tryz.Builder_Extra_166h:Builder.Extra prog Tryz.lays166h_ren:={
 sizeBuilder:=by kernel_rfl
 liesBuilder:=by kernel_rfl
 t5:=underlying5
 a5:=isAgg5
 z5:=sizeOf5
 v5:=zeroValue5
 infoByte:=by kernel_rfl
 cellsByte:=by kernel_rfl
 sizeByte:=by kernel_rfl
 neB5:=by decide }
end Go.Proofs
namespace Go.Proofs.Si
open Go Go.V Go.Proofs Go.RowKit Go.Num Go.Lib Go.Sort Go.Proofs.Tryz
open Go.IntKind (i64 u64 u32 u8)
set_option maxRecDepth 100000
def vc237 (i:Int) (base:Int) (w:World) (R:Value->World->Prop):Prop :=
Called prog 259 #[Value.int u64 i,Value.int i64 base] w fun (v:Value) (w1:World) =>
 ∃ (s:ByteArray),v=Value.string s/\R (Value.string s) w1
theorem run237 (i:Int) (base:Int) (w:World) (R:Value->World->Prop) (h:vc237 i base w R):Ret prog 237 #[.int .u64 i,.int .i64 base] w R :=
 zAc zAj (args:=[.int .u64 i,.int .i64 base]) func237 (Eq.mp (by kernel_rfl:vc237 i base w R=vfn siE f237 [.int .u64 i,.int .i64 base] w R) h)
theorem zC2 (n:Nat):Lib.decDigits n=dec n:=by
 induction n using Nat.strongRecOn with
 | ind n ih =>
  by_cases h:n<10
  ·rw [Lib.decDigits,dif_pos h,zA5 h];rfl
  ·rw [Lib.decDigits,dif_neg h,zBL h,ih _ (by omega)];rfl
abbrev P10 (w : World) : Prop := Lib.TabIs prog w "internal/strconv.uint64pow10" .u64 Lib.pow10Tab
theorem var_ext {w w' : World} (he:Ext w w') {P:Program} {name:String} {c:Array Value} (h:w.var? P name=some c):w'.var? P name=some c:=by
 unfold World.var? at h ⊢
 cases hg:P.globalNamed name with
 | none=>rw [hg] at h;cases h
 | some g =>
  rw [hg] at h
  simp only [Option.bind_some] at h ⊢
  cases ho:w.heap[g]? with
  | none=>rw [ho] at h;cases h
  | some o=>rw [ho] at h;rw [he.blk ho];exact h
theorem P10.ext {w w' : World} (h:P10 w) (he:Ext w w'):P10 w':=var_ext he h
theorem size_grow (w:World) (os:Array Obj):(grow w os).heap.size=w.heap.size+os.size:=by simp [grow]
theorem grow_ext (w:World) (k:Nat) (os:Array Obj):Ext w (grow (w.drewN k) os) :=
 ⟨rfl,rfl,rfl,by rw [size_grow];exact Nat.le_add_right _ _,fun i hi=>by
  show (w.heap++os)[i]? = _
  exact Array.getElem?_append_left hi⟩
set_option maxHeartbeats 6400000 in
theorem c259 (u:Nat) (hu64:u<18446744073709551616) (w:World) (htab:P10 w) :
  Calls prog 259 #[.int .u64 u,.int .i64 10] w fun e w'=>e = .returned (.string ⟨(Lib.decDigits u).toArray⟩)/\∃ k os,w' = grow (w.drewN k) os:=by
 have mixed:prog.follows .mixedOrders=true:=by kernel_rfl
 have t3:=underlying3;have a3:=isAgg3;have z3:=sizeOf3;have v3:=zeroValue3
 have t4:=underlying4;have a4:=isAgg4;have z4:=sizeOf4;have v4:=zeroValue4
 have t5:=underlying5;have a5:=isAgg5;have z5:=sizeOf5;have v5:=zeroValue5
 have t9:=underlying9;have a9:=isAgg9;have z9:=sizeOf9;have v9:=zeroValue9
 have t154:=underlying201;have a154:=isAgg201;have z154:=sizeOf201;have v154:=zeroValue201
 have t164:=underlying218;have a164:=isAgg218;have z164:=sizeOf218;have v164:=zeroValue218
 have t120:=underlying133;have a120:=isAgg133;have z120:=sizeOf133;have v120:=zeroValue133
 by_cases hs:u<100
 ·have e1:i64.wrap (u:Int)=(u:Int):=zAf (by omega) (by omega)
  go_enter func259,ntmps259
  go_wp2_with (go_at_call 202;refine (Tryz.internal_strconv_small u hs _).mono ?_;rintro e w' ⟨rfl,rfl⟩)
  go_ret
  exact⟨rfl,0,#[],by simp [World.drewN_zero]⟩
 ·have hu1:1<=u:=by omega
  have hnd20:Lib.nDigits u<=20:=by have:=Lib.numDigits_eq u hu1 hu64;split at this <;> omega
  have hal:prog.arrayLen 218=24:=by kernel_rfl
  have hsl1 : ∀ W,(Instr.sliceAt 218 (.pointer (some ⟨w.heap.size,0,none⟩)) none (some (.int .i64 (Lib.nDigits u:Int))) none).run prog W = .ok (.slice (some ⟨w.heap.size,0,none⟩) (Lib.nDigits u) 24) W:=fun W=>by
   rw [run_sliceAt_array_h W 218 ⟨w.heap.size,0,none⟩ (by simp [Program.arrayLen,Program.elem,t164]) .i64 (Lib.nDigits u:Int) (by omega) (by rw [hal];omega)]
   go_simp
  have hH0:Holds (fun (b:UInt8)=>Value.int .u8 (b.toNat:Int)) (w.alloc (.cells Lib.zeros24 218)) w.heap.size 0 (Array.replicate (Lib.nDigits u) (0:UInt8)):=fun j hj=>by
   have hj' : j<Lib.nDigits u:=by simpa using hj
   refine⟨?_,World.frozen?_alloc_new _ _ _ _⟩
   rw [World.cell?_alloc_new,Lib.zeros24_at _ (by omega),getElem!_pos _ j hj]
   simp
  have hfmt:=Tryz.internal_strconv_formatBase10 w.heap.size 0 24 u (Array.replicate (Lib.nDigits u) 0) (w.alloc (.cells Lib.zeros24 218)) hH0 (by rw [Array.size_replicate];exact Lib.lt_pow_nDigits u) hu64 (by rw [Array.size_replicate];omega)
  rw [Array.size_replicate] at hfmt
  have HH0:=Lib.hid hH0
  clear hH0 hal
  go_enter func259,ntmps259
  go_wp2_with (first
   | (go_at_call 203;refine (Tryz.internal_strconv_numDigits u hu1 hu64 _ (Lib.tabIs_alloc htab _)).mono ?_;rintro e w' ⟨rfl,rfl⟩))
  go_at_call 204
  refine hfmt.mono ?_
  rintro e w' ⟨rfl,k,v',dk,rfl,hF⟩
  have hcv:(convert 133 9 (.slice (some ⟨w.heap.size,0,none⟩) (Lib.nDigits u) 24)).run prog ((putRow (fun (b:UInt8)=>Value.int .u8 (b.toNat:Int)) (w.alloc (.cells Lib.zeros24 218)) w.heap.size 0 dk).drewN k) = .ok (.string ⟨(Lib.decDigits u).toArray⟩) ((putRow (fun (b:UInt8)=>Value.int .u8 (b.toNat:Int)) (w.alloc (.cells Lib.zeros24 218)) w.heap.size 0 dk).drewN k):=by
   have h:=run_convert_bytes_back (P:=prog) ((putRow (fun (b:UInt8)=>Value.int .u8 (b.toNat:Int)) (w.alloc (.cells Lib.zeros24 218)) w.heap.size 0 dk).drewN k) 133 9 5 ⟨w.heap.size,0,none⟩ 24 (Lib.decDigits u) t120 t5 t9 (fun j hj=>by
    rw [Lib.row_is_numeral hF j hj,Lib.add_plain,World.cell?_drewN]
    exact cell?_putRow (fun (b:UInt8)=>Value.int .u8 (b.toNat:Int)) _ w.heap.size 0 _ dk HH0.out (by rw [hF.size,Array.size_replicate]) j (by rw [hF.size];rw [Lib.decDigits_length] at hj;exact hj))
   rw [Lib.decDigits_length] at h
   exact h
  go_wp2
  go_ret
  rw [alloc_eq_grow]
  obtain⟨os',_,e⟩:=putRow_grow_new (fun (b:UInt8)=>Value.int .u8 (b.toNat:Int)) w #[.cells Lib.zeros24 218] w.heap.size 0 dk (Nat.le_refl _)
  refine⟨rfl,k,os',by rw [e];rfl⟩
theorem c237 (u:Nat) (hu64:u<18446744073709551616) (w:World) (htab:P10 w) :
  Ret prog 237 #[.int .u64 u,.int .i64 10] w fun v w'=>(∃ s,v = .string s/\bs s=dec u)/\Ext w w':=by
 refine run237 _ _ _ _ (Called.of (R:=fun v w'=>(∃ s,v = .string s/\bs s=dec u)/\Ext w w') (Calls.mono (c259 u hu64 w htab) ?_) ?_)
 ·rintro e w' ⟨rfl,k,os,rfl⟩
  exact⟨_,rfl,⟨_,rfl,by rw [zC2];exact bs_mk _⟩,grow_ext _ _ _⟩
 ·rintro v w' ⟨⟨s,rfl,hs⟩,he⟩
  exact⟨s,rfl,⟨s,rfl,hs⟩,he⟩
theorem c132 (n:Int) (h0 : -9223372036854775808<=n) (h1:n<=9223372036854775807) (w:World) (htab:P10 w) :
  Ret prog 132 #[.int .i64 n,.int .i64 10] w fun v w'=>(∃ s,v = .string s/\bs s=(if n<0 then [45] else [])++dec n.natAbs)/\Ext w w':=by
 refine Calls.mono (Tryz.strconv_FormatInt_10 n h0 h1 w htab) ?_
 rintro e w' ⟨rfl,k,os,rfl⟩
 refine⟨_,rfl,⟨_,rfl,?_⟩,grow_ext _ _ _⟩
 show bs (mk _)=_
 rw [bs_mk,Lib.itoa]
 split
 ·rw [zC2];rfl
 ·rw [zC2,List.nil_append];congr 1;omega
end Go.Proofs.Si
namespace Go.Proofs.Si
open Go Go.V Go.Proofs Go.RowKit Go.Num Go.Shelf Go.Proofs.Tryz
open Go.IntKind (i64 u64 u32 u8)
attribute [local go_sem] Oper.semAt_some
set_option maxRecDepth 100000
def upto {α:Type} (f:Nat->α) (k:Nat):List α:=(List.range k).map f
theorem zFc {α:Type} (f:Nat->α) (k:Nat):upto f (k+1)=upto f k++[f k]:=by simp [upto,List.range_succ]
theorem zA7 {α:Type} (f:Nat->α) (k:Nat):(upto f k).length=k:=by simp [upto]
structure Kp (n0 bB:Nat) (W W' : World):Prop where
 below:Below n0 W W'
 cells : ∀ k c e f,W.heap[k]? = some (.cells c e f)->e≠5->k≠bB->W'.heap[k]? = some (.cells c e f)
theorem Kp.trans {n0 bB:Nat} {A B C:World} (h:Kp n0 bB A B) (k:Kp n0 bB B C):Kp n0 bB A C :=
 ⟨h.below.trans k.below,fun i c e f hi he hb=>k.cells i c e f (h.cells i c e f hi he hb) he hb⟩
abbrev Lm:={ x:Nat × Nat // x.2<1000000000 }
def bk (L:List Nat) (ho:okL L) (j:Nat):Lm:=⟨(L.length - 1 - j,L.getD (L.length - 1 - j) 0),zAz ho _⟩
set_option maxHeartbeats 4000000 in
theorem back1_in (F:Fence) (n:Nat) (h7:F.fn 260) (hro:F.round=none) (hn:1<=n) (l Bs n0 bB b cap:Nat) (zs:List Nat) (ho:okL zs) (hreach:zs.length<=1099511627776) (hb:b<n0) (hBs5:Bs≠bB) (J Jx:List Lm->World->Prop)
  (hY : ∀ pre x W,J pre W->pre.length<zs.length->YieldAt F (n - 1) prog l #[.int .i64 (x.1.1:Int),.int .u32 (x.1.2:Int)] W fun e W' =>
   (e = .returned (.bool true)/\J (pre++[x]) W'/\Kp n0 bB W W')\/(e = .returned (.bool false)/\Jx (pre++[x]) W'))
  (W:World) (off:Nat) (hBs:W.heap[Bs]? = some (.cells #[.slice (some ⟨b,off,none⟩) zs.length cap] 182 (0,0))) (hc : ∀ j,j<zs.length->W.cell? ⟨b,off+j,none⟩=some (.int .u32 ((zs.getD j 0:Nat):Int))) (h0:J [] W) :
  CallsIn F n prog 260 #[.func (.yield l) #[] #[],.pointer (some ⟨Bs,0,none⟩)] W fun e W'=>(∃ v,e = .returned v) /\
   ((∃ ys,ys=upto (bk zs ho) zs.length/\J ys W')\/(∃ pre,(∃ k,k<=zs.length/\pre=upto (bk zs ho) k)/\Jx pre W')):=by
 have t126:=underlying182;have a126:=isAgg182;have z126:=sizeOf182;have v126:=zeroValue182
 have t151:=underlying209;have a151:=isAgg209;have z151:=sizeOf209;have v151:=zeroValue209
 have hcB:W.cell? ⟨Bs,0,none⟩=some (.slice (some ⟨b,off,none⟩) zs.length cap):=zAm hBs
 have ew:i64.wrap ((zs.length:Int) - 1)=(zs.length:Int) - 1:=by rw [zAf (by omega) (by omega)]
 refine callsIn_of_wp func260 rfl h7 ?_ hro
 simp only [ntmps260,List.size_toArray,List.length_cons,List.length_nil,Nat.reduceAdd,Nat.reduceSub,Array.replicate_succ,Array.replicate_zero,List.push_toArray,List.append_toArray,List.nil_append,List.cons_append]
 gi_wp2
 gi_loopw [3] (fun i wr=>∃ k:Nat,k<=zs.length/\i = .int .i64 ((zs.length:Int) - 1 - k)/\J (upto (bk zs ho) k) wr/\Kp n0 bB W wr)
  (fun i _=>(intOf i+1).toNat)
 case atStart=>exact⟨0,Nat.zero_le _,by simp,h0,⟨Below.refl _ _,fun _ _ _ _ h _ _=>h⟩⟩
 case round =>
  obtain⟨k,hk,rfl,hJs,hnx⟩:=hrel
  have hBr:wr.cell? ⟨Bs,0,none⟩=some (.slice (some ⟨b,off,none⟩) zs.length cap):=zAm (hnx.cells _ _ _ _ hBs (by decide) hBs5)
  by_cases hlt:k<zs.length
  ·obtain⟨i,hi1,hi2⟩ : ∃ i:Nat,(zs.length:Int) - 1 - k=(i:Int)/\zs.length=k+1+i:=⟨zs.length - 1 - k,by omega,by omega⟩
   have hcx:wr.cell? ⟨b,off+i,none⟩=some (.int .u32 ((zs.getD i 0:Nat):Int)):=(hnx.below.cell (p:=⟨b,off+i,none⟩) hb).trans (hc i (by omega))
   obtain⟨fn,tmps,assign,body,hy,hR⟩:=hY _ (bk zs ho k) wr hJs (by rw [zA7];exact hlt)
   obtain⟨z,hz⟩ : ∃ z,z=zs.getD i 0:=⟨_,rfl⟩
   have hbk1:(bk zs ho k).1.1=i:=by show zs.length - 1 - k=i;omega
   have hbk2:(bk zs ho k).1.2=z:=by show zs.getD (zs.length - 1 - k) 0=z;rw [hz,show zs.length - 1 - k=i by omega]
   rw [<- hz] at hcx
   rw [hbk1,hbk2] at hy
   clear hz hbk1 hbk2
   rw [hi1]
   have hil:(i:Int)<zs.length:=by omega
   clear hi2
   gi_wp2
   refine hR.mono ?_
   rintro e W3 (⟨rfl,hJ3,hk3⟩ | ⟨rfl,hJx3⟩)
   ·gi_wp2
    go_roundw
    case rel=>exact⟨k+1,by omega,by congr 1;omega,by rw [zFc];exact hJ3,hnx.trans hk3⟩
    case measure=>simp [intOf]
   ·gi_wp2
    refine bodyPost_ret (results_none rfl _ _ _) rfl ?_
    exact⟨⟨_,rfl⟩,.inr ⟨_,⟨k+1,by omega,by rw [zFc]⟩,hJx3⟩⟩
  ·obtain rfl:k=zs.length:=by omega
   have hneg : ¬ (0:Int)<=(zs.length:Int) - 1 - zs.length:=by omega
   gi_wp2
   go_end0
   exact⟨⟨_,rfl⟩,.inl hJs⟩
theorem back_in (F:Fence) (n:Nat) (h5:F.fn 238) (hro:F.round=none) (a:Option Addr) (len cap:Nat) (w:World) :
  CallsIn F n prog 238 #[.slice a len cap] w fun e w'=>e = .returned (.func (.func 260) #[] #[.pointer (some ⟨w.heap.size,0,none⟩)])/\w' = w.alloc (.cells #[.slice a len cap] 182):=by
 have t126:=underlying182;have a126:=isAgg182;have z126:=sizeOf182;have v126:=zeroValue182
 refine callsIn_of_wp func238 rfl h5 ?_ hro
 simp only [ntmps238,List.size_toArray,List.length_cons,List.length_nil,Nat.reduceAdd,Nat.reduceSub,Array.replicate_succ,Array.replicate_zero,List.push_toArray,List.append_toArray,List.nil_append,List.cons_append]
 gi_wp2
 go_ret
 exact⟨rfl,rfl⟩
theorem back_stops (F:Fence) (n:Nat) (h7:F.fn 260) (hro:F.round=none) (hn:1<=n) (Bs n0 bB b cap off:Nat) (zs:List Nat) (ho:okL zs) (hreach:zs.length<=1099511627776) (w:World) (hBs:w.heap[Bs]? = some (.cells #[.slice (some ⟨b,off,none⟩) zs.length cap] 182 (0,0))) (hn0:n0<=w.heap.size) (hb:b<n0) (hBs5:Bs≠bB)
  (hc : ∀ j,j<zs.length->w.cell? ⟨b,off+j,none⟩=some (.int .u32 ((zs.getD j 0:Nat):Int))) :
  SeqStopsK F n prog 260 #[.pointer (some ⟨Bs,0,none⟩)] (fun x:Lm=>#[Value.int .i64 (x.1.1:Int),Value.int .u32 (x.1.2:Int)]) (Kp n0 bB) (fun ys=>ys=upto (bk zs ho) zs.length)
   (fun pre=>∃ k,k<=zs.length/\pre=upto (bk zs ho) k) zs.length w:=fun l J Jx W hW _ _ hY h0=>by
 have hlt:Bs<w.heap.size:=(Array.getElem?_eq_some_iff.1 hBs).1
 exact back1_in F n h7 hro hn l Bs n0 bB b cap zs ho hreach hb hBs5 J Jx hY W off ((hW.block _ hlt).trans hBs) (fun j hj=>(hW.cell (p:=⟨b,off+j,none⟩) (by show b<_;omega)).trans (hc j hj)) h0
def pad9 (x:Nat):List UInt8:=List.replicate (9 - (dec x).length) 48++dec x
def zBW (top:Nat) (pre:List Lm):List UInt8:=dec top++(pre.map fun x=>pad9 x.1.2).flatten
theorem zD3 (top:Nat) (pre:List Lm) (x:Lm):zBW top (pre++[x])=zBW top pre++pad9 x.1.2:=by simp [zBW]
theorem dec_pad : ∀ (k n x:Nat),0<n->x<10 ^ k->dec (n*10 ^ k+x)=dec n++(List.replicate (k - (dec x).length) 48++(if k=0 then [] else dec x)):=by
 intro k
 induction k with
 | zero =>
  intro n x hn hx
  have:x=0:=by simpa using hx
  subst this
  simp
 | succ k ih =>
  intro n x hn hx
  rw [if_neg (by omega)]
  have hbig : ¬ n*10 ^ (k+1)+x<10:=by
   have h1:1*10 ^ (k+1)<=n*10 ^ (k+1):=Nat.mul_le_mul_right _ hn
   have h2:10 ^ 1<=10 ^ (k+1):=Nat.pow_le_pow_right (by omega) (by omega)
   omega
  rw [zBL hbig]
  have e1:(n*10 ^ (k+1)+x) / 10=n*10 ^ k+x / 10:=by
   rw [Nat.pow_succ,<- Nat.mul_assoc];omega
  have e2:(n*10 ^ (k+1)+x) % 10=x % 10:=by
   rw [Nat.pow_succ,<- Nat.mul_assoc];omega
  rw [e1,e2,ih n (x / 10) hn (by rw [Nat.pow_succ] at hx;omega)]
  by_cases hx10:x<10
  ·rw [show x / 10=0 by omega,zA5 hx10,zBc]
   simp only [List.length_singleton]
   by_cases hk:k=0
   ·subst hk;simp [Nat.mod_eq_of_lt hx10]
   ·rw [if_neg hk,Nat.mod_eq_of_lt hx10]
    obtain⟨j,rfl⟩ : ∃ j,k=j+1:=⟨k - 1,by omega⟩
    rw [show j+1+1 - 1=j+1 by omega,show j+1 - 1=j by omega,List.replicate_succ' (n:=j)]
    simp
  ·have hk:k≠0:=by
    intro h;subst h;simp at hx;omega
   rw [if_neg hk,zBL hx10]
   simp only [List.length_append,List.length_singleton,List.append_assoc]
   rw [Nat.add_sub_add_right]
theorem dec_limb {n x:Nat} (hn:0<n) (hx:x<1000000000):dec (x+1000000000*n)=dec n++pad9 x:=by
 have:=dec_pad 9 n x hn (by omega)
 rw [if_neg (by omega)] at this
 rw [Nat.add_comm,Nat.mul_comm]
 exact this
theorem dec_limbs {L:List Nat} (hok:okL L) (hn:normL L) (h0:0<L.length) : ∀ k,k<L.length->dec (lv (L.drop (L.length - 1 - k)))=zBW (L.getD (L.length - 1) 0) (upto (bk (L.take (L.length - 1)) (zBK hok _)) k)/\0<lv (L.drop (L.length - 1 - k)):=by
 intro k
 induction k with
 | zero =>
  intro _
  have h1:=zFr hn h0
  rw [Nat.sub_zero,zAE (by omega),show L.length - 1+1=L.length by omega,List.drop_length,zCH]
  simp only [Nat.mul_zero,Nat.add_zero,zBW,upto,List.range_zero,List.map_nil,List.flatten_nil,List.append_nil,true_and]
  omega
 | succ k ih =>
  intro hk
  obtain⟨h1,h2⟩:=ih (by omega)
  rw [zAE (by omega),show L.length - 1 - (k+1)+1=L.length - 1 - k by omega,dec_limb h2 (zAz hok _),h1,zFc,zD3]
  refine⟨?_,by omega⟩
  congr 2
  show _=(L.take (L.length - 1)).getD _ 0
  rw [List.length_take,Nat.min_eq_left (by omega),List.getD_eq_getElem?_getD,List.getD_eq_getElem?_getD,List.getElem?_take_of_lt (by omega)]
  congr 2;omega
end Go.Proofs.Si
namespace Go.Proofs.Si
open Go Go.V Go.Proofs Go.RowKit Go.Num Go.Proofs.Tryz
open Go.IntKind (i64 u64 u32 u8)
set_option maxRecDepth 100000
abbrev nd (n:Nat):Nat:=(dec n).length
theorem zEt {m n:Nat} (h:n<=m):nd n<=nd m:=zAK h
theorem zE9 (n:Nat):0<nd n:=List.length_pos_iff.2 (zBm n)
theorem limbs_nd {L:List Nat} (hn:normL L):L.length<=nd (lv L):=by
 by_cases h0:L.length=0
 ·omega
 ·have h1:=zEs hn (by omega)
  have h2:=(zB1 (lv L))
  have h3:(1000000000:Nat) ^ (L.length - 1)=10 ^ (9*(L.length - 1)):=by rw [Nat.pow_mul]
  rw [h3] at h1
  have h4:9*(L.length - 1)<nd (lv L):=(Nat.pow_lt_pow_iff_right (by omega:1<10)).1 (Nat.lt_of_le_of_lt h1 h2)
  omega
theorem NatV.cut {w:World} {v:Value} {n:Nat} (h:NatV w v n) : ∃ a c L,v = .slice a L.length c/\L.length<=c/\NatS w a L/\okL L/\normL L/\lv L=n/\L.length<=nd n:=by
 obtain⟨a,c,L,h1,h2,h3,h4,h5,h6⟩:=h
 exact⟨a,c,L,h1,h2,h3,h4,h5,h6,by rw [<- h6];exact limbs_nd h5⟩
theorem quoV {va vb:Value} {m n:Nat} (w:World) (ha:NatV w va m) (hb:NatV w vb n) (h0:0<n) (hz:nd m<=1000000000000/\nd n<=1000000000000) :
  Ret prog 219 #[va,vb] w fun v w'=>(∃ a1 n1 c1 a2 n2 c2,v = .tuple #[.slice a1 n1 c1,.slice a2 n2 c2]/\NatV w' (.slice a1 n1 c1) (m / n)/\NatV w' (.slice a2 n2 c2) (m % n))/\Ext w w':=by
 obtain⟨a,ca,A,rfl,hca,hsa,oa,na,rfl,la⟩:=ha.cut
 obtain⟨b,cb,B,rfl,hcb,hsb,ob,nb,rfl,lb⟩:=hb.cut
 refine (c219 w hsa hsb oa ob na nb hca h0 ⟨by omega,by omega⟩).mono ?_
 rintro v w' ⟨⟨q,r,rfl,hq,hr⟩,he⟩
 obtain⟨a1,c1,L1,e1,_⟩:=id hq
 obtain⟨a2,c2,L2,e2,_⟩:=id hr
 subst e1 e2
 exact⟨⟨_,_,_,_,_,_,rfl,hq,hr⟩,he⟩
theorem c187 {va vb:Value} {m n:Nat} (w:World) (ha:NatV w va m) (hb:NatV w vb n) (hz:nd m<=1000000000000/\nd n<=1000000000000) :
  Ret prog 187 #[va,vb] w fun v w'=>(∃ a n' c,v = .slice a n' c)/\NatV w' v (Nat.gcd m n)/\Ext w w':=by
 obtain⟨I',μ',hin,hout⟩:=ghost (G:=Nat × Nat) (fun g vals w1=>∃ x y,vals=[x,y]/\NatV w1 x g.1/\NatV w1 y g.2/\Nat.gcd g.1 g.2=Nat.gcd m n/\nd g.1<=1000000000000/\nd g.2<=1000000000000/\Ext w w1) (fun g=>g.2)
 obtain⟨a,ca,A,e1,_⟩:=id ha
 obtain⟨b,cb,B,e2,_⟩:=id hb
 subst e1 e2
 refine run187 _ _ _ _ _ _ _ _ ⟨I',μ',hin (m,n) _ _ ⟨_,_,rfl,ha,hb,rfl,hz.1,hz.2,Ext.refl _⟩,fun p k k1 p1 k2 k3 w1 hI=>?_⟩
 obtain⟨⟨m',n'⟩,⟨x,y,hv,hx,hy,hg,z1,z2,he⟩,fin⟩:=hout _ _ hI
 cases hv
 dsimp only at hx hy hg z1 z2
 obtain⟨_,_,L,e3,_,_,_,hn,hl,_⟩:=hy.cut
 cases e3
 refine zAd (fun hpos=>?_) (fun hzero=>⟨⟨_,_,_,rfl⟩,?_,he⟩)
 ·have h0:0<n':=by
   rw [<- hl]
   exact Nat.pos_of_ne_zero fun e0=>by
    have:=zFr hn (by omega)
    have h2:=zEs hn (by omega)
    have h3:0<1000000000 ^ (L.length - 1):=Nat.pow_pos (by omega)
    omega
  refine Called.of (quoV w1 hx hy h0 ⟨z1,z2⟩) ?_
  rintro v w2 ⟨⟨a1,n1,c1,a2,n2,c2,rfl,hq,hr⟩,he2⟩
  refine⟨_,_,_,_,_,_,rfl,fin (n',m' % n') _ _ ⟨_,_,rfl,hy.ext he2,hr,?_,z2,?_,he.trans he2⟩ (Nat.mod_lt _ h0)⟩
  ·rw [<- hg]
   show Nat.gcd n' (m' % n')=Nat.gcd m' n'
   rw [Nat.gcd_comm m' n',Nat.gcd_rec n' m',Nat.gcd_comm]
  ·exact Nat.le_trans (zEt (Nat.le_of_lt (Nat.mod_lt _ h0))) z2
 ·have:L=[]:=List.eq_nil_of_length_eq_zero (by omega)
  subst this
  rw [<- hl,zCH,Nat.gcd_zero_right] at hg
  rw [<- hg];exact hx
theorem NatV.put {w:World} {v:Value} {n b ty:Nat} {A:List Value} (h:NatV w v n) (hb:Box w b ty A) (hno : ∀ x:Nat,u32v x∉A) (M:List Value) (o i:Nat):NatV (V.setCells w ⟨b,o,none⟩ i M) v n:=by
 obtain⟨a,c,L,h1,h2,h3,r⟩:=h
 refine⟨a,c,L,h1,h2,SlAt.put h3 hb (fun v hv=>?_) M o i,r⟩
 obtain⟨x,_,rfl⟩:=List.mem_map.1 hv
 exact hno x
def RatM (w:World) (v:Value) (neg:Bool) (a b:Nat):Prop:=∃ a1 n1 c1 a2 n2 c2,v = .agg #[.bool neg,.slice a1 n1 c1,.slice a2 n2 c2]/\NatV w (.slice a1 n1 c1) a/\NatV w (.slice a2 n2 c2) b
theorem c221 (neg:Bool) {va vb:Value} {m n:Nat} (w:World) (ha:NatV w va m) (hb:NatV w vb n) (h0:0<n) (hz:nd m<=1000000000000/\nd n<=1000000000000) :
  Ret prog 221 #[.bool neg,va,vb] w fun v w'=>RatM w' v neg (m / Nat.gcd m n) (n / Nat.gcd m n)/\Ext w w':=by
 obtain⟨a,ca,A,e1,_⟩:=id ha
 obtain⟨b,cb,B,e2,_⟩:=id hb
 subst e1 e2
 have hx:=(Ext.refl w).alloc (.cells #[.bool false,.slice none 0 0,.slice none 0 0] 184)
 have hB0:=Box.new w [.bool false,.slice none 0 0,.slice none 0 0] 184
 refine run221 _ _ _ _ _ _ _ _ _ (Called.of (c187 _ (ha.ext hx) (hb.ext hx) hz) ?_)
 rintro v w1 ⟨⟨ag,ng,cg,rfl⟩,hg,he1⟩
 refine⟨_,_,_,rfl,fun K hK=>?_⟩
 have hgp:0<Nat.gcd m n:=Nat.gcd_pos_of_pos_right _ h0
 have hgn:Nat.gcd m n<=n:=Nat.le_of_dvd h0 (Nat.gcd_dvd_right _ _)
 have fin : ∀ p1 k2 k3 p2 k4 k5 w2,NatV w2 (.slice p1 k2 k3) (m / Nat.gcd m n)->NatV w2 (.slice p2 k4 k5) (n / Nat.gcd m n)->Ext (w.alloc (.cells #[.bool false,.slice none 0 0,.slice none 0 0] 184)) w2->K [.slice p1 k2 k3,.slice p2 k4 k5] w2:=by
  intro p1 k2 k3 p2 k4 k5 w2 h1 h2 he
  have hB2:=hB0.ext he
  have hput:=hB2.put [.bool neg,.slice p1 k2 k3,.slice p2 k4 k5] rfl
  have hlt:w.heap.size<w2.heap.size:=hB2.lt
  have hno : ∀ x:Nat,u32v x∉[Value.bool false,.slice none 0 0,.slice none 0 0]:=fun x=>by simp [u32v]
  exact hK _ _ _ _ _ _ _ ⟨hB2.blk.writable (by decide),_,_,_,_,_,_,_,hput.blk.all,⟨_,_,_,_,_,_,rfl,h1.put hB2 hno _ _ _,h2.put hB2 hno _ _ _⟩,(Ext.from_alloc he).put (Nat.le_refl _) _ _⟩
 obtain⟨G,hG⟩ : ∃ G,G=Nat.gcd m n:=⟨_,rfl⟩
 rw [<- hG] at hg hgp hgn fin
 refine Called.of (R:=fun v w'=>v = .bool (decide (G=1))/\w' = w1) ?_ ?_
 ·obtain⟨a',c',L,e,_,hs,ho,hn,hl,_⟩:=hg.cut
  cases e
  rw [<- hl]
  exact c188 w1 hs ho hn
 rintro v w3 ⟨rfl,rfl⟩
 refine⟨_,rfl,zAa (fun hne=>?_) (fun he'=>?_)⟩
 ·have z3:nd G<=1000000000000:=Nat.le_trans (zEt hgn) hz.2
  refine Called.of (quoV w3 ((ha.ext hx).ext he1) hg hgp ⟨hz.1,z3⟩) ?_
  rintro v w4 ⟨⟨a1,n1,c1,a2,n2,c2,rfl,hq,hr⟩,he2⟩
  refine⟨_,_,_,_,_,_,rfl,Called.of (quoV w4 (((hb.ext hx).ext he1).ext he2) (hg.ext he2) hgp ⟨hz.2,z3⟩) ?_⟩
  rintro v w5 ⟨⟨a3,n3,c3,a4,n4,c4,rfl,hq2,hr2⟩,he3⟩
  exact⟨_,_,_,_,_,_,rfl,fin _ _ _ _ _ _ _ (hq.ext he3) hq2 ((he1.trans he2).trans he3)⟩
 ·have h1:G=1:=by simpa using he'
  refine fin _ _ _ _ _ _ _ ?_ ?_ he1
  ·rw [h1,Nat.div_one];exact (ha.ext hx).ext he1
  ·rw [h1,Nat.div_one];exact (hb.ext hx).ext he1
theorem dig_wrap {c:UInt8} (h:isDig c=true):u32.wrap (u8.wrap ((c.toNat:Int) - 48))=((dv c:Nat):Int):=by
 obtain⟨h1,h2⟩:=zBw h
 have e:u8.wrap ((c.toNat:Int) - 48)=((dv c:Nat):Int):=by
  show ((c.toNat:Int) - 48) % 256=_
  unfold dv;omega
 rw [e]
 exact w32 (by unfold dv;omega)
theorem all_getD {l:List UInt8} (h:l.all isDig=true) {i:Nat} (hi:i<l.length):isDig (l.getD i 0)=true:=by
 rw [List.getD_eq_getElem?_getD,List.getElem?_eq_getElem hi]
 exact List.all_eq_true.1 h _ (List.getElem_mem hi)
theorem c186 (s:ByteArray) (hd:(bs s).all isDig=true) (hz:s.size<=1099511627775) (w:World):Ret prog 186 #[.string s] w fun v w'=>NatO w' w.heap.size v (val (bs s))/\Ext w w':=by
 refine run186 _ _ _ ⟨fun vals w1=>∃ (e:Int) (D:List Nat) (p:Option Addr) (k:Nat),vals=[.int .i64 e,.slice p D.length k]/\e<=s.size /\ -9<=e/\(0<e->9*D.length+e.toNat=s.size)/\okL D /\
  lv D=val (rest s e.toNat)/\D.length<=s.size/\w1.ownsRow w.heap.size 209 1 (.slice p D.length k) D.length (D.map u32v)/\Ext w w1,muD,
  ⟨s.size,[],none,0,rfl,Int.le_refl _,by omega,fun _=>by simp,zBQ,?_,Nat.zero_le _,World.ownsRow_nil _ _ _ _,Ext.refl _⟩,?_⟩
 ·rw [Int.toNat_natCast,zEM (Nat.le_refl _)];rfl
 rintro e p k k1 w1 ⟨_,D,p',k',hv,he1,he2,he3,oD,hlv,hDl,ho,hx⟩
 cases hv
 refine zAd (fun hpos=>?_) (fun hneg=>?_)
 ·have hlen:=he3 hpos
  obtain⟨lo,hlo⟩ : ∃ lo:Nat,lo=(e - 9).toNat:=⟨_,rfl⟩
  have ew:i64.wrap (e - 9)=e - 9:=zAf (by omega) (by omega)
  have e1:(if 0>i64.wrap (e - 9) then 0 else i64.wrap (e - 9))=(lo:Int):=by rw [ew];split <;> omega
  simp only [e1,Int.toNat_natCast]
  refine⟨⟨by omega,by omega,by omega⟩,fun k2 w2 hbn=>?_⟩
  obtain⟨T,hT⟩ : ∃ T,T=bs (s.extract lo e.toNat):=⟨_,rfl⟩
  have hTe:T=(rest s lo).take (e.toNat - lo):=by rw [hT,zAW]
  have hTl:T.length=e.toNat - lo:=by rw [hTe,List.length_take,zEN];omega
  have hTs:(s.extract lo e.toNat).size=T.length:=by rw [hT,zAg]
  have hTd:T.all isDig=true:=by
   rw [hTe]
   refine List.all_eq_true.2 fun x hx=>List.all_eq_true.1 hd x ?_
   exact List.mem_of_mem_drop (List.mem_of_mem_take hx)
  rw [hTs]
  refine⟨fun vals w3=>∃ (j acc:Nat),vals=[.int .i64 j,.int .u32 acc]/\j<=T.length/\acc=val (T.take j)/\w3=w2,mu1 T.length,⟨0,0,rfl,Nat.zero_le _,rfl,rfl⟩,?_⟩
  rintro n1 n2 w3 ⟨j,acc,hv,hj,hacc,rfl⟩
  cases hv
  have hjlt:acc<10 ^ j:=by
   have h1:=zDq (l:=T.take j) (List.all_eq_true.2 fun x hx=>List.all_eq_true.1 hTd x (List.mem_of_mem_take hx))
   rw [List.length_take,Nat.min_eq_left hj] at h1
   omega
  refine zAd (fun hlt=>?_) (fun hge=>?_)
  ·have hjT:j<T.length:=by omega
   have hcell:=hbn.cell j (by omega)
   have hdd:=all_getD hTd hjT
   have hp9:10 ^ j<=10 ^ 8:=Nat.pow_le_pow_right (by omega) (by omega)
   have hdl:=dv_lt hdd
   have ea:u32.wrap (u32.wrap ((acc:Int)*10)+u32.wrap (u8.wrap (((T.getD j 0).toNat:Int) - 48)))=((10*acc+dv (T.getD j 0):Nat):Int):=by
    rw [dig_wrap hdd,w32i (n:=(acc:Int)*10) (by omega) (by omega),w32i (by omega) (by omega)]
    omega
   refine⟨_,rfl,⟨by omega,hlt⟩,((((s.extract lo e.toNat).data.toList.getD j 0)).toNat:Int),?_,?_⟩
   ·rw [zAk,Nat.zero_add,Int.toNat_natCast,Nat.mul_one]
    exact hcell
   ·have hTT:(s.extract lo e.toNat).data.toList=T:=hT.symm
    rw [hTT,ea,zAh (by omega)]
    refine⟨⟨j+1,_,rfl,hjT,?_,rfl⟩,?_⟩
    ·rw [zBH hjT,<- hacc]
    ·simp only [mu1,Int.toNat_natCast];omega
  ·have hjT:j=T.length:=by omega
   subst hjT
   rw [List.take_length] at hacc
   have hp9:10 ^ T.length<=10 ^ 9:=Nat.pow_le_pow_right (by omega) (by omega)
   have hxb:Ext w1 w3:=hbn.below
   have ho3:=zA8 ho hxb
   refine⟨_,_,_,AppOk.one (L:=[u32v acc]) ho3 rfl rfl (by unfold maxLen;omega) (by omega) (hx.trans hxb).size,?_⟩
   intro p1 k4 w4 r
   have hxa:=(Ext.refl w3).alloc (.cells #[u32v acc] 209)
   have hb4:Ext w w4:=r.below (zA8 ho3 hxa) ((hx.trans hxb).trans hxa) (by rw [size_alloc];have:=(hx.trans hxb).size;omega) (Nat.le_refl _)
   have e6:(D++[acc]).length=D.length+1:=by simp
   rw [ew]
   refine⟨⟨e - 9,D++[acc],p1,k4,by rw [e6],by omega,by omega,fun h=>by omega,?_,?_,by omega,?_,hb4⟩,?_⟩
   ·rw [zFq];exact⟨oD,by rw [zBX];exact⟨by omega,zBQ⟩⟩
   ·rw [zD4,hlv,hacc,<- hlo]
    have er:rest s lo=T++rest s e.toNat:=by
     rw [hTe]
     have:rest s e.toNat=(rest s lo).drop (e.toNat - lo):=by
      rw [rest,rest,List.drop_drop];congr 1;omega
     rw [this,List.take_append_drop]
    rw [er,val_app,zEN,show s.size - e.toNat=9*D.length by omega,Nat.pow_mul,Nat.add_comm,Nat.mul_comm]
   ·have:=r.own
    rw [e6,List.map_append];exact this
   ·simp only [muD];omega
 ·refine Called.of (c218 (zFp ho) (by omega) w1 (zBr ho)) ?_
  rintro v w5 ⟨rfl,rfl⟩
  refine⟨_,_,_,rfl,?_,hx⟩
  have:=zCt ho oD
  rw [hlv,show e.toNat=0 by omega] at this
  exact this
theorem not_dig2 (c:UInt8):(decide ((c.toNat:Int)<48)||decide ((c.toNat:Int)>57)) = !isDig c:=by
 rw [<- not_dig,Bool.not_and,Bool.not_not,Bool.not_not]
theorem zD6 (l:List UInt8) (hd:l.all isDig=true):canon l=(if l=[48] then true else if l=[] then false else l.getD 0 0 != 48):=by
 unfold canon
 rw [hd]
 match l with
 | []=>rfl
 | [c] =>
  by_cases h:c=48
  ·subst h;rfl
  ·rw [if_neg (by simpa using h),if_neg (by simp)]
   simp [h]
 | c::d::l =>
  rw [if_neg (by simp),if_neg (by simp)]
  by_cases h:c=48
  ·subst h;rfl
  ·simp [h]
theorem c184 (s:ByteArray) (hz:s.size<=4611686018427387904) (w:World):Ret prog 184 #[.string s] w fun v w'=>v = .bool (canon (bs s))/\Ext w w':=by
 refine run184 _ _ _ fun k w1 hbn=>?_
 have hxb:Ext w w1:=hbn.below
 refine⟨fun vals w2=>∃ i:Nat,vals=[.int .i64 i]/\i<=s.size/\w2=w1/\(bs s).all isDig=(rest s i).all isDig,mu1 s.size,⟨0,rfl,Nat.zero_le _,rfl,rfl⟩,?_⟩
 rintro n w2 ⟨i,hv,hi,rfl,hall⟩
 cases hv
 refine zAd (fun hlt=>?_) (fun hge=>?_)
 ·have hlt' : i<s.size:=by omega
  have hc:=zDP hlt'
  refine⟨_,rfl,⟨by omega,hlt⟩,(((bs s).getD i 0).toNat:Int),?_,?_⟩
  ·rw [zAk,Nat.zero_add,Int.toNat_natCast,Nat.mul_one]
   exact hbn.cell i hlt'
  ·show bif (decide ((((bs s).getD i 0).toNat:Int)<48)||decide ((((bs s).getD i 0).toNat:Int)>57)) then _ else _
   rw [not_dig2]
   refine zAa (fun h=>⟨?_,hxb⟩) (fun h=>?_)
   ·have h' : isDig ((bs s).getD i 0)=false:=by simpa using h
    unfold canon
    rw [hall,hc,List.all_cons,h',Bool.false_and,Bool.and_false,Bool.false_and]
   ·rw [zAh (by omega)]
    refine⟨⟨i+1,rfl,hlt',rfl,?_⟩,?_⟩
    ·have h' : isDig ((bs s).getD i 0)=true:=by simpa using h
     rw [hall,hc,List.all_cons,h',Bool.true_and]
    ·simp only [mu1,Int.toNat_natCast];omega
 ·intro K hK
  rw [zEM (by omega)] at hall
  have hd:(bs s).all isDig=true:=by rw [hall];rfl
  rw [zAw,zAw]
  refine zAd (fun h=>hK _ ⟨?_,hxb⟩) (fun h=>?_)
  ·rw [zD6 _ hd,if_pos (show bs s=[48] from h)]
  ·have h48 : ¬ bs s=[48]:=h
   refine zAa (fun h2=>?_) (fun h2=>hK _ ⟨?_,hxb⟩)
   ·have hne : ¬ bs s=[]:=by
     have : ¬ bs s=bs { data:=#[] }:=by simpa using h2
     exact this
    have h0:0<s.size:=by
     rw [zAg]
     exact List.length_pos_iff.2 hne
    refine⟨⟨by omega,by omega⟩,hK _ ⟨?_,hxb⟩⟩
    rw [zD6 _ hd,if_neg h48,if_neg hne]
    congr 1
    have:=u8_beq ((bs s).getD 0 0) 48 (by omega)
    show (!(((bs s).getD 0 0).toNat:Int)==48)=_
    rw [show ((48:Nat):Int)=48 from rfl] at this
    rw [this];rfl
   ·have hne:bs s=[]:=by
     have:bs s=bs { data:=#[] }:=by simpa using h2
     exact this
    rw [zD6 _ hd,if_neg h48,if_pos hne]
theorem c185 (a b:Nat) (w:World):Ret prog 185 #[.int .i64 a,.int .i64 b] w fun v w'=>v = .int .i64 (Nat.gcd a b:Nat)/\Ext w w':=by
 obtain⟨I',μ',hin,hout⟩:=ghost (G:=Nat × Nat) (fun g vals w1=>vals=[.int .i64 g.1,.int .i64 g.2]/\Nat.gcd g.1 g.2=Nat.gcd a b/\Ext w w1) (fun g=>g.2)
 refine run185 _ _ _ _ ⟨I',μ',hin (a,b) _ _ ⟨rfl,rfl,Ext.refl _⟩,fun n n1 w1 hI=>?_⟩
 obtain⟨⟨x,y⟩,⟨hv,hg,he⟩,fin⟩:=hout _ _ hI
 cases hv
 refine zAa (fun h=>?_) (fun h=>⟨?_,he⟩)
 ·have hy:y≠0:=by rintro rfl;simp at h
  refine zAd (fun h0=>absurd h0 (by omega)) (fun _=>fin (y,x % y) _ _ ⟨by rw [tmodN],?_,he.drew⟩ (Nat.mod_lt _ (by omega)))
  rw [<- hg]
  show Nat.gcd y (x % y)=Nat.gcd x y
  rw [Nat.gcd_comm x y,Nat.gcd_rec y x,Nat.gcd_comm]
 ·have hy:y=0:=by
   have:((y:Nat):Int)=0:=by simpa using h
   omega
  subst hy
  rw [<- hg];simp
end Go.Proofs.Si
