/- Part of the proof: SiO4, SiO5, TbB, TbC. -/
import Derived.Test.YtoaiappkhcjagaaGreatDoorMSiT
import Derived.Test.YtoaiappkhcjagaaGreatDoorMV7s
set_option linter.unusedVariables false
set_option linter.unusedSimpArgs false
namespace Go.Proofs.Si
open Go Go.V Go.Proofs Go.RowKit Go.Num Go.Proofs.Tryz
open Go.IntKind (i64 u64 u32 u8)
set_option maxRecDepth 100000
theorem zA3 (q:Rat):txtQ q=((if q.num<0 then [45] else [])++dec q.num.natAbs)++(if q.den=1 then [] else 47::dec q.den):=by
 unfold txtQ txt3
 by_cases h:q.num<0
 ·rw [decide_eq_true h,if_pos h,if_pos rfl]
 ·rw [decide_eq_false h,if_neg h,if_neg (by decide)]
theorem c192 (n d:Int) (hd:d≠0) (hn1 : -4000000000000000000<=n) (hn2:n<=4000000000000000000) (hd1 : -4000000000000000000<=d) (hd2:d<=4000000000000000000) (w:World) (hg:Gl w) :
  Ret prog 192 #[.int .i64 n,.int .i64 d] w fun v w'=>TxtV (Rat.divInt n d) v/\Ext w w':=by
 refine run192 _ _ _ _ fun K hK=>?_
 have key : ∀ (m:Int) (e:Nat),Rat.divInt n d=mkRat m e->e≠0 -> -4000000000000000000<=m->m<=4000000000000000000->e<=4000000000000000000->K [.int .i64 m,.int .i64 (e:Int)] w:=by
  intro m e hq he m1 m2 e2
  refine hK m e ?_
  have emax:(if i64.wrap (0 - m)>m then i64.wrap (0 - m) else m)=(m.natAbs:Int):=by
   rw [zAd (by omega) (by omega)];split <;> omega
  rw [emax,hq]
  obtain⟨G,hG⟩ : ∃ G,G=Nat.gcd e m.natAbs:=⟨_,rfl⟩
  have a3:0<G:=by rw [hG];exact Nat.gcd_pos_of_pos_left _ (Nat.pos_of_ne_zero he)
  have g:(mkRat m e).num=m / (G:Int):=by rw [Rat.num_mkRat,if_neg he,hG]
  have f:(mkRat m e).den=e / G:=by rw [Rat.den_mkRat,if_neg he,hG]
  have i:((G:Nat):Int) ∣ m:=by rw [hG];exact Int.ofNat_dvd_left.2 (Nat.gcd_dvd_right _ _)
  have k:Nat.gcd m.natAbs e=G:=by rw [hG,Nat.gcd_comm]
  refine yC (c185 m.natAbs e w) ?_
  rintro v w1 ⟨rfl,b⟩
  rw [k]
  refine⟨_,rfl,zAe (fun h0=>absurd h0 (by omega)) (fun _=>zAe (fun h0=>absurd h0 (by omega)) (fun _=>?_))⟩
  have ed:m.tdiv (G:Int)=(mkRat m e).num:=by rw [g,Int.tdiv_eq_ediv_of_dvd i]
  have l:(mkRat m e).num.natAbs<=m.natAbs:=by
   rw [g,Int.natAbs_ediv_of_dvd i]
   exact Nat.div_le_self _ _
  have p:(mkRat m e).den<=e:=by rw [f];exact Nat.div_le_self _ _
  have o:=(mkRat m e).den_nz
  rw [tdivN,ed,zAd (by omega) (by omega),show e / G=(mkRat m e).den from f.symm,zAd (by omega) (by omega)]
  generalize mkRat m e=q at l p o ⊢
  refine yC (c132 q.num (by omega) (by omega) _ (hg.ext b).drew.p10) ?_
  rintro v w2 ⟨⟨s,rfl,hs⟩,h⟩
  have j : ∀ x:Nat,x<=4000000000000000000->nd x<=19:=fun x hx=>(zA8 (by omega)).2 (by omega)
  have a4:s.size<=20:=by
   rw [zAc,hs,List.length_append]
   have:(dec q.num.natAbs).length<=19:=j q.num.natAbs (by omega)
   have:(if q.num<0 then [(45:UInt8)] else []).length<=1:=by split <;> simp
   omega
  refine⟨s,rfl,zAe (fun h1=>?_) (fun h1=>?_)⟩
  ·refine yC (c132 (q.den:Int) (by omega) (by omega) _ ((hg.ext b).drew.ext h).p10) ?_
   rintro v w3 ⟨⟨u,rfl,hu⟩,a0⟩
   rw [if_neg (by omega),List.nil_append,Int.natAbs_natCast] at hu
   have a5:u.size<=19:=by rw [zAc,hu];exact j _ (by omega)
   refine⟨u,rfl,by omega,?_,⟨_,rfl,?_⟩,(b.drew.trans h).trans a0⟩
   ·rw [zDc]
    have:({ data:=#[47] } : BA).size=1:=rfl
    omega
   ·rw [zAN,zAN,hs,hu,zA3,if_neg (show ¬ q.den=1 by omega)];rfl
  ·refine⟨⟨_,rfl,?_⟩,b.drew.trans h⟩
   rw [hs,zA3,if_pos (show q.den=1 by omega),List.append_nil]
 refine zAe (fun a1=>?_) (fun a2=>?_)
 ·rw [zAd (by omega) (by omega),zAd (by omega) (by omega)]
  have:=key (0 - n) d.natAbs ?_ (by omega) (by omega) (by omega) (by omega)
  ·rw [show ((d.natAbs:Nat):Int)=0 - d by omega] at this;exact this
  ·rw [<- Rat.divInt_ofNat,show ((d.natAbs:Nat):Int) = -d by omega,show 0 - n = -n by omega,Rat.neg_divInt_neg]
 ·have:=key n d.natAbs ?_ (by omega) (by omega) (by omega) (by omega)
  ·rw [show ((d.natAbs:Nat):Int)=d by omega] at this;exact this
  ·rw [<- Rat.divInt_ofNat,show ((d.natAbs:Nat):Int)=d by omega]
theorem add_divInt (p q:Rat):Rat.divInt (p.num*(q.den:Int)+q.num*(p.den:Int)) ((p.den:Int)*(q.den:Int))=p+q:=by
 rw [Rat.add_def',<- Rat.divInt_ofNat,Int.natCast_mul]
theorem mul_divInt (p q:Rat):Rat.divInt (p.num*q.num) ((p.den:Int)*(q.den:Int))=p*q:=by
 rw [Rat.mul_def',<- Rat.divInt_ofNat,Int.natCast_mul]
theorem zFC (p q:Rat):Rat.divInt (p.num*(q.den:Int)) ((p.den:Int)*q.num)=p*q⁻¹:=by
 rw [Rat.inv_def,<- Rat.divInt_mul_divInt,Rat.num_divInt_den]
structure Sm (q:Rat):Prop where
 n1 : -1000000000<q.num
 n2:q.num<1000000000
 d:q.den<1000000000
theorem Sm.of {q:Rat} (h1:q.num.natAbs<1000000000) (h2:q.den<1000000000):Sm q:=⟨by omega,by omega,h2⟩
theorem zDn {a b:Int} (ha : -1000000000<a) (ha2:a<1000000000) (hb : -1000000000<b) (hb2:b<1000000000) : -1000000000000000000<=a*b/\a*b<=1000000000000000000:=by
 have h1:a.natAbs<=1000000000:=by omega
 have h2:b.natAbs<=1000000000:=by omega
 have h3:=Nat.mul_le_mul h1 h2
 rw [<- Int.natAbs_mul] at h3
 omega
theorem c191 {p q:Rat} (hp:Sm p) (hq:Sm q) (w:World) (hg:Gl w):Ret prog 191 #[.agg #[.int .i64 p.num,.int .i64 (p.den:Int)],.agg #[.int .i64 q.num,.int .i64 (q.den:Int)]] w fun v w'=>TxtV (p+q) v/\Ext w w':=by
 have i:=(yE w).alloc (.cells #[.int .i64 p.num,.int .i64 (p.den:Int)] 178)
 have h:=(yE (w.alloc (.cells #[.int .i64 p.num,.int .i64 (p.den:Int)] 178))).alloc (.cells #[.int .i64 q.num,.int .i64 (q.den:Int)] 178)
 have f:=(yN w [.int .i64 p.num,.int .i64 (p.den:Int)] 178).ext h
 have g:=yN (w.alloc (.cells #[.int .i64 p.num,.int .i64 (p.den:Int)] 178)) [.int .i64 q.num,.int .i64 (q.den:Int)] 178
 have d1:=p.den_nz
 have d2:=q.den_nz
 have b1:=zDn hp.n1 hp.n2 (b:=(q.den:Int)) (by omega) (by have:=hq.d;omega)
 have b2:=zDn hq.n1 hq.n2 (b:=(p.den:Int)) (by omega) (by have:=hp.d;omega)
 have b3:=zDn (a:=(p.den:Int)) (b:=(q.den:Int)) (by omega) (by have:=hp.d;omega) (by omega) (by have:=hq.d;omega)
 have b4:(p.den:Int)*(q.den:Int)≠0:=Int.mul_ne_zero (by omega) (by omega)
 refine run191 _ _ _ _ _ _ ⟨_,f.blk.cell (j:=0) rfl,_,g.blk.cell (j:=1) rfl,_,g.blk.cell (j:=0) rfl,_,f.blk.cell (j:=1) rfl,_,f.blk.cell (j:=1) rfl,_,g.blk.cell (j:=1) rfl,?_⟩
 rw [zAd (n:=p.num*_) (by omega) (by omega),zAd (n:=q.num*_) (by omega) (by omega),zAd (by omega) (by omega),zAd (by omega) (by omega)]
 refine yC (c192 _ _ b4 (by omega) (by omega) (by omega) (by omega) _ (hg.ext (i.trans h))) ?_
 rintro v w1 ⟨⟨s,rfl,hs⟩,he⟩
 rw [add_divInt] at hs
 exact⟨s,rfl,⟨s,rfl,hs⟩,(i.trans h).trans he⟩
theorem c196 {p q:Rat} (hp:Sm p) (hq:Sm q) (w:World) (hg:Gl w):Ret prog 196 #[.agg #[.int .i64 p.num,.int .i64 (p.den:Int)],.agg #[.int .i64 q.num,.int .i64 (q.den:Int)]] w fun v w'=>TxtV (p*q) v/\Ext w w':=by
 have i:=(yE w).alloc (.cells #[.int .i64 p.num,.int .i64 (p.den:Int)] 178)
 have f:=(yE (w.alloc (.cells #[.int .i64 p.num,.int .i64 (p.den:Int)] 178))).alloc (.cells #[.int .i64 q.num,.int .i64 (q.den:Int)] 178)
 have g:=(yN w [.int .i64 p.num,.int .i64 (p.den:Int)] 178).ext f
 have h:=yN (w.alloc (.cells #[.int .i64 p.num,.int .i64 (p.den:Int)] 178)) [.int .i64 q.num,.int .i64 (q.den:Int)] 178
 have d1:=p.den_nz
 have d2:=q.den_nz
 have b1:=zDn hp.n1 hp.n2 hq.n1 hq.n2
 have b3:=zDn (a:=(p.den:Int)) (b:=(q.den:Int)) (by omega) (by have:=hp.d;omega) (by omega) (by have:=hq.d;omega)
 have b4:(p.den:Int)*(q.den:Int)≠0:=Int.mul_ne_zero (by omega) (by omega)
 refine run196 _ _ _ _ _ _ ⟨_,g.blk.cell (j:=0) rfl,_,h.blk.cell (j:=0) rfl,_,g.blk.cell (j:=1) rfl,_,h.blk.cell (j:=1) rfl,?_⟩
 rw [zAd (by omega) (by omega),zAd (by omega) (by omega)]
 refine yC (c192 _ _ b4 (by omega) (by omega) (by omega) (by omega) _ (hg.ext (i.trans f))) ?_
 rintro v w1 ⟨⟨s,rfl,hs⟩,he⟩
 rw [mul_divInt] at hs
 exact⟨s,rfl,⟨s,rfl,hs⟩,(i.trans f).trans he⟩
theorem c199 {p q:Rat} (hp:Sm p) (hq:Sm q) (h0:q≠0) (w:World) (hg:Gl w):Ret prog 199 #[.agg #[.int .i64 p.num,.int .i64 (p.den:Int)],.agg #[.int .i64 q.num,.int .i64 (q.den:Int)]] w fun v w'=>TxtV (p*q⁻¹) v/\Ext w w':=by
 have i:=(yE w).alloc (.cells #[.int .i64 p.num,.int .i64 (p.den:Int)] 178)
 have f:=(yE (w.alloc (.cells #[.int .i64 p.num,.int .i64 (p.den:Int)] 178))).alloc (.cells #[.int .i64 q.num,.int .i64 (q.den:Int)] 178)
 have g:=(yN w [.int .i64 p.num,.int .i64 (p.den:Int)] 178).ext f
 have h:=yN (w.alloc (.cells #[.int .i64 p.num,.int .i64 (p.den:Int)] 178)) [.int .i64 q.num,.int .i64 (q.den:Int)] 178
 have d1:=p.den_nz
 have d2:=q.den_nz
 have hn:q.num≠0:=fun e=>h0 (Rat.num_eq_zero.1 e)
 have b1:=zDn hp.n1 hp.n2 (b:=(q.den:Int)) (by omega) (by have:=hq.d;omega)
 have b3:=zDn (a:=(p.den:Int)) (by omega) (by have:=hp.d;omega) hq.n1 hq.n2
 have b4:(p.den:Int)*q.num≠0:=Int.mul_ne_zero (by omega) hn
 refine run199 _ _ _ _ _ _ ⟨_,g.blk.cell (j:=0) rfl,_,h.blk.cell (j:=1) rfl,_,g.blk.cell (j:=1) rfl,_,h.blk.cell (j:=0) rfl,?_⟩
 rw [zAd (by omega) (by omega),zAd (by omega) (by omega)]
 refine yC (c192 _ _ b4 (by omega) (by omega) (by omega) (by omega) _ (hg.ext (i.trans f))) ?_
 rintro v w1 ⟨⟨s,rfl,hs⟩,he⟩
 rw [zFC] at hs
 exact⟨s,rfl,⟨s,rfl,hs⟩,(i.trans f).trans he⟩
def RatQ (w:World) (v:Value) (q:Rat):Prop:=RatM w v (decide (q.num<0)) q.num.natAbs q.den
theorem red_end {w:World} {v:Value} {neg:Bool} {x b:Nat} {q:Rat} (hb:b≠0) (h:RatM w v neg (x / Nat.gcd x b) (b / Nat.gcd x b)) (hq:red neg x b=q) (hz:nd x<=1000000000/\nd b<=1000000000) (hg:Gl w) :
  Ret prog 195 #[v] w fun v w'=>TxtV q v/\Ext w w':=by
 refine (c195 w h ⟨Nat.le_trans (zBp (Nat.div_le_self _ _)) hz.1,Nat.le_trans (zBp (Nat.div_le_self _ _)) hz.2⟩ hg).mono ?_
 rintro v w' ⟨⟨s,rfl,hs⟩,he⟩
 rw [txt_red neg x hb,hq] at hs
 exact⟨⟨s,rfl,hs⟩,he⟩
theorem c193 {p q:Rat} {v u:Value} (w:World) (hv:RatQ w v p) (hu:RatQ w u q) (hz:nd p.num.natAbs+nd p.den+nd q.num.natAbs+nd q.den<=900000000) (hg:Gl w):Ret prog 193 #[v,u] w fun v w'=>TxtV (p+q) v/\Ext w w':=by
 obtain⟨a1,n1,c1,a2,n2,c2,rfl,ha,hb⟩:=hv
 obtain⟨a3,n3,c3,a4,n4,c4,rfl,hc,hd⟩:=hu
 have k:=(yE w).alloc (.cells #[.bool (decide (p.num<0)),.slice a1 n1 c1,.slice a2 n2 c2] 184)
 have f:=(yE (w.alloc (.cells #[.bool (decide (p.num<0)),.slice a1 n1 c1,.slice a2 n2 c2] 184))).alloc (.cells #[.bool (decide (q.num<0)),.slice a3 n3 c3,.slice a4 n4 c4] 184)
 have g:=(yN w [.bool (decide (p.num<0)),.slice a1 n1 c1,.slice a2 n2 c2] 184).ext f
 have h:=yN (w.alloc (.cells #[.bool (decide (p.num<0)),.slice a1 n1 c1,.slice a2 n2 c2] 184)) [.bool (decide (q.num<0)),.slice a3 n3 c3,.slice a4 n4 c4] 184
 have b:=k.trans f
 have d1:=Nat.pos_of_ne_zero p.den_nz
 have d2:=Nat.pos_of_ne_zero q.den_nz
 refine run193 _ _ _ _ _ _ _ _ _ _ _ _ _ _ _ _ ⟨_,_,_,_,_,_,_,g.blk.all,_,_,_,_,_,_,_,h.blk.all,?_⟩
 refine yC (c194 _ ⟨_,_,_,_,_,_,rfl,ha.ext b,hb.ext b⟩ ⟨_,_,_,_,_,_,rfl,hc.ext b,hd.ext b⟩ d1 d2 ⟨by omega,by omega,by omega⟩) ?_
 rintro v w1 ⟨⟨neg,x,hs,l,hr⟩,d⟩
 have j:=hr
 obtain⟨q1,l1,k1,q2,l2,k2,rfl,_,_⟩:=hr
 have z1:nd (p.num.natAbs*q.den)<=nd p.num.natAbs+nd q.den:=zAz _ _
 have z2:nd (q.num.natAbs*p.den)<=nd q.num.natAbs+nd p.den:=zAz _ _
 have z3:nd (p.den*q.den)<=nd p.den+nd q.den:=zAz _ _
 have z4:nd (p.num.natAbs*q.den+q.num.natAbs*p.den)<=max (nd (p.num.natAbs*q.den)) (nd (q.num.natAbs*p.den))+1:=zBy _ _
 have z5:=zBp l
 refine⟨_,_,_,_,_,_,_,rfl,yC (red_end (Nat.mul_ne_zero p.den_nz q.den_nz) j (zFo hs) ⟨by omega,by omega⟩ ((hg.ext b).ext d)) ?_⟩
 rintro v w2 ⟨⟨s,rfl,hs⟩,i⟩
 exact⟨s,rfl,⟨s,rfl,hs⟩,(b.trans d).trans i⟩
theorem c197 {p q:Rat} {v u:Value} (w:World) (hv:RatQ w v p) (hu:RatQ w u q) (hz:nd p.num.natAbs+nd p.den+nd q.num.natAbs+nd q.den<=900000000) (hg:Gl w):Ret prog 197 #[v,u] w fun v w'=>TxtV (p*q) v/\Ext w w':=by
 obtain⟨a1,n1,c1,a2,n2,c2,rfl,ha,hb⟩:=hv
 obtain⟨a3,n3,c3,a4,n4,c4,rfl,hc,hd⟩:=hu
 have k:=(yE w).alloc (.cells #[.bool (decide (p.num<0)),.slice a1 n1 c1,.slice a2 n2 c2] 184)
 have f:=(yE (w.alloc (.cells #[.bool (decide (p.num<0)),.slice a1 n1 c1,.slice a2 n2 c2] 184))).alloc (.cells #[.bool (decide (q.num<0)),.slice a3 n3 c3,.slice a4 n4 c4] 184)
 have g:=(yN w [.bool (decide (p.num<0)),.slice a1 n1 c1,.slice a2 n2 c2] 184).ext f
 have h:=yN (w.alloc (.cells #[.bool (decide (p.num<0)),.slice a1 n1 c1,.slice a2 n2 c2] 184)) [.bool (decide (q.num<0)),.slice a3 n3 c3,.slice a4 n4 c4] 184
 have b:=k.trans f
 have d1:=Nat.pos_of_ne_zero p.den_nz
 have d2:=Nat.pos_of_ne_zero q.den_nz
 refine run197 _ _ _ _ _ _ _ _ _ _ _ _ _ _ _ _ ⟨_,_,_,_,_,_,_,g.blk.all,_,_,_,_,_,_,_,h.blk.all,?_⟩
 refine yC (c198 _ ⟨_,_,_,_,_,_,rfl,ha.ext b,hb.ext b⟩ ⟨_,_,_,_,_,_,rfl,hc.ext b,hd.ext b⟩ d1 d2 ⟨by omega,by omega⟩) ?_
 rintro v w1 ⟨hr,d⟩
 have j:=hr
 obtain⟨q1,l1,k1,q2,l2,k2,rfl,_,_⟩:=hr
 have z1:nd (p.num.natAbs*q.num.natAbs)<=nd p.num.natAbs+nd q.num.natAbs:=zAz _ _
 have z3:nd (p.den*q.den)<=nd p.den+nd q.den:=zAz _ _
 refine⟨_,_,_,_,_,_,_,rfl,yC (red_end (Nat.mul_ne_zero p.den_nz q.den_nz) j (mul_red p q) ⟨by omega,by omega⟩ ((hg.ext b).ext d)) ?_⟩
 rintro v w2 ⟨⟨s,rfl,hs⟩,i⟩
 exact⟨s,rfl,⟨s,rfl,hs⟩,(b.trans d).trans i⟩
theorem div_red (p q:Rat) (h0:q≠0):red (decide (p.num<0) != decide (q.num<0)) (p.num.natAbs*q.den) (p.den*q.num.natAbs)=p*q⁻¹:=by
 have hn:q.num≠0:=fun e=>h0 (Rat.num_eq_zero.1 e)
 unfold red
 rw [<- zFC,<- sgn_mul2,zCW]
 have e:sgn (decide (q.num<0)) q.den=q.num.sign*(q.den:Int):=by
  unfold sgn
  by_cases h:q.num<0
  ·rw [decide_eq_true h,if_pos rfl,Int.sign_eq_neg_one_of_neg h];omega
  ·rw [decide_eq_false h,if_neg (by decide),Int.sign_eq_one_of_pos (by omega)];omega
 rw [e,<- Rat.divInt_ofNat,Int.natCast_mul]
 have e2:p.num*(q.num.sign*(q.den:Int))=q.num.sign*(p.num*(q.den:Int)):=by
  rw [<- Int.mul_assoc,Int.mul_comm p.num,Int.mul_assoc]
 have e3:(p.den:Int)*q.num=q.num.sign*((p.den:Int)*(q.num.natAbs:Int)):=by
  rw [<- Int.mul_assoc,Int.mul_comm q.num.sign,Int.mul_assoc,Int.sign_mul_natAbs]
 have e4 : ∀ x:Int,q.num.sign*(q.num.sign*x)=x:=by
  intro x
  rw [<- Int.mul_assoc]
  have:q.num.sign*q.num.sign=1:=by
   by_cases h:q.num<0
   ·rw [Int.sign_eq_neg_one_of_neg h];rfl
   ·rw [Int.sign_eq_one_of_pos (by omega)];rfl
  rw [this,Int.one_mul]
 have b:q.num.sign≠0:=fun e=>hn (Int.sign_eq_zero_iff_zero.1 e)
 rw [e2,e3,<- Rat.divInt_mul_left b,e4]
theorem c200 {p q:Rat} {v u:Value} (w:World) (hv:RatQ w v p) (hu:RatQ w u q) (h0:q≠0) (hz:nd p.num.natAbs+nd p.den+nd q.num.natAbs+nd q.den<=900000000) (hg:Gl w):Ret prog 200 #[v,u] w fun v w'=>TxtV (p*q⁻¹) v/\Ext w w':=by
 obtain⟨a1,n1,c1,a2,n2,c2,rfl,ha,hb⟩:=hv
 obtain⟨a3,n3,c3,a4,n4,c4,rfl,hc,hd⟩:=hu
 have l:=(yE w).alloc (.cells #[.bool (decide (p.num<0)),.slice a1 n1 c1,.slice a2 n2 c2] 184)
 have g:=(yE (w.alloc (.cells #[.bool (decide (p.num<0)),.slice a1 n1 c1,.slice a2 n2 c2] 184))).alloc (.cells #[.bool (decide (q.num<0)),.slice a3 n3 c3,.slice a4 n4 c4] 184)
 have h:=(yN w [.bool (decide (p.num<0)),.slice a1 n1 c1,.slice a2 n2 c2] 184).ext g
 have d:=yN (w.alloc (.cells #[.bool (decide (p.num<0)),.slice a1 n1 c1,.slice a2 n2 c2] 184)) [.bool (decide (q.num<0)),.slice a3 n3 c3,.slice a4 n4 c4] 184
 have b:=l.trans g
 have d1:=Nat.pos_of_ne_zero p.den_nz
 have hn:q.num≠0:=fun e=>h0 (Rat.num_eq_zero.1 e)
 have d2:0<q.num.natAbs:=by omega
 refine run200 _ _ _ _ _ _ _ _ _ _ _ _ _ _ _ _ ⟨_,_,_,_,_,_,_,h.blk.all,_,d.blk.cell (j:=0) rfl,_,_,_,d.blk.cell (j:=2) rfl,_,_,_,d.blk.cell (j:=1) rfl,?_⟩
 refine yC (c198 _ ⟨_,_,_,_,_,_,rfl,ha.ext b,hb.ext b⟩ ⟨_,_,_,_,_,_,rfl,hd.ext b,hc.ext b⟩ d1 d2 ⟨by omega,by omega⟩) ?_
 rintro v w1 ⟨hr,f⟩
 have k:=hr
 obtain⟨q1,l1,k1,q2,l2,k2,rfl,_,_⟩:=hr
 have z1:nd (p.num.natAbs*q.den)<=nd p.num.natAbs+nd q.den:=zAz _ _
 have z3:nd (p.den*q.num.natAbs)<=nd p.den+nd q.num.natAbs:=zAz _ _
 refine⟨_,_,_,_,_,_,_,rfl,yC (red_end (Nat.mul_ne_zero p.den_nz (by omega)) k (div_red p q h0) ⟨by omega,by omega⟩ ((hg.ext b).ext f)) ?_⟩
 rintro v w2 ⟨⟨s,rfl,hs⟩,i⟩
 exact⟨s,rfl,⟨s,rfl,hs⟩,(b.trans f).trans i⟩
end Go.Proofs.Si
namespace Go.Proofs.Si
open Go Go.V Go.Proofs Go.RowKit Go.Num Go.Proofs.Tryz
set_option maxRecDepth 100000
theorem c190_191 {a b:BA} {p q:Rat} (ha:bs a=txtQ p) (hb:bs b=txtQ q) (hz:a.size+b.size<=400000000) (w:World) (hg:Gl w) :
  Ret prog 190 #[.string a,.string b,.func (.func 191) #[] #[],.func (.func 193) #[] #[]] w fun v w'=>TxtV (p+q) v/\Ext w w':=by
 refine run190_191_193 _ _ _ _ (yC (c152 a (by omega) w hg) ?_)
 rintro v w1 ⟨hv,a8⟩
 have d9 : ∃ n d b1,v = .tuple #[.agg #[.int .i64 n,.int .i64 d],.bool b1]/\(b1=true->n=p.num/\d=(p.den:Int)/\Sm p):=by
  rcases hv with ⟨p',hp',rfl,h1,h2⟩ | ⟨n,d,rfl⟩
  ·rw [ha] at hp'
   obtain rfl:=zA0 hp'
   exact⟨_,_,_,rfl,fun _=>⟨rfl,rfl,Sm.of h1 h2⟩⟩
  ·exact⟨_,_,_,rfl,fun h=>by cases h⟩
 obtain⟨n,d,b1,rfl,d6⟩:=d9
 have l:=(yN w1 [.int .i64 0,.int .i64 0] 178).put [.int .i64 n,.int .i64 d] rfl
 have a0:Ext w (setCells (w1.alloc (.cells #[.int .i64 0,.int .i64 0] 178)) ⟨w1.heap.size,0,none⟩ 0 [.int .i64 n,.int .i64 d]):=(a8.alloc _).put (by exact a8.size) _ _
 refine⟨_,_,_,rfl,(yN w1 [.int .i64 0,.int .i64 0] 178).blk.writable (by decide),?_⟩
 generalize setCells (w1.alloc (.cells #[.int .i64 0,.int .i64 0] 178)) ⟨w1.heap.size,0,none⟩ 0 [.int .i64 n,.int .i64 d]=W1 at l a0 ⊢
 have d1:w.heap.size<=w1.heap.size:=a8.size
 generalize w1.heap.size=B1 at l d1 ⊢
 refine yC (c152 b (by omega) W1 (hg.ext a0)) ?_
 rintro v w2 ⟨hv,x⟩
 have e0 : ∃ n d b2,v = .tuple #[.agg #[.int .i64 n,.int .i64 d],.bool b2]/\(b2=true->n=q.num/\d=(q.den:Int)/\Sm q):=by
  rcases hv with ⟨p',hp',rfl,h1,h2⟩ | ⟨n,d,rfl⟩
  ·rw [hb] at hp'
   obtain rfl:=zA0 hp'
   exact⟨_,_,_,rfl,fun _=>⟨rfl,rfl,Sm.of h1 h2⟩⟩
  ·exact⟨_,_,_,rfl,fun h=>by cases h⟩
 obtain⟨n2,d2,b2,rfl,d7⟩:=e0
 have a6:=(yN w2 [.int .i64 0,.int .i64 0] 178).put [.int .i64 n2,.int .i64 d2] rfl
 have a5:=(l.ext (x.trans ((yE w2).alloc (.cells #[.int .i64 0,.int .i64 0] 178)))).same (zAk (b:=w2.heap.size) (o:=0) (k:=B1) (by have:=(l.ext x).lt;omega) [.int .i64 n2,.int .i64 d2] 0)
 have i:Ext w (setCells (w2.alloc (.cells #[.int .i64 0,.int .i64 0] 178)) ⟨w2.heap.size,0,none⟩ 0 [.int .i64 n2,.int .i64 d2]):=((a0.trans x).alloc _).put (by exact (a0.trans x).size) _ _
 refine⟨_,_,_,rfl,(yN w2 [.int .i64 0,.int .i64 0] 178).blk.writable (by decide),?_⟩
 generalize setCells (w2.alloc (.cells #[.int .i64 0,.int .i64 0] 178)) ⟨w2.heap.size,0,none⟩ 0 [.int .i64 n2,.int .i64 d2]=W2 at a5 a6 i ⊢
 generalize w2.heap.size=B2 at a6 ⊢
 refine zAb (fun f=>?_) (fun e7=>?_)
 ·rw [Bool.and_eq_true] at f
  obtain⟨rfl,rfl,sp⟩:=d6 f.1
  obtain⟨rfl,rfl,sq⟩:=d7 f.2
  refine⟨_,_,a5.blk.all,_,_,a6.blk.all,yC (c191 sp sq W2 (hg.ext i)) ?_⟩
  rintro v w3 ⟨⟨s,rfl,hs⟩,a9⟩
  exact⟨s,rfl,⟨s,rfl,hs⟩,i.trans a9⟩
 ·have zp:nd p.num.natAbs<=a.size/\nd p.den<=a.size:=by rw [zAc,ha];exact zFg p
  have zq:nd q.num.natAbs<=b.size/\nd q.den<=b.size:=by rw [zAc,hb];exact zFg q
  refine yC (c153 a (by omega) W2 (hg.ext i)) ?_
  rintro v w3 ⟨hv,a9⟩
  have e1 : ∃ u,v = .tuple #[u,.bool true]/\RatQ w3 u p:=by
   rcases hv with ⟨p',u,hp',rfl,hu⟩ | ⟨hno,_⟩
   ·rw [ha] at hp'
    obtain rfl:=zA0 hp'
    exact⟨u,rfl,hu⟩
   ·exact absurd ⟨p,ha⟩ hno
  obtain⟨u,rfl,hu⟩:=e1
  obtain⟨a1,m1,c1,a2,m2,c2,rfl,e3,e4⟩:=hu
  have d3:=i.trans a9
  have hY:=yN w3 [.bool false,.slice none 0 0,.slice none 0 0] 184
  have m:=hY.put [.bool (decide (p.num<0)),.slice a1 m1 c1,.slice a2 m2 c2] rfl
  have d5:=(yE w3).alloc (.cells #[.bool false,.slice none 0 0,.slice none 0 0] 184)
  have b4:=(e3.ext d5).put hY (zAo _ _ _ _ _ _ _) [.bool (decide (p.num<0)),.slice a1 m1 c1,.slice a2 m2 c2] 0 0
  have b5:=(e4.ext d5).put hY (zAo _ _ _ _ _ _ _) [.bool (decide (p.num<0)),.slice a1 m1 c1,.slice a2 m2 c2] 0 0
  have b0:Ext w (setCells (w3.alloc (.cells #[.bool false,.slice none 0 0,.slice none 0 0] 184)) ⟨w3.heap.size,0,none⟩ 0 [.bool (decide (p.num<0)),.slice a1 m1 c1,.slice a2 m2 c2]):=(d3.alloc _).put (by exact d3.size) _ _
  refine⟨_,_,_,_,_,_,_,_,rfl,hY.blk.writable (by decide),?_⟩
  generalize setCells (w3.alloc (.cells #[.bool false,.slice none 0 0,.slice none 0 0] 184)) ⟨w3.heap.size,0,none⟩ 0 [.bool (decide (p.num<0)),.slice a1 m1 c1,.slice a2 m2 c2]=W3 at m b4 b5 b0 ⊢
  generalize w3.heap.size=B3 at m ⊢
  refine yC (c153 b (by omega) W3 (hg.ext b0)) ?_
  rintro v w4 ⟨hv,g⟩
  have e2 : ∃ u,v = .tuple #[u,.bool true]/\RatQ w4 u q:=by
   rcases hv with ⟨p',u,hp',rfl,hu⟩ | ⟨hno,_⟩
   ·rw [hb] at hp'
    obtain rfl:=zA0 hp'
    exact⟨u,rfl,hu⟩
   ·exact absurd ⟨q,hb⟩ hno
  obtain⟨u,rfl,hu⟩:=e2
  obtain⟨a3,m3,c3,a4,m4,c4,rfl,e5,e6⟩:=hu
  have d4:=b0.trans g
  have hZ:=yN w4 [.bool false,.slice none 0 0,.slice none 0 0] 184
  have a7:=hZ.put [.bool (decide (q.num<0)),.slice a3 m3 c3,.slice a4 m4 c4] rfl
  have j:=(yE w4).alloc (.cells #[.bool false,.slice none 0 0,.slice none 0 0] 184)
  have b6:=((b4.ext g).ext j).put hZ (zAo _ _ _ _ _ _ _) [.bool (decide (q.num<0)),.slice a3 m3 c3,.slice a4 m4 c4] 0 0
  have b7:=((b5.ext g).ext j).put hZ (zAo _ _ _ _ _ _ _) [.bool (decide (q.num<0)),.slice a3 m3 c3,.slice a4 m4 c4] 0 0
  have b8:=(e5.ext j).put hZ (zAo _ _ _ _ _ _ _) [.bool (decide (q.num<0)),.slice a3 m3 c3,.slice a4 m4 c4] 0 0
  have b9:=(e6.ext j).put hZ (zAo _ _ _ _ _ _ _) [.bool (decide (q.num<0)),.slice a3 m3 c3,.slice a4 m4 c4] 0 0
  have d0:=(m.ext (g.trans j)).same (zAk (b:=w4.heap.size) (o:=0) (k:=B3) (by have:=(m.ext g).lt;omega) [.bool (decide (q.num<0)),.slice a3 m3 c3,.slice a4 m4 c4] 0)
  have b3:Ext w (setCells (w4.alloc (.cells #[.bool false,.slice none 0 0,.slice none 0 0] 184)) ⟨w4.heap.size,0,none⟩ 0 [.bool (decide (q.num<0)),.slice a3 m3 c3,.slice a4 m4 c4]):=(d4.alloc _).put (by exact d4.size) _ _
  refine⟨_,_,_,_,_,_,_,_,rfl,hZ.blk.writable (by decide),?_⟩
  generalize setCells (w4.alloc (.cells #[.bool false,.slice none 0 0,.slice none 0 0] 184)) ⟨w4.heap.size,0,none⟩ 0 [.bool (decide (q.num<0)),.slice a3 m3 c3,.slice a4 m4 c4]=W4 at a7 b6 b7 b8 b9 d0 b3 ⊢
  generalize w4.heap.size=B4 at a7 ⊢
  rw [Bool.not_true,Bool.or_self,cond_false]
  refine⟨_,_,_,_,_,_,_,d0.blk.all,_,_,_,_,_,_,_,a7.blk.all,yC (c193 W4 ⟨_,_,_,_,_,_,rfl,b6,b7⟩ ⟨_,_,_,_,_,_,rfl,b8,b9⟩ (by omega) (hg.ext b3)) ?_⟩
  rintro v w5 ⟨⟨s,rfl,hs⟩,d8⟩
  exact⟨s,rfl,⟨s,rfl,hs⟩,b3.trans d8⟩
theorem c190_196 {a b:BA} {p q:Rat} (ha:bs a=txtQ p) (hb:bs b=txtQ q) (hz:a.size+b.size<=400000000) (w:World) (hg:Gl w) :
  Ret prog 190 #[.string a,.string b,.func (.func 196) #[] #[],.func (.func 197) #[] #[]] w fun v w'=>TxtV (p*q) v/\Ext w w':=by
 refine run190_196_197 _ _ _ _ (yC (c152 a (by omega) w hg) ?_)
 rintro v w1 ⟨hv,a8⟩
 have d9 : ∃ n d b1,v = .tuple #[.agg #[.int .i64 n,.int .i64 d],.bool b1]/\(b1=true->n=p.num/\d=(p.den:Int)/\Sm p):=by
  rcases hv with ⟨p',hp',rfl,h1,h2⟩ | ⟨n,d,rfl⟩
  ·rw [ha] at hp'
   obtain rfl:=zA0 hp'
   exact⟨_,_,_,rfl,fun _=>⟨rfl,rfl,Sm.of h1 h2⟩⟩
  ·exact⟨_,_,_,rfl,fun h=>by cases h⟩
 obtain⟨n,d,b1,rfl,d6⟩:=d9
 have l:=(yN w1 [.int .i64 0,.int .i64 0] 178).put [.int .i64 n,.int .i64 d] rfl
 have a0:Ext w (setCells (w1.alloc (.cells #[.int .i64 0,.int .i64 0] 178)) ⟨w1.heap.size,0,none⟩ 0 [.int .i64 n,.int .i64 d]):=(a8.alloc _).put (by exact a8.size) _ _
 refine⟨_,_,_,rfl,(yN w1 [.int .i64 0,.int .i64 0] 178).blk.writable (by decide),?_⟩
 generalize setCells (w1.alloc (.cells #[.int .i64 0,.int .i64 0] 178)) ⟨w1.heap.size,0,none⟩ 0 [.int .i64 n,.int .i64 d]=W1 at l a0 ⊢
 have d1:w.heap.size<=w1.heap.size:=a8.size
 generalize w1.heap.size=B1 at l d1 ⊢
 refine yC (c152 b (by omega) W1 (hg.ext a0)) ?_
 rintro v w2 ⟨hv,x⟩
 have e0 : ∃ n d b2,v = .tuple #[.agg #[.int .i64 n,.int .i64 d],.bool b2]/\(b2=true->n=q.num/\d=(q.den:Int)/\Sm q):=by
  rcases hv with ⟨p',hp',rfl,h1,h2⟩ | ⟨n,d,rfl⟩
  ·rw [hb] at hp'
   obtain rfl:=zA0 hp'
   exact⟨_,_,_,rfl,fun _=>⟨rfl,rfl,Sm.of h1 h2⟩⟩
  ·exact⟨_,_,_,rfl,fun h=>by cases h⟩
 obtain⟨n2,d2,b2,rfl,d7⟩:=e0
 have a6:=(yN w2 [.int .i64 0,.int .i64 0] 178).put [.int .i64 n2,.int .i64 d2] rfl
 have a5:=(l.ext (x.trans ((yE w2).alloc (.cells #[.int .i64 0,.int .i64 0] 178)))).same (zAk (b:=w2.heap.size) (o:=0) (k:=B1) (by have:=(l.ext x).lt;omega) [.int .i64 n2,.int .i64 d2] 0)
 have i:Ext w (setCells (w2.alloc (.cells #[.int .i64 0,.int .i64 0] 178)) ⟨w2.heap.size,0,none⟩ 0 [.int .i64 n2,.int .i64 d2]):=((a0.trans x).alloc _).put (by exact (a0.trans x).size) _ _
 refine⟨_,_,_,rfl,(yN w2 [.int .i64 0,.int .i64 0] 178).blk.writable (by decide),?_⟩
 generalize setCells (w2.alloc (.cells #[.int .i64 0,.int .i64 0] 178)) ⟨w2.heap.size,0,none⟩ 0 [.int .i64 n2,.int .i64 d2]=W2 at a5 a6 i ⊢
 generalize w2.heap.size=B2 at a6 ⊢
 refine zAb (fun f=>?_) (fun e7=>?_)
 ·rw [Bool.and_eq_true] at f
  obtain⟨rfl,rfl,sp⟩:=d6 f.1
  obtain⟨rfl,rfl,sq⟩:=d7 f.2
  refine⟨_,_,a5.blk.all,_,_,a6.blk.all,yC (c196 sp sq W2 (hg.ext i)) ?_⟩
  rintro v w3 ⟨⟨s,rfl,hs⟩,a9⟩
  exact⟨s,rfl,⟨s,rfl,hs⟩,i.trans a9⟩
 ·have zp:nd p.num.natAbs<=a.size/\nd p.den<=a.size:=by rw [zAc,ha];exact zFg p
  have zq:nd q.num.natAbs<=b.size/\nd q.den<=b.size:=by rw [zAc,hb];exact zFg q
  refine yC (c153 a (by omega) W2 (hg.ext i)) ?_
  rintro v w3 ⟨hv,a9⟩
  have e1 : ∃ u,v = .tuple #[u,.bool true]/\RatQ w3 u p:=by
   rcases hv with ⟨p',u,hp',rfl,hu⟩ | ⟨hno,_⟩
   ·rw [ha] at hp'
    obtain rfl:=zA0 hp'
    exact⟨u,rfl,hu⟩
   ·exact absurd ⟨p,ha⟩ hno
  obtain⟨u,rfl,hu⟩:=e1
  obtain⟨a1,m1,c1,a2,m2,c2,rfl,e3,e4⟩:=hu
  have d3:=i.trans a9
  have hY:=yN w3 [.bool false,.slice none 0 0,.slice none 0 0] 184
  have m:=hY.put [.bool (decide (p.num<0)),.slice a1 m1 c1,.slice a2 m2 c2] rfl
  have d5:=(yE w3).alloc (.cells #[.bool false,.slice none 0 0,.slice none 0 0] 184)
  have b4:=(e3.ext d5).put hY (zAo _ _ _ _ _ _ _) [.bool (decide (p.num<0)),.slice a1 m1 c1,.slice a2 m2 c2] 0 0
  have b5:=(e4.ext d5).put hY (zAo _ _ _ _ _ _ _) [.bool (decide (p.num<0)),.slice a1 m1 c1,.slice a2 m2 c2] 0 0
  have b0:Ext w (setCells (w3.alloc (.cells #[.bool false,.slice none 0 0,.slice none 0 0] 184)) ⟨w3.heap.size,0,none⟩ 0 [.bool (decide (p.num<0)),.slice a1 m1 c1,.slice a2 m2 c2]):=(d3.alloc _).put (by exact d3.size) _ _
  refine⟨_,_,_,_,_,_,_,_,rfl,hY.blk.writable (by decide),?_⟩
  generalize setCells (w3.alloc (.cells #[.bool false,.slice none 0 0,.slice none 0 0] 184)) ⟨w3.heap.size,0,none⟩ 0 [.bool (decide (p.num<0)),.slice a1 m1 c1,.slice a2 m2 c2]=W3 at m b4 b5 b0 ⊢
  generalize w3.heap.size=B3 at m ⊢
  refine yC (c153 b (by omega) W3 (hg.ext b0)) ?_
  rintro v w4 ⟨hv,g⟩
  have e2 : ∃ u,v = .tuple #[u,.bool true]/\RatQ w4 u q:=by
   rcases hv with ⟨p',u,hp',rfl,hu⟩ | ⟨hno,_⟩
   ·rw [hb] at hp'
    obtain rfl:=zA0 hp'
    exact⟨u,rfl,hu⟩
   ·exact absurd ⟨q,hb⟩ hno
  obtain⟨u,rfl,hu⟩:=e2
  obtain⟨a3,m3,c3,a4,m4,c4,rfl,e5,e6⟩:=hu
  have d4:=b0.trans g
  have hZ:=yN w4 [.bool false,.slice none 0 0,.slice none 0 0] 184
  have a7:=hZ.put [.bool (decide (q.num<0)),.slice a3 m3 c3,.slice a4 m4 c4] rfl
  have j:=(yE w4).alloc (.cells #[.bool false,.slice none 0 0,.slice none 0 0] 184)
  have b6:=((b4.ext g).ext j).put hZ (zAo _ _ _ _ _ _ _) [.bool (decide (q.num<0)),.slice a3 m3 c3,.slice a4 m4 c4] 0 0
  have b7:=((b5.ext g).ext j).put hZ (zAo _ _ _ _ _ _ _) [.bool (decide (q.num<0)),.slice a3 m3 c3,.slice a4 m4 c4] 0 0
  have b8:=(e5.ext j).put hZ (zAo _ _ _ _ _ _ _) [.bool (decide (q.num<0)),.slice a3 m3 c3,.slice a4 m4 c4] 0 0
  have b9:=(e6.ext j).put hZ (zAo _ _ _ _ _ _ _) [.bool (decide (q.num<0)),.slice a3 m3 c3,.slice a4 m4 c4] 0 0
  have d0:=(m.ext (g.trans j)).same (zAk (b:=w4.heap.size) (o:=0) (k:=B3) (by have:=(m.ext g).lt;omega) [.bool (decide (q.num<0)),.slice a3 m3 c3,.slice a4 m4 c4] 0)
  have b3:Ext w (setCells (w4.alloc (.cells #[.bool false,.slice none 0 0,.slice none 0 0] 184)) ⟨w4.heap.size,0,none⟩ 0 [.bool (decide (q.num<0)),.slice a3 m3 c3,.slice a4 m4 c4]):=(d4.alloc _).put (by exact d4.size) _ _
  refine⟨_,_,_,_,_,_,_,_,rfl,hZ.blk.writable (by decide),?_⟩
  generalize setCells (w4.alloc (.cells #[.bool false,.slice none 0 0,.slice none 0 0] 184)) ⟨w4.heap.size,0,none⟩ 0 [.bool (decide (q.num<0)),.slice a3 m3 c3,.slice a4 m4 c4]=W4 at a7 b6 b7 b8 b9 d0 b3 ⊢
  generalize w4.heap.size=B4 at a7 ⊢
  rw [Bool.not_true,Bool.or_self,cond_false]
  refine⟨_,_,_,_,_,_,_,d0.blk.all,_,_,_,_,_,_,_,a7.blk.all,yC (c197 W4 ⟨_,_,_,_,_,_,rfl,b6,b7⟩ ⟨_,_,_,_,_,_,rfl,b8,b9⟩ (by omega) (hg.ext b3)) ?_⟩
  rintro v w5 ⟨⟨s,rfl,hs⟩,d8⟩
  exact⟨s,rfl,⟨s,rfl,hs⟩,b3.trans d8⟩
theorem c190_199 {a b:BA} {p q:Rat} (ha:bs a=txtQ p) (hb:bs b=txtQ q) (h0:q≠0) (hz:a.size+b.size<=400000000) (w:World) (hg:Gl w) :
  Ret prog 190 #[.string a,.string b,.func (.func 199) #[] #[],.func (.func 200) #[] #[]] w fun v w'=>TxtV (p*q⁻¹) v/\Ext w w':=by
 refine run190_199_200 _ _ _ _ (yC (c152 a (by omega) w hg) ?_)
 rintro v w1 ⟨hv,a8⟩
 have d9 : ∃ n d b1,v = .tuple #[.agg #[.int .i64 n,.int .i64 d],.bool b1]/\(b1=true->n=p.num/\d=(p.den:Int)/\Sm p):=by
  rcases hv with ⟨p',hp',rfl,h1,h2⟩ | ⟨n,d,rfl⟩
  ·rw [ha] at hp'
   obtain rfl:=zA0 hp'
   exact⟨_,_,_,rfl,fun _=>⟨rfl,rfl,Sm.of h1 h2⟩⟩
  ·exact⟨_,_,_,rfl,fun h=>by cases h⟩
 obtain⟨n,d,b1,rfl,d6⟩:=d9
 have l:=(yN w1 [.int .i64 0,.int .i64 0] 178).put [.int .i64 n,.int .i64 d] rfl
 have a0:Ext w (setCells (w1.alloc (.cells #[.int .i64 0,.int .i64 0] 178)) ⟨w1.heap.size,0,none⟩ 0 [.int .i64 n,.int .i64 d]):=(a8.alloc _).put (by exact a8.size) _ _
 refine⟨_,_,_,rfl,(yN w1 [.int .i64 0,.int .i64 0] 178).blk.writable (by decide),?_⟩
 generalize setCells (w1.alloc (.cells #[.int .i64 0,.int .i64 0] 178)) ⟨w1.heap.size,0,none⟩ 0 [.int .i64 n,.int .i64 d]=W1 at l a0 ⊢
 have d1:w.heap.size<=w1.heap.size:=a8.size
 generalize w1.heap.size=B1 at l d1 ⊢
 refine yC (c152 b (by omega) W1 (hg.ext a0)) ?_
 rintro v w2 ⟨hv,x⟩
 have e0 : ∃ n d b2,v = .tuple #[.agg #[.int .i64 n,.int .i64 d],.bool b2]/\(b2=true->n=q.num/\d=(q.den:Int)/\Sm q):=by
  rcases hv with ⟨p',hp',rfl,h1,h2⟩ | ⟨n,d,rfl⟩
  ·rw [hb] at hp'
   obtain rfl:=zA0 hp'
   exact⟨_,_,_,rfl,fun _=>⟨rfl,rfl,Sm.of h1 h2⟩⟩
  ·exact⟨_,_,_,rfl,fun h=>by cases h⟩
 obtain⟨n2,d2,b2,rfl,d7⟩:=e0
 have a6:=(yN w2 [.int .i64 0,.int .i64 0] 178).put [.int .i64 n2,.int .i64 d2] rfl
 have a5:=(l.ext (x.trans ((yE w2).alloc (.cells #[.int .i64 0,.int .i64 0] 178)))).same (zAk (b:=w2.heap.size) (o:=0) (k:=B1) (by have:=(l.ext x).lt;omega) [.int .i64 n2,.int .i64 d2] 0)
 have i:Ext w (setCells (w2.alloc (.cells #[.int .i64 0,.int .i64 0] 178)) ⟨w2.heap.size,0,none⟩ 0 [.int .i64 n2,.int .i64 d2]):=((a0.trans x).alloc _).put (by exact (a0.trans x).size) _ _
 refine⟨_,_,_,rfl,(yN w2 [.int .i64 0,.int .i64 0] 178).blk.writable (by decide),?_⟩
 generalize setCells (w2.alloc (.cells #[.int .i64 0,.int .i64 0] 178)) ⟨w2.heap.size,0,none⟩ 0 [.int .i64 n2,.int .i64 d2]=W2 at a5 a6 i ⊢
 generalize w2.heap.size=B2 at a6 ⊢
 refine zAb (fun f=>?_) (fun e7=>?_)
 ·rw [Bool.and_eq_true] at f
  obtain⟨rfl,rfl,sp⟩:=d6 f.1
  obtain⟨rfl,rfl,sq⟩:=d7 f.2
  refine⟨_,_,a5.blk.all,_,_,a6.blk.all,yC (c199 sp sq h0 W2 (hg.ext i)) ?_⟩
  rintro v w3 ⟨⟨s,rfl,hs⟩,a9⟩
  exact⟨s,rfl,⟨s,rfl,hs⟩,i.trans a9⟩
 ·have zp:nd p.num.natAbs<=a.size/\nd p.den<=a.size:=by rw [zAc,ha];exact zFg p
  have zq:nd q.num.natAbs<=b.size/\nd q.den<=b.size:=by rw [zAc,hb];exact zFg q
  refine yC (c153 a (by omega) W2 (hg.ext i)) ?_
  rintro v w3 ⟨hv,a9⟩
  have e1 : ∃ u,v = .tuple #[u,.bool true]/\RatQ w3 u p:=by
   rcases hv with ⟨p',u,hp',rfl,hu⟩ | ⟨hno,_⟩
   ·rw [ha] at hp'
    obtain rfl:=zA0 hp'
    exact⟨u,rfl,hu⟩
   ·exact absurd ⟨p,ha⟩ hno
  obtain⟨u,rfl,hu⟩:=e1
  obtain⟨a1,m1,c1,a2,m2,c2,rfl,e3,e4⟩:=hu
  have d3:=i.trans a9
  have hY:=yN w3 [.bool false,.slice none 0 0,.slice none 0 0] 184
  have m:=hY.put [.bool (decide (p.num<0)),.slice a1 m1 c1,.slice a2 m2 c2] rfl
  have d5:=(yE w3).alloc (.cells #[.bool false,.slice none 0 0,.slice none 0 0] 184)
  have b4:=(e3.ext d5).put hY (zAo _ _ _ _ _ _ _) [.bool (decide (p.num<0)),.slice a1 m1 c1,.slice a2 m2 c2] 0 0
  have b5:=(e4.ext d5).put hY (zAo _ _ _ _ _ _ _) [.bool (decide (p.num<0)),.slice a1 m1 c1,.slice a2 m2 c2] 0 0
  have b0:Ext w (setCells (w3.alloc (.cells #[.bool false,.slice none 0 0,.slice none 0 0] 184)) ⟨w3.heap.size,0,none⟩ 0 [.bool (decide (p.num<0)),.slice a1 m1 c1,.slice a2 m2 c2]):=(d3.alloc _).put (by exact d3.size) _ _
  refine⟨_,_,_,_,_,_,_,_,rfl,hY.blk.writable (by decide),?_⟩
  generalize setCells (w3.alloc (.cells #[.bool false,.slice none 0 0,.slice none 0 0] 184)) ⟨w3.heap.size,0,none⟩ 0 [.bool (decide (p.num<0)),.slice a1 m1 c1,.slice a2 m2 c2]=W3 at m b4 b5 b0 ⊢
  generalize w3.heap.size=B3 at m ⊢
  refine yC (c153 b (by omega) W3 (hg.ext b0)) ?_
  rintro v w4 ⟨hv,g⟩
  have e2 : ∃ u,v = .tuple #[u,.bool true]/\RatQ w4 u q:=by
   rcases hv with ⟨p',u,hp',rfl,hu⟩ | ⟨hno,_⟩
   ·rw [hb] at hp'
    obtain rfl:=zA0 hp'
    exact⟨u,rfl,hu⟩
   ·exact absurd ⟨q,hb⟩ hno
  obtain⟨u,rfl,hu⟩:=e2
  obtain⟨a3,m3,c3,a4,m4,c4,rfl,e5,e6⟩:=hu
  have d4:=b0.trans g
  have hZ:=yN w4 [.bool false,.slice none 0 0,.slice none 0 0] 184
  have a7:=hZ.put [.bool (decide (q.num<0)),.slice a3 m3 c3,.slice a4 m4 c4] rfl
  have j:=(yE w4).alloc (.cells #[.bool false,.slice none 0 0,.slice none 0 0] 184)
  have b6:=((b4.ext g).ext j).put hZ (zAo _ _ _ _ _ _ _) [.bool (decide (q.num<0)),.slice a3 m3 c3,.slice a4 m4 c4] 0 0
  have b7:=((b5.ext g).ext j).put hZ (zAo _ _ _ _ _ _ _) [.bool (decide (q.num<0)),.slice a3 m3 c3,.slice a4 m4 c4] 0 0
  have b8:=(e5.ext j).put hZ (zAo _ _ _ _ _ _ _) [.bool (decide (q.num<0)),.slice a3 m3 c3,.slice a4 m4 c4] 0 0
  have b9:=(e6.ext j).put hZ (zAo _ _ _ _ _ _ _) [.bool (decide (q.num<0)),.slice a3 m3 c3,.slice a4 m4 c4] 0 0
  have d0:=(m.ext (g.trans j)).same (zAk (b:=w4.heap.size) (o:=0) (k:=B3) (by have:=(m.ext g).lt;omega) [.bool (decide (q.num<0)),.slice a3 m3 c3,.slice a4 m4 c4] 0)
  have b3:Ext w (setCells (w4.alloc (.cells #[.bool false,.slice none 0 0,.slice none 0 0] 184)) ⟨w4.heap.size,0,none⟩ 0 [.bool (decide (q.num<0)),.slice a3 m3 c3,.slice a4 m4 c4]):=(d4.alloc _).put (by exact d4.size) _ _
  refine⟨_,_,_,_,_,_,_,_,rfl,hZ.blk.writable (by decide),?_⟩
  generalize setCells (w4.alloc (.cells #[.bool false,.slice none 0 0,.slice none 0 0] 184)) ⟨w4.heap.size,0,none⟩ 0 [.bool (decide (q.num<0)),.slice a3 m3 c3,.slice a4 m4 c4]=W4 at a7 b6 b7 b8 b9 d0 b3 ⊢
  generalize w4.heap.size=B4 at a7 ⊢
  rw [Bool.not_true,Bool.or_self,cond_false]
  refine⟨_,_,_,_,_,_,_,d0.blk.all,_,_,_,_,_,_,_,a7.blk.all,yC (c200 W4 ⟨_,_,_,_,_,_,rfl,b6,b7⟩ ⟨_,_,_,_,_,_,rfl,b8,b9⟩ h0 (by omega) (hg.ext b3)) ?_⟩
  rintro v w5 ⟨⟨s,rfl,hs⟩,d8⟩
  exact⟨s,rfl,⟨s,rfl,hs⟩,b3.trans d8⟩
theorem c157 {a b:BA} {p q:Rat} (ha:bs a=txtQ p) (hb:bs b=txtQ q) (hz:a.size+b.size<=400000000) (w:World) (hg:Gl w):Ret prog 157 #[.string a,.string b] w fun v w'=>TxtV (p+q) v/\Ext w w':=by
 refine run157 _ _ _ _ (yC (c190_191 ha hb hz w hg) ?_)
 rintro v w1 ⟨⟨s,rfl,hs⟩,he⟩
 exact⟨s,rfl,⟨s,rfl,hs⟩,he⟩
theorem c158 {a b:BA} {p q:Rat} (ha:bs a=txtQ p) (hb:bs b=txtQ q) (hz:a.size+b.size<=400000000) (w:World) (hg:Gl w):Ret prog 158 #[.string a,.string b] w fun v w'=>TxtV (p*q) v/\Ext w w':=by
 refine run158 _ _ _ _ (yC (c190_196 ha hb hz w hg) ?_)
 rintro v w1 ⟨⟨s,rfl,hs⟩,he⟩
 exact⟨s,rfl,⟨s,rfl,hs⟩,he⟩
theorem zEr (q:Rat):txtQ q=[48]↔q=0:=by
 have h0:txtQ 0=[48]:=by rw [zA3,if_neg (by decide),if_pos (show (0:Rat).den=1 from rfl)];exact congrArg (· ++ []) zAQ
 exact⟨fun h=>zA0 (by rw [h,h0]),fun h=>by rw [h,h0]⟩
theorem c164 {a b:BA} {p q:Rat} (ha:bs a=txtQ p) (hb:bs b=txtQ q) (h0:q≠0) (hz:a.size+b.size<=400000000) (w:World) (hg:Gl w):Ret prog 164 #[.string a,.string b] w fun v w'=>TxtV (p*q⁻¹) v/\Ext w w':=by
 refine run164 _ _ _ _ ?_
 unfold vc164
 rw [zAt,hb]
 have : ¬ txtQ q=bs { data:=#[48] }:=fun e=>h0 ((zEr q).1 e)
 rw [decide_eq_false this,cond_false]
 refine yC (c190_199 ha hb h0 hz w hg) ?_
 rintro v w1 ⟨⟨s,rfl,hs⟩,he⟩
 exact⟨s,rfl,⟨s,rfl,hs⟩,he⟩
theorem c111 (a:BA) (hz:a.size<=1000000000) (w:World) (hg:Gl w):Ret prog 111 #[.string a] w fun v w'=>v = .bool (okQ (bs a))/\Ext w w':=by
 refine run111 _ _ _ (yC (c152 a hz w hg) ?_)
 rintro v w1 ⟨hv,i⟩
 have k : ∃ n d b1,v = .tuple #[.agg #[.int .i64 n,.int .i64 d],.bool b1]/\(b1=true->okQ (bs a)=true):=by
  rcases hv with ⟨p',hp',rfl,h1,h2⟩ | ⟨n,d,rfl⟩
  ·exact⟨_,_,_,rfl,fun _=>zBv.2 ⟨_,hp'⟩⟩
  ·exact⟨_,_,_,rfl,fun h=>by cases h⟩
 obtain⟨n,d,b1,rfl,j⟩:=k
 have f:Ext w (setCells (w1.alloc (.cells #[.int .i64 0,.int .i64 0] 178)) ⟨w1.heap.size,0,none⟩ 0 [.int .i64 n,.int .i64 d]):=(i.alloc _).put (by exact i.size) _ _
 refine⟨_,_,_,rfl,(yN w1 [.int .i64 0,.int .i64 0] 178).blk.writable (by decide),?_⟩
 refine zAb (fun h=>⟨by rw [j h],f⟩) (fun _=>?_)
 refine yC (c153 a hz _ (hg.ext f)) ?_
 rintro v w2 ⟨hv,g⟩
 rcases hv with ⟨q,u,hq,rfl,a1,m1,c1,a2,m2,c2,rfl,hu1,hu2⟩ | ⟨hno,b,a1,m1,c1,a2,m2,c2,rfl⟩
 ·exact⟨_,_,_,_,_,_,_,_,rfl,(yN w2 [.bool false,.slice none 0 0,.slice none 0 0] 184).blk.writable (by decide),by rw [zBv.2 ⟨q,hq⟩],((f.trans g).alloc _).put (by exact (f.trans g).size) _ _⟩
 ·refine⟨_,_,_,_,_,_,_,_,rfl,(yN w2 [.bool false,.slice none 0 0,.slice none 0 0] 184).blk.writable (by decide),?_,((f.trans g).alloc _).put (by exact (f.trans g).size) _ _⟩
  cases h:okQ (bs a) with
  | false=>rfl
  | true=>exact absurd (zBv.1 h) hno
theorem txt_head (q:Rat) : ∃ c r,txtQ q=c::r/\(c=45↔q.num<0):=by
 rw [zA3]
 by_cases h:q.num<0
 ·rw [if_pos h]
  exact⟨45,_,rfl,by simp [h]⟩
 ·rw [if_neg h]
  obtain⟨c,l,e,hc⟩:=zEn q.num.natAbs
  rw [e]
  exact⟨c,_,rfl,fun e=>absurd e (dig_ne hc).1,fun h2=>absurd h2 h⟩
theorem c131 {a:BA} {q:Rat} (ha:bs a=txtQ q) (hz:a.size<=1000000000) (w:World) (hg:Gl w):Ret prog 131 #[.string a] w fun v w'=>v = .int .i64 q.num.sign/\Ext w w':=by
 refine run131 _ _ _ (yC (c111 a hz w hg) ?_)
 rintro v w1 ⟨rfl,he⟩
 refine⟨_,rfl,?_⟩
 rw [zBv.2 ⟨q,ha⟩,Bool.not_true,Bool.false_or,zAt,ha]
 obtain⟨c,r,hc,hn⟩:=txt_head q
 refine zAe (fun h=>⟨?_,he⟩) (fun h=>⟨⟨by omega,?_⟩,?_⟩)
 ·rw [(zEr q).1 h];rfl
 ·have:0<a.size:=by rw [zAc,ha,hc];simp
  omega
 ·have d:q.num≠0:=fun e=>h ((zEr q).2 (Rat.num_eq_zero.1 e))
  have hb:bt a 0=(c.toNat:Int):=by
   show (((bs a).getD 0 0).toNat:Int)=_
   rw [ha,hc];rfl
  have b:=u8_beq c 45 (by omega)
  rw [hb,show ((45:Nat):Int)=45 from rfl] at *
  rw [b]
  refine zAb (fun h2=>⟨?_,he⟩) (fun h2=>⟨?_,he⟩)
  ·have:q.num<0:=hn.1 (by simpa using h2)
   rw [Int.sign_eq_neg_one_of_neg this]
  ·have : ¬ q.num<0:=fun h3=>by have:=hn.2 h3;rw [this] at h2;exact absurd h2 (by decide)
   rw [Int.sign_eq_one_of_pos (by omega)]
theorem txt_neg (q:Rat):(q.num<0->txtQ q=45::txtQ (-q)):=by
 intro h
 rw [zA3,zA3,if_pos h,Rat.neg_num,Rat.neg_den,if_neg (show ¬ -q.num<0 by omega),Int.natAbs_neg]
 rfl
theorem c169 {a:BA} {q:Rat} (ha:bs a=txtQ q) (hz:a.size<=1000000000) (w:World) (hg:Gl w):Ret prog 169 #[.string a] w fun v w'=>TxtV (-q) v/\Ext w w':=by
 refine run169 _ _ _ (yC (c131 ha hz w hg) ?_)
 rintro v w1 ⟨rfl,b⟩
 refine⟨_,rfl,zAe (fun hn=>?_) (fun hn=>?_)⟩
 ·have f:q.num<0:=Int.sign_neg_iff.1 hn
  have h1:=txt_neg q f
  have hs:1<=a.size:=by rw [zAc,ha,h1];simp
  refine⟨⟨by omega,by omega⟩,⟨_,rfl,?_⟩,b⟩
  rw [zAV,rest,ha,h1]
  rw [zAc,ha,h1]
  simp
 ·refine yC (c131 ha hz w1 (hg.ext b)) ?_
  rintro v w2 ⟨rfl,d⟩
  refine⟨_,rfl,zAe (fun hp=>?_) (fun hp=>?_)⟩
  ·have g:0<q.num:=Int.sign_pos_iff.1 hp
   refine⟨by omega,⟨_,rfl,?_⟩,b.trans d⟩
   have:=txt_neg (-q) (by rw [Rat.neg_num];omega)
   rw [Rat.neg_neg] at this
   rw [zAN,ha,this];rfl
  ·have h0:q.num=0:=by
    have h1 : ¬ q.num<0:=fun h=>hn (Int.sign_neg_iff.2 h)
    have h2 : ¬ 0<q.num:=fun h=>hp (Int.sign_pos_iff.2 h)
    omega
   have hq:q=0:=Rat.num_eq_zero.1 h0
   rw [zAt,ha]
   refine zAe (fun _=>⟨⟨a,rfl,by rw [ha,hq,Rat.neg_zero]⟩,b.trans d⟩) (fun h=>absurd ((zEr q).2 hq) h)
end Go.Proofs.Si
namespace Go.Tb
structure Sys where
 n:Nat
 m:Nat
 C:Nat->Nat->Rat
 rel:Nat->Nat
 K:Nat->Rat
structure Dy where
 basic:Nat->Nat
 cols:Nat->Nat
 line:Nat->Int
 a:Nat->Nat->Rat
 val:Nat->V2
def Sol (S:Sys) (x:Nat->Rat):Prop:=∀ i,i<S.m->x (S.n+i)=sumN S.n fun j=>S.C i j*x j
def DSol (S:Sys) (s:Dy) (x:Nat->Rat):Prop:=∀ i,i<S.m->x (s.basic i)=sumN S.n fun k=>s.a i k*x (s.cols k)
structure Perm (S:Sys) (s:Dy):Prop where
 bas : ∀ i,i<S.m->s.basic i<S.n+S.m/\s.line (s.basic i)=i
 col : ∀ j,j<S.n->s.cols j<S.n+S.m/\s.line (s.cols j) = -1
 inj : ∀ j k,j<S.n->k<S.n->s.cols j=s.cols k->j=k
 lin : ∀ v,v<S.n+S.m->(0<=s.line v->s.line v<S.m/\s.basic (s.line v).toNat=v)/\(s.line v<0->s.line v = -1/\∃ j,j<S.n/\s.cols j=v)
structure Dict (S:Sys) (s:Dy):Prop where
 perm:Perm S s
 sol : ∀ x,Sol S x↔DSol S s x
theorem Perm.basInj {S:Sys} {s:Dy} (h:Perm S s) {i k:Nat} (hi:i<S.m) (hk:k<S.m) (e:s.basic i=s.basic k):i=k:=by
 have h1:=(h.bas i hi).2
 have h2:=(h.bas k hk).2
 rw [e,h2] at h1
 omega
theorem Perm.ne {S:Sys} {s:Dy} (h:Perm S s) {i j:Nat} (hi:i<S.m) (hj:j<S.n):s.basic i≠s.cols j:=by
 intro e
 have h1:=(h.bas i hi).2
 have h2:=(h.col j hj).2
 rw [e,h2] at h1
 omega
def upd {α:Type} (f:Nat->α) (i:Nat) (x:α):Nat->α:=fun k=>if k=i then x else f k
theorem zA1 {α:Type} (f:Nat->α) (i:Nat) (x:α):upd f i x i=x:=by simp [upd]
theorem zAs {α:Type} (f:Nat->α) {i k:Nat} (h:k≠i) (x:α):upd f i x k=f k:=by simp [upd,h]
def pivA (a:Nat->Nat->Rat) (i j:Nat):Nat->Nat->Rat:=fun l k =>
 if l=i then (if k=j then (a i j)⁻¹ else - (a i k*(a i j)⁻¹))
 else if k=j then a l j*(a i j)⁻¹ else a l k+a l j*(- (a i k*(a i j)⁻¹))
def pivot (s:Dy) (i j:Nat):Dy :=
 { s with a:=pivA s.a i j,basic:=upd s.basic i (s.cols j),cols:=upd s.cols j (s.basic i),line:=upd (upd s.line (s.basic i) (-1)) (s.cols j) i }
theorem zF2 {S:Sys} {s:Dy} (h:Perm S s) {i j:Nat} (hi:i<S.m) (hj:j<S.n):Perm S (pivot s i j):=by
 have b:=h.ne hi hj
 have hb:=h.bas i hi
 have hc:=h.col j hj
 refine⟨fun l hl=>?_,fun k hk=>?_,fun k l hk hl e=>?_,fun v hv=>?_⟩
 ·simp only [pivot] at hl ⊢
  by_cases e:l=i
  ·subst e
   rw [zA1,zA1]
   exact⟨hc.1,rfl⟩
  ·rw [zAs _ e]
   have h1:=h.bas l hl
   rw [zAs _ (h.ne hl hj),zAs _ (fun e2=>e (h.basInj hl hi e2))]
   exact h1
 ·simp only [pivot] at hk ⊢
  by_cases e:k=j
  ·subst e
   rw [zA1,zAs _ b,zA1]
   exact⟨hb.1,rfl⟩
  ·rw [zAs _ e]
   have h1:=h.col k hk
   rw [zAs _ (fun e2=>e (h.inj k j hk hj e2)),zAs _ (fun e2=>h.ne hi hk e2.symm)]
   exact h1
 ·simp only [pivot] at hk hl e
  by_cases e1:k=j
  ·by_cases e2:l=j
   ·rw [e1,e2]
   ·rw [e1,zA1,zAs _ e2] at e
    exact absurd e (h.ne hi hl)
  ·by_cases e2:l=j
   ·rw [e2,zA1,zAs _ e1] at e
    exact absurd e.symm (h.ne hi hk)
   ·rw [zAs _ e1,zAs _ e2] at e
    exact h.inj k l hk hl e
 ·simp only [pivot] at hv ⊢
  by_cases e1:v=s.cols j
  ·subst e1
   rw [zA1]
   refine⟨fun _=>⟨by omega,?_⟩,fun h0=>by omega⟩
   rw [Int.toNat_natCast,zA1]
  ·rw [zAs _ e1]
   by_cases e2:v=s.basic i
   ·subst e2
    rw [zA1]
    refine⟨fun h0=>by omega,fun _=>⟨rfl,j,hj,by rw [zA1]⟩⟩
   ·rw [zAs _ e2]
    obtain⟨h1,h2⟩:=h.lin v hv
    refine⟨fun h0=>?_,fun h0=>?_⟩
    ·obtain⟨h3,h4⟩:=h1 h0
     refine⟨h3,?_⟩
     rw [zAs _ (fun e=>e2 (by rw [<- h4,e]))]
     exact h4
    ·obtain⟨h3,k,hk,h4⟩:=h2 h0
     refine⟨h3,k,hk,?_⟩
     rw [zAs _ (fun e=>e1 (by rw [<- h4,e]))]
     exact h4
theorem zF3 {S:Sys} {s:Dy} {i j:Nat} (hi:i<S.m) (hj:j<S.n) (hp:Perm S s) (h0:s.a i j≠0) (x:Nat->Rat):DSol S s x->DSol S (pivot s i j) x:=by
 intro h l hl
 simp only [pivot] at hl ⊢
 have hI:=h i hi
 rw [zC8 hj] at hI
 have hJ:x (s.cols j)=(s.a i j)⁻¹*x (s.basic i)+sumN S.n (fun k=>if k=j then 0 else - (s.a i k*(s.a i j)⁻¹)*x (s.cols k)):=by
  have e:(sumN S.n fun k=>if k=j then 0 else - (s.a i k*(s.a i j)⁻¹)*x (s.cols k)) = - (s.a i j)⁻¹*sumN S.n (fun k=>if k=j then 0 else s.a i k*x (s.cols k)):=by
   rw [<- zBK]
   refine zAn fun k _=>?_
   split <;> grind
  rw [e,hI]
  have:=Rat.inv_mul_cancel _ h0
  grind
 have hS : ∀ f:Nat->Rat,(sumN S.n fun k=>f k*x (upd s.cols j (s.basic i) k))=f j*x (s.basic i)+sumN S.n (fun k=>if k=j then 0 else f k*x (s.cols k)):=by
  intro f
  rw [zC8 hj,zA1]
  congr 1
  refine zAn fun k _=>?_
  split
  ·rfl
  ·rename_i e;rw [zAs _ e]
 rw [hS]
 by_cases e:l=i
 ·subst e
  rw [zA1,hJ]
  congr 1
  ·rw [pivA,if_pos rfl,if_pos rfl]
  ·refine zAn fun k _=>?_
   split
   ·rfl
   ·rename_i e;rw [pivA,if_pos rfl,if_neg e]
 ·rw [zAs _ e,h l hl,zC8 hj,hJ]
  have e1:(sumN S.n fun k=>if k=j then 0 else pivA s.a i j l k*x (s.cols k))=sumN S.n (fun k=>if k=j then 0 else s.a l k*x (s.cols k))+s.a l j*sumN S.n (fun k=>if k=j then 0 else - (s.a i k*(s.a i j)⁻¹)*x (s.cols k)):=by
   rw [<- zBK,<- zD1]
   refine zAn fun k _=>?_
   split
   ·grind
   ·rename_i e2;rw [pivA,if_neg e,if_neg e2];grind
  rw [e1,pivA,if_neg e,if_pos rfl]
  grind
theorem pivA_ne {s:Dy} {i j:Nat} (h0:s.a i j≠0):(pivot s i j).a i j≠0:=by
 simp only [pivot,pivA,if_true]
 intro e
 have:=Rat.inv_mul_cancel _ h0
 rw [e] at this
 grind
theorem pivA_pivA {a:Nat->Nat->Rat} {i j:Nat} (h0:a i j≠0) (l k:Nat):pivA (pivA a i j) i j l k=a l k:=by
 have h1:=Rat.inv_mul_cancel _ h0
 have h2:(a i j)⁻¹⁻¹=a i j:=Rat.inv_inv _
 unfold pivA
 simp only [if_true,h2]
 by_cases e1:l=i
 ·subst e1
  rw [if_pos rfl]
  by_cases e2:k=j
  ·subst e2;rw [if_pos rfl]
  ·rw [if_neg e2]
   simp only [if_neg e2]
   grind
 ·rw [if_neg e1]
  simp only [if_neg e1]
  by_cases e2:k=j
  ·subst e2
   simp only [if_true]
   grind
  ·simp only [if_neg e2]
   grind
theorem zF4 {S:Sys} {s:Dy} (h:Dict S s) {i j:Nat} (hi:i<S.m) (hj:j<S.n) (h0:s.a i j≠0):Dict S (pivot s i j):=by
 refine⟨zF2 h.perm hi hj,fun x=>?_⟩
 have e:Sol S x↔Sol S x:=Iff.rfl
 rw [e,h.sol]
 refine⟨zF3 hi hj h.perm h0 x,fun hd=>?_⟩
 have:=zF3 (s:=pivot s i j) hi hj (zF2 h.perm hi hj) (pivA_ne h0) x hd
 intro l hl
 have h2:=this l hl
 simp only [pivot] at h2
 rw [show upd (upd s.basic i (s.cols j)) i (upd s.cols j (s.basic i) j) l=s.basic l by
  by_cases e:l=i
  ·subst e;rw [zA1,zA1]
  ·rw [zAs _ e,zAs _ e]] at h2
 rw [h2]
 refine zAn fun k hk=>?_
 rw [pivA_pivA h0]
 congr 2
 by_cases e:k=j
 ·subst e;rw [zA1,zA1]
 ·rw [zAs _ e,zAs _ e]
def ext (S:Sys) (y:Nat->Rat):Nat->Rat:=fun v=>if v<S.n then y v else sumN S.n fun j=>S.C (v - S.n) j*y j
theorem ext_sol (S:Sys) (y:Nat->Rat):Sol S (ext S y):=by
 intro i hi
 unfold ext
 rw [if_neg (by omega),Nat.add_sub_cancel_left]
 refine zAn fun j hj=>?_
 rw [if_pos hj]
theorem zFc {S:Sys} {y:Nat->Rat} {v:Nat} (h:v<S.n):ext S y v=y v:=if_pos h
theorem cols_lt {S:Sys} {s:Dy} (h:Dict S s) (hz : ∀ v,v<S.n->s.line v<0) (c:Nat) (hcn:c<S.n):s.cols c<S.n:=by
  refine Decidable.byContradiction fun d=>?_
  have b : ∀ v,v<S.n->∃ j,j<S.n/\s.cols j=v:=fun v hv=>((h.perm.lin v (by omega)).2 (hz v hv)).2
  let y:Nat->Rat:=fun v=>if v=s.cols c then 1 else if ∃ l,l<S.m/\s.basic l=v then sumN S.n (fun k=>s.a ((s.line v).toNat) k*(if k=c then 1 else 0)) else 0
  have hy:DSol S s y:=by
   intro i hi
   have e1:y (s.basic i)=sumN S.n (fun k=>s.a i k*(if k=c then 1 else 0)):=by
    show (if _ then _ else _)=_
    rw [if_neg (h.perm.ne hi hcn),if_pos ⟨i,hi,rfl⟩,(h.perm.bas i hi).2]
    rfl
   rw [e1]
   refine zAn fun k hk=>?_
   congr 1
   show _=(if _ then _ else _)
   by_cases e:k=c
   ·subst e;rw [if_pos rfl,if_pos rfl]
   ·rw [if_neg e,if_neg (fun e2=>e (h.perm.inj k c hk hcn e2)),if_neg]
    rintro⟨l,hl,e2⟩
    exact h.perm.ne hl hk e2
  have o:=(h.sol y).2 hy
  have g : ∀ v,v<S.n->y v=0:=by
   intro v hv
   obtain⟨j,hj,e⟩:=b v hv
   have f:j≠c:=fun e2=>d (by rw [<- e2,e];exact hv)
   show (if _ then _ else _)=_
   rw [if_neg (fun e2=>f (h.perm.inj j c hj hcn (by rw [e,e2]))),if_neg]
   rintro⟨l,hl,e2⟩
   exact h.perm.ne hl hj (by rw [e2,e])
  have hv:=(h.perm.col c hcn).1
  have h1:y (s.cols c)=1:=by show (if _ then _ else _)=_;rw [if_pos rfl]
  have h2:=o (s.cols c - S.n) (by omega)
  rw [show S.n+(s.cols c - S.n)=s.cols c by omega,h1,zAY fun j hj=>by rw [g j hj,Rat.mul_zero]] at h2
  grind
def cntB (line:Nat->Int):Nat->Nat
 | 0=>0
 | k+1=>cntB line k+if 0<=line k then 1 else 0
theorem cntB_le (line:Nat->Int) : ∀ k,cntB line k<=k
 | 0=>Nat.le_refl _
 | k+1=>by have:=cntB_le line k;rw [cntB];split <;> omega
theorem cntB_zero {line:Nat->Int} : ∀ {k:Nat},cntB line k=0->∀ v,v<k->line v<0
 | k+1,h,v,hv=>by
  rw [cntB] at h
  by_cases e:v=k
  ·subst e
   split at h <;> omega
  ·exact cntB_zero (k:=k) (by omega) v (by omega)
theorem cntB_pos {line:Nat->Int} : ∀ {k:Nat},0<cntB line k->∃ v,v<k/\0<=line v
 | k+1,h=>by
  rw [cntB] at h
  by_cases e:0<=line k
  ·exact⟨k,by omega,e⟩
  ·rw [if_neg e] at h
   obtain⟨v,h1,h2⟩:=cntB_pos (k:=k) (by omega)
   exact⟨v,by omega,h2⟩
theorem zFD {l l' : Nat->Int} : ∀ {k:Nat},(∀ v,v<k->(0<=l v↔0<=l' v))->cntB l k=cntB l' k
 | 0,_=>rfl
 | k+1,h=>by
  rw [cntB,cntB,zFD fun v hv=>h v (by omega)]
  have:=h k (by omega)
  by_cases e:0<=l k
  ·rw [if_pos e,if_pos (this.1 e)]
  ·rw [if_neg e,if_neg (fun e2=>e (this.2 e2))]
theorem cntB_drop {l l' : Nat->Int} {u:Nat} : ∀ {k:Nat},u<k->0<=l u->l' u<0->(∀ v,v<k->v≠u->(0<=l v↔0<=l' v))->cntB l k=cntB l' k+1
 | k+1,hu,h1,h2,h=>by
  rw [cntB,cntB]
  by_cases e:u=k
  ·subst e
   rw [if_pos h1,if_neg (by omega),zFD fun v hv=>h v (by omega) (by omega)]
  ·rw [cntB_drop (k:=k) (u:=u) (by omega) h1 h2 fun v hv=>h v (by omega)]
   have:=h k (by omega) (fun e2=>e e2.symm)
   by_cases e2:0<=l k
   ·rw [if_pos e2,if_pos (this.1 e2)]
   ·rw [if_neg e2,if_neg (fun e3=>e2 (this.2 e3))]
def bnd (H:Nat):Nat->Nat
 | 0=>H
 | k+1=>2*(bnd H k*(bnd H k*(bnd H k*bnd H k)))
theorem bnd_ge {H:Nat} (h1:1<=H) : ∀ k,1<=bnd H k
 | 0=>h1
 | k+1=>by
  have:=bnd_ge h1 k
  have h2:0<bnd H k*(bnd H k*(bnd H k*bnd H k)):=Nat.mul_pos this (Nat.mul_pos this (Nat.mul_pos this this))
  rw [bnd];omega
theorem bnd_mono {H:Nat} (h1:1<=H) {j k:Nat} (h:j<=k):bnd H j<=bnd H k:=by
 induction h with
 | refl=>exact Nat.le_refl _
 | step _ ih =>
  refine Nat.le_trans ih ?_
  rename_i k _
  have h2:=bnd_ge h1 k
  rw [bnd]
  have h3:bnd H k*1<=bnd H k*(bnd H k*(bnd H k*bnd H k)):=Nat.mul_le_mul_left _ (Nat.mul_pos h2 (Nat.mul_pos h2 h2))
  omega
theorem hgt_pivA {H:Nat} {a:Nat->Nat->Rat} {m n i j:Nat} (hi:i<m) (hj:j<n) (h : ∀ l k,l<m->k<n->hgt H (a l k)) : ∀ l k,l<m->k<n->hgt (2*(H*(H*(H*H)))) (pivA a i j l k):=by
 intro l k hl hk
 have h1:1<=H:=(h i j hi hj).pos
 have h2:1<=H*H:=Nat.mul_pos h1 h1
 have h3:1<=H*(H*H):=Nat.mul_pos h1 h2
 have g1:H*1<=H*(H*(H*H)):=Nat.mul_le_mul_left _ h3
 have g2:H*H*1<=H*H*(H*H):=Nat.mul_le_mul_left _ h2
 have g3:H*H*(H*H)=H*(H*(H*H)):=Nat.mul_assoc _ _ _
 have hp:hgt (H*H) (- (a i k*(a i j)⁻¹)):=((h i k hi hk).mul (h i j hi hj).inv).neg
 unfold pivA
 split
 ·split
  ·exact (h i j hi hj).inv.mono (by omega)
  ·exact hp.mono (by omega)
 ·split
  ·exact ((h l j hl hj).mul (h i j hi hj).inv).mono (by omega)
  ·exact (h l k hl hk).add ((h l j hl hj).mul hp)
theorem dict_hgt {H:Nat} : ∀ (k:Nat) {S:Sys} {s:Dy},Dict S s->cntB s.line S.n=k->(∀ i j,i<S.m->j<S.n->hgt H (S.C i j))->∀ l c,l<S.m->c<S.n->hgt (bnd H k) (s.a l c)
 | 0,S,s,h,hc,hC,l,c,hl,hcn=>by
  have hz:=cntB_zero hc
  have hlt:s.cols c<S.n:=cols_lt h hz c hcn
  have hlin : ∀ l,l<S.m->S.n<=s.basic l:=by
   intro l hl
   refine Decidable.byContradiction fun a5=>?_
   have h1:=hz (s.basic l) (by omega)
   have:=(h.perm.bas l hl).2
   omega
  let x:=ext S fun v=>if v=s.cols c then 1 else 0
  have hx:Sol S x:=ext_sol _ _
  have h1:=(h.sol x).1 hx l hl
  have hb:=h.perm.bas l hl
  have a4:=hlin l hl
  have h2:=hx (s.basic l - S.n) (by omega)
  rw [show S.n+(s.basic l - S.n)=s.basic l by omega] at h2
  have p:x (s.cols c)=1:=(zFc hlt).trans (if_pos rfl)
  rw [zCo hlt _ fun j hj b=>by
   rw [show x j=0 from (zFc hj).trans (if_neg b),Rat.mul_zero],p,Rat.mul_one] at h2
  have a2 : ∀ k,k<S.n->k≠c->x (s.cols k)=0:=by
   intro k hk b
   have a7:=(h.perm.col k hk).1
   have a0:s.cols k<S.n:=cols_lt h hz k hk
   exact (zFc a0).trans (if_neg (fun e=>b (h.perm.inj k c hk hcn e)))
  rw [zCo hcn _ fun k hk b=>by rw [a2 k hk b,Rat.mul_zero],p,Rat.mul_one,h2] at h1
  rw [<- h1]
  exact hC _ _ (by omega) hlt
 | k+1,S,s,h,hc,hC,l,c,hl,hcn=>by
  obtain⟨v,hv,o⟩:=cntB_pos (line:=s.line) (k:=S.n) (by omega)
  obtain⟨h3,h4⟩:=(h.perm.lin v (by omega)).1 o
  obtain⟨i,hi,d⟩ : ∃ i,i<S.m/\s.basic i=v:=⟨(s.line v).toNat,by omega,h4⟩
  obtain⟨j,hj,a6,g⟩ : ∃ j,j<S.n/\S.n<=s.cols j/\s.a i j≠0:=by
   refine Decidable.byContradiction fun a1=>?_
   let x:=ext S fun u=>if u=v then 1 else 0
   have hx:Sol S x:=ext_sol _ _
   have h1:=(h.sol x).1 hx i hi
   have a3:x (s.basic i)=1:=by
    rw [d]
    exact (zFc hv).trans (if_pos rfl)
   rw [a3,zAY fun j hj=>?_] at h1
   ·grind
   ·by_cases e:S.n<=s.cols j
    ·have:s.a i j=0:=Decidable.byContradiction fun h0=>a1 ⟨j,hj,e,h0⟩
     rw [this,Rat.zero_mul]
    ·have:x (s.cols j)=0:=(zFc (by omega)).trans (if_neg (fun e2=>h.perm.ne hi hj (by rw [d,e2])))
     rw [this,Rat.mul_zero]
  have hd:=zF4 h hi hj g
  have f:cntB (pivot s i j).line S.n=k:=by
   have h5:cntB s.line S.n=cntB (pivot s i j).line S.n+1:=by
    refine cntB_drop hv o ?_ fun u hu b=>?_
    ·simp only [pivot]
     rw [zAs _ (by omega),<- d,zA1];omega
    ·simp only [pivot]
     rw [zAs _ (by omega),d,zAs _ b]
   omega
  have ih:=dict_hgt (H:=H) k hd f hC
  have h6:=hgt_pivA (a:=(pivot s i j).a) (i:=i) (j:=j) (m:=S.m) (n:=S.n) hi hj (fun l k hl hk=>ih l k hl hk) l c hl hcn
  simp only [pivot] at h6
  rw [pivA_pivA g] at h6
  exact h6
theorem dict_bound {H:Nat} (h1:1<=H) {S:Sys} {s:Dy} (h:Dict S s) (hC : ∀ i j,i<S.m->j<S.n->hgt H (S.C i j)) : ∀ l c,l<S.m->c<S.n->hgt (bnd H S.n) (s.a l c) :=
 fun l c hl hc=>(dict_hgt _ h rfl hC l c hl hc).mono (bnd_mono h1 (cntB_le _ _))
structure Walk (p q:Nat) (enter leave:Nat->Nat) (nb:Nat->Nat->Prop):Prop where
 ein : ∀ t,p<=t->t<q->nb t (enter t)
 lout : ∀ t,p<=t->t<q->¬ nb t (leave t)
 step : ∀ t v,p<=t->t<q->(nb (t+1) v↔(nb t v/\v≠enter t)\/v=leave t)
 bland : ∀ t1 t2,p<=t1->t1<q->p<=t2->t2<q->leave t1=enter t2->enter t1<enter t2->leave t2<enter t2->(∀ v,enter t2<v->(nb t1 v↔nb t2 v))->False
theorem Walk.sub {p q p' q' : Nat} {enter leave:Nat->Nat} {nb:Nat->Nat->Prop} (h:Walk p q enter leave nb) (hp:p<=p') (hq:q'<=q):Walk p' q' enter leave nb :=
 ⟨fun t h1 h2=>h.ein t (by omega) (by omega),fun t h1 h2=>h.lout t (by omega) (by omega),fun t v h1 h2=>h.step t v (by omega) (by omega),
  fun t1 t2 h1 h2 h3 h4=>h.bland t1 t2 (by omega) (by omega) (by omega) (by omega)⟩
theorem Walk.same {p q r:Nat} {enter leave:Nat->Nat} {nb:Nat->Nat->Prop} (h:Walk p q enter leave nb) (he : ∀ t,p<=t->t<q->enter t≠r/\leave t≠r) : ∀ t,p<=t->t<=q->(nb t r↔nb p r):=by
 intro t h1 h2
 induction h1 with
 | refl=>exact Iff.rfl
 | step h1 ih =>
  rename_i t
  have b:p<=t:=h1
  have:=he t b (by omega)
  rw [h.step t r b (by omega),<- ih (by omega)]
  constructor
  ·rintro (h3 | h3)
   ·exact h3.1
   ·exact absurd h3.symm this.2
  ·exact fun h3 => .inl ⟨h3,fun e=>this.1 e.symm⟩
theorem Walk.short : ∀ (r:Nat) {p q:Nat} {enter leave:Nat->Nat} {nb:Nat->Nat->Prop},Walk p q enter leave nb->p<=q->(∀ t,p<=t->t<q->enter t<r/\leave t<r)->q<p+2 ^ r
 | 0,p,q,enter,leave,nb,h,hpq,hr=>by
  have : ¬ p<q:=fun hlt=>by have:=(hr p (Nat.le_refl _) hlt).1;omega
  have h2:2 ^ 0=1:=rfl
  omega
 | r+1,p,q,enter,leave,nb,h,hpq,hr=>by
  have hpow:2 ^ (r+1)=2 ^ r+2 ^ r:=by rw [Nat.pow_succ];omega
  have n:1<=2 ^ r:=Nat.one_le_pow _ _ (by omega)
  have i : ∀ t,p<=t->t<q->enter t≠leave t:=fun t h1 h2 e=>h.lout t h1 h2 (by rw [<- e];exact h.ein t h1 h2)
  have f : ∀ v,r<v->∀ t1 t2,p<=t1->t1<q->p<=t2->t2<q->(nb t1 v↔nb t2 v):=by
   intro v hv t1 t2 h1 h2 h3 h4
   have j : ∀ t,p<=t->t<q->enter t≠v/\leave t≠v:=fun t h1 h2=>by have:=hr t h1 h2;omega
   rw [h.same j t1 h1 (by omega),h.same j t2 h3 (by omega)]
  have key : ∀ t,p<=t->t<q->(∀ u,p<=u->u<q->u≠t->enter u≠r/\leave u≠r)->q<p+2 ^ (r+1):=by
   intro t h1 h2 ho
   have a1:=Walk.short r (h.sub (Nat.le_refl p) (q':=t) (by omega)) h1 fun u h3 h4=>by
    have:=hr u h3 (by omega);have:=ho u h3 (by omega) (by omega);omega
   have a2:=Walk.short r (h.sub (p':=t+1) (by omega) (Nat.le_refl q)) (by omega) fun u h3 h4=>by
    have:=hr u (by omega) h4;have:=ho u (by omega) h4 (by omega);omega
   omega
  by_cases hE : ∃ t,p<=t/\t<q/\enter t=r
  ·obtain⟨t,h1,h2,h3⟩:=hE
   have d : ∀ u,p<=u->u<q->leave u≠r:=by
    intro u h4 h5 e
    refine h.bland u t h4 h5 h1 h2 (by rw [e,h3]) ?_ ?_ fun v hv=>f v (by omega) u t h4 h5 h1 h2
    ·have:=hr u h4 h5;have:=i u h4 h5;omega
    ·have:=hr t h1 h2;have:=i t h1 h2;omega
   refine key t h1 h2 fun u h4 h5 g=>⟨fun e=>?_,d u h4 h5⟩
   have once : ∀ x y,p<=x->x<y->y<q->enter x=r->enter y=r->False:=by
    intro x y hx k hy ex ey
    have stay : ∀ z,x+1<=z->z<=y->¬ nb z r:=by
     intro z hz
     induction hz with
     | refl =>
      intro _
      rw [h.step x r hx (by omega)]
      rintro (⟨_,h6⟩ | h6)
      ·exact h6 ex.symm
      ·exact d x hx (by omega) h6.symm
     | step hz ih =>
      rename_i z
      intro m
      have l:x+1<=z:=hz
      rw [h.step z r (by omega) (by omega)]
      rintro (⟨h6,_⟩ | h6)
      ·exact ih (by omega) h6
      ·exact d z (by omega) (by omega) h6.symm
    exact stay y (by omega) (Nat.le_refl _) (by rw [<- ey];exact h.ein y (by omega) hy)
   rcases Nat.lt_or_gt_of_ne g with hlt | hlt
   ·exact once u t h4 hlt h2 e h3
   ·exact once t u h1 hlt h5 h3 e
  ·have b : ∀ u,p<=u->u<q->enter u≠r:=fun u h1 h2 e=>hE ⟨u,h1,h2,e⟩
   by_cases hL : ∃ t,p<=t/\t<q/\leave t=r
   ·obtain⟨t,h1,h2,h3⟩:=hL
    refine key t h1 h2 fun u h4 h5 g=>⟨b u h4 h5,fun e=>?_⟩
    have once : ∀ x y,p<=x->x<y->y<q->leave x=r->leave y=r->False:=by
     intro x y hx k hy ex ey
     have stay : ∀ z,x+1<=z->z<=y->nb z r:=by
      intro z hz
      induction hz with
      | refl=>intro _;rw [h.step x r hx (by omega)];exact .inr ex.symm
      | step hz ih =>
       rename_i z
       intro m
       have l:x+1<=z:=hz
       rw [h.step z r (by omega) (by omega)]
       exact .inl ⟨ih (by omega),fun e=>b z (by omega) (by omega) e.symm⟩
     exact h.lout y (by omega) hy (by rw [ey];exact stay y (by omega) (Nat.le_refl _))
    rcases Nat.lt_or_gt_of_ne g with hlt | hlt
    ·exact once u t h4 hlt h2 e h3
    ·exact once t u h1 hlt h5 h3 e
   ·have:=Walk.short r h hpq fun t h1 h2=>by
     have:=hr t h1 h2
     have:=b t h1 h2
     have:leave t≠r:=fun e=>hL ⟨t,h1,h2,e⟩
     omega
    omega
end Go.Tb
