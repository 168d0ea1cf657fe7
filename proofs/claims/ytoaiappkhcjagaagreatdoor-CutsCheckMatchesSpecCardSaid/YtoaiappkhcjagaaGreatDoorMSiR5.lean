/- Part of the proof: SiR5, SiL1, SiL2, SiL3, SiL4. -/
import Derived.Test.YtoaiappkhcjagaaGreatDoorMSiR1
import Derived.Test.YtoaiappkhcjagaaGreatDoorSiV2
import Derived.Test.YtoaiappkhcjagaaGreatDoorMV7
set_option linter.unusedVariables false
set_option linter.unusedSimpArgs false
namespace Go.Proofs.Si
open Go Go.V Go.Proofs Go.RowKit Go.Num Go.Proofs.Tryz
set_option maxRecDepth 100000
def sgnQ(q:Rat):Int:=q.num.sign
theorem zDq(z:Int):sgn (decide (z<0)) z.natAbs=z:=by
 unfold sgn
 by_cases h:z<0
 ·rw [decide_eq_true h,if_pos rfl];omega
 ·rw [decide_eq_false h,if_neg (by decide)];omega
theorem sgn_mul(neg:Bool)(a b:Nat):sgn neg a*(b:Int)=sgn neg (a*b):=by
 cases neg <;> simp [sgn,Int.neg_mul]
theorem sgn_mul2(m n:Bool)(a b:Nat):sgn m a*sgn n b=sgn (m != n) (a*b):=by
 cases m <;> cases n <;> simp [sgn,Int.neg_mul,Int.mul_neg]
theorem zCY(n:Bool)(a b:Nat):sgn n a+sgn n b=sgn n (a+b):=by
 cases n <;> simp [sgn] <;> omega
theorem zEn{m n:Bool}(h:m≠n){a b:Nat}(hab:b<=a):sgn m a+sgn n b=sgn m (a - b):=by
 cases m <;> cases n <;> simp [sgn] at h ⊢ <;> omega
theorem zEm{m n:Bool}(h:m≠n){a b:Nat}(hab:a<b):sgn m a+sgn n b=sgn n (b - a):=by
 cases m <;> cases n <;> simp [sgn] at h ⊢ <;> omega
theorem zFD{p q:Rat}{neg:Bool}{x:Nat}(h:sgn (decide (p.num<0)) (p.num.natAbs*q.den)+sgn (decide (q.num<0)) (q.num.natAbs*p.den)=sgn neg x):red neg x (p.den*q.den)=p+q:=by
 rw [Rat.add_def',red,<- h,<- sgn_mul,<- sgn_mul,zDq,zDq]
theorem mul_red(p q:Rat):red (decide (p.num<0) != decide (q.num<0)) (p.num.natAbs*q.num.natAbs) (p.den*q.den)=p*q:=by
 rw [Rat.mul_def',red,<- sgn_mul2,zDq,zDq]
theorem zBG(m n:Nat):(dec (m+n)).length<=max (dec m).length (dec n).length+1:=by
 have h1:=zBq m;have h2:=zBq n;obtain⟨k,hk⟩ : ∃ k,k=max (dec m).length (dec n).length:=⟨_,rfl⟩;have g1:=Nat.lt_of_lt_of_le h1 (Nat.pow_le_pow_right (by omega:0<10) (show _<=k by omega));have g2:=Nat.lt_of_lt_of_le h2 (Nat.pow_le_pow_right (by omega:0<10) (show _<=k by omega));rw [<- hk,zA9 (by omega),Nat.pow_succ];omega
theorem zA1(m n:Nat):(dec (m*n)).length<=(dec m).length+(dec n).length:=by
 have b:0<(dec m).length:=List.length_pos_iff.2 (zBi m);have:=Nat.mul_lt_mul'' (zBq m) (zBq n);rw [<- Nat.pow_add] at this;exact (zA9 (by omega)).2 this
def TxtV(q:Rat)(v:Value):Prop:=∃ u:BA,v=Sv u/\bs u=txtQ q
theorem zBJ{a:BA}{q:Rat}(h:bs a=txtQ q){v:Value}(hp:ParseQ a v) : ∃ s t:BA,v = .tuple #[.agg #[Bv (decide (q.num<0)),Sv s,Sv t],Bv true]/\bs s=dec q.num.natAbs/\bs t=dec q.den:=by
 rcases hp with ⟨q',x,h',⟨s,t,rfl,hs,ht⟩,rfl⟩ | ⟨hn,_⟩
 ·have:=zA3 (h.symm.trans h')
  subst this;exact⟨s,t,rfl,hs,ht⟩
 ·exact absurd ⟨q,h⟩ hn
theorem zAr(q:Rat):(dec q.num.natAbs).length<=(txtQ q).length/\(dec q.den).length<=(txtQ q).length:=by
 unfold txtQ txt3;have h1:1<=(dec q.num.natAbs).length:=List.length_pos_iff.2 (zBi _);constructor
 ·simp only [List.length_append];omega
 ·by_cases h:q.den=1
  ·rw [h,zB9];simp only [List.length_append,List.length_singleton];omega
  ·rw [if_neg h];simp only [List.length_append,List.length_cons];omega
theorem box3(w:World)(v0 v1 v2 a0 a1 a2:Value) :
  (setCells (w.alloc (.cells #[a0,a1,a2] 110)) ⟨w.heap.size,0,none⟩ 0 [v0,v1,v2]).heap[w.heap.size]? = some (.cells #[v0,v1,v2] 110 (0,0)):=zDS (heap_alloc_new w _) _ _ _
theorem zBj(w)(v0 v1 v2 a0 a1 a2:Value):Ext w (setCells (w.alloc (.cells #[a0,a1,a2] 110)) ⟨w.heap.size,0,none⟩ 0 [v0,v1,v2]) :=
 zCv ((yE w).alloc _) yL _ _ _
theorem zBA(w:World)(a0 a1 a2:Value):writable (w.alloc (.cells #[a0,a1,a2] 110)) ⟨w.heap.size,0,none⟩ 3:=zCQ (heap_alloc_new w _)
theorem red_len(neg:Bool)(a:Nat){b:Nat}(hb:b≠0):(dec (red neg a b).num.natAbs).length<=(dec a).length/\(dec (red neg a b).den).length<=(dec b).length:=by
 rw [zD6 _ _ hb,zEp _ _ hb,zBS];exact⟨zAw (Nat.div_le_self _ _),zAw (Nat.div_le_self _ _)⟩
theorem add_red'(p q:Rat) : ∃ neg x,p+q=red neg x (p.den*q.den)/\x<=p.num.natAbs*q.den+q.num.natAbs*p.den:=by
 by_cases h:decide (p.num<0)=decide (q.num<0)
 ·exact⟨_,_,(zFD (by rw [h,zCY])).symm,yL⟩
 ·by_cases hle:q.num.natAbs*p.den<=p.num.natAbs*q.den
  ·exact⟨_,_,(zFD (zEn h hle)).symm,by omega⟩
  ·exact⟨_,_,(zFD (zEm h (by omega))).symm,by omega⟩
def dn(q:Rat):Nat:=(dec q.num.natAbs).length
def dd(q:Rat):Nat:=(dec q.den).length
theorem add_dn(p q:Rat):dn (p+q)<=max (dn p+dd q) (dn q+dd p)+1/\dd (p+q)<=dd p+dd q:=by
 obtain⟨neg,x,he,hx⟩:=add_red' p q;have h:=red_len neg x (Nat.mul_ne_zero p.den_nz q.den_nz);rw [<- he] at h;have h1:=zAw hx;have h2:=zBG (p.num.natAbs*q.den) (q.num.natAbs*p.den);have h3:=zA1 p.num.natAbs q.den;have h4:=zA1 q.num.natAbs p.den;have h5:=zA1 p.den q.den;unfold dn dd;omega
theorem neg_dn(q:Rat):dn (-q)=dn q/\dd (-q)=dd q:=by
 unfold dn dd;rw [Rat.neg_den,Rat.neg_num,Int.natAbs_neg];exact⟨rfl,rfl⟩
theorem sub_dn(p q:Rat):dn (p - q)<=max (dn p+dd q) (dn q+dd p)+1/\dd (p - q)<=dd p+dd q:=by
 have h:=add_dn p (-q);rw [(neg_dn q).1,(neg_dn q).2,<- Rat.sub_eq_add_neg] at h;exact h
theorem sub_len(p q:Rat):(dec (p - q).num.natAbs).length+(dec (p - q).den).length<=(dec p.num.natAbs).length+(dec p.den).length+(dec q.num.natAbs).length+(dec q.den).length+(dec p.den).length+(dec q.den).length+1:=by
 have:=sub_dn p q;unfold dn dd at this;omega
theorem txtQ_len(q:Rat):(txtQ q).length<=dn q+dd q+2:=txt_len _ _ _
theorem zF4(q:Rat):dn q<=(txtQ q).length/\dd q<=(txtQ q).length:=zAr q
theorem c77(a:BA)(hz:a.size<=536870912)(w):Ret prog 77 #[Sv a] w fun v w'=>v=Bv (okQ (bs a))/\Ext w w':=by
 refine run77 _ _ _ (yC (c81 a hz w) ?_);rintro v w1 ⟨hp,he⟩
 rcases hp with ⟨q,x,hq,⟨s,t,rfl,-,-⟩,rfl⟩ | ⟨hn,rfl⟩
 ·exact⟨_,_,_,_,rfl,zBA _ _ _ _,by rw [zBE.2 ⟨q,hq⟩],he.trans (zBj _ _ _ _ _ _ _)⟩
 ·refine⟨_,_,_,_,rfl,zBA _ _ _ _,?_,he.trans (zBj _ _ _ _ _ _ _)⟩
  cases h:okQ (bs a) with
  | false=>rfl
  | true=>exact absurd (zBE.1 h) hn
theorem c43{a:BA}{q:Rat}(ha:bs a=txtQ q)(hz:a.size<=536870912)(w):Ret prog 43 #[Sv a] w fun v w'=>v=Iv (sgnQ q)/\Ext w w':=by
 refine run43 _ _ _ (yC (c81 a hz w) ?_);rintro v w1 ⟨hp,he⟩;obtain⟨s,t,rfl,hs,ht⟩:=zBJ ha hp;have hb:=box3 w1 (Bv (decide (q.num<0))) (Sv s) (Sv t) (Bv false) (S0) (S0);have b:=he.trans (zBj w1 (Bv (decide (q.num<0))) (Sv s) (Sv t) (Bv false) (S0) (S0));refine⟨_,_,_,_,rfl,zBA _ _ _ _,fun K hK=>?_⟩;rw [Bool.not_true,cond_false];refine⟨_,zAj (j:=1) hb,hK _ ?_⟩;rw [zCK hs];unfold sgnQ;refine zAb (fun h0=>⟨?_,b⟩) (fun h0=>⟨_,zAj (j:=0) hb,zAb (fun hn=>⟨?_,b⟩) (fun hn=>⟨?_,b⟩)⟩)
 ·have:=of_decide_eq_true h0
  rw [Int.natAbs_eq_zero.1 this];rfl
 ·rw [Int.sign_eq_neg_one_of_neg (of_decide_eq_true hn)]
 ·have h1:=of_decide_eq_false hn
  have h2:=of_decide_eq_false h0;rw [Int.sign_eq_one_of_pos (by omega)]
theorem c58{a b:BA}{p q:Rat}(ha:bs a=txtQ p)(hb:bs b=txtQ q)(hz:a.size<=268435456/\b.size<=268435456)(w) :
  Ret prog 58 #[Sv a,Sv b] w fun v w'=>TxtV (p+q) v/\Ext w w':=by
 refine run58 _ _ _ _ (yC (c81 a (by omega) w) ?_);rintro v w1 ⟨hp,d4⟩;obtain⟨s,t,rfl,hs,ht⟩:=zBJ ha hp;have a6:=box3 w1 (Bv (decide (p.num<0))) (Sv s) (Sv t) (Bv false) (S0) (S0);have d0:=d4.trans (zBj w1 (Bv (decide (p.num<0))) (Sv s) (Sv t) (Bv false) (S0) (S0));refine⟨_,_,_,_,rfl,zBA _ _ _ _,?_⟩;generalize setCells (w1.alloc (.cells #[Bv false,S0,S0] 110)) ⟨w1.heap.size,0,none⟩ 0 [Bv (decide (p.num<0)),Sv s,Sv t]=W1 at a6 d0 ⊢;generalize w1.heap.size=B1 at a6 ⊢;refine yC (c81 b (by omega) W1) ?_;rintro v w2 ⟨e0,d5⟩;obtain⟨s2,t2,rfl,b0,o⟩:=zBJ hb e0;have k:=box3 w2 (Bv (decide (q.num<0))) (Sv s2) (Sv t2) (Bv false) (S0) (S0);have b2:=d5.trans (zBj w2 (Bv (decide (q.num<0))) (Sv s2) (Sv t2) (Bv false) (S0) (S0));refine⟨_,_,_,_,rfl,zBA _ _ _ _,?_⟩;generalize setCells (w2.alloc (.cells #[Bv false,S0,S0] 110)) ⟨w2.heap.size,0,none⟩ 0 [Bv (decide (q.num<0)),Sv s2,Sv t2]=W2 at k b2 ⊢;generalize w2.heap.size=B2 at k ⊢;have i:=(b2.blk a6);have hx:Ext w W2:=d0.trans b2;have d8:=zAr p;have d9:=zAr q;rw [<- ha,<- zAc] at d8;rw [<- hb,<- zAc] at d9
 have z1:s.size<=268435456:=by rw [zAc,hs];omega
 have z2:t.size<=268435456:=by rw [zAc,ht];omega
 have z3:s2.size<=268435456:=by rw [zAc,b0];omega
 have z4:t2.size<=268435456:=by rw [zAc,o];omega
 rw [Bool.not_true,Bool.or_self,cond_false];intro K hK;refine⟨_,zAj (w:=W2.drew) (j:=1) i,_,zAj (w:=W2.drew) (j:=2) k,_,zAj (w:=W2.drew) (j:=1) k,_,zAj (w:=W2.drew) (j:=2) i,_,zAj (w:=W2.drew) (j:=2) i,_,zAj (w:=W2.drew) (j:=2) k,yC (c83 hs o ⟨by omega,by omega⟩ W2.drew) ?_⟩;rintro v w3 ⟨⟨u1,rfl,g⟩,a8⟩;refine⟨u1,rfl,a8,yC (c83 b0 ht ⟨by omega,by omega⟩ w3) ?_⟩;rintro v w4 ⟨⟨u2,rfl,h⟩,b5⟩;refine⟨u2,rfl,a8.trans b5,yC (c83 ht o ⟨by omega,by omega⟩ w4) ?_⟩;rintro v w5 ⟨⟨u3,rfl,b1⟩,d6⟩;have b4:Ext W2 w5:=((yE W2).drew.trans a8).trans (b5.trans d6);have l:=b4.blk i;have a2:=b4.blk k;have b3:=hx.trans b4
 have n : ∀ (x y:Nat) (u v t:BA),bs u=dec x->bs v=dec y->bs t=dec (x*y)->u.size<=268435456->v.size<=268435456->t.size<=536870912:=by
  intro x y u v t h1 h2 h3 h4 h5;rw [zAc,h1] at h4;rw [zAc,h2] at h5;rw [zAc,h3];have e3:0<(dec x).length:=List.length_pos_iff.2 (zBi x);have:=Nat.mul_lt_mul'' (zBq x) (zBq y);rw [<- Nat.pow_add] at this;have:=(zA9 (show 0<(dec x).length+(dec y).length by omega)).2 this;omega
 have e4:=n _ _ _ _ _ hs o g z1 z4;have e5:=n _ _ _ _ _ b0 ht h z3 z2;have e6:=n _ _ _ _ _ ht o b1 z2 z4;have a7:p.den*q.den≠0:=Nat.mul_ne_zero p.den_nz q.den_nz
 have fin : ∀ (neg:Bool) (x:Nat) (u:BA) (W:World),bs u=dec x->u.size<=536870913->Ext w W->sgn (decide (p.num<0)) (p.num.natAbs*q.den)+sgn (decide (q.num<0)) (q.num.natAbs*p.den)=sgn neg x ->
   ∀ {Q:Value->World->Prop},(∀ s w',bs s=txtQ (p+q)->Ext w w'->Q (Sv s) w') ->
   Called prog 82 #[Bv neg,Sv u,Sv u3] W fun v w6=>∃ b8 s9 s10,v = .agg #[Bv b8,Sv s9,Sv s10]/\Called prog 84 #[.agg #[Bv b8,Sv s9,Sv s10]] w6 fun v4 w7=>∃ s11,v4=Sv s11/\Q (Sv s11) w7:=by
  intro neg x u W hu zu hW hs Q hQ;refine yC (c82 neg hu b1 a7 ⟨by omega,by omega⟩ W) ?_;rintro v w6 ⟨⟨y1,y2,rfl,d1,d2⟩,a1⟩
  have e1:y1.size<=2147483648:=by
   rw [zAc,d1,zD6 neg _ a7,zBS];have h6:=zAw (Nat.div_le_self x (Nat.gcd x (p.den*q.den)));rw [<- hu,<- zAc] at h6;omega
  have e2:y2.size<=2147483648:=by
   rw [zAc,d2,zEp neg _ a7];have h6:=zAw (Nat.div_le_self (p.den*q.den) (Nat.gcd x (p.den*q.den)));rw [<- b1,<- zAc] at h6;omega
  refine⟨_,_,_,rfl,yC (c84 _ d1 d2 ⟨e1,e2⟩ w6) ?_⟩;rintro v w7 ⟨⟨y,rfl,hy⟩,f⟩;refine⟨y,rfl,hQ y w7 ?_ ((hW.trans a1).trans f)⟩;rw [hy,<- zFD hs];rfl
 refine⟨u3,rfl,hK u1 u2 u3 w5 ⟨_,zAj (j:=0) l,_,zAj (j:=0) a2,?_⟩⟩;refine zAb (fun d7=>?_) (fun b9=>?_)
 ·intro K1 d3
  refine⟨_,zAj (w:=w5.drew) (j:=0) l,yC (c108 g h ⟨by omega,by omega⟩ w5.drew) ?_⟩;rintro v w6 ⟨⟨u4,rfl,d⟩,a1⟩;refine⟨u4,rfl,a1,?_⟩
  have b6:decide (p.num<0)=decide (q.num<0):=by simpa using d7
  have a0:u4.size<=536870913:=by
   have:=zBG (p.num.natAbs*q.den) (q.num.natAbs*p.den);rw [<- g,<- h,<- d,<- zAc,<- zAc,<- zAc] at this;omega
  exact fin _ _ u4 w6 d a0 (b3.drew.trans a1) (by rw [b6,zCY]) (Q:=fun v w=>K1 [v] w) (fun s w' h1 h2=>d3 s w' ⟨⟨s,rfl,h1⟩,h2⟩)
 ·have a4:decide (p.num<0)≠decide (q.num<0):=by
   intro e;rw [e] at b9;simp at b9
  refine yC (c109 g h w5) ?_;rintro v w6 ⟨rfl,rfl⟩;refine⟨_,rfl,?_⟩;refine zAd (fun a9=>?_) (fun m=>?_)
  ·have b7:q.num.natAbs*p.den<=p.num.natAbs*q.den:=by
    unfold cmpN at a9;split at a9
    ·exact absurd a9 (by decide)
    ·omega
   intro K2 a5;refine⟨_,zAj (w:=w6.drew) (j:=0) l,yC (c110 g h b7 (by omega) w6.drew) ?_⟩;rintro v w7 ⟨⟨u4,rfl,d⟩,f⟩;refine⟨u4,rfl,f,?_⟩
   have a0:u4.size<=536870913:=by
    have:=zAw (Nat.sub_le (p.num.natAbs*q.den) (q.num.natAbs*p.den));rw [<- d,<- g,<- zAc,<- zAc] at this;omega
   exact fin _ _ u4 w7 d a0 (b3.drew.trans f) (zEn a4 b7) (Q:=fun v w=>K2 [v] w) (fun s w' h1 h2=>a5 s w' ⟨⟨s,rfl,h1⟩,h2⟩)
  ·have a3:p.num.natAbs*q.den<q.num.natAbs*p.den:=by
    unfold cmpN at m;split at m
    ·assumption
    ·split at m
     ·exact absurd (by decide) m
     ·exact absurd (by decide) m
   intro K2 a5;refine⟨_,zAj (w:=w6.drew) (j:=0) a2,yC (c110 h g (Nat.le_of_lt a3) (by omega) w6.drew) ?_⟩;rintro v w7 ⟨⟨u4,rfl,d⟩,f⟩;refine⟨u4,rfl,f,?_⟩
   have a0:u4.size<=536870913:=by
    have:=zAw (Nat.sub_le (q.num.natAbs*p.den) (p.num.natAbs*q.den));rw [<- d,<- h,<- zAc,<- zAc] at this;omega
   exact fin _ _ u4 w7 d a0 (b3.drew.trans f) (zEm a4 a3) (Q:=fun v w=>K2 [v] w) (fun s w' h1 h2=>a5 s w' ⟨⟨s,rfl,h1⟩,h2⟩)
theorem c79{a:BA}{q:Rat}(ha:bs a=txtQ q)(hz:a.size<=536870912)(w):Ret prog 79 #[Sv a] w fun v w'=>TxtV (-q) v/\Ext w w':=by
 refine run79 _ _ _ (yC (c81 a hz w) ?_);rintro v w1 ⟨hp,he⟩;obtain⟨s,t,rfl,hs,ht⟩:=zBJ ha hp;have hb:=box3 w1 (Bv (decide (q.num<0))) (Sv s) (Sv t) (Bv false) (S0) (S0);have d:=he.trans (zBj w1 (Bv (decide (q.num<0))) (Sv s) (Sv t) (Bv false) (S0) (S0));refine⟨_,_,_,_,rfl,zBA _ _ _ _,?_⟩;have f:=zAr q;rw [<- ha,<- zAc] at f
 have z1:s.size<=2147483648:=by rw [zAc,hs];omega
 have z2:t.size<=2147483648:=by rw [zAc,ht];omega
 rw [Bool.not_true,cond_false];intro K hK
 have fin : ∀ neg:Bool,neg=decide ((-q).num<0)->∀ u,bs u=txt3 neg q.num.natAbs q.den->bs u=txtQ (-q):=by
  intro neg hn u hu;rw [hu,txtQ,Rat.neg_den,Rat.neg_num,Int.natAbs_neg,hn,Rat.neg_num]
 refine⟨_,zAj (j:=0) hb,zAb (fun hn=>?_) (fun hn=>?_)⟩
 ·refine⟨_,zAj (j:=1) hb,_,zAj (j:=1) hb,_,zAj (j:=2) hb,yC (c84 _ hs ht ⟨z1,z2⟩ _) ?_⟩
  rintro v w3 ⟨⟨u,rfl,hu⟩,b⟩;refine⟨u,rfl,hK u w3 ⟨⟨u,rfl,fin _ ?_ u hu⟩,d.trans b⟩⟩;rw [zCK hs,Rat.neg_num,Bool.eq_iff_iff,Bool.not_eq_true',decide_eq_false_iff_not,decide_eq_true_eq]
  have g : ¬ q.num<0:=by simpa using hn
  omega
 ·refine⟨_,zAj (j:=1) hb,_,zAj (j:=2) hb,yC (c84 _ hs ht ⟨z1,z2⟩ _) ?_⟩
  rintro v w3 ⟨⟨u,rfl,hu⟩,b⟩;refine⟨u,rfl,hK u w3 ⟨⟨u,rfl,fin _ ?_ u hu⟩,d.trans b⟩⟩
  have g:q.num<0:=by simpa using hn
  rw [Rat.neg_num];exact (decide_eq_false (by omega)).symm
theorem neg_len(q:Rat):(txtQ (-q)).length<=(txtQ q).length+1:=by
 unfold txtQ txt3;rw [Rat.neg_den,Rat.neg_num,Int.natAbs_neg];simp only [List.length_append]
 split <;> split <;> simp only [List.length_cons,List.length_nil] <;> omega
theorem c59{a b:BA}{p q:Rat}(ha:bs a=txtQ p)(hb:bs b=txtQ q)(hz:a.size<=268435456/\b.size<268435456)(w) :
  Ret prog 59 #[Sv a,Sv b] w fun v w'=>TxtV (p - q) v/\Ext w w':=by
 refine run59 _ _ _ _ (yC (c79 hb (by omega) w) ?_);rintro v w1 ⟨⟨u,rfl,hu⟩,d⟩;have g:=neg_len q;rw [<- hu,<- hb,<- zAc,<- zAc] at g;refine⟨u,rfl,yC (c58 ha hu ⟨hz.1,by omega⟩ w1) ?_⟩;rintro v w2 ⟨⟨y,rfl,hy⟩,f⟩;rw [<- Rat.sub_eq_add_neg] at hy;exact⟨y,rfl,⟨y,rfl,hy⟩,d.trans f⟩
theorem c44{a b:BA}{p q:Rat}(ha:bs a=txtQ p)(hb:bs b=txtQ q)(hz:a.size<=268435456/\b.size<=268435456)(w) :
  Ret prog 44 #[Sv a,Sv b] w fun v w'=>TxtV (p*q) v/\Ext w w':=by
 refine run44 _ _ _ _ (yC (c81 a (by omega) w) ?_);rintro v w1 ⟨hp,a5⟩;obtain⟨s,t,rfl,hs,ht⟩:=zBJ ha hp;have h:=box3 w1 (Bv (decide (p.num<0))) (Sv s) (Sv t) (Bv false) (S0) (S0);have a2:=a5.trans (zBj w1 (Bv (decide (p.num<0))) (Sv s) (Sv t) (Bv false) (S0) (S0));refine⟨_,_,_,_,rfl,zBA _ _ _ _,?_⟩;generalize setCells (w1.alloc (.cells #[Bv false,S0,S0] 110)) ⟨w1.heap.size,0,none⟩ 0 [Bv (decide (p.num<0)),Sv s,Sv t]=W1 at h a2 ⊢;generalize w1.heap.size=B1 at h ⊢;refine yC (c81 b (by omega) W1) ?_;rintro v w2 ⟨b1,a6⟩;obtain⟨s2,t2,rfl,l,m⟩:=zBJ hb b1;have f:=box3 w2 (Bv (decide (q.num<0))) (Sv s2) (Sv t2) (Bv false) (S0) (S0);have a0:=a6.trans (zBj w2 (Bv (decide (q.num<0))) (Sv s2) (Sv t2) (Bv false) (S0) (S0));refine⟨_,_,_,_,rfl,zBA _ _ _ _,?_⟩;generalize setCells (w2.alloc (.cells #[Bv false,S0,S0] 110)) ⟨w2.heap.size,0,none⟩ 0 [Bv (decide (q.num<0)),Sv s2,Sv t2]=W2 at f a0 ⊢;generalize w2.heap.size=B2 at f ⊢;have d:=(a0.blk h);have hx:Ext w W2:=a2.trans a0;have a9:=zAr p;have b0:=zAr q;rw [<- ha,<- zAc] at a9;rw [<- hb,<- zAc] at b0
 have z1:s.size<=268435456:=by rw [zAc,hs];omega
 have z2:t.size<=268435456:=by rw [zAc,ht];omega
 have z3:s2.size<=268435456:=by rw [zAc,l];omega
 have z4:t2.size<=268435456:=by rw [zAc,m];omega
 rw [Bool.not_true,Bool.or_self,cond_false];intro K hK;refine⟨_,zAj (w:=W2.drew) (j:=0) d,_,zAj (w:=W2.drew) (j:=0) f,_,zAj (w:=W2.drew) (j:=1) d,_,zAj (w:=W2.drew) (j:=1) f,_,zAj (w:=W2.drew) (j:=2) d,_,zAj (w:=W2.drew) (j:=2) f,yC (c83 hs l ⟨by omega,by omega⟩ W2.drew) ?_⟩;rintro v w3 ⟨⟨u1,rfl,n⟩,k⟩;refine⟨u1,rfl,k,yC (c83 ht m ⟨by omega,by omega⟩ w3) ?_⟩;rintro v w4 ⟨⟨u3,rfl,o⟩,a1⟩;have b2:Ext w w4:=hx.trans (((yE W2).drew.trans k).trans a1)
 have g : ∀ (x y:Nat) (u v t:BA),bs u=dec x->bs v=dec y->bs t=dec (x*y)->u.size<=268435456->v.size<=268435456->t.size<=536870912:=by
  intro x y u v t h1 h2 h3 h4 h5;rw [zAc,h1] at h4;rw [zAc,h2] at h5;rw [zAc,h3];have b5:0<(dec x).length:=List.length_pos_iff.2 (zBi x);have:=Nat.mul_lt_mul'' (zBq x) (zBq y);rw [<- Nat.pow_add] at this;have:=(zA9 (show 0<(dec x).length+(dec y).length by omega)).2 this;omega
 have b6:=g _ _ _ _ _ hs l n z1 z3;have b7:=g _ _ _ _ _ ht m o z2 z4;have i:p.den*q.den≠0:=Nat.mul_ne_zero p.den_nz q.den_nz;refine⟨u3,rfl,k.trans a1,yC (c82 _ n o i ⟨by omega,by omega⟩ w4) ?_⟩;rintro v w6 ⟨⟨y1,y2,rfl,a3,a4⟩,a7⟩
 have b3:y1.size<=2147483648:=by
  rw [zAc,a3,zD6 _ _ i,zBS];have h6:=zAw (Nat.div_le_self (p.num.natAbs*q.num.natAbs) (Nat.gcd (p.num.natAbs*q.num.natAbs) (p.den*q.den)));rw [<- n,<- zAc] at h6;omega
 have b4:y2.size<=2147483648:=by
  rw [zAc,a4,zEp _ _ i];have h6:=zAw (Nat.div_le_self (p.den*q.den) (Nat.gcd (p.num.natAbs*q.num.natAbs) (p.den*q.den)));rw [<- o,<- zAc] at h6;omega
 refine⟨_,_,_,rfl,yC (c84 _ a3 a4 ⟨b3,b4⟩ w6) ?_⟩;rintro v w7 ⟨⟨y,rfl,hy⟩,a8⟩;refine⟨y,rfl,hK y w7 ⟨⟨y,rfl,?_⟩,(b2.trans a7).trans a8⟩⟩;rw [hy,<- mul_red];rfl
theorem c37{a b:BA}{p q:Rat}(ha:bs a=txtQ p)(hb:bs b=txtQ q)(hz:a.size+b.size<=178000000)(w) :
  Ret prog 37 #[Sv a,Sv b] w fun v w'=>v=Iv (sgnQ (p - q))/\Ext w w':=by
 refine run37 _ _ _ _ fun K hK=>?_;refine yC (c77 a (by omega) w) ?_;rintro v w1 ⟨rfl,d⟩;refine⟨_,rfl,?_⟩;rw [zBE.2 ⟨p,ha⟩,Bool.not_true,cond_false];refine yC (c77 b (by omega) w1) ?_;rintro v w2 ⟨rfl,f⟩;refine⟨_,rfl,?_⟩;rw [zBE.2 ⟨q,hb⟩];refine hK _ w2 ?_;rw [Bool.not_true,cond_false];refine yC (c59 ha hb ⟨by omega,by omega⟩ w2) ?_;rintro v w3 ⟨⟨u,rfl,hu⟩,g⟩
 have hl:u.size<=536870912:=by
  have h1:=txt_len (decide ((p - q).num<0)) (p - q).num.natAbs (p - q).den;have h2:=sub_len p q;have h3:=zAr p;have h4:=zAr q;rw [<- ha,<- zAc] at h3;rw [<- hb,<- zAc] at h4;rw [zAc,hu];unfold txtQ;omega
 refine⟨u,rfl,yC (c43 hu (by omega) w3) ?_⟩;rintro v w4 ⟨rfl,h⟩;exact⟨_,rfl,rfl,d.trans (f.trans (g.trans h))⟩
end Go.Proofs.Si
namespace Go.Proofs.Si
open Go Go.V Go.Proofs Go.RowKit Go.Num Go.Proofs.Tryz
open Go.IntKind (i64 u64 u32 u8)
set_option maxRecDepth 100000
def u32v(n:Nat):Value := .int .u32 (n:Int)
def NatS(w:World)(a:OA)(L:List Nat):Prop:=SlAt w a (L.map u32v)
theorem NatS.ext{w w' a}{L:List Nat}(h:NatS w a L)(he:Ext w w'):NatS w' a L:=SlAt.ext h he
theorem NatS.get{w:World}{a:OA}{L:List Nat}(h:NatS w a L){i:Nat}(hi:i<L.length) : ∃ ad,a=some ad/\w.cell? (ad.add (i*1))=some (u32v (L.getD i 0)):=by
 obtain⟨ad,ha,_,hr⟩:=SlAt.at h (j:=i) (by simpa using hi);refine⟨ad,ha,?_⟩;rw [Nat.mul_one]
 apply hr
 rw [List.getElem?_map,List.getElem?_eq_getElem hi,zDi hi];rfl
def NatV(w:World)(v:Value)(n:Nat):Prop:=∃ a c L,v=Lv a L.length c/\L.length<=c/\NatS w a L/\okL L/\normL L/\lv L=n
def NatO(w:World)(B:Nat)(v:Value)(n:Nat):Prop:=∃ a c L,v=Lv a L.length c/\w.ownsRow B 209 1 (Lv a L.length c) L.length (L.map u32v)/\okL L/\normL L/\lv L=n
theorem NatO.natV{w:World}{B:Nat}{v:Value}{n:Nat}(h:NatO w B v n):NatV w v n:=by
 obtain⟨a,c,L,hv,ho,h1,h2,h3⟩:=h;exact⟨a,c,L,hv,zFr ho,zAG ho,h1,h2,h3⟩
theorem NatV.ext{w w'}{v:Value}{n:Nat}(h:NatV w v n)(he:Ext w w'):NatV w' v n:=by
 obtain⟨a,c,L,hv,hc,hs,r⟩:=h;exact⟨a,c,L,hv,hc,hs.ext he,r⟩
theorem zCB{w:World}{B:Nat}{p:OA}{k:Nat}{D:List Nat}(h:w.ownsRow B 209 1 (Lv p D.length k) D.length (D.map u32v))(hok:okL D):NatO w B (Lv p (trimN D D.length) k) (lv D):=by
 have b:=zDL D D.length
 have hl:(D.take (trimN D D.length)).length=trimN D D.length:=by rw [List.length_take,Nat.min_eq_left b]
 refine⟨p,k,D.take (trimN D D.length),by rw [hl],?_,zBX hok _,zFP D _ yL,?_⟩
 ·rw [hl]
  have:=own_cut h b;rw [Nat.mul_one,<- List.map_take] at this;exact this
 ·rw [zGw,List.take_length]
theorem w32{n:Nat}(h:n<4294967296):u32.wrap (n:Int)=(n:Int):=by show (n:Int) % 4294967296=_;omega
theorem w32i{n:Int}(h0:0<=n)(h:n<4294967296):u32.wrap n=n:=by show n % 4294967296=_;omega
theorem w64u{n:Nat}(h:n<18446744073709551616):u64.wrap (n:Int)=(n:Int):=by show (n:Int) % 18446744073709551616=_;omega
theorem w64ui{n:Int}(h0:0<=n)(h:n<18446744073709551616):u64.wrap n=n:=by show n % 18446744073709551616=_;omega
theorem tmodN(a b:Nat):(a:Int).tmod (b:Int)=((a % b:Nat):Int):=rfl
theorem tdivN(a b:Nat):(a:Int).tdiv (b:Int)=((a / b:Nat):Int):=rfl
theorem zFi(n:Nat):(n*siE.P.types[209].size)=n:=Nat.mul_one n
theorem c218{a}{c:Nat}{L:List Nat}(hc:L.length<=c)(hl:L.length<=4611686018427387904)(w)(hs:NatS w a L) :
  Ret prog 218 #[Lv a L.length c] w fun v w'=>v=Lv a (trimN L L.length) c/\w' = w:=by
 refine run218 _ _ _ _ _ ⟨fun vals w'=>∃ j:Nat,vals=[Iv j]/\j<=L.length/\w' = w/\trimN L j=trimN L L.length,muD,⟨L.length,rfl,yL,rfl,rfl⟩,?_⟩;rintro n w1 ⟨j,hv,hj,rfl,ht⟩;cases hv;intro K hK;refine zAd (fun h0=>?_) (fun h0=>?_)
 ·obtain⟨i,rfl⟩ : ∃ i,j=i+1:=⟨j - 1,by omega⟩
  obtain⟨ad,ha,b⟩:=hs.get (i:=i) (by omega)
  have e:i64.wrap (((i+1:Nat):Int) - 1)=(i:Int):=by rw [zAe] <;> omega
  rw [trimN] at ht;rw [e];refine⟨ad,ha,⟨by omega,by omega⟩,_,b,hK _ ?_⟩;rw [e];refine zAb (fun hz=>⟨⟨i,rfl,by omega,rfl,?_⟩,?_⟩) (fun hz=>⟨⟨by omega,by omega⟩,?_,rfl⟩)
  ·have:L.getD i 0=0:=by
    have:=of_decide_eq_true (p:=((L.getD i 0:Nat):Int)=0) (by simpa using hz);omega
   rw [if_pos this] at ht;exact ht
  ·simp only [muD];omega
  ·have:L.getD i 0≠0:=by
    intro e0;rw [e0] at hz;exact absurd hz (by decide)
   rw [if_neg this] at ht;rw [<- ht,yT]
 ·have:j=0:=by omega
  subst this;refine hK false ⟨⟨by omega,by omega⟩,?_,rfl⟩;rw [<- ht];rfl
theorem c252{a}{c:Nat}{L:List Nat}(w)(hs:NatS w a L)(i:Nat) :
  Ret prog 252 #[Lv a L.length c,Iv i] w fun v w'=>v = .int .u32 ((L.getD i 0:Nat):Int)/\w' = w:=by
 refine run252 _ _ _ _ _ _ (zAd (fun h=>⟨?_,rfl⟩) (fun h=>?_))
 ·rw [List.getD,List.getElem?_eq_none (by omega)];rfl
 ·obtain⟨ad,ha,b⟩:=hs.get (i:=i) (by omega)
  exact⟨ad,ha,⟨by omega,by omega⟩,_,b,rfl,rfl⟩
theorem c188{a}{c:Nat}{L:List Nat}(w)(hs:NatS w a L)(hok:okL L)(hn:normL L) :
  Ret prog 188 #[Lv a L.length c] w fun v w'=>v=Bv (decide (lv L=1))/\w' = w:=by
 refine run188 _ _ _ _ _ fun K hK=>zAb (fun h=>?_) (fun h=>hK _ ⟨?_,rfl⟩)
 ·have hl:L.length=1:=by have:=of_decide_eq_true (p:=(L.length:Int)=1) (by simpa using h);omega
  obtain⟨ad,ha,d⟩:=hs.get (i:=0) (by omega)
  have f:ad.add (0*1)=ad:=by
   rw [Nat.mul_one]
   rcases hs with h0 | ⟨ad',h1,h2,_⟩
   ·rw [List.map_eq_nil_iff] at h0;rw [h0] at hl;cases hl
   ·rw [ha] at h1;cases h1
    cases ad with
    | mk b o s=>cases h2;rw [zAi];rfl
  rw [f] at d;refine⟨ad,ha,⟨by omega,by omega⟩,_,d,hK _ ⟨?_,rfl⟩⟩
  match L,hl with
  | [x],_ =>
   rw [lv_one]
   congr 1
   rw [Bool.eq_iff_iff,beq_iff_eq,decide_eq_true_eq];show ((x:Nat):Int)=1↔x=1;omega
 ·congr 1
  have hl:L.length≠1:=by intro e;rw [e] at h;exact absurd h (by decide)
  symm
  apply decide_eq_false
  intro e
  by_cases h0:L.length=0
  ·rw [List.eq_nil_of_length_eq_zero h0] at e;cases e
  ·have:=zEr hn (by omega)
   have h2:1000000000 ^ 1<=1000000000 ^ (L.length - 1):=Nat.pow_le_pow_right (by omega) (by omega);omega
theorem c223{a b}{ca cb:Nat}{A B:List Nat}(w)(ha:NatS w a A)(hb:NatS w b B)(oa:okL A)(ob:okL B)(na:normL A)(nb:normL B)(hl:A.length<=1099511627776/\B.length<=1099511627776) :
  Ret prog 223 #[Lv a A.length ca,Lv b B.length cb] w fun v w'=>(∃ z:Int,v=Iv z/\(z<0↔lv A<lv B))/\Ext w w':=by
 refine run223 _ _ _ _ _ _ _ _ (zAb (fun h=>⟨⟨_,rfl,?_⟩,yE _⟩) (fun h=>?_))
 ·have l:A.length≠B.length:=by intro e;rw [e] at h;simp at h
  rw [zAe (by omega) (by omega)];constructor
  ·intro k
   have : ¬ lv B<=lv A:=fun x=>by have:=zCC oa nb x;omega
   omega
  ·intro k
   have:=zCC ob na (Nat.le_of_lt k);omega
 ·have he:A.length=B.length:=by have:=of_decide_eq_true (p:=(A.length:Int)=B.length) (by simpa using h);omega
  refine⟨fun vals w'=>∃ j:Nat,vals=[Iv ((j:Int) - 1)]/\j<=A.length/\lv (A.drop j)=lv (B.drop j)/\Ext w w',muD,
   ⟨A.length,by rw [zAe (by omega) (by omega)],yL,by rw [List.drop_length,he,List.drop_length],yE _⟩,?_⟩
  rintro n w1 ⟨j,hv,hj,hd,g⟩;cases hv;refine zAd (fun h0=>?_) (fun h0=>⟨⟨0,rfl,?_⟩,g⟩)
  ·obtain⟨i,rfl⟩ : ∃ i,j=i+1:=⟨j - 1,by omega⟩
   obtain⟨ad,m,f⟩:=(ha.ext g.drew).get (i:=i) (by omega);obtain⟨bd,o,d⟩:=(hb.ext g.drew).get (i:=i) (by omega)
   have e:(((i+1:Nat):Int) - 1)=(i:Int):=by omega
   have a1:=zA7 oa i;have a2:=zA7 ob i;simp only [e];refine⟨ad,m,⟨by omega,by omega⟩,_,f,bd,o,⟨by omega,by omega⟩,_,d,zAb (fun l=>?_) (fun u=>?_)⟩
   ·refine⟨ad,m,⟨by omega,by omega⟩,_,f,bd,o,⟨by omega,by omega⟩,_,d,⟨_,rfl,?_⟩,g.drew.drew⟩
    have a0:A.getD i 0≠B.getD i 0:=by intro e;rw [e] at l;simp at l
    rw [zAe (n:=((A.getD i 0:Nat):Int)) (by omega) (by omega),zAe (n:=((B.getD i 0:Nat):Int)) (by omega) (by omega),zAe (by omega) (by omega)];constructor
    ·intro k
     exact lv_cmp oa ob (by omega) (by omega) hd (by omega)
    ·intro k
     have : ¬ B.getD i 0<A.getD i 0:=fun h=>by
      have:=lv_cmp ob oa (by omega) (by omega) hd.symm h;omega
     omega
   ·have s:A.getD i 0=B.getD i 0:=by
     have:=of_decide_eq_true (p:=((A.getD i 0:Nat):Int)=(B.getD i 0:Nat)) (by simpa using u);omega
    rw [zAe (by omega) (by omega)];refine⟨⟨i,rfl,by omega,?_,g.drew⟩,?_⟩
    ·rw [zAP (a:=A) (i:=i) (by omega),zAP (a:=B) (i:=i) (by omega),s,hd]
    ·simp only [muD];omega
  ·have:j=0:=by omega
   subst this;rw [List.drop_zero,List.drop_zero] at hd;rw [hd];omega
theorem c222{a b}{ca cb:Nat}{A B:List Nat}(w)(ha:NatS w a A)(hb:NatS w b B)(oa:okL A)(ob:okL B)(hl:A.length<=1099511627776/\B.length<=1099511627776) :
  Ret prog 222 #[Lv a A.length ca,Lv b B.length cb] w fun v w'=>NatO w' w.heap.size v (lv A+lv B)/\Ext w w':=by
 obtain⟨N,hN⟩ : ∃ N,N=max A.length B.length:=⟨_,rfl⟩
 have hm:(if (B.length:Int)>(A.length:Int) then (B.length:Int) else (A.length:Int))=(N:Int):=by split <;> omega
 have l:i64.wrap ((N:Int)+1)=((N+1:Nat):Int):=zAg (by omega);refine run222 _ _ _ _ _ _ _ _ ?_;unfold vc222;simp only [hm,l,yT]
 refine⟨⟨by omega,by omega,by omega,by omega⟩,fun vals w1=>∃ (i carry:Nat) (D:List Nat) (p:OA) (k:Nat),vals=[Iv i,.int .u32 carry,Lv p D.length k]/\D.length=i/\i<=N/\carry<=1/\okL D /\
  lv D+1000000000 ^ i*carry=lv (A.take i)+lv (B.take i)/\w1.ownsRow w.heap.size 209 1 (Lv p D.length k) D.length (D.map u32v)/\Ext w w1,mu1 N,
  ⟨0,0,[],_,_,rfl,rfl,Nat.zero_le _,by omega,zCe,rfl,World.ownsRow_made _ _ _ yL (by unfold maxLen;omega) ?_,(yE w).alloc _⟩,?_⟩
 ·simp [madeCells,Value.cells,zFi]
 rintro n n1 p k k1 w1 ⟨i,carry,D,p',k',hv,g,hi,o,oD,h,ho,he⟩;cases hv;refine zAd (fun x=>?_) (fun u=>?_)
 ·refine yC (c252 w1 (ha.ext he) i) ?_
  rintro v w2 ⟨rfl,rfl⟩;refine⟨_,rfl,yC (c252 w2 (hb.ext he) i) ?_⟩;rintro v w3 ⟨rfl,rfl⟩;have h1:=zA7 oa i;have h2:=zA7 ob i
  have e2:u32.wrap (((A.getD i 0:Nat):Int)+((B.getD i 0:Nat):Int))=((A.getD i 0+B.getD i 0:Nat):Int):=by rw [w32i (by omega) (by omega)];omega
  have e3:u32.wrap (((A.getD i 0+B.getD i 0:Nat):Int)+(carry:Int))=((A.getD i 0+B.getD i 0+carry:Nat):Int):=by rw [w32i (by omega) (by omega)];omega
  refine⟨_,rfl,?_⟩;simp only [e2,e3];generalize hs:A.getD i 0+B.getD i 0+carry=s;have e4:((s:Nat):Int).tmod 1000000000=((s % 1000000000:Nat):Int):=rfl
  have e5:u32.wrap (((s:Nat):Int).tdiv 1000000000)=((s / 1000000000:Nat):Int):=by
   rw [show ((s:Nat):Int).tdiv 1000000000=((s / 1000000000:Nat):Int) from rfl];exact w32 (by omega)
  rw [e4,e5];refine⟨_,_,_,AppOk.one (L:=[u32v (s % 1000000000)]) ho rfl rfl (by unfold maxLen;omega) (by omega) he.size,?_⟩;intro p1 k3 w4 r;have hx:=(yE w3).alloc (.cells #[u32v (s % 1000000000)] 209);have d:Ext w w4:=r.below (zAm ho hx) (he.trans hx) (by rw [size_alloc];have:=he.size;omega) yL
  have e6:(D++[s % 1000000000]).length=D.length+1:=by simp
  rw [zAg (by omega)];refine⟨⟨i+1,s / 1000000000,D++[s % 1000000000],p1,k3,by rw [e6],by omega,by omega,by omega,?_,?_,?_,d⟩,?_⟩
  ·rw [zFt];exact⟨oD,by rw [zCj];exact⟨Nat.mod_lt _ (by omega),zCe⟩⟩
  ·rw [zDA,zA8,zA8,g,Nat.pow_succ,Nat.mul_assoc]
   have g1:1000000000 ^ i*(s % 1000000000)+1000000000 ^ i*(1000000000*(s / 1000000000))=1000000000 ^ i*s:=by rw [<- Nat.mul_add];congr 1;omega
   have g2:1000000000 ^ i*s=1000000000 ^ i*A.getD i 0+1000000000 ^ i*B.getD i 0+1000000000 ^ i*carry:=by rw [<- hs,Nat.mul_add,Nat.mul_add]
   omega
  ·have:=r.own
   rw [e6,List.map_append];exact this
  ·simp only [mu1,yT];omega
 ·have j:i=N:=by omega
  subst j;refine⟨_,_,_,AppOk.one (L:=[u32v carry]) ho rfl rfl (by unfold maxLen;omega) (by omega) he.size,?_⟩;intro p1 k3 w4 r;have hx:=(yE w1).alloc (.cells #[u32v carry] 209);have d:Ext w w4:=r.below (zAm ho hx) (he.trans hx) (by rw [size_alloc];have:=he.size;omega) yL
  have e6:(D++[carry]).length=D.length+1:=by simp
  have f:w4.ownsRow w.heap.size 209 1 (Lv p1 (D++[carry]).length k3) (D++[carry]).length ((D++[carry]).map u32v):=by
   rw [e6,List.map_append];exact r.own
  have m:okL (D++[carry]):=by rw [zFt];exact⟨oD,by rw [zCj];exact⟨by omega,zCe⟩⟩
  rw [<- e6];refine yC (c218 (zFr f) (by omega) w4 (zAG f)) ?_;rintro v w5 ⟨rfl,rfl⟩;refine⟨_,_,_,rfl,?_,d⟩;have:=zCB f m;rw [zDA,g,h,List.take_of_length_le (by omega),List.take_of_length_le (by omega)] at this;exact this
theorem c224{a b}{ca cb:Nat}{A B:List Nat}(w)(ha:NatS w a A)(hb:NatS w b B)(oa:okL A)(ob:okL B)(nb:normL B)(hle:lv B<=lv A)(hl:A.length<=1099511627776) :
  Ret prog 224 #[Lv a A.length ca,Lv b B.length cb] w fun v w'=>NatO w' w.heap.size v (lv A - lv B)/\Ext w w':=by
 refine run224 _ _ _ _ _ _ _ _ ?_;unfold vc224;simp only [yT];have a0:=zCC oa nb hle
 refine⟨⟨by omega,by omega,by omega,by omega⟩,fun vals w1=>∃ (i carry:Nat) (D:List Nat) (p:OA) (k:Nat),vals=[Iv i,Iv carry,Lv p D.length k]/\D.length=i/\i<=A.length/\carry<=1/\okL D /\
  lv D+lv (B.take i)=lv (A.take i)+1000000000 ^ i*carry/\w1.ownsRow w.heap.size 209 1 (Lv p D.length k) D.length (D.map u32v)/\Ext w w1,mu1 A.length,
  ⟨0,0,[],_,_,rfl,rfl,Nat.zero_le _,by omega,zCe,rfl,World.ownsRow_made _ _ _ yL (by unfold maxLen;omega) ?_,(yE w).alloc _⟩,?_⟩
 ·simp [madeCells,Value.cells,zFi]
 rintro n n1 p k k1 w1 ⟨i,carry,D,p',k',hv,g,hi,a4,oD,d,ho,he⟩;cases hv;refine zAd (fun l=>?_) (fun a5=>?_)
 ·obtain⟨ad,s,f⟩:=(ha.ext he.drew).get (i:=i) (by omega)
  refine⟨ad,s,⟨by omega,by omega⟩,_,f,yC (c252 w1.drew (hb.ext he.drew) i) ?_⟩;rintro v w2 ⟨rfl,rfl⟩;have h1:=zA7 oa i;have h2:=zA7 ob i;refine⟨_,rfl,Below.refl _ _,fun K hK=>?_⟩
  have fin : ∀ (c x:Nat),c<=1->x<1000000000->x+B.getD i 0+carry=A.getD i 0+1000000000*c->K [Iv c,Iv x] w1.drew:=by
   intro c x hc hx hs;refine hK _ _ ?_;rw [w32 (by omega)];have m:=zAm ho ((yE w1).drew);refine⟨_,_,_,AppOk.one (L:=[u32v x]) m rfl rfl (by unfold maxLen;omega) (by omega) he.drew.size,?_⟩;intro p1 k3 w4 r;have o:=(yE w1.drew).alloc (.cells #[u32v x] 209);have u:Ext w w4:=r.below (zAm m o) (he.drew.trans o) (by rw [size_alloc];have:=he.drew.size;omega) yL
   have e6:(D++[x]).length=D.length+1:=by simp
   rw [zAg (by omega)];refine⟨⟨i+1,c,D++[x],p1,k3,by rw [e6],by omega,by omega,by omega,?_,?_,?_,u⟩,?_⟩
   ·rw [zFt];exact⟨oD,by rw [zCj];exact⟨hx,zCe⟩⟩
   ·rw [zDA,zA8,zA8,g,Nat.pow_succ,Nat.mul_assoc]
    have g1:1000000000 ^ i*(x+B.getD i 0+carry)=1000000000 ^ i*(A.getD i 0+1000000000*c):=by rw [hs]
    rw [Nat.mul_add,Nat.mul_add,Nat.mul_add] at g1;omega
   ·have:=r.own
    rw [e6,List.map_append];exact this
   ·simp only [mu1,yT];omega
  have e1:i64.wrap (i64.wrap (i64.wrap ((A.getD i 0:Nat):Int) - i64.wrap ((B.getD i 0:Nat):Int)) - (carry:Int))=((A.getD i 0:Nat):Int) - (B.getD i 0:Nat) - carry:=by
   rw [zAe (n:=((A.getD i 0:Nat):Int)) (by omega) (by omega),zAe (n:=((B.getD i 0:Nat):Int)) (by omega) (by omega),zAe (n:=((A.getD i 0:Nat):Int) - _) (by omega) (by omega),zAe (by omega) (by omega)]
  rw [e1];refine zAd (fun a2=>?_) (fun a3=>?_)
  ·rw [zAe (by omega) (by omega)]
   have:=fin 1 (A.getD i 0+1000000000 - B.getD i 0 - carry) (by omega) (by omega) (by omega);rw [show ((A.getD i 0+1000000000 - B.getD i 0 - carry:Nat):Int)=((A.getD i 0:Nat):Int) - (B.getD i 0:Nat) - carry+1000000000 by omega] at this;exact this
  ·have:=fin 0 (A.getD i 0 - B.getD i 0 - carry) (by omega) (by omega) (by omega)
   rw [show ((A.getD i 0 - B.getD i 0 - carry:Nat):Int)=((A.getD i 0:Nat):Int) - (B.getD i 0:Nat) - carry by omega] at this;exact this
 ·have j:i=A.length:=by omega
  refine yC (c218 (zFr ho) (by omega) w1 (zAG ho)) ?_;rintro v w5 ⟨rfl,rfl⟩;refine⟨_,_,_,rfl,?_,he⟩;have:=zCB ho oD;rw [j,List.take_of_length_le yL,List.take_of_length_le a0] at d;have l:=lv_lt oD;rw [g,j] at l
  have a1:carry=0:=by
   rcases Nat.eq_zero_or_pos carry with h | h
   ·exact h
   ·have:carry=1:=by omega
    rw [this,Nat.mul_one] at d;omega
  rw [a1,Nat.mul_zero,Nat.add_zero] at d;rw [show lv A - lv B=lv D by omega];exact this
theorem zEs(n:Nat):madeCells (Value.int .u32 0).cells n=((List.replicate n 0).map u32v).toArray:=by
 apply Array.ext
 ·simp [madeCells]
 ·intro i h1 h2
  simp [madeCells,Value.cells,Nat.mod_one,u32v]
def LimbsIn(w:World)(b:Nat)(L:List Nat):Prop:=w.heap[b]? = some (.cells (L.map u32v).toArray 209 (0,0))
theorem LimbsIn.cell{w:World}{b:Nat}{L:List Nat}(h:LimbsIn w b L){i:Nat}(hi:i<L.length):w.cell? ⟨b,i,none⟩=some (u32v (L.getD i 0)):=by
 rw [zAj h];simp [List.getD,hi]
theorem LimbsIn.set{w:World}{b:Nat}{L:List Nat}(h:LimbsIn w b L)(i x:Nat):LimbsIn (w.setCell ⟨b,i,none⟩ (u32v x)) b (L.set i x):=by
 unfold LimbsIn;rw [zBf h];simp [List.map_set]
theorem LimbsIn.ext{w w'}{b:Nat}{L:List Nat}(h:LimbsIn w b L)(he:Ext w w'):LimbsIn w' b L:=he.blk h
theorem LimbsIn.own{w:World}{b B:Nat}{L:List Nat}(h:LimbsIn w b L)(hb:B<=b)(hm:L.length<=maxLen):w.ownsRow B 209 1 (Lv (some ⟨b,0,none⟩) L.length L.length) L.length (L.map u32v) :=
 ⟨by simp,.inr ⟨b,L.length,_,rfl,hb,h,yL,hm,by simp,by rw [Nat.mul_one,List.toList_toArray,<- List.length_map (f:=u32v),List.take_length]⟩⟩
theorem mul_step{P lD lD0 x y lB c d:Nat}{i k v:Nat}(hP:P=1000000000 ^ (i+k))(h:lD+P*c=lD0+1000000000 ^ i*(x*lB))(hv:v=d+x*y+c){lD' : Nat}(hs:lD' + P*d=lD+P*(v % 1000000000)) :
  lD' + 1000000000 ^ (i+k+1)*(v / 1000000000)=lD0+1000000000 ^ i*(x*(lB+1000000000 ^ k*y)):=by
 rw [Nat.pow_succ,<- hP]
 have e1:P*1000000000*(v / 1000000000)+P*(v % 1000000000)=P*v:=by rw [Nat.mul_assoc,<- Nat.mul_add];congr 1;omega
 have e2:P*v=P*d+P*(x*y)+P*c:=by rw [hv,Nat.mul_add,Nat.mul_add]
 have e3:1000000000 ^ i*(x*(lB+1000000000 ^ k*y))=1000000000 ^ i*(x*lB)+P*(x*y):=by
  rw [hP,Nat.pow_add,Nat.mul_add,Nat.mul_add]
  congr 1
  rw [Nat.mul_left_comm x,Nat.mul_assoc]
 rw [e3];omega
theorem mul_lt2{x y d c:Nat}(hx:x<1000000000)(hy:y<1000000000)(hd:d<1000000000)(hc:c<1000000000):d+x*y+c<1000000000*1000000000:=by
 have:x*y<=999999999*999999999:=Nat.mul_le_mul (by omega) (by omega);omega
theorem c220{a b}{ca cb:Nat}{A B:List Nat}(w)(ha:NatS w a A)(hb:NatS w b B)(oa:okL A)(ob:okL B)(hl:A.length<=1099511627776/\B.length<=1099511627776) :
  Ret prog 220 #[Lv a A.length ca,Lv b B.length cb] w fun v w'=>NatO w' w.heap.size v (lv A*lv B)/\(∃ p n c,v=Lv p n c/\n<=A.length+B.length)/\Ext w w':=by
 have hw:i64.wrap ((A.length:Int)+(B.length:Int))=((A.length+B.length:Nat):Int):=by rw [zAe (by omega) (by omega)];omega
 refine run220 _ _ _ _ _ _ _ _ ?_;unfold vc220;simp only [hw,yT,zFi,zEs];have a0:LimbsIn (w.alloc (.cells ((List.replicate (A.length+B.length) 0).map u32v).toArray 209)) w.heap.size (List.replicate (A.length+B.length) 0):=heap_alloc_new w _
 refine⟨⟨by omega,by omega,by omega,by omega⟩,fun vals w1=>∃ (i:Nat) (D:List Nat),vals=[Iv i]/\i<=A.length/\D.length=A.length+B.length/\okL D/\lv D=lv (A.take i)*lv B /\
   (∀ j,i+B.length<=j->D.getD j 0=0)/\LimbsIn w1 w.heap.size D/\Ext w w1,mu1 A.length,
  ⟨0,_,rfl,Nat.zero_le _,List.length_replicate,zG7 _,?_,?_,a0,(yE w).alloc _⟩,?_⟩
 ·rw [lv_zero,List.take_zero,zDe,Nat.zero_mul]
 ·intro j _
  rw [List.getD,List.getElem?_replicate];split <;> rfl
 rintro n w1 ⟨i,D,hv,hi,u,oD,f,hz,hD,he⟩;cases hv;refine zAd (fun b0=>?_) (fun a9=>?_)
 ·obtain⟨ad,a1,m⟩:=(ha.ext he).get (i:=i) (by omega)
  have hx:=zA7 oa i
  refine⟨ad,a1,⟨by omega,by omega⟩,_,m,fun vals w2=>∃ (k c:Nat) (E:List Nat),vals=[Iv k,.int .u64 c]/\k<=B.length/\c<1000000000/\E.length=A.length+B.length/\okL E /\
    lv E+1000000000 ^ (i+k)*c=lv D+1000000000 ^ i*(A.getD i 0*lv (B.take k))/\(∀ j,i+B.length<=j->E.getD j 0=0)/\LimbsIn w2 w.heap.size E/\Ext w w2,mu1 B.length,
   ⟨0,0,D,rfl,Nat.zero_le _,by omega,u,oD,?_,hz,hD,he⟩,?_⟩
  ·rw [List.take_zero,zDe];simp
  rintro n2 n3 w2 ⟨k,c,E,hv,hk,hc,x,oE,g,s,hE,o⟩;cases hv;refine zAd (fun a7=>?_) (fun a6=>?_)
  ·obtain⟨bd,a2,l⟩:=(hb.ext o).get (i:=k) (by omega)
   have hy:=zA7 ob k;have hd:=zA7 oE (i+k)
   have e1:i64.wrap ((i:Int)+(k:Int))=((i+k:Nat):Int):=by rw [zAe (by omega) (by omega)];omega
   have d:i+k<E.length:=by omega
   have h:=hE.cell d;have a5:=mul_lt2 hx hy hd hc;have a8:A.getD i 0*B.getD k 0<=999999999*999999999:=Nat.mul_le_mul (by omega) (by omega);refine⟨bd,a2,⟨by omega,by omega⟩,_,l,_,rfl,?_⟩;simp only [e1,yT,Nat.mul_one,zAi,Nat.zero_add];refine⟨⟨by omega,by omega⟩,_,h,_,rfl,⟨by omega,by omega⟩,?_⟩;simp only [zAi,Nat.zero_add]
   have e2:u64.wrap (u64.wrap (u64.wrap ((E.getD (i+k) 0:Nat):Int)+u64.wrap (u64.wrap ((A.getD i 0:Nat):Int)*u64.wrap ((B.getD k 0:Nat):Int)))+(c:Int))=((E.getD (i+k) 0+A.getD i 0*B.getD k 0+c:Nat):Int):=by
    rw [w64u (n:=E.getD (i+k) 0) (by omega),w64u (n:=A.getD i 0) (by omega),w64u (n:=B.getD k 0) (by omega),<- Int.natCast_mul,w64u (by omega),<- Int.natCast_add,w64u (by omega),<- Int.natCast_add,w64u (by omega)]
   rw [e2];generalize hV:E.getD (i+k) 0+A.getD i 0*B.getD k 0+c=V at a5
   have e3:u32.wrap (((V:Nat):Int).tmod 1000000000)=((V % 1000000000:Nat):Int):=by
    rw [show ((V:Nat):Int).tmod 1000000000=((V % 1000000000:Nat):Int) from rfl];exact w32 (by omega)
   have e4:u64.wrap (((V:Nat):Int).tdiv 1000000000)=((V / 1000000000:Nat):Int):=by
    rw [show ((V:Nat):Int).tdiv 1000000000=((V / 1000000000:Nat):Int) from rfl];exact w64u (by omega)
   rw [e3,e4,zAg (by omega)];refine⟨⟨⟨_,h⟩,zBk hE⟩,⟨k+1,V / 1000000000,E.set (i+k) (V % 1000000000),rfl,by omega,by omega,by rw [List.length_set,x],zEq oE _ (Nat.mod_lt _ (by omega)),?_,?_,hE.set _ _,Below.setCell (p:=⟨w.heap.size,i+k,none⟩) o yL _⟩,?_⟩
   ·have:=mul_step (y:=B.getD k 0) rfl g hV.symm (lv_set (V % 1000000000) d)
    rw [zA8];exact this
   ·intro j hj
    rw [List.getD_eq_getElem?_getD,List.getElem?_set_ne (by omega),<- List.getD_eq_getElem?_getD];exact s j hj
   ·simp only [mu1,yT];omega
  ·have a4:k=B.length:=by omega
   subst a4
   have e1:i64.wrap ((i:Int)+(B.length:Int))=((i+B.length:Nat):Int):=by rw [zAe (by omega) (by omega)];omega
   have d:i+B.length<E.length:=by omega
   have h:=hE.cell d;refine⟨_,rfl,?_⟩;simp only [e1,yT,Nat.mul_one,zAi,Nat.zero_add];rw [w32 (by omega),zAg (by omega)];refine⟨⟨by omega,by omega⟩,⟨⟨_,h⟩,zBk hE⟩,⟨i+1,E.set (i+B.length) c,rfl,by omega,by rw [List.length_set,x],zEq oE _ hc,?_,?_,hE.set _ _,Below.setCell (p:=⟨w.heap.size,i+B.length,none⟩) o yL _⟩,?_⟩
   ·have h1:=lv_set c d
    rw [s _ yL,Nat.mul_zero,Nat.add_zero] at h1;rw [h1,g,f,List.take_length,zA8,Nat.add_mul,Nat.mul_assoc]
   ·intro j hj
    rw [List.getD_eq_getElem?_getD,List.getElem?_set_ne (by omega),<- List.getD_eq_getElem?_getD];exact s j (by omega)
   ·simp only [mu1,yT];omega
 ·have a3:i=A.length:=by omega
  subst a3;rw [List.take_length] at f;have ho:=hD.own (B:=w.heap.size) yL (by unfold maxLen;omega);rw [<- u];refine yC (c218 yL (by omega) w1 (zAG ho)) ?_;rintro v w5 ⟨rfl,rfl⟩;refine⟨_,_,_,rfl,?_,⟨_,_,_,rfl,?_⟩,he⟩
  ·rw [<- f];exact zCB ho oD
  ·have:=zDL D D.length
   omega
theorem quo_step{b r a Y lA:Nat}(hb:0<b)(h:b*Y+r=lA):b*((r*1000000000+a) / b+1000000000*Y)+(r*1000000000+a) % b=a+1000000000*lA:=by
 have h1:=Nat.div_add_mod (r*1000000000+a) b;rw [Nat.mul_add,<- h]
 have h2:b*(1000000000*Y)=1000000000*(b*Y):=by rw [Nat.mul_left_comm]
 rw [h2,Nat.mul_add];omega
theorem c250{a}{ca:Nat}{A:List Nat}(w)(ha:NatS w a A)(oa:okL A){b:Nat}(hb0:0<b)(hb:b<1000000000)(hl:A.length<=1099511627776) :
  Ret prog 250 #[Lv a A.length ca,.int .u32 b] w fun v w'=>(∃ q r,v = .tuple #[q,r]/\NatV w' q (lv A / b)/\NatV w' r (lv A % b))/\Ext w w':=by
 refine run250 _ _ _ _ _ _ ?_;unfold vc250;simp only [yT,zFi,zEs];have s:LimbsIn (w.alloc (.cells ((List.replicate A.length 0).map u32v).toArray 209)) w.heap.size (List.replicate A.length 0):=heap_alloc_new w _
 refine⟨⟨by omega,by omega,by omega,by omega⟩,fun vals w1=>∃ (j r:Nat) (D:List Nat),vals=[Iv ((j:Int) - 1),.int .u64 r]/\j<=A.length/\D.length=A.length/\r<b/\okL D/\b*lv (D.drop j)+r=lv (A.drop j)/\LimbsIn w1 w.heap.size D/\Ext w w1,muD,
  ⟨A.length,0,_,by rw [zAe (by omega) (by omega)];rfl,yL,List.length_replicate,hb0,zG7 _,?_,s,(yE w).alloc _⟩,?_⟩
 ·rw [List.drop_length,List.drop_of_length_le (by simp)];rfl
 rintro n n1 w1 ⟨j,r,D,hv,hj,g,hr,oD,d,hD,he⟩;cases hv;have h:u64.wrap (b:Int)=(b:Int):=w64u (by omega);refine zAd (fun a5=>?_) (fun a6=>?_)
 ·obtain⟨i,rfl⟩ : ∃ i,j=i+1:=⟨j - 1,by omega⟩
  obtain⟨ad,a1,f⟩:=(ha.ext he).get (i:=i) (by omega)
  have e:(((i+1:Nat):Int) - 1)=(i:Int):=by omega
  have hx:=zA7 oa i;simp only [e];have a2:decide (u64.wrap (b:Int)=0)=false:=decide_eq_false (by rw [h];omega);refine⟨ad,a1,⟨by omega,by omega⟩,_,f,?_⟩;rw [a2,cond_false,cond_false]
  have hi:i<D.length:=by omega
  have a3:=hD.cell hi;refine⟨_,rfl,?_⟩;simp only [yT,Nat.mul_one,zAi,Nat.zero_add]
  have a7:r*1000000000+1000000000<=b*1000000000:=by rw [<- Nat.succ_mul];exact Nat.mul_le_mul_right _ hr
  have e2:u64.wrap (u64.wrap ((r:Int)*1000000000)+u64.wrap ((A.getD i 0:Nat):Int))=((r*1000000000+A.getD i 0:Nat):Int):=by
   rw [w64ui (n:=(r:Int)*1000000000) (by omega) (by omega),w64u (n:=A.getD i 0) (by omega),w64ui (by omega) (by omega)];omega
  rw [e2,h];have o:=quo_step (a:=A.getD i 0) hb0 d;generalize hV:r*1000000000+A.getD i 0=V at o
  have x:V / b<1000000000:=by
   rw [Nat.div_lt_iff_lt_mul hb0];rw [Nat.mul_comm 1000000000 b];omega
  have a0:=Nat.mod_lt V hb0;rw [show ((V:Nat):Int).tmod (b:Int)=((V % b:Nat):Int) from rfl,show ((V:Nat):Int).tdiv (b:Int)=((V / b:Nat):Int) from rfl,w64u (n:=V / b) (by omega),w32 (by omega),zAe (by omega) (by omega)];refine⟨⟨by omega,by omega⟩,⟨⟨_,a3⟩,zBk (w:=w1.drew) hD⟩,⟨i,V % b,D.set i (V / b),rfl,by omega,by rw [List.length_set,g],a0,zEq oD _ x,?_,LimbsIn.set (w:=w1.drew) hD _ _,Below.setCell (p:=⟨w.heap.size,i,none⟩) he.drew yL _⟩,?_⟩
  ·rw [zAP (a:=A) (i:=i) (by omega),<- o,zAP (a:=D.set i (V / b)) (i:=i) (by rw [List.length_set];omega),List.drop_set_of_lt (by omega)]
   congr 2
   rw [List.getD_eq_getElem?_getD,List.getElem?_set_self (by omega)];rfl
  ·simp only [muD];omega
 ·have:j=0:=by omega
  subst this;rw [List.drop_zero,List.drop_zero] at d;have ho:=hD.own (B:=w.heap.size) yL (by unfold maxLen;omega);rw [<- g];refine yC (c218 yL (by omega) w1 (zAG ho)) ?_;rintro v w2 ⟨rfl,rfl⟩;refine⟨_,_,_,rfl,?_⟩;rw [w32 (by omega)]
  have a4:okL [r]:=by rw [zCj];exact⟨by omega,zCe⟩
  have u:LimbsIn (w2.alloc (.cells #[.int .u32 (r:Int)] 209)) w2.heap.size [r]:=heap_alloc_new w2 _;have m:=u.own (B:=w2.heap.size) yL (by unfold maxLen;simp);refine yC (c218 (L:=[r]) yL (by simp) _ (zAG m)) ?_;rintro v w3 ⟨rfl,rfl⟩;have hx:=(yE w2).alloc (.cells #[.int .u32 (r:Int)] 209)
  have k:lv A / b=lv D:=by rw [<- d,Nat.mul_add_div hb0,Nat.div_eq_of_lt hr,Nat.add_zero]
  have l:lv A % b=r:=by rw [<- d,Nat.mul_add_mod,Nat.mod_eq_of_lt hr]
  refine⟨_,_,_,rfl,⟨_,_,rfl,?_,?_⟩,he.trans hx⟩
  ·rw [k];exact (zCB ho oD).natV.ext hx
  ·rw [l]
   have:=(zCB m a4).natV;rw [lv_one] at this;exact this
def LimbsT(w:World)(b:Nat)(L:List Nat):Prop:=∃ tl:List Value,w.heap[b]? = some (.cells (L.map u32v++tl).toArray 209 (0,0))
theorem LimbsT.cell{w:World}{b:Nat}{L:List Nat}(h:LimbsT w b L){i:Nat}(hi:i<L.length):w.cell? ⟨b,i,none⟩=some (u32v (L.getD i 0)):=by
 obtain⟨tl,h⟩:=h;rw [zAj h,List.getElem?_toArray,List.getElem?_append_left (by simpa using hi)];simp [List.getD,hi]
theorem LimbsT.free{w:World}{b j:Nat}{L:List Nat}(h:LimbsT w b L):w.frozen? ⟨b,j,none⟩=false:=by
 obtain⟨tl,h⟩:=h;exact zBk h
theorem LimbsT.set{w:World}{b:Nat}{L:List Nat}(h:LimbsT w b L)(i x:Nat)(hi:i<L.length):LimbsT (w.setCell ⟨b,i,none⟩ (u32v x)) b (L.set i x):=by
 obtain⟨tl,h⟩:=h;refine⟨tl,?_⟩;rw [zBf h]
 congr 2
 rw [List.map_set,<- List.set_append_left _ _ (by simpa using hi)];simp
theorem LimbsT.nat{w:World}{b:Nat}{L:List Nat}(h:LimbsT w b L):NatS w (some ⟨b,0,none⟩) L:=by
 refine .inr ⟨_,rfl,rfl,fun j v hj=>?_⟩
 have hl:j<L.length:=by have:=(List.getElem?_eq_some_iff.1 hj).1;simpa using this
 rw [zAi,Nat.zero_add,h.cell hl];rw [List.getElem?_map,List.getElem?_eq_getElem hl] at hj;rw [zDi hl];exact hj
def sv(U:List Nat)(o m:Nat):Nat:=lv ((U.drop o).take m)
theorem sv_zero(U:List Nat)(o:Nat):sv U o 0=0:=by rw [sv,List.take_zero];rfl
theorem getD_drop(U:List Nat)(o i:Nat):(U.drop o).getD i 0=U.getD (o+i) 0:=by
 rw [List.getD_eq_getElem?_getD,List.getElem?_drop,<- List.getD_eq_getElem?_getD]
theorem zCn(U:List Nat)(o i:Nat):sv U o (i+1)=sv U o i+1000000000 ^ i*U.getD (o+i) 0:=by
 rw [sv,zA8,getD_drop];rfl
theorem zDM{U U' : List Nat}{o:Nat} : ∀ {m:Nat},(∀ i,i<m->U.getD (o+i) 0=U'.getD (o+i) 0)->sv U o m=sv U' o m
 | 0,_=>by rw [sv_zero,sv_zero]
 | m+1,h=>by
  rw [zCn,zCn,zDM (fun i hi=>h i (by omega)),h m (by omega)]
theorem sv_lt{U:List Nat}(h:okL U)(o:Nat) : ∀ m,sv U o m<1000000000 ^ m
 | 0=>by rw [sv_zero];simp
 | m+1=>by
  rw [zCn,Nat.pow_succ]
  have h1:=sv_lt h o m
  have h2:=zA7 h (o+m)
  have h3:1000000000 ^ m*U.getD (o+m) 0<=1000000000 ^ m*999999999:=Nat.mul_le_mul_left _ (by omega)
  omega
theorem zC9{U:List Nat}{p:Nat}(x j:Nat)(hp:p<U.length):(U.set p x).getD j 0=if p=j then x else U.getD j 0:=by
 rw [List.getD_eq_getElem?_getD,List.getElem?_set];split
 ·rfl
 ·rw [<- List.getD_eq_getElem?_getD]
structure Seg (U U1:List Nat) (o m:Nat):Prop where
 len:U1.length=U.length
 out : ∀ j,j<o\/o+m<=j->U1.getD j 0=U.getD j 0
theorem Seg.refl(U:List Nat)(o m:Nat):Seg U U o m:=⟨rfl,fun _ _=>rfl⟩
theorem Seg.trans{U U1 U2:List Nat}{o m:Nat}(h:Seg U U1 o m)(k:Seg U1 U2 o m):Seg U U2 o m:=⟨k.len.trans h.len,fun j hj=>(k.out j hj).trans (h.out j hj)⟩
structure Only (b:Nat) (w w' : World):Prop where
 below:Below b w w'
 keep : ∀ k o,k≠b->w.heap[k]? = some o->w'.heap[k]? = some o
theorem Only.refl(b:Nat)(w):Only b w w:=⟨Below.refl _ _,fun _ _ _ h=>h⟩
theorem Only.drew{b:Nat}{w w' : World}(h:Only b w w'):Only b w w'.drew:=⟨h.below.drew,h.keep⟩
theorem Only.set{b j:Nat}{w w'}(h:Only b w w')(v:Value):Only b w (w'.setCell ⟨b,j,none⟩ v) :=
 ⟨Below.setCell (p:=⟨b,j,none⟩) h.below yL v,fun k o hk ho=>(zA6 (a:=⟨b,j,none⟩) hk).trans (h.keep k o hk ho)⟩
theorem Only.trans{b:Nat}{w w1 w2}(h:Only b w w1)(k:Only b w1 w2):Only b w w2:=⟨Below.trans h.below k.below,fun i o hi ho=>k.keep i o hi (h.keep i o hi ho)⟩
def NatK(w:World)(b:Nat)(v:OA)(V:List Nat):Prop:=∀ w',Only b w w'->NatS w' v V
theorem NatK.only{w w1:World}{b:Nat}{v:OA}{V:List Nat}(h:NatK w b v V)(ho:Only b w w1):NatK w1 b v V:=fun w' h'=>h w' (ho.trans h')
theorem sub_step{P s t lV su b c ui vi x b' : Nat}(h:s+t*lV=su+P*(b+c))(hx:x+(c+t*vi) % 1000000000+b=ui+1000000000*b'){s1:Nat}(hs1:s1=s+P*x) :
  s1+t*(lV+P*vi)=su+P*ui+P*1000000000*(b' + (c+t*vi) / 1000000000):=by
 have e1:P*x+P*((c+t*vi) % 1000000000)+P*b=P*ui+P*(1000000000*b'):=by rw [<- Nat.mul_add,<- Nat.mul_add,hx,Nat.mul_add]
 have e2:P*((c+t*vi) % 1000000000)+P*(1000000000*((c+t*vi) / 1000000000))=P*c+P*(t*vi):=by rw [<- Nat.mul_add,<- Nat.mul_add];congr 1;omega
 have e3:t*(P*vi)=P*(t*vi):=Nat.mul_left_comm _ _ _
 have e4:P*1000000000*(b' + (c+t*vi) / 1000000000)=P*(1000000000*b')+P*(1000000000*((c+t*vi) / 1000000000)):=by rw [Nat.mul_assoc,Nat.mul_add,Nat.mul_add]
 rw [Nat.mul_add] at h;rw [hs1,Nat.mul_add,e3,e4];omega
theorem carry_step{c P t lV vi:Nat}(h:c*P<=t*lV):(c+t*vi) / 1000000000*(P*1000000000)<=t*(lV+P*vi):=by
 have h1:(c+t*vi) / 1000000000*1000000000<=c+t*vi:=Nat.div_mul_le_self _ _
 have h2:(c+t*vi) / 1000000000*(P*1000000000)=(c+t*vi) / 1000000000*1000000000*P:=by rw [Nat.mul_comm P,Nat.mul_assoc]
 rw [h2];have h3:=Nat.mul_le_mul_right P h1;rw [Nat.add_mul] at h3
 have h4:t*vi*P=t*(P*vi):=by rw [Nat.mul_assoc,Nat.mul_comm vi]
 rw [h4] at h3;rw [Nat.mul_add];omega
theorem c264{ub o m cu cv:Nat}{v}{U V:List Nat}{t:Nat}(w)(hU:LimbsT w ub U)(oU:okL U)(hm:o+m<=U.length)(hVm:V.length+1=m)(hv:NatK w ub v V)(oV:okL V)(ht:t<=1000000000)(hl:U.length<=4398046511104) :
  Ret prog 264 #[Lv (some ⟨ub,o,none⟩) m cu,Lv v V.length cv,.int .u64 t] w fun r w'=>(∃ b U1,r=Bv b/\Seg U U1 o m/\okL U1/\sv U1 o m+t*lv V=sv U o m+1000000000 ^ m*(cond b 1 0)/\LimbsT w' ub U1)/\Only ub w w':=by
 refine run264 _ _ _ _ _ _ _ _ _ ⟨fun vals w1=>∃ (i b c:Nat) (U1:List Nat),vals=[Iv i,Iv b,.int .u64 c]/\i<=m/\b<=1/\c<=1000000000/\c*1000000000 ^ i<=t*lv (V.take i)/\Seg U U1 o i/\okL U1 /\
   sv U1 o i+t*lv (V.take i)=sv U o i+1000000000 ^ i*(b+c)/\LimbsT w1 ub U1/\Only ub w w1,mu1 m,
  ⟨0,0,0,U,rfl,Nat.zero_le _,by omega,by omega,by omega,Seg.refl _ _ _,oU,?_,hU,Only.refl _ _⟩,?_⟩
 ·rw [List.take_zero,zDe];simp
 rintro n n1 n2 w1 ⟨i,b,c,U1,a6,hi,hb,hc,u,d,s,k,l,p⟩;cases a6;refine zAd (fun b3=>?_) (fun b0=>?_)
 ·have b2:i<m:=by omega
  have g:o+i<U1.length:=by rw [d.len];omega
  have f:=l.cell g;have a1:U1.getD (o+i) 0=U.getD (o+i) 0:=d.out _ (.inr yL);have hu:=zA7 s (o+i);have b6:=zA7 oV i;have b5:t*V.getD i 0<=1000000000*999999999:=Nat.mul_le_mul ht (by omega);intro K hK
  have next:K [.int .u64 ((c+t*V.getD i 0:Nat):Int)] w1:=by
   refine hK _ ⟨_,rfl,⟨by omega,by omega⟩,_,by rw [yT,Nat.mul_one,zAi];exact f,fun K1 a0=>?_⟩;generalize hKK:c+t*V.getD i 0=C at *;rw [show ((C:Nat):Int).tmod 1000000000=((C % 1000000000:Nat):Int) from rfl]
   have e1:i64.wrap (i64.wrap (i64.wrap ((U1.getD (o+i) 0:Nat):Int) - (b:Int)) - i64.wrap ((C % 1000000000:Nat):Int))=((U1.getD (o+i) 0:Nat):Int) - b - ((C % 1000000000:Nat):Int):=by
    rw [zAe (n:=((U1.getD (o+i) 0:Nat):Int)) (by omega) (by omega),zAe (n:=((U1.getD (o+i) 0:Nat):Int) - (b:Int)) (by omega) (by omega),zAe (n:=((C % 1000000000:Nat):Int)) (by omega) (by omega),zAe (by omega) (by omega)]
   have fin : ∀ (b' x:Nat),b'<=1->x<1000000000->x+C % 1000000000+b=U1.getD (o+i) 0+1000000000*b'->K1 [Iv b',Iv x] w1:=by
    intro b' x a2 hx hs;refine a0 _ _ ⟨_,rfl,⟨by omega,by omega⟩,?_⟩;rw [yT,Nat.mul_one,zAi,show ((C:Nat):Int).tdiv 1000000000=((C / 1000000000:Nat):Int) from rfl,w64u (by omega),w32 (by omega),zAg (by omega)];refine⟨⟨⟨_,f⟩,l.free⟩,⟨i+1,b',C / 1000000000,U1.set (o+i) x,rfl,by omega,a2,by omega,?_,?_,zEq s _ hx,?_,l.set _ _ g,p.set _⟩,?_⟩
    ·rw [zA8,Nat.pow_succ,<- hKK]
     exact carry_step u
    ·refine⟨by rw [List.length_set,d.len],fun j hj=>?_⟩
     rw [zC9 _ _ g,if_neg (by omega)];exact d.out j (by omega)
    ·have h1:sv (U1.set (o+i) x) o i=sv U1 o i:=zDM fun j hj=>by rw [zC9 _ _ g,if_neg (by omega)]
     rw [zA8,Nat.pow_succ,<- hKK,zCn U,<- a1];rw [<- hKK] at hs;exact sub_step k hs (by rw [zCn,h1,zC9 _ _ g,if_pos rfl])
    ·simp only [mu1,yT];omega
   rw [e1];refine zAd (fun a7=>?_) (fun a8=>?_)
   ·rw [zAe (by omega) (by omega)]
    have:=fin 1 (U1.getD (o+i) 0+1000000000 - b - C % 1000000000) (by omega) (by omega) (by omega);rw [show ((U1.getD (o+i) 0+1000000000 - b - C % 1000000000:Nat):Int)=((U1.getD (o+i) 0:Nat):Int) - b - ((C % 1000000000:Nat):Int)+1000000000 by omega] at this;exact this
   ·have:=fin 0 (U1.getD (o+i) 0 - b - C % 1000000000) (by omega) (by omega) (by omega)
    rw [show ((U1.getD (o+i) 0 - b - C % 1000000000:Nat):Int)=((U1.getD (o+i) 0:Nat):Int) - b - ((C % 1000000000:Nat):Int) by omega] at this;exact this
  refine zAd (fun b4=>?_) (fun b1=>?_)
  ·obtain⟨ad,ha,a4⟩:=(hv _ p).get (i:=i) (by omega)
   refine⟨ad,ha,⟨by omega,by omega⟩,_,a4,?_⟩;rw [w64u (n:=V.getD i 0) (by omega),<- Int.natCast_mul,w64u (by omega),<- Int.natCast_add,w64u (by omega)];exact next
  ·have:V.getD i 0=0:=by rw [List.getD,List.getElem?_eq_none (by omega)];rfl
   rw [this,Nat.mul_zero,Nat.add_zero] at next;exact next
 ·have a5:i=m:=by omega
  subst a5;rw [List.take_of_length_le (by omega)] at k u;have a9:=lv_lt oV
  have a3:c=0:=by
   rcases Nat.eq_zero_or_pos c with h | h
   ·exact h
   ·have h1:1*1000000000 ^ i<=c*1000000000 ^ i:=Nat.mul_le_mul_right _ h
    have h2:t*lv V<=1000000000*lv V:=Nat.mul_le_mul_right _ ht
    have h3:1000000000 ^ i=1000000000 ^ V.length*1000000000:=by rw [<- hVm,Nat.pow_succ]
    omega
  subst a3;refine⟨⟨_,U1,rfl,d,s,?_,l⟩,p⟩;rw [k,Nat.add_zero]
  congr 2
  rcases Nat.eq_zero_or_pos b with h | h
  ·subst h;rfl
  ·have:b=1:=by omega
   subst this;rfl
theorem c265{ub o m cu cv:Nat}{v}{U V:List Nat}(w)(hU:LimbsT w ub U)(oU:okL U)(hm:o+m<=U.length)(hVm:V.length<=m)(hv:NatK w ub v V)(oV:okL V)(hl:U.length<=4398046511104) :
  Ret prog 265 #[Lv (some ⟨ub,o,none⟩) m cu,Lv v V.length cv] w fun r w'=>(r = .tuple #[]/\∃ c U1,c<=1/\Seg U U1 o m/\okL U1/\sv U1 o m+1000000000 ^ m*c=sv U o m+lv V/\LimbsT w' ub U1)/\Only ub w w':=by
 refine run265 _ _ _ _ _ _ _ _ ⟨fun vals w1=>∃ (i c:Nat) (U1:List Nat),vals=[Iv i,.int .u32 c]/\i<=m/\c<=1/\Seg U U1 o i/\okL U1 /\
   sv U1 o i+1000000000 ^ i*c=sv U o i+lv (V.take i)/\LimbsT w1 ub U1/\Only ub w w1,mu1 m,
  ⟨0,0,U,rfl,Nat.zero_le _,by omega,Seg.refl _ _ _,oU,?_,hU,Only.refl _ _⟩,?_⟩
 ·rw [List.take_zero,zDe]
 rintro n n1 w1 ⟨i,c,U1,x,hi,hc,b,l,h,g,k⟩;cases x;refine zAd (fun a2=>?_) (fun a0=>?_)
 ·have a1:i<m:=by omega
  have f:o+i<U1.length:=by rw [b.len];omega
  have d:=g.cell f;have p:U1.getD (o+i) 0=U.getD (o+i) 0:=b.out _ (.inr yL);have hu:=zA7 l (o+i);have a3:=zA7 oV i;refine⟨_,rfl,⟨by omega,by omega⟩,_,by rw [yT,Nat.mul_one,zAi];exact d,yC (c252 w1.drew (hv _ k.drew) i) ?_⟩;rintro r w2 ⟨rfl,rfl⟩
  have e2:u32.wrap (((U1.getD (o+i) 0:Nat):Int)+((V.getD i 0:Nat):Int))=((U1.getD (o+i) 0+V.getD i 0:Nat):Int):=by rw [w32i (by omega) (by omega)];omega
  have e3:u32.wrap (((U1.getD (o+i) 0+V.getD i 0:Nat):Int)+(c:Int))=((U1.getD (o+i) 0+V.getD i 0+c:Nat):Int):=by rw [w32i (by omega) (by omega)];omega
  refine⟨_,rfl,Below.refl _ _,_,rfl,⟨by omega,by omega⟩,?_⟩;rw [e2,e3,yT,Nat.mul_one,zAi];generalize hs:U1.getD (o+i) 0+V.getD i 0+c=s;rw [show ((s:Nat):Int).tmod 1000000000=((s % 1000000000:Nat):Int) from rfl,show ((s:Nat):Int).tdiv 1000000000=((s / 1000000000:Nat):Int) from rfl,w32 (n:=s / 1000000000) (by omega),zAg (by omega)];refine⟨⟨⟨_,d⟩,LimbsT.free (w:=w1.drew) g⟩,⟨i+1,s / 1000000000,U1.set (o+i) (s % 1000000000),rfl,by omega,by omega,?_,zEq l _ (Nat.mod_lt _ (by omega)),?_,LimbsT.set (w:=w1.drew) g _ _ f,k.drew.set _⟩,?_⟩
  ·refine⟨by rw [List.length_set,b.len],fun j hj=>?_⟩
   rw [zC9 _ _ f,if_neg (by omega)];exact b.out j (by omega)
  ·have h1:sv (U1.set (o+i) (s % 1000000000)) o i=sv U1 o i:=zDM fun j hj=>by rw [zC9 _ _ f,if_neg (by omega)]
   rw [zA8,Nat.pow_succ,Nat.mul_assoc,zCn U,<- p,zCn,h1,zC9 _ _ f,if_pos rfl]
   have g1:1000000000 ^ i*(s % 1000000000)+1000000000 ^ i*(1000000000*(s / 1000000000))=1000000000 ^ i*s:=by rw [<- Nat.mul_add];congr 1;omega
   have g2:1000000000 ^ i*s=1000000000 ^ i*U1.getD (o+i) 0+1000000000 ^ i*V.getD i 0+1000000000 ^ i*c:=by rw [<- hs,Nat.mul_add,Nat.mul_add]
   omega
  ·simp only [mu1,yT];omega
 ·have u:i=m:=by omega
  subst u;rw [List.take_of_length_le (by omega)] at h;exact⟨⟨rfl,c,U1,hc,b,l,h,g⟩,k⟩
end Go.Proofs.Si
namespace Go.Num
theorem kn1{g r v1 v2 vl T u0 sl P lS lV:Nat}(hT:g*v1+r=T)(hg:r*1000000000+u0<g*v2)(hV:lV=(v1*1000000000+v2)*P+vl)(hS:lS=(T*1000000000+u0)*P+sl)(hsl:sl<P):lS<g*lV:=by
 have h1:(T*1000000000+u0+1)*P<=g*(v1*1000000000+v2)*P:=by
  apply Nat.mul_le_mul_right
  have:g*(v1*1000000000+v2)=g*v1*1000000000+g*v2:=by rw [Nat.mul_add,Nat.mul_assoc]
  rw [this,<- hT,Nat.add_mul];omega
 have h2:g*(v1*1000000000+v2)*P<=g*lV:=by rw [hV,Nat.mul_assoc];exact Nat.mul_le_mul_left _ (Nat.le_add_right _ _)
 rw [Nat.add_mul,Nat.one_mul] at h1;omega
theorem kn2{g r v1 v2 vl T u0 sl P lS lV:Nat}(hT:g*v1+r=T)(hg:g*v2<=r*1000000000+u0)(hB:g<=1000000000)(hv1:1<=v1)(hV:lV=(v1*1000000000+v2)*P+vl)(hvl:vl<P)(hS:lS=(T*1000000000+u0)*P+sl):(g - 1)*lV<=lS:=by
 rcases Nat.eq_zero_or_pos g with h0 | h0
 ·subst h0;simp
 obtain⟨k,rfl⟩ : ∃ k,g=k+1:=⟨g - 1,by omega⟩;rw [Nat.add_sub_cancel]
 have h1:k*lV<=k*((v1*1000000000+v2+1)*P):=by
  apply Nat.mul_le_mul_left
  rw [hV,Nat.add_mul _ 1,Nat.one_mul];omega
 have h2:k*(v1*1000000000+v2+1)<=T*1000000000+u0:=by
  have e1:(k+1)*v1*1000000000+(k+1)*v2<=T*1000000000+u0:=by rw [<- hT,Nat.add_mul];omega
  have e2:k*(v1*1000000000+v2+1)=k*v1*1000000000+k*v2+k:=by rw [Nat.mul_add,Nat.mul_add,Nat.mul_one,Nat.mul_assoc]
  rw [e2];rw [Nat.add_mul,Nat.add_mul,Nat.add_mul,Nat.one_mul,Nat.one_mul] at e1;omega
 have h3:k*((v1*1000000000+v2+1)*P)<=(T*1000000000+u0)*P:=by rw [<- Nat.mul_assoc];exact Nat.mul_le_mul_right _ h2
 omega
theorem kn0{v1 v2 vl T u0 sl P lS lV:Nat}(hV:lV=(v1*1000000000+v2)*P+vl)(hvl:vl<P)(hS:lS=(T*1000000000+u0)*P+sl)(h:lS<1000000000*lV)(hv2:v2<1000000000):T<(v1+1)*1000000000:=by
 rcases Nat.lt_or_ge T ((v1+1)*1000000000) with h' | h'
 ·exact h'
 ·exfalso
  have h1:(v1+1)*1000000000*1000000000*P<=(T*1000000000+u0)*P:=Nat.mul_le_mul_right _ (Nat.le_trans (Nat.mul_le_mul_right _ h') (Nat.le_add_right _ _))
  have h3:lV<(v1*1000000000+v2+1)*P:=by rw [hV,Nat.succ_mul];exact Nat.add_lt_add_left hvl _
  have h4:(v1*1000000000+v2+1)*P<=(v1+1)*1000000000*P:=Nat.mul_le_mul_right _ (by rw [Nat.succ_mul];omega)
  have h5:(v1+1)*1000000000*1000000000*P=1000000000*((v1+1)*1000000000*P):=by rw [Nat.mul_comm ((v1+1)*1000000000) 1000000000,Nat.mul_assoc]
  rw [h5] at h1;have h6:=Nat.mul_lt_mul_of_pos_left (Nat.lt_of_lt_of_le h3 h4) (show 0<1000000000 by decide);rw [hS] at h;exact absurd (Nat.lt_of_lt_of_le h6 (Nat.le_trans h1 (Nat.le_add_right _ sl))) (Nat.lt_asymm h)
theorem kn3{v1 v2 vl T u0 sl P lS lV:Nat}(hV:lV=(v1*1000000000+v2)*P+vl)(hS:lS=(T*1000000000+u0)*P+sl)(hsl:sl<P)(hu0:u0<1000000000):lS / lV*v1<=T:=by
 have h1:=Nat.div_mul_le_self lS lV
 rcases Nat.lt_or_ge T (lS / lV*v1) with h | h
 ·exfalso
  have h3:(T+1)*(1000000000*P)<=lS / lV*v1*(1000000000*P):=Nat.mul_le_mul_right _ h
  have h4:lS / lV*v1*(1000000000*P)<=lS / lV*lV:=by
   rw [Nat.mul_assoc]
   apply Nat.mul_le_mul_left
   rw [hV,Nat.add_mul,<- Nat.mul_assoc,Nat.add_assoc];exact Nat.le_add_right _ _
  have h5:lS<(T+1)*(1000000000*P):=by
   have:(T*1000000000+u0+1)*P<=(T+1)*1000000000*P:=Nat.mul_le_mul_right _ (by rw [Nat.succ_mul];omega);rw [Nat.succ_mul,Nat.mul_assoc (T+1)] at this;rw [hS];exact Nat.lt_of_lt_of_le (Nat.add_lt_add_left hsl _) this
  exact absurd (Nat.lt_of_lt_of_le h5 (Nat.le_trans h3 (Nat.le_trans h4 h1))) (Nat.lt_irrefl _)
 ·exact h
theorem kn_split(k s u0 u1 u2:Nat):s+1000000000 ^ k*u0+1000000000 ^ (k+1)*u1+1000000000 ^ (k+1+1)*u2=((u2*1000000000+u1)*1000000000+u0)*1000000000 ^ k+s:=by
 rw [Nat.pow_succ,Nat.pow_succ,Nat.pow_succ];generalize 1000000000 ^ k=P
 have e1:P*1000000000*u1=u1*1000000000*P:=by rw [Nat.mul_comm _ u1,Nat.mul_comm P,Nat.mul_assoc]
 have e2:P*1000000000*1000000000*u2=u2*1000000000*1000000000*P:=by
  rw [Nat.mul_comm _ u2,Nat.mul_comm P,Nat.mul_comm (1000000000*P),<- Nat.mul_assoc,<- Nat.mul_assoc]
 rw [e1,e2,Nat.add_mul,Nat.add_mul,Nat.add_mul,Nat.mul_comm P u0]
 ac_rfl
theorem quo_le{g lS lV:Nat}(h:lS<g*lV):lS / lV<=g - 1:=by
 have:=(Nat.div_lt_iff_lt_mul (x:=lS) (y:=g) (k:=lV) (by
  rcases Nat.eq_zero_or_pos lV with h0 | h0
  ·subst h0;simp at h
  ·exact h0)).2 h
 omega
end Go.Num
namespace Go.Proofs.Si
open Go Go.V Go.Proofs Go.RowKit Go.Num Go.Proofs.Tryz
open Go.IntKind (i64 u64 u32 u8)
set_option maxRecDepth 100000
def muG:List Value->World->Nat
 | _ :: .int _ n::_,_=>n.toNat
 | _,_=>0
theorem c251{ub o m cu cv:Nat}{v}{U V:List Nat}(w)(hU:LimbsT w ub U)(oU:okL U)(hm:o+m<=U.length)(hVm:V.length+1=m)(hv:NatK w ub v V)(oV:okL V)(hl:U.length<=4398046511104)
    (h2:2<=V.length)(htop:500000000<=V.getD (V.length - 1) 0)(hlt:sv U o m<1000000000*lv V) :
    Ret prog 251 #[Lv (some ⟨ub,o,none⟩) m cu,Lv v V.length cv] w fun r w'=>(r = .int .u32 ((sv U o m / lv V:Nat):Int)/\∃ U1,Seg U U1 o m/\okL U1/\sv U1 o m=sv U o m % lv V/\LimbsT w' ub U1)/\Only ub w w':=by
  obtain⟨k,hk⟩ : ∃ k,V.length=k+2:=⟨V.length - 2,by omega⟩;obtain⟨v1,a4⟩ : ∃ x,x=V.getD (k+1) 0:=⟨_,rfl⟩;obtain⟨v2,b2⟩ : ∃ x,x=V.getD k 0:=⟨_,rfl⟩;obtain⟨u2,b1⟩ : ∃ x,x=U.getD (o+(k+2)) 0:=⟨_,rfl⟩;obtain⟨u1,b0⟩ : ∃ x,x=U.getD (o+(k+1)) 0:=⟨_,rfl⟩;obtain⟨u0,a9⟩ : ∃ x,x=U.getD (o+k) 0:=⟨_,rfl⟩;have e6:=zA7 oV (k+1);have b5:=zA7 oV k;have e5:=zA7 oU (o+(k+2));have e4:=zA7 oU (o+(k+1));have b4:=zA7 oU (o+k);rw [<- a4] at e6;rw [<- b2] at b5;rw [<- b1] at e5;rw [<- b0] at e4;rw [<- a9] at b4;rw [hk,show k+2 - 1=k+1 by omega,<- a4] at htop
  have g4:m=k+3:=by omega
  have a2:lv V=(v1*1000000000+v2)*1000000000 ^ k+lv (V.take k):=by
    have e:lv V=lv (V.take (k+2)):=by rw [List.take_of_length_le (by omega)]
    rw [e,zA8,zA8,<- a4,<- b2,Nat.pow_succ,Nat.add_mul,Nat.mul_comm (1000000000 ^ k*1000000000) v1,Nat.mul_comm (1000000000 ^ k) v2,Nat.mul_comm (1000000000 ^ k) 1000000000,<- Nat.mul_assoc v1];omega
  have e0:lv (V.take k)<1000000000 ^ k:=by
    have:=lv_lt (zBX oV k)
    rwa [List.length_take,Nat.min_eq_left (by omega)] at this
  obtain⟨T,hT⟩ : ∃ T,T=u2*1000000000+u1:=⟨_,rfl⟩
  have a1:sv U o m=(T*1000000000+u0)*1000000000 ^ k+sv U o k:=by
    rw [g4,zCn,zCn,zCn,<- a9,<- b0,<- b1,hT];exact kn_split _ _ _ _ _
  have d8:sv U o k<1000000000 ^ k:=sv_lt oU o k
  have d:0<lv V:=by
    have h1:1*1000000000 ^ k<=(v1*1000000000+v2)*1000000000 ^ k:=Nat.mul_le_mul_right _ (by omega);have:=Nat.pow_pos (n:=k) (show 0<1000000000 by omega);omega
  have hq:sv U o m / lv V<1000000000:=(Nat.div_lt_iff_lt_mul d).2 hlt
  have h4:T<(v1+1)*1000000000 :=
     kn0 a2 e0 a1 hlt b5
  have g1:T / v1<=1000000001:=by
    have:T / v1<1000000002:=by
      rw [Nat.div_lt_iff_lt_mul (by omega)]
      have:1000000002*v1=1000000000*v1+2*v1:=by rw [<- Nat.add_mul]
      omega
    omega
  have h7:=hv _ (Only.refl _ _);have d4:NatS w.drew v V:=hv _ (Only.refl ub w).drew;obtain⟨vd,g9,d0⟩:=d4.get (i:=k+1) (by omega);have b8:LimbsT w.drew ub U:=hU
  have e7:((V.length:Nat):Int)=((k+2:Nat):Int):=by rw [hk]
  have e8:i64.wrap (((k+2:Nat):Int) - 1)=((k+1:Nat):Int):=by rw [zAe (by omega) (by omega)];omega
  have e9:i64.wrap (((k+2:Nat):Int) - 2)=(k:Int):=by rw [zAe (by omega) (by omega)];omega
  refine run251 _ _ _ _ _ _ _ _ ?_;unfold vc251;simp only [e7,e8,e9];refine⟨_,rfl,⟨by omega,by omega⟩,(u2:Int),?_,_,rfl,⟨by omega,by omega⟩,(u1:Int),?_,vd,g9,⟨by omega,by omega⟩,(v1:Int),?_,?_⟩
  · rw [yT,Nat.mul_one,zAi,b1];exact b8.cell (by omega)
  · rw [yT,Nat.mul_one,zAi,b0];exact b8.cell (by omega)
  · rw [a4];exact d0
  have b6:u64.wrap (v1:Int)=(v1:Int):=w64u (by omega);have f9:decide (u64.wrap (v1:Int)=0)=false:=decide_eq_false (by rw [b6];omega);rw [f9,cond_false,cond_false]
  have eT:u64.wrap (u64.wrap (u64.wrap (u2:Int)*1000000000)+u64.wrap (u1:Int))=(T:Int):=by
    rw [w64u (n:=u2) (by omega),w64ui (n:=(u2:Int)*1000000000) (by omega) (by omega),w64u (n:=u1) (by omega),w64ui (by omega) (by omega),hT];omega
  rw [eT,b6,show (T:Int).tmod (v1:Int)=((T % v1:Nat):Int) from rfl,show (T:Int).tdiv (v1:Int)=((T / v1:Nat):Int) from rfl,w64u (n:=T / v1) (by omega)];intro K hK
  have fin : ∀ (g r:Nat) (w1:World),g*v1+r=T->sv U o m / lv V<=g->g<=1000000000->g*v2<=r*1000000000+u0->LimbsT w1 ub U->Only ub w w1->K [.int .u64 g] w1:=by
    intro g r w1 hg d6 a7 g3 f7 a3;refine hK _ _ ?_;have d3:=kn2 hg g3 a7 (by omega) a2 e0 a1;have a6:=c264 (cu:=cu) (cv:=cv) w1 f7 oU hm hVm (hv.only a3) oV a7 hl;refine yC a6 ?_;rintro x w2 ⟨⟨b,U1,rfl,j,b3,u,a5⟩,p⟩;refine⟨b,rfl,?_⟩
    cases b with
    | false =>
      rw [cond_false,Nat.mul_zero,Nat.add_zero] at u;rw [cond_false];have g2:g<=sv U o m / lv V:=(Nat.le_div_iff_mul_le d).2 (by omega)
      have l:g=sv U o m / lv V:=by omega
      have s:sv U1 o m=sv U o m % lv V:=by
        have:=Nat.div_add_mod (sv U o m) (lv V);rw [l,Nat.mul_comm] at u;omega
      rw [w32 (by omega)];exact⟨⟨by rw [l],U1,j,b3,s,a5⟩,a3.trans p⟩
    | true =>
      rw [cond_true,Nat.mul_one] at u;rw [cond_true];have h1:=sv_lt b3 o m
      have hgt:sv U o m<g*lv V:=by omega
      have h5:=quo_le hgt;have g2:g - 1<=sv U o m / lv V:=(Nat.le_div_iff_mul_le d).2 d3
      have g0:1<=g:=by
        rcases Nat.eq_zero_or_pos g with h | h
        · subst h;omega
        · exact h
      refine yC (c265 (cu:=cu) (cv:=cv) w2 a5 b3 (by rw [j.len];exact hm) (by omega) ((hv.only a3).only p) oV (by rw [j.len];exact hl)) ?_;rintro x w3 ⟨⟨rfl,c,U2,hc,a8,e3,g8,f8⟩,d5⟩;refine⟨rfl,?_⟩
      have l:g - 1=sv U o m / lv V:=by omega
      have h3:=sv_lt e3 o m
      have h6:(g - 1)*lv V+lv V=g*lv V:=by rw [<- Nat.succ_mul];congr 1;omega
      have s:sv U2 o m=sv U o m % lv V:=by
        have:=Nat.div_add_mod (sv U o m) (lv V);rw [<- l,Nat.mul_comm] at this
        rcases Nat.eq_zero_or_pos c with h | h
        · subst h;omega
        · have:c=1:=by omega
          subst this;omega
      rw [show (g:Int) - 1=((g - 1:Nat):Int) by omega,w64u (by omega),w32 (by omega)];exact⟨⟨by rw [l],U2,j.trans a8,e3,s,f8⟩,(a3.trans p).trans d5⟩
  have g5:sv U o m / lv V<=T / v1:=by
    rw [Nat.le_div_iff_mul_le (by omega)];exact kn3 a2 a1 d8 b4
  refine⟨fun vals w1=>∃ (r g:Nat),vals=[.int .u64 r,.int .u64 g]/\g*v1+r=T/\sv U o m / lv V<=g/\g<=1000000001/\r<1000000000/\LimbsT w1 ub U/\Only ub w w1,muG,
    ⟨T % v1,T / v1,rfl,?_,g5,g1,?_,hU,(Only.refl _ _).drew.drew⟩,?_⟩
  · rw [Nat.mul_comm];exact Nat.div_add_mod T v1
  · have:=Nat.mod_lt T (show 0<v1 by omega);omega
  rintro n4 n5 w4 ⟨r,g,g7,hg,d6,a7,hr,a0,f⟩;cases g7;intro K1 b7
  have less : ∀ b,b=true->sv U o m / lv V<=g - 1->1<=g->K1 [Bv b] w4.drew:=by
    intro b hb d7 g0;refine b7 b ?_;rw [hb,cond_true]
    have er:u64.wrap ((r:Int)+(v1:Int))=((r+v1:Nat):Int):=by rw [w64ui (by omega) (by omega)];omega
    have eg:u64.wrap ((g:Int) - 1)=((g - 1:Nat):Int):=by rw [w64ui (by omega) (by omega)];omega
    rw [er,eg]
    have d2:(g - 1)*v1+(r+v1)=T:=by
      rw [<- hg]
      have:(g - 1)*v1+v1=g*v1:=by rw [<- Nat.succ_mul];congr 1;omega
      omega
    refine zAd (fun b9=>?_) (fun g6=>?_)
    · refine fin (g - 1) (r+v1) _ d2 d7 (by omega) ?_ a0 f.drew
      have h1:(g - 1)*v2<=1000000000*v2:=Nat.mul_le_mul_right _ (by omega);have h3:1000000000*1000000000<=(r+v1)*1000000000:=Nat.mul_le_mul_right _ (by omega);omega
    · refine⟨⟨r+v1,g - 1,rfl,d2,d7,by omega,by omega,a0,f.drew⟩,?_⟩
      simp only [muG,yT];omega
  refine zAd (fun b9=>?_) (fun g6=>?_)
  · exact less true rfl (by omega) (by omega)
  · obtain⟨h0,d9,d1⟩:=(hv _ f.drew).get (i:=k) (by omega)
    have e1:u64.wrap ((g:Int)*u64.wrap (v2:Int))=((g*v2:Nat):Int):=by
      have:g*v2<=1000000000*1000000000:=Nat.mul_le_mul (by omega) (by omega);rw [w64u (n:=v2) (by omega),<- Int.natCast_mul,w64u (by omega)]
    have e2:u64.wrap (u64.wrap ((r:Int)*1000000000)+u64.wrap (u0:Int))=((r*1000000000+u0:Nat):Int):=by
      rw [w64ui (n:=(r:Int)*1000000000) (by omega) (by omega),w64u (n:=u0) (by omega),w64ui (by omega) (by omega)];omega
    refine⟨h0,d9,⟨by omega,by omega⟩,(v2:Int),?_,_,rfl,⟨by omega,by omega⟩,(u0:Int),?_,?_⟩
    · rw [b2];exact d1
    · rw [yT,Nat.mul_one,zAi,a9];exact LimbsT.cell (w:=w4.drew) a0 (by omega)
    · rw [e1,e2]
      cases hd:decide (((g*v2:Nat):Int)>((r*1000000000+u0:Nat):Int)) with
      | true =>
        have h1:=of_decide_eq_true hd;have h3:=kn1 hg (by omega) a2 a1 d8
        exact less true rfl (quo_le h3) (by
          rcases Nat.eq_zero_or_pos g with h | h
          · subst h;omega
          · exact h)
      | false =>
        have h1:=of_decide_eq_false hd;refine b7 false ?_;rw [cond_false];exact fin g r _ hg d6 (by omega) (by omega) a0 f.drew
end Go.Proofs.Si
