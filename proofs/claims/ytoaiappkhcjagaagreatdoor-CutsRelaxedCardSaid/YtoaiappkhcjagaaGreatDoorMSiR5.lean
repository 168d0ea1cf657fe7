/- Part of the proof: SiR5, SiL1, SiL2, SiL3. -/
import Derived.Test.YtoaiappkhcjagaaGreatDoorMSiR1
import Derived.Test.YtoaiappkhcjagaaGreatDoorSiV2
import Derived.Test.YtoaiappkhcjagaaGreatDoorMV7s
set_option linter.unusedVariables false
set_option linter.unusedSimpArgs false
namespace Go.Proofs.Si
open Go Go.V Go.Proofs Go.RowKit Go.Num Go.Proofs.Tryz
set_option maxRecDepth 100000
def sgnQ (q:Rat):Int:=q.num.sign
theorem zCW (z:Int):sgn (decide (z<0)) z.natAbs=z:=by
 unfold sgn
 by_cases h:z<0
 ·rw [decide_eq_true h,if_pos rfl];omega
 ·rw [decide_eq_false h,if_neg (by decide)];omega
theorem sgn_mul (neg:Bool) (a b:Nat):sgn neg a*(b:Int)=sgn neg (a*b):=by
 cases neg <;> simp [sgn,Int.neg_mul]
theorem sgn_mul2 (m n:Bool) (a b:Nat):sgn m a*sgn n b=sgn (m != n) (a*b):=by
 cases m <;> cases n <;> simp [sgn,Int.neg_mul,Int.mul_neg]
theorem zC9 (n:Bool) (a b:Nat):sgn n a+sgn n b=sgn n (a+b):=by
 cases n <;> simp [sgn] <;> omega
theorem zDS {m n:Bool} (h:m≠n) {a b:Nat} (hab:b<=a):sgn m a+sgn n b=sgn m (a - b):=by
 cases m <;> cases n <;> simp [sgn] at h ⊢ <;> omega
theorem zDR {m n:Bool} (h:m≠n) {a b:Nat} (hab:a<b):sgn m a+sgn n b=sgn n (b - a):=by
 cases m <;> cases n <;> simp [sgn] at h ⊢ <;> omega
theorem zFo {p q:Rat} {neg:Bool} {x:Nat} (h:sgn (decide (p.num<0)) (p.num.natAbs*q.den)+sgn (decide (q.num<0)) (q.num.natAbs*p.den)=sgn neg x):red neg x (p.den*q.den)=p+q:=by
 rw [Rat.add_def',red,<- h,<- sgn_mul,<- sgn_mul,zCW,zCW]
theorem mul_red (p q:Rat):red (decide (p.num<0) != decide (q.num<0)) (p.num.natAbs*q.num.natAbs) (p.den*q.den)=p*q:=by
 rw [Rat.mul_def',red,<- sgn_mul2,zCW,zCW]
theorem zBy (m n:Nat):(dec (m+n)).length<=max (dec m).length (dec n).length+1:=by
 have h1:=zBh m
 have h2:=zBh n
 obtain⟨k,hk⟩ : ∃ k,k=max (dec m).length (dec n).length:=⟨_,rfl⟩
 have g1:=Nat.lt_of_lt_of_le h1 (Nat.pow_le_pow_right (by omega:0<10) (show _<=k by omega))
 have g2:=Nat.lt_of_lt_of_le h2 (Nat.pow_le_pow_right (by omega:0<10) (show _<=k by omega))
 rw [<- hk,zA8 (by omega),Nat.pow_succ]
 omega
theorem zAz (m n:Nat):(dec (m*n)).length<=(dec m).length+(dec n).length:=by
 have b:0<(dec m).length:=List.length_pos_iff.2 (zBa m)
 have:=Nat.mul_lt_mul'' (zBh m) (zBh n)
 rw [<- Nat.pow_add] at this
 exact (zA8 (by omega)).2 this
def TxtV (q:Rat) (v:Value):Prop:=∃ u:BA,v = .string u/\bs u=txtQ q
theorem zB0 {a:BA} {q:Rat} (h:bs a=txtQ q) {v:Value} (hp:ParseQ a v) : ∃ s t:BA,v = .tuple #[.agg #[.bool (decide (q.num<0)),.string s,.string t],.bool true]/\bs s=dec q.num.natAbs/\bs t=dec q.den:=by
 rcases hp with ⟨q',x,h',⟨s,t,rfl,hs,ht⟩,rfl⟩ | ⟨hn,_⟩
 ·have:=zA0 (h.symm.trans h')
  subst this
  exact⟨s,t,rfl,hs,ht⟩
 ·exact absurd ⟨q,h⟩ hn
theorem zAq (q:Rat):(dec q.num.natAbs).length<=(txtQ q).length/\(dec q.den).length<=(txtQ q).length:=by
 unfold txtQ txt3
 have h1:1<=(dec q.num.natAbs).length:=List.length_pos_iff.2 (zBa _)
 constructor
 ·simp only [List.length_append];omega
 ·by_cases h:q.den=1
  ·rw [h,zBx];simp only [List.length_append,List.length_singleton];omega
  ·rw [if_neg h];simp only [List.length_append,List.length_cons];omega
theorem box3 (w:World) (v0 v1 v2 a0 a1 a2:Value) :
  (setCells (w.alloc (.cells #[a0,a1,a2] 110)) ⟨w.heap.size,0,none⟩ 0 [v0,v1,v2]).heap[w.heap.size]? = some (.cells #[v0,v1,v2] 110 (0,0)):=zD5 (heap_alloc_new w _) _ _ _
theorem zBb (w:World) (v0 v1 v2 a0 a1 a2:Value):Ext w (setCells (w.alloc (.cells #[a0,a1,a2] 110)) ⟨w.heap.size,0,none⟩ 0 [v0,v1,v2]) :=
 zBZ ((yE w).alloc _) yL _ _ _
theorem zBt (w:World) (a0 a1 a2:Value):writable (w.alloc (.cells #[a0,a1,a2] 110)) ⟨w.heap.size,0,none⟩ 3:=zC2 (heap_alloc_new w _)
theorem red_len (neg:Bool) (a:Nat) {b:Nat} (hb:b≠0):(dec (red neg a b).num.natAbs).length<=(dec a).length/\(dec (red neg a b).den).length<=(dec b).length:=by
 rw [zDm _ _ hb,zDT _ _ hb,zB6]
 exact⟨zAu (Nat.div_le_self _ _),zAu (Nat.div_le_self _ _)⟩
theorem add_red' (p q:Rat) : ∃ neg x,p+q=red neg x (p.den*q.den)/\x<=p.num.natAbs*q.den+q.num.natAbs*p.den:=by
 by_cases h:decide (p.num<0)=decide (q.num<0)
 ·exact⟨_,_,(zFo (by rw [h,zC9])).symm,yL⟩
 ·by_cases hle:q.num.natAbs*p.den<=p.num.natAbs*q.den
  ·exact⟨_,_,(zFo (zDS h hle)).symm,by omega⟩
  ·exact⟨_,_,(zFo (zDR h (by omega))).symm,by omega⟩
def dn (q:Rat):Nat:=(dec q.num.natAbs).length
def dd (q:Rat):Nat:=(dec q.den).length
theorem add_dn (p q:Rat):dn (p+q)<=max (dn p+dd q) (dn q+dd p)+1/\dd (p+q)<=dd p+dd q:=by
 obtain⟨neg,x,he,hx⟩:=add_red' p q
 have h:=red_len neg x (Nat.mul_ne_zero p.den_nz q.den_nz)
 rw [<- he] at h
 have h1:=zAu hx
 have h2:=zBy (p.num.natAbs*q.den) (q.num.natAbs*p.den)
 have h3:=zAz p.num.natAbs q.den
 have h4:=zAz q.num.natAbs p.den
 have h5:=zAz p.den q.den
 unfold dn dd
 omega
theorem neg_dn (q:Rat):dn (-q)=dn q/\dd (-q)=dd q:=by
 unfold dn dd
 rw [Rat.neg_den,Rat.neg_num,Int.natAbs_neg]
 exact⟨rfl,rfl⟩
theorem sub_dn (p q:Rat):dn (p - q)<=max (dn p+dd q) (dn q+dd p)+1/\dd (p - q)<=dd p+dd q:=by
 have h:=add_dn p (-q)
 rw [(neg_dn q).1,(neg_dn q).2,<- Rat.sub_eq_add_neg] at h
 exact h
theorem sub_len (p q:Rat):(dec (p - q).num.natAbs).length+(dec (p - q).den).length<=(dec p.num.natAbs).length+(dec p.den).length+(dec q.num.natAbs).length+(dec q.den).length+(dec p.den).length+(dec q.den).length+1:=by
 have:=sub_dn p q
 unfold dn dd at this
 omega
theorem txtQ_len (q:Rat):(txtQ q).length<=dn q+dd q+2:=txt_len _ _ _
theorem zFg (q:Rat):dn q<=(txtQ q).length/\dd q<=(txtQ q).length:=zAq q
theorem c77 (a:BA) (hz:a.size<=536870912) (w:World):Ret prog 77 #[.string a] w fun v w'=>v = .bool (okQ (bs a))/\Ext w w':=by
 refine run77 _ _ _ (yC (c81 a hz w) ?_)
 rintro v w1 ⟨hp,he⟩
 rcases hp with ⟨q,x,hq,⟨s,t,rfl,-,-⟩,rfl⟩ | ⟨hn,rfl⟩
 ·exact⟨_,_,_,_,rfl,zBt _ _ _ _,by rw [zBv.2 ⟨q,hq⟩],he.trans (zBb _ _ _ _ _ _ _)⟩
 ·refine⟨_,_,_,_,rfl,zBt _ _ _ _,?_,he.trans (zBb _ _ _ _ _ _ _)⟩
  cases h:okQ (bs a) with
  | false=>rfl
  | true=>exact absurd (zBv.1 h) hn
theorem c43 {a:BA} {q:Rat} (ha:bs a=txtQ q) (hz:a.size<=536870912) (w:World):Ret prog 43 #[.string a] w fun v w'=>v = .int .i64 (sgnQ q)/\Ext w w':=by
 refine run43 _ _ _ (yC (c81 a hz w) ?_)
 rintro v w1 ⟨hp,he⟩
 obtain⟨s,t,rfl,hs,ht⟩:=zB0 ha hp
 have hb:=box3 w1 (.bool (decide (q.num<0))) (.string s) (.string t) (.bool false) (.string { data:=#[] }) (.string { data:=#[] })
 have b:=he.trans (zBb w1 (.bool (decide (q.num<0))) (.string s) (.string t) (.bool false) (.string { data:=#[] }) (.string { data:=#[] }))
 refine⟨_,_,_,_,rfl,zBt _ _ _ _,fun K hK=>?_⟩
 rw [Bool.not_true,cond_false]
 refine⟨_,zAj (j:=1) hb,hK _ ?_⟩
 rw [zC0 hs]
 unfold sgnQ
 refine zAb (fun h0=>⟨?_,b⟩) (fun h0=>⟨_,zAj (j:=0) hb,zAb (fun hn=>⟨?_,b⟩) (fun hn=>⟨?_,b⟩)⟩)
 ·have:=of_decide_eq_true h0
  rw [Int.natAbs_eq_zero.1 this];rfl
 ·rw [Int.sign_eq_neg_one_of_neg (of_decide_eq_true hn)]
 ·have h1:=of_decide_eq_false hn
  have h2:=of_decide_eq_false h0
  rw [Int.sign_eq_one_of_pos (by omega)]
theorem c58 {a b:BA} {p q:Rat} (ha:bs a=txtQ p) (hb:bs b=txtQ q) (hz:a.size<=268435456/\b.size<=268435456) (w:World) :
  Ret prog 58 #[.string a,.string b] w fun v w'=>TxtV (p+q) v/\Ext w w':=by
 refine run58 _ _ _ _ (yC (c81 a (by omega) w) ?_)
 rintro v w1 ⟨hp,d4⟩
 obtain⟨s,t,rfl,hs,ht⟩:=zB0 ha hp
 have a6:=box3 w1 (.bool (decide (p.num<0))) (.string s) (.string t) (.bool false) (.string { data:=#[] }) (.string { data:=#[] })
 have d0:=d4.trans (zBb w1 (.bool (decide (p.num<0))) (.string s) (.string t) (.bool false) (.string { data:=#[] }) (.string { data:=#[] }))
 refine⟨_,_,_,_,rfl,zBt _ _ _ _,?_⟩
 generalize setCells (w1.alloc (.cells #[.bool false,.string { data:=#[] },.string { data:=#[] }] 110)) ⟨w1.heap.size,0,none⟩ 0 [.bool (decide (p.num<0)),.string s,.string t]=W1 at a6 d0 ⊢
 generalize w1.heap.size=B1 at a6 ⊢
 refine yC (c81 b (by omega) W1) ?_
 rintro v w2 ⟨e0,d5⟩
 obtain⟨s2,t2,rfl,b0,o⟩:=zB0 hb e0
 have k:=box3 w2 (.bool (decide (q.num<0))) (.string s2) (.string t2) (.bool false) (.string { data:=#[] }) (.string { data:=#[] })
 have b2:=d5.trans (zBb w2 (.bool (decide (q.num<0))) (.string s2) (.string t2) (.bool false) (.string { data:=#[] }) (.string { data:=#[] }))
 refine⟨_,_,_,_,rfl,zBt _ _ _ _,?_⟩
 generalize setCells (w2.alloc (.cells #[.bool false,.string { data:=#[] },.string { data:=#[] }] 110)) ⟨w2.heap.size,0,none⟩ 0 [.bool (decide (q.num<0)),.string s2,.string t2]=W2 at k b2 ⊢
 generalize w2.heap.size=B2 at k ⊢
 have i:=(b2.blk a6)
 have hx:Ext w W2:=d0.trans b2
 have d8:=zAq p
 have d9:=zAq q
 rw [<- ha,<- zAc] at d8
 rw [<- hb,<- zAc] at d9
 have z1:s.size<=268435456:=by rw [zAc,hs];omega
 have z2:t.size<=268435456:=by rw [zAc,ht];omega
 have z3:s2.size<=268435456:=by rw [zAc,b0];omega
 have z4:t2.size<=268435456:=by rw [zAc,o];omega
 rw [Bool.not_true,Bool.or_self,cond_false]
 intro K hK
 refine⟨_,zAj (w:=W2.drew) (j:=1) i,_,zAj (w:=W2.drew) (j:=2) k,_,zAj (w:=W2.drew) (j:=1) k,_,zAj (w:=W2.drew) (j:=2) i,_,zAj (w:=W2.drew) (j:=2) i,_,zAj (w:=W2.drew) (j:=2) k,yC (c83 hs o ⟨by omega,by omega⟩ W2.drew) ?_⟩
 rintro v w3 ⟨⟨u1,rfl,g⟩,a8⟩
 refine⟨u1,rfl,a8,yC (c83 b0 ht ⟨by omega,by omega⟩ w3) ?_⟩
 rintro v w4 ⟨⟨u2,rfl,h⟩,b5⟩
 refine⟨u2,rfl,a8.trans b5,yC (c83 ht o ⟨by omega,by omega⟩ w4) ?_⟩
 rintro v w5 ⟨⟨u3,rfl,b1⟩,d6⟩
 have b4:Ext W2 w5:=((yE W2).drew.trans a8).trans (b5.trans d6)
 have l:=b4.blk i
 have a2:=b4.blk k
 have b3:=hx.trans b4
 have n : ∀ (x y:Nat) (u v t:BA),bs u=dec x->bs v=dec y->bs t=dec (x*y)->u.size<=268435456->v.size<=268435456->t.size<=536870912:=by
  intro x y u v t h1 h2 h3 h4 h5
  rw [zAc,h1] at h4
  rw [zAc,h2] at h5
  rw [zAc,h3]
  have e3:0<(dec x).length:=List.length_pos_iff.2 (zBa x)
  have:=Nat.mul_lt_mul'' (zBh x) (zBh y)
  rw [<- Nat.pow_add] at this
  have:=(zA8 (show 0<(dec x).length+(dec y).length by omega)).2 this
  omega
 have e4:=n _ _ _ _ _ hs o g z1 z4
 have e5:=n _ _ _ _ _ b0 ht h z3 z2
 have e6:=n _ _ _ _ _ ht o b1 z2 z4
 have a7:p.den*q.den≠0:=Nat.mul_ne_zero p.den_nz q.den_nz
 have fin : ∀ (neg:Bool) (x:Nat) (u:BA) (W:World),bs u=dec x->u.size<=536870913->Ext w W->sgn (decide (p.num<0)) (p.num.natAbs*q.den)+sgn (decide (q.num<0)) (q.num.natAbs*p.den)=sgn neg x ->
   ∀ {Q:Value->World->Prop},(∀ s w',bs s=txtQ (p+q)->Ext w w'->Q (.string s) w') ->
   Called prog 82 #[.bool neg,.string u,.string u3] W fun v w6=>∃ b8 s9 s10,v = .agg #[.bool b8,.string s9,.string s10]/\Called prog 84 #[.agg #[.bool b8,.string s9,.string s10]] w6 fun v4 w7=>∃ s11,v4 = .string s11/\Q (.string s11) w7:=by
  intro neg x u W hu zu hW hs Q hQ
  refine yC (c82 neg hu b1 a7 ⟨by omega,by omega⟩ W) ?_
  rintro v w6 ⟨⟨y1,y2,rfl,d1,d2⟩,a1⟩
  have e1:y1.size<=2147483648:=by
   rw [zAc,d1,zDm neg _ a7,zB6]
   have h6:=zAu (Nat.div_le_self x (Nat.gcd x (p.den*q.den)))
   rw [<- hu,<- zAc] at h6
   omega
  have e2:y2.size<=2147483648:=by
   rw [zAc,d2,zDT neg _ a7]
   have h6:=zAu (Nat.div_le_self (p.den*q.den) (Nat.gcd x (p.den*q.den)))
   rw [<- b1,<- zAc] at h6
   omega
  refine⟨_,_,_,rfl,yC (c84 _ d1 d2 ⟨e1,e2⟩ w6) ?_⟩
  rintro v w7 ⟨⟨y,rfl,hy⟩,f⟩
  refine⟨y,rfl,hQ y w7 ?_ ((hW.trans a1).trans f)⟩
  rw [hy,<- zFo hs];rfl
 refine⟨u3,rfl,hK u1 u2 u3 w5 ⟨_,zAj (j:=0) l,_,zAj (j:=0) a2,?_⟩⟩
 refine zAb (fun d7=>?_) (fun b9=>?_)
 ·intro K1 d3
  refine⟨_,zAj (w:=w5.drew) (j:=0) l,yC (c108 g h ⟨by omega,by omega⟩ w5.drew) ?_⟩
  rintro v w6 ⟨⟨u4,rfl,d⟩,a1⟩
  refine⟨u4,rfl,a1,?_⟩
  have b6:decide (p.num<0)=decide (q.num<0):=by simpa using d7
  have a0:u4.size<=536870913:=by
   have:=zBy (p.num.natAbs*q.den) (q.num.natAbs*p.den)
   rw [<- g,<- h,<- d,<- zAc,<- zAc,<- zAc] at this
   omega
  exact fin _ _ u4 w6 d a0 (b3.drew.trans a1) (by rw [b6,zC9]) (Q:=fun v w=>K1 [v] w) (fun s w' h1 h2=>d3 s w' ⟨⟨s,rfl,h1⟩,h2⟩)
 ·have a4:decide (p.num<0)≠decide (q.num<0):=by
   intro e;rw [e] at b9;simp at b9
  refine yC (c109 g h w5) ?_
  rintro v w6 ⟨rfl,rfl⟩
  refine⟨_,rfl,?_⟩
  refine zAe (fun a9=>?_) (fun m=>?_)
  ·have b7:q.num.natAbs*p.den<=p.num.natAbs*q.den:=by
    unfold cmpN at a9
    split at a9
    ·exact absurd a9 (by decide)
    ·omega
   intro K2 a5
   refine⟨_,zAj (w:=w6.drew) (j:=0) l,yC (c110 g h b7 (by omega) w6.drew) ?_⟩
   rintro v w7 ⟨⟨u4,rfl,d⟩,f⟩
   refine⟨u4,rfl,f,?_⟩
   have a0:u4.size<=536870913:=by
    have:=zAu (Nat.sub_le (p.num.natAbs*q.den) (q.num.natAbs*p.den))
    rw [<- d,<- g,<- zAc,<- zAc] at this
    omega
   exact fin _ _ u4 w7 d a0 (b3.drew.trans f) (zDS a4 b7) (Q:=fun v w=>K2 [v] w) (fun s w' h1 h2=>a5 s w' ⟨⟨s,rfl,h1⟩,h2⟩)
  ·have a3:p.num.natAbs*q.den<q.num.natAbs*p.den:=by
    unfold cmpN at m
    split at m
    ·assumption
    ·split at m
     ·exact absurd (by decide) m
     ·exact absurd (by decide) m
   intro K2 a5
   refine⟨_,zAj (w:=w6.drew) (j:=0) a2,yC (c110 h g (Nat.le_of_lt a3) (by omega) w6.drew) ?_⟩
   rintro v w7 ⟨⟨u4,rfl,d⟩,f⟩
   refine⟨u4,rfl,f,?_⟩
   have a0:u4.size<=536870913:=by
    have:=zAu (Nat.sub_le (q.num.natAbs*p.den) (p.num.natAbs*q.den))
    rw [<- d,<- h,<- zAc,<- zAc] at this
    omega
   exact fin _ _ u4 w7 d a0 (b3.drew.trans f) (zDR a4 a3) (Q:=fun v w=>K2 [v] w) (fun s w' h1 h2=>a5 s w' ⟨⟨s,rfl,h1⟩,h2⟩)
theorem c79 {a:BA} {q:Rat} (ha:bs a=txtQ q) (hz:a.size<=536870912) (w:World):Ret prog 79 #[.string a] w fun v w'=>TxtV (-q) v/\Ext w w':=by
 refine run79 _ _ _ (yC (c81 a hz w) ?_)
 rintro v w1 ⟨hp,he⟩
 obtain⟨s,t,rfl,hs,ht⟩:=zB0 ha hp
 have hb:=box3 w1 (.bool (decide (q.num<0))) (.string s) (.string t) (.bool false) (.string { data:=#[] }) (.string { data:=#[] })
 have d:=he.trans (zBb w1 (.bool (decide (q.num<0))) (.string s) (.string t) (.bool false) (.string { data:=#[] }) (.string { data:=#[] }))
 refine⟨_,_,_,_,rfl,zBt _ _ _ _,?_⟩
 have f:=zAq q
 rw [<- ha,<- zAc] at f
 have z1:s.size<=2147483648:=by rw [zAc,hs];omega
 have z2:t.size<=2147483648:=by rw [zAc,ht];omega
 rw [Bool.not_true,cond_false]
 intro K hK
 have fin : ∀ neg:Bool,neg=decide ((-q).num<0)->∀ u,bs u=txt3 neg q.num.natAbs q.den->bs u=txtQ (-q):=by
  intro neg hn u hu
  rw [hu,txtQ,Rat.neg_den,Rat.neg_num,Int.natAbs_neg,hn,Rat.neg_num]
 refine⟨_,zAj (j:=0) hb,zAb (fun hn=>?_) (fun hn=>?_)⟩
 ·refine⟨_,zAj (j:=1) hb,_,zAj (j:=1) hb,_,zAj (j:=2) hb,yC (c84 _ hs ht ⟨z1,z2⟩ _) ?_⟩
  rintro v w3 ⟨⟨u,rfl,hu⟩,b⟩
  refine⟨u,rfl,hK u w3 ⟨⟨u,rfl,fin _ ?_ u hu⟩,d.trans b⟩⟩
  rw [zC0 hs,Rat.neg_num,Bool.eq_iff_iff,Bool.not_eq_true',decide_eq_false_iff_not,decide_eq_true_eq]
  have g : ¬ q.num<0:=by simpa using hn
  omega
 ·refine⟨_,zAj (j:=1) hb,_,zAj (j:=2) hb,yC (c84 _ hs ht ⟨z1,z2⟩ _) ?_⟩
  rintro v w3 ⟨⟨u,rfl,hu⟩,b⟩
  refine⟨u,rfl,hK u w3 ⟨⟨u,rfl,fin _ ?_ u hu⟩,d.trans b⟩⟩
  have g:q.num<0:=by simpa using hn
  rw [Rat.neg_num]
  exact (decide_eq_false (by omega)).symm
theorem neg_len (q:Rat):(txtQ (-q)).length<=(txtQ q).length+1:=by
 unfold txtQ txt3
 rw [Rat.neg_den,Rat.neg_num,Int.natAbs_neg]
 simp only [List.length_append]
 split <;> split <;> simp only [List.length_cons,List.length_nil] <;> omega
theorem c59 {a b:BA} {p q:Rat} (ha:bs a=txtQ p) (hb:bs b=txtQ q) (hz:a.size<=268435456/\b.size<268435456) (w:World) :
  Ret prog 59 #[.string a,.string b] w fun v w'=>TxtV (p - q) v/\Ext w w':=by
 refine run59 _ _ _ _ (yC (c79 hb (by omega) w) ?_)
 rintro v w1 ⟨⟨u,rfl,hu⟩,d⟩
 have g:=neg_len q
 rw [<- hu,<- hb,<- zAc,<- zAc] at g
 refine⟨u,rfl,yC (c58 ha hu ⟨hz.1,by omega⟩ w1) ?_⟩
 rintro v w2 ⟨⟨y,rfl,hy⟩,f⟩
 rw [<- Rat.sub_eq_add_neg] at hy
 exact⟨y,rfl,⟨y,rfl,hy⟩,d.trans f⟩
theorem c44 {a b:BA} {p q:Rat} (ha:bs a=txtQ p) (hb:bs b=txtQ q) (hz:a.size<=268435456/\b.size<=268435456) (w:World) :
  Ret prog 44 #[.string a,.string b] w fun v w'=>TxtV (p*q) v/\Ext w w':=by
 refine run44 _ _ _ _ (yC (c81 a (by omega) w) ?_)
 rintro v w1 ⟨hp,a5⟩
 obtain⟨s,t,rfl,hs,ht⟩:=zB0 ha hp
 have h:=box3 w1 (.bool (decide (p.num<0))) (.string s) (.string t) (.bool false) (.string { data:=#[] }) (.string { data:=#[] })
 have a2:=a5.trans (zBb w1 (.bool (decide (p.num<0))) (.string s) (.string t) (.bool false) (.string { data:=#[] }) (.string { data:=#[] }))
 refine⟨_,_,_,_,rfl,zBt _ _ _ _,?_⟩
 generalize setCells (w1.alloc (.cells #[.bool false,.string { data:=#[] },.string { data:=#[] }] 110)) ⟨w1.heap.size,0,none⟩ 0 [.bool (decide (p.num<0)),.string s,.string t]=W1 at h a2 ⊢
 generalize w1.heap.size=B1 at h ⊢
 refine yC (c81 b (by omega) W1) ?_
 rintro v w2 ⟨b1,a6⟩
 obtain⟨s2,t2,rfl,l,m⟩:=zB0 hb b1
 have f:=box3 w2 (.bool (decide (q.num<0))) (.string s2) (.string t2) (.bool false) (.string { data:=#[] }) (.string { data:=#[] })
 have a0:=a6.trans (zBb w2 (.bool (decide (q.num<0))) (.string s2) (.string t2) (.bool false) (.string { data:=#[] }) (.string { data:=#[] }))
 refine⟨_,_,_,_,rfl,zBt _ _ _ _,?_⟩
 generalize setCells (w2.alloc (.cells #[.bool false,.string { data:=#[] },.string { data:=#[] }] 110)) ⟨w2.heap.size,0,none⟩ 0 [.bool (decide (q.num<0)),.string s2,.string t2]=W2 at f a0 ⊢
 generalize w2.heap.size=B2 at f ⊢
 have d:=(a0.blk h)
 have hx:Ext w W2:=a2.trans a0
 have a9:=zAq p
 have b0:=zAq q
 rw [<- ha,<- zAc] at a9
 rw [<- hb,<- zAc] at b0
 have z1:s.size<=268435456:=by rw [zAc,hs];omega
 have z2:t.size<=268435456:=by rw [zAc,ht];omega
 have z3:s2.size<=268435456:=by rw [zAc,l];omega
 have z4:t2.size<=268435456:=by rw [zAc,m];omega
 rw [Bool.not_true,Bool.or_self,cond_false]
 intro K hK
 refine⟨_,zAj (w:=W2.drew) (j:=0) d,_,zAj (w:=W2.drew) (j:=0) f,_,zAj (w:=W2.drew) (j:=1) d,_,zAj (w:=W2.drew) (j:=1) f,_,zAj (w:=W2.drew) (j:=2) d,_,zAj (w:=W2.drew) (j:=2) f,yC (c83 hs l ⟨by omega,by omega⟩ W2.drew) ?_⟩
 rintro v w3 ⟨⟨u1,rfl,n⟩,k⟩
 refine⟨u1,rfl,k,yC (c83 ht m ⟨by omega,by omega⟩ w3) ?_⟩
 rintro v w4 ⟨⟨u3,rfl,o⟩,a1⟩
 have b2:Ext w w4:=hx.trans (((yE W2).drew.trans k).trans a1)
 have g : ∀ (x y:Nat) (u v t:BA),bs u=dec x->bs v=dec y->bs t=dec (x*y)->u.size<=268435456->v.size<=268435456->t.size<=536870912:=by
  intro x y u v t h1 h2 h3 h4 h5
  rw [zAc,h1] at h4
  rw [zAc,h2] at h5
  rw [zAc,h3]
  have b5:0<(dec x).length:=List.length_pos_iff.2 (zBa x)
  have:=Nat.mul_lt_mul'' (zBh x) (zBh y)
  rw [<- Nat.pow_add] at this
  have:=(zA8 (show 0<(dec x).length+(dec y).length by omega)).2 this
  omega
 have b6:=g _ _ _ _ _ hs l n z1 z3
 have b7:=g _ _ _ _ _ ht m o z2 z4
 have i:p.den*q.den≠0:=Nat.mul_ne_zero p.den_nz q.den_nz
 refine⟨u3,rfl,k.trans a1,yC (c82 _ n o i ⟨by omega,by omega⟩ w4) ?_⟩
 rintro v w6 ⟨⟨y1,y2,rfl,a3,a4⟩,a7⟩
 have b3:y1.size<=2147483648:=by
  rw [zAc,a3,zDm _ _ i,zB6]
  have h6:=zAu (Nat.div_le_self (p.num.natAbs*q.num.natAbs) (Nat.gcd (p.num.natAbs*q.num.natAbs) (p.den*q.den)))
  rw [<- n,<- zAc] at h6
  omega
 have b4:y2.size<=2147483648:=by
  rw [zAc,a4,zDT _ _ i]
  have h6:=zAu (Nat.div_le_self (p.den*q.den) (Nat.gcd (p.num.natAbs*q.num.natAbs) (p.den*q.den)))
  rw [<- o,<- zAc] at h6
  omega
 refine⟨_,_,_,rfl,yC (c84 _ a3 a4 ⟨b3,b4⟩ w6) ?_⟩
 rintro v w7 ⟨⟨y,rfl,hy⟩,a8⟩
 refine⟨y,rfl,hK y w7 ⟨⟨y,rfl,?_⟩,(b2.trans a7).trans a8⟩⟩
 rw [hy,<- mul_red];rfl
theorem c37 {a b:BA} {p q:Rat} (ha:bs a=txtQ p) (hb:bs b=txtQ q) (hz:a.size+b.size<=178000000) (w:World) :
  Ret prog 37 #[.string a,.string b] w fun v w'=>v = .int .i64 (sgnQ (p - q))/\Ext w w':=by
 refine run37 _ _ _ _ fun K hK=>?_
 refine yC (c77 a (by omega) w) ?_
 rintro v w1 ⟨rfl,d⟩
 refine⟨_,rfl,?_⟩
 rw [zBv.2 ⟨p,ha⟩,Bool.not_true,cond_false]
 refine yC (c77 b (by omega) w1) ?_
 rintro v w2 ⟨rfl,f⟩
 refine⟨_,rfl,?_⟩
 rw [zBv.2 ⟨q,hb⟩]
 refine hK _ w2 ?_
 rw [Bool.not_true,cond_false]
 refine yC (c59 ha hb ⟨by omega,by omega⟩ w2) ?_
 rintro v w3 ⟨⟨u,rfl,hu⟩,g⟩
 have hl:u.size<=536870912:=by
  have h1:=txt_len (decide ((p - q).num<0)) (p - q).num.natAbs (p - q).den
  have h2:=sub_len p q
  have h3:=zAq p
  have h4:=zAq q
  rw [<- ha,<- zAc] at h3
  rw [<- hb,<- zAc] at h4
  rw [zAc,hu]
  unfold txtQ
  omega
 refine⟨u,rfl,yC (c43 hu (by omega) w3) ?_⟩
 rintro v w4 ⟨rfl,h⟩
 exact⟨_,rfl,rfl,d.trans (f.trans (g.trans h))⟩
end Go.Proofs.Si
namespace Go.Proofs.Si
open Go Go.V Go.Proofs Go.RowKit Go.Num Go.Proofs.Tryz
open Go.IntKind (i64 u64 u32 u8)
set_option maxRecDepth 100000
def u32v (n:Nat):Value := .int .u32 (n:Int)
def NatS (w:World) (a:OA) (L:List Nat):Prop:=SlAt w a (L.map u32v)
theorem NatS.ext {w w' : World} {a:OA} {L:List Nat} (h:NatS w a L) (he:Ext w w'):NatS w' a L:=SlAt.ext h he
theorem NatS.get {w:World} {a:OA} {L:List Nat} (h:NatS w a L) {i:Nat} (hi:i<L.length) : ∃ ad,a=some ad/\w.cell? (ad.add (i*1))=some (u32v (L.getD i 0)):=by
 obtain⟨ad,ha,_,hr⟩:=SlAt.at h (j:=i) (by simpa using hi)
 refine⟨ad,ha,?_⟩
 rw [Nat.mul_one]
 apply hr
 rw [List.getElem?_map,List.getElem?_eq_getElem hi,zCN hi];rfl
def NatV (w:World) (v:Value) (n:Nat):Prop:=∃ a c L,v = .slice a L.length c/\L.length<=c/\NatS w a L/\okL L/\normL L/\lv L=n
def NatO (w:World) (B:Nat) (v:Value) (n:Nat):Prop:=∃ a c L,v = .slice a L.length c/\w.ownsRow B 209 1 (.slice a L.length c) L.length (L.map u32v)/\okL L/\normL L/\lv L=n
theorem NatO.natV {w:World} {B:Nat} {v:Value} {n:Nat} (h:NatO w B v n):NatV w v n:=by
 obtain⟨a,c,L,hv,ho,h1,h2,h3⟩:=h
 exact⟨a,c,L,hv,zES ho,zAJ ho,h1,h2,h3⟩
theorem NatV.ext {w w' : World} {v:Value} {n:Nat} (h:NatV w v n) (he:Ext w w'):NatV w' v n:=by
 obtain⟨a,c,L,hv,hc,hs,r⟩:=h
 exact⟨a,c,L,hv,hc,hs.ext he,r⟩
theorem zCr {w:World} {B:Nat} {p:OA} {k:Nat} {D:List Nat} (h:w.ownsRow B 209 1 (.slice p D.length k) D.length (D.map u32v)) (hok:okL D):NatO w B (.slice p (trimN D D.length) k) (lv D):=by
 have b:=zDz D D.length
 have hl:(D.take (trimN D D.length)).length=trimN D D.length:=by rw [List.length_take,Nat.min_eq_left b]
 refine⟨p,k,D.take (trimN D D.length),by rw [hl],?_,zBB hok _,zFv D _ yL,?_⟩
 ·rw [hl]
  have:=own_cut h b
  rw [Nat.mul_one,<- List.map_take] at this
  exact this
 ·rw [zFR,List.take_length]
theorem w32 {n:Nat} (h:n<4294967296):u32.wrap (n:Int)=(n:Int):=by show (n:Int) % 4294967296=_;omega
theorem w32i {n:Int} (h0:0<=n) (h:n<4294967296):u32.wrap n=n:=by show n % 4294967296=_;omega
theorem w64u {n:Nat} (h:n<18446744073709551616):u64.wrap (n:Int)=(n:Int):=by show (n:Int) % 18446744073709551616=_;omega
theorem w64ui {n:Int} (h0:0<=n) (h:n<18446744073709551616):u64.wrap n=n:=by show n % 18446744073709551616=_;omega
theorem tmodN (a b:Nat):(a:Int).tmod (b:Int)=((a % b:Nat):Int):=rfl
theorem tdivN (a b:Nat):(a:Int).tdiv (b:Int)=((a / b:Nat):Int):=rfl
theorem zEL (n:Nat):(n*siE.P.types[209].size)=n:=Nat.mul_one n
theorem c218 {a:OA} {c:Nat} {L:List Nat} (hc:L.length<=c) (hl:L.length<=4611686018427387904) (w:World) (hs:NatS w a L) :
  Ret prog 218 #[.slice a L.length c] w fun v w'=>v = .slice a (trimN L L.length) c/\w' = w:=by
 refine run218 _ _ _ _ _ ⟨fun vals w'=>∃ j:Nat,vals=[.int .i64 j]/\j<=L.length/\w' = w/\trimN L j=trimN L L.length,muD,⟨L.length,rfl,yL,rfl,rfl⟩,?_⟩
 rintro n w1 ⟨j,hv,hj,rfl,ht⟩
 cases hv
 intro K hK
 refine zAe (fun h0=>?_) (fun h0=>?_)
 ·obtain⟨i,rfl⟩ : ∃ i,j=i+1:=⟨j - 1,by omega⟩
  obtain⟨ad,ha,b⟩:=hs.get (i:=i) (by omega)
  have e:i64.wrap (((i+1:Nat):Int) - 1)=(i:Int):=by rw [zAd] <;> omega
  rw [trimN] at ht
  rw [e]
  refine⟨ad,ha,⟨by omega,by omega⟩,_,b,hK _ ?_⟩
  rw [e]
  refine zAb (fun hz=>⟨⟨i,rfl,by omega,rfl,?_⟩,?_⟩) (fun hz=>⟨⟨by omega,by omega⟩,?_,rfl⟩)
  ·have:L.getD i 0=0:=by
    have:=of_decide_eq_true (p:=((L.getD i 0:Nat):Int)=0) (by simpa using hz)
    omega
   rw [if_pos this] at ht
   exact ht
  ·simp only [muD];omega
  ·have:L.getD i 0≠0:=by
    intro e0
    rw [e0] at hz
    exact absurd hz (by decide)
   rw [if_neg this] at ht
   rw [<- ht,yT]
 ·have:j=0:=by omega
  subst this
  refine hK false ⟨⟨by omega,by omega⟩,?_,rfl⟩
  rw [<- ht];rfl
theorem c252 {a:OA} {c:Nat} {L:List Nat} (w:World) (hs:NatS w a L) (i:Nat) :
  Ret prog 252 #[.slice a L.length c,.int .i64 i] w fun v w'=>v = .int .u32 ((L.getD i 0:Nat):Int)/\w' = w:=by
 refine run252 _ _ _ _ _ _ (zAe (fun h=>⟨?_,rfl⟩) (fun h=>?_))
 ·rw [List.getD,List.getElem?_eq_none (by omega)];rfl
 ·obtain⟨ad,ha,b⟩:=hs.get (i:=i) (by omega)
  exact⟨ad,ha,⟨by omega,by omega⟩,_,b,rfl,rfl⟩
theorem c188 {a:OA} {c:Nat} {L:List Nat} (w:World) (hs:NatS w a L) (hok:okL L) (hn:normL L) :
  Ret prog 188 #[.slice a L.length c] w fun v w'=>v = .bool (decide (lv L=1))/\w' = w:=by
 refine run188 _ _ _ _ _ fun K hK=>zAb (fun h=>?_) (fun h=>hK _ ⟨?_,rfl⟩)
 ·have hl:L.length=1:=by have:=of_decide_eq_true (p:=(L.length:Int)=1) (by simpa using h);omega
  obtain⟨ad,ha,d⟩:=hs.get (i:=0) (by omega)
  have f:ad.add (0*1)=ad:=by
   rw [Nat.mul_one]
   rcases hs with h0 | ⟨ad',h1,h2,_⟩
   ·rw [List.map_eq_nil_iff] at h0;rw [h0] at hl;cases hl
   ·rw [ha] at h1;cases h1
    cases ad with
    | mk b o s=>cases h2;rw [zAi];rfl
  rw [f] at d
  refine⟨ad,ha,⟨by omega,by omega⟩,_,d,hK _ ⟨?_,rfl⟩⟩
  match L,hl with
  | [x],_ =>
   rw [lv_one]
   congr 1
   rw [Bool.eq_iff_iff,beq_iff_eq,decide_eq_true_eq]
   show ((x:Nat):Int)=1↔x=1
   omega
 ·congr 1
  have hl:L.length≠1:=by intro e;rw [e] at h;exact absurd h (by decide)
  symm
  apply decide_eq_false
  intro e
  by_cases h0:L.length=0
  ·rw [List.eq_nil_of_length_eq_zero h0] at e;cases e
  ·have:=zDV hn (by omega)
   have h2:1000000000 ^ 1<=1000000000 ^ (L.length - 1):=Nat.pow_le_pow_right (by omega) (by omega)
   omega
theorem c223 {a b:OA} {ca cb:Nat} {A B:List Nat} (w:World) (ha:NatS w a A) (hb:NatS w b B) (oa:okL A) (ob:okL B) (na:normL A) (nb:normL B) (hl:A.length<=1099511627776/\B.length<=1099511627776) :
  Ret prog 223 #[.slice a A.length ca,.slice b B.length cb] w fun v w'=>(∃ z:Int,v = .int .i64 z/\(z<0↔lv A<lv B))/\Ext w w':=by
 refine run223 _ _ _ _ _ _ _ _ (zAb (fun h=>⟨⟨_,rfl,?_⟩,yE _⟩) (fun h=>?_))
 ·have l:A.length≠B.length:=by intro e;rw [e] at h;simp at h
  rw [zAd (by omega) (by omega)]
  constructor
  ·intro k
   have : ¬ lv B<=lv A:=fun x=>by have:=zCs oa nb x;omega
   omega
  ·intro k
   have:=zCs ob na (Nat.le_of_lt k)
   omega
 ·have he:A.length=B.length:=by have:=of_decide_eq_true (p:=(A.length:Int)=B.length) (by simpa using h);omega
  refine⟨fun vals w'=>∃ j:Nat,vals=[.int .i64 ((j:Int) - 1)]/\j<=A.length/\lv (A.drop j)=lv (B.drop j)/\Ext w w',muD,
   ⟨A.length,by rw [zAd (by omega) (by omega)],yL,by rw [List.drop_length,he,List.drop_length],yE _⟩,?_⟩
  rintro n w1 ⟨j,hv,hj,hd,g⟩
  cases hv
  refine zAe (fun h0=>?_) (fun h0=>⟨⟨0,rfl,?_⟩,g⟩)
  ·obtain⟨i,rfl⟩ : ∃ i,j=i+1:=⟨j - 1,by omega⟩
   obtain⟨ad,m,f⟩:=(ha.ext g.drew).get (i:=i) (by omega)
   obtain⟨bd,o,d⟩:=(hb.ext g.drew).get (i:=i) (by omega)
   have e:(((i+1:Nat):Int) - 1)=(i:Int):=by omega
   have a1:=zA5 oa i
   have a2:=zA5 ob i
   simp only [e]
   refine⟨ad,m,⟨by omega,by omega⟩,_,f,bd,o,⟨by omega,by omega⟩,_,d,zAb (fun l=>?_) (fun u=>?_)⟩
   ·refine⟨ad,m,⟨by omega,by omega⟩,_,f,bd,o,⟨by omega,by omega⟩,_,d,⟨_,rfl,?_⟩,g.drew.drew⟩
    have a0:A.getD i 0≠B.getD i 0:=by intro e;rw [e] at l;simp at l
    rw [zAd (n:=((A.getD i 0:Nat):Int)) (by omega) (by omega),zAd (n:=((B.getD i 0:Nat):Int)) (by omega) (by omega),zAd (by omega) (by omega)]
    constructor
    ·intro k
     exact lv_cmp oa ob (by omega) (by omega) hd (by omega)
    ·intro k
     have : ¬ B.getD i 0<A.getD i 0:=fun h=>by
      have:=lv_cmp ob oa (by omega) (by omega) hd.symm h
      omega
     omega
   ·have s:A.getD i 0=B.getD i 0:=by
     have:=of_decide_eq_true (p:=((A.getD i 0:Nat):Int)=(B.getD i 0:Nat)) (by simpa using u)
     omega
    rw [zAd (by omega) (by omega)]
    refine⟨⟨i,rfl,by omega,?_,g.drew⟩,?_⟩
    ·rw [zAG (a:=A) (i:=i) (by omega),zAG (a:=B) (i:=i) (by omega),s,hd]
    ·simp only [muD];omega
  ·have:j=0:=by omega
   subst this
   rw [List.drop_zero,List.drop_zero] at hd
   rw [hd]
   omega
theorem c222 {a b:OA} {ca cb:Nat} {A B:List Nat} (w:World) (ha:NatS w a A) (hb:NatS w b B) (oa:okL A) (ob:okL B) (hl:A.length<=1099511627776/\B.length<=1099511627776) :
  Ret prog 222 #[.slice a A.length ca,.slice b B.length cb] w fun v w'=>NatO w' w.heap.size v (lv A+lv B)/\Ext w w':=by
 obtain⟨N,hN⟩ : ∃ N,N=max A.length B.length:=⟨_,rfl⟩
 have hm:(if (B.length:Int)>(A.length:Int) then (B.length:Int) else (A.length:Int))=(N:Int):=by split <;> omega
 have l:i64.wrap ((N:Int)+1)=((N+1:Nat):Int):=zAf (by omega)
 refine run222 _ _ _ _ _ _ _ _ ?_
 unfold vc222
 simp only [hm,l,yT]
 refine⟨⟨by omega,by omega,by omega,by omega⟩,fun vals w1=>∃ (i carry:Nat) (D:List Nat) (p:OA) (k:Nat),vals=[.int .i64 i,.int .u32 carry,.slice p D.length k]/\D.length=i/\i<=N/\carry<=1/\okL D /\
  lv D+1000000000 ^ i*carry=lv (A.take i)+lv (B.take i)/\w1.ownsRow w.heap.size 209 1 (.slice p D.length k) D.length (D.map u32v)/\Ext w w1,mu1 N,
  ⟨0,0,[],_,_,rfl,rfl,Nat.zero_le _,by omega,zBH,rfl,World.ownsRow_made _ _ _ yL (by unfold maxLen;omega) ?_,(yE w).alloc _⟩,?_⟩
 ·simp [madeCells,Value.cells,zEL]
 rintro n n1 p k k1 w1 ⟨i,carry,D,p',k',hv,g,hi,o,oD,h,ho,he⟩
 cases hv
 refine zAe (fun x=>?_) (fun u=>?_)
 ·refine yC (c252 w1 (ha.ext he) i) ?_
  rintro v w2 ⟨rfl,rfl⟩
  refine⟨_,rfl,yC (c252 w2 (hb.ext he) i) ?_⟩
  rintro v w3 ⟨rfl,rfl⟩
  have h1:=zA5 oa i
  have h2:=zA5 ob i
  have e2:u32.wrap (((A.getD i 0:Nat):Int)+((B.getD i 0:Nat):Int))=((A.getD i 0+B.getD i 0:Nat):Int):=by rw [w32i (by omega) (by omega)];omega
  have e3:u32.wrap (((A.getD i 0+B.getD i 0:Nat):Int)+(carry:Int))=((A.getD i 0+B.getD i 0+carry:Nat):Int):=by rw [w32i (by omega) (by omega)];omega
  refine⟨_,rfl,?_⟩
  simp only [e2,e3]
  generalize hs:A.getD i 0+B.getD i 0+carry=s
  have e4:((s:Nat):Int).tmod 1000000000=((s % 1000000000:Nat):Int):=rfl
  have e5:u32.wrap (((s:Nat):Int).tdiv 1000000000)=((s / 1000000000:Nat):Int):=by
   rw [show ((s:Nat):Int).tdiv 1000000000=((s / 1000000000:Nat):Int) from rfl]
   exact w32 (by omega)
  rw [e4,e5]
  refine⟨_,_,_,AppOk.one (L:=[u32v (s % 1000000000)]) ho rfl rfl (by unfold maxLen;omega) (by omega) he.size,?_⟩
  intro p1 k3 w4 r
  have hx:=(yE w3).alloc (.cells #[u32v (s % 1000000000)] 209)
  have d:Ext w w4:=r.below (zAm ho hx) (he.trans hx) (by rw [size_alloc];have:=he.size;omega) yL
  have e6:(D++[s % 1000000000]).length=D.length+1:=by simp
  rw [zAf (by omega)]
  refine⟨⟨i+1,s / 1000000000,D++[s % 1000000000],p1,k3,by rw [e6],by omega,by omega,by omega,?_,?_,?_,d⟩,?_⟩
  ·rw [zEV];exact⟨oD,by rw [zBN];exact⟨Nat.mod_lt _ (by omega),zBH⟩⟩
  ·rw [zDp,zA7,zA7,g,Nat.pow_succ,Nat.mul_assoc]
   have g1:1000000000 ^ i*(s % 1000000000)+1000000000 ^ i*(1000000000*(s / 1000000000))=1000000000 ^ i*s:=by rw [<- Nat.mul_add];congr 1;omega
   have g2:1000000000 ^ i*s=1000000000 ^ i*A.getD i 0+1000000000 ^ i*B.getD i 0+1000000000 ^ i*carry:=by rw [<- hs,Nat.mul_add,Nat.mul_add]
   omega
  ·have:=r.own
   rw [e6,List.map_append];exact this
  ·simp only [mu1,yT];omega
 ·have j:i=N:=by omega
  subst j
  refine⟨_,_,_,AppOk.one (L:=[u32v carry]) ho rfl rfl (by unfold maxLen;omega) (by omega) he.size,?_⟩
  intro p1 k3 w4 r
  have hx:=(yE w1).alloc (.cells #[u32v carry] 209)
  have d:Ext w w4:=r.below (zAm ho hx) (he.trans hx) (by rw [size_alloc];have:=he.size;omega) yL
  have e6:(D++[carry]).length=D.length+1:=by simp
  have f:w4.ownsRow w.heap.size 209 1 (.slice p1 (D++[carry]).length k3) (D++[carry]).length ((D++[carry]).map u32v):=by
   rw [e6,List.map_append];exact r.own
  have m:okL (D++[carry]):=by rw [zEV];exact⟨oD,by rw [zBN];exact⟨by omega,zBH⟩⟩
  rw [<- e6]
  refine yC (c218 (zES f) (by omega) w4 (zAJ f)) ?_
  rintro v w5 ⟨rfl,rfl⟩
  refine⟨_,_,_,rfl,?_,d⟩
  have:=zCr f m
  rw [zDp,g,h,List.take_of_length_le (by omega),List.take_of_length_le (by omega)] at this
  exact this
theorem c224 {a b:OA} {ca cb:Nat} {A B:List Nat} (w:World) (ha:NatS w a A) (hb:NatS w b B) (oa:okL A) (ob:okL B) (nb:normL B) (hle:lv B<=lv A) (hl:A.length<=1099511627776) :
  Ret prog 224 #[.slice a A.length ca,.slice b B.length cb] w fun v w'=>NatO w' w.heap.size v (lv A - lv B)/\Ext w w':=by
 refine run224 _ _ _ _ _ _ _ _ ?_
 unfold vc224
 simp only [yT]
 have a0:=zCs oa nb hle
 refine⟨⟨by omega,by omega,by omega,by omega⟩,fun vals w1=>∃ (i carry:Nat) (D:List Nat) (p:OA) (k:Nat),vals=[.int .i64 i,.int .i64 carry,.slice p D.length k]/\D.length=i/\i<=A.length/\carry<=1/\okL D /\
  lv D+lv (B.take i)=lv (A.take i)+1000000000 ^ i*carry/\w1.ownsRow w.heap.size 209 1 (.slice p D.length k) D.length (D.map u32v)/\Ext w w1,mu1 A.length,
  ⟨0,0,[],_,_,rfl,rfl,Nat.zero_le _,by omega,zBH,rfl,World.ownsRow_made _ _ _ yL (by unfold maxLen;omega) ?_,(yE w).alloc _⟩,?_⟩
 ·simp [madeCells,Value.cells,zEL]
 rintro n n1 p k k1 w1 ⟨i,carry,D,p',k',hv,g,hi,a4,oD,d,ho,he⟩
 cases hv
 refine zAe (fun l=>?_) (fun a5=>?_)
 ·obtain⟨ad,s,f⟩:=(ha.ext he.drew).get (i:=i) (by omega)
  refine⟨ad,s,⟨by omega,by omega⟩,_,f,yC (c252 w1.drew (hb.ext he.drew) i) ?_⟩
  rintro v w2 ⟨rfl,rfl⟩
  have h1:=zA5 oa i
  have h2:=zA5 ob i
  refine⟨_,rfl,Below.refl _ _,fun K hK=>?_⟩
  have fin : ∀ (c x:Nat),c<=1->x<1000000000->x+B.getD i 0+carry=A.getD i 0+1000000000*c->K [.int .i64 c,.int .i64 x] w1.drew:=by
   intro c x hc hx hs
   refine hK _ _ ?_
   rw [w32 (by omega)]
   have m:=zAm ho ((yE w1).drew)
   refine⟨_,_,_,AppOk.one (L:=[u32v x]) m rfl rfl (by unfold maxLen;omega) (by omega) he.drew.size,?_⟩
   intro p1 k3 w4 r
   have o:=(yE w1.drew).alloc (.cells #[u32v x] 209)
   have u:Ext w w4:=r.below (zAm m o) (he.drew.trans o) (by rw [size_alloc];have:=he.drew.size;omega) yL
   have e6:(D++[x]).length=D.length+1:=by simp
   rw [zAf (by omega)]
   refine⟨⟨i+1,c,D++[x],p1,k3,by rw [e6],by omega,by omega,by omega,?_,?_,?_,u⟩,?_⟩
   ·rw [zEV];exact⟨oD,by rw [zBN];exact⟨hx,zBH⟩⟩
   ·rw [zDp,zA7,zA7,g,Nat.pow_succ,Nat.mul_assoc]
    have g1:1000000000 ^ i*(x+B.getD i 0+carry)=1000000000 ^ i*(A.getD i 0+1000000000*c):=by rw [hs]
    rw [Nat.mul_add,Nat.mul_add,Nat.mul_add] at g1
    omega
   ·have:=r.own
    rw [e6,List.map_append];exact this
   ·simp only [mu1,yT];omega
  have e1:i64.wrap (i64.wrap (i64.wrap ((A.getD i 0:Nat):Int) - i64.wrap ((B.getD i 0:Nat):Int)) - (carry:Int))=((A.getD i 0:Nat):Int) - (B.getD i 0:Nat) - carry:=by
   rw [zAd (n:=((A.getD i 0:Nat):Int)) (by omega) (by omega),zAd (n:=((B.getD i 0:Nat):Int)) (by omega) (by omega),zAd (n:=((A.getD i 0:Nat):Int) - _) (by omega) (by omega),zAd (by omega) (by omega)]
  rw [e1]
  refine zAe (fun a2=>?_) (fun a3=>?_)
  ·rw [zAd (by omega) (by omega)]
   have:=fin 1 (A.getD i 0+1000000000 - B.getD i 0 - carry) (by omega) (by omega) (by omega)
   rw [show ((A.getD i 0+1000000000 - B.getD i 0 - carry:Nat):Int)=((A.getD i 0:Nat):Int) - (B.getD i 0:Nat) - carry+1000000000 by omega] at this
   exact this
  ·have:=fin 0 (A.getD i 0 - B.getD i 0 - carry) (by omega) (by omega) (by omega)
   rw [show ((A.getD i 0 - B.getD i 0 - carry:Nat):Int)=((A.getD i 0:Nat):Int) - (B.getD i 0:Nat) - carry by omega] at this
   exact this
 ·have j:i=A.length:=by omega
  refine yC (c218 (zES ho) (by omega) w1 (zAJ ho)) ?_
  rintro v w5 ⟨rfl,rfl⟩
  refine⟨_,_,_,rfl,?_,he⟩
  have:=zCr ho oD
  rw [j,List.take_of_length_le yL,List.take_of_length_le a0] at d
  have l:=lv_lt oD
  rw [g,j] at l
  have a1:carry=0:=by
   rcases Nat.eq_zero_or_pos carry with h | h
   ·exact h
   ·have:carry=1:=by omega
    rw [this,Nat.mul_one] at d
    omega
  rw [a1,Nat.mul_zero,Nat.add_zero] at d
  rw [show lv A - lv B=lv D by omega]
  exact this
theorem zDW (n:Nat):madeCells (Value.int .u32 0).cells n=((List.replicate n 0).map u32v).toArray:=by
 apply Array.ext
 ·simp [madeCells]
 ·intro i h1 h2
  simp [madeCells,Value.cells,Nat.mod_one,u32v]
def LimbsIn (w:World) (b:Nat) (L:List Nat):Prop:=w.heap[b]? = some (.cells (L.map u32v).toArray 209 (0,0))
theorem LimbsIn.cell {w:World} {b:Nat} {L:List Nat} (h:LimbsIn w b L) {i:Nat} (hi:i<L.length):w.cell? ⟨b,i,none⟩=some (u32v (L.getD i 0)):=by
 rw [zAj h];simp [List.getD,hi]
theorem LimbsIn.set {w:World} {b:Nat} {L:List Nat} (h:LimbsIn w b L) (i x:Nat):LimbsIn (w.setCell ⟨b,i,none⟩ (u32v x)) b (L.set i x):=by
 unfold LimbsIn
 rw [zAW h]
 simp [List.map_set]
theorem LimbsIn.ext {w w' : World} {b:Nat} {L:List Nat} (h:LimbsIn w b L) (he:Ext w w'):LimbsIn w' b L:=he.blk h
theorem LimbsIn.own {w:World} {b B:Nat} {L:List Nat} (h:LimbsIn w b L) (hb:B<=b) (hm:L.length<=maxLen):w.ownsRow B 209 1 (.slice (some ⟨b,0,none⟩) L.length L.length) L.length (L.map u32v) :=
 ⟨by simp,.inr ⟨b,L.length,_,rfl,hb,h,yL,hm,by simp,by rw [Nat.mul_one,List.toList_toArray,<- List.length_map (f:=u32v),List.take_length]⟩⟩
theorem mul_step {P lD lD0 x y lB c d:Nat} {i k v:Nat} (hP:P=1000000000 ^ (i+k)) (h:lD+P*c=lD0+1000000000 ^ i*(x*lB)) (hv:v=d+x*y+c) {lD' : Nat} (hs:lD' + P*d=lD+P*(v % 1000000000)) :
  lD' + 1000000000 ^ (i+k+1)*(v / 1000000000)=lD0+1000000000 ^ i*(x*(lB+1000000000 ^ k*y)):=by
 rw [Nat.pow_succ,<- hP]
 have e1:P*1000000000*(v / 1000000000)+P*(v % 1000000000)=P*v:=by rw [Nat.mul_assoc,<- Nat.mul_add];congr 1;omega
 have e2:P*v=P*d+P*(x*y)+P*c:=by rw [hv,Nat.mul_add,Nat.mul_add]
 have e3:1000000000 ^ i*(x*(lB+1000000000 ^ k*y))=1000000000 ^ i*(x*lB)+P*(x*y):=by
  rw [hP,Nat.pow_add,Nat.mul_add,Nat.mul_add]
  congr 1
  rw [Nat.mul_left_comm x,Nat.mul_assoc]
 rw [e3]
 omega
theorem mul_lt2 {x y d c:Nat} (hx:x<1000000000) (hy:y<1000000000) (hd:d<1000000000) (hc:c<1000000000):d+x*y+c<1000000000*1000000000:=by
 have:x*y<=999999999*999999999:=Nat.mul_le_mul (by omega) (by omega)
 omega
theorem c220 {a b:OA} {ca cb:Nat} {A B:List Nat} (w:World) (ha:NatS w a A) (hb:NatS w b B) (oa:okL A) (ob:okL B) (hl:A.length<=1099511627776/\B.length<=1099511627776) :
  Ret prog 220 #[.slice a A.length ca,.slice b B.length cb] w fun v w'=>NatO w' w.heap.size v (lv A*lv B)/\(∃ p n c,v = .slice p n c/\n<=A.length+B.length)/\Ext w w':=by
 have hw:i64.wrap ((A.length:Int)+(B.length:Int))=((A.length+B.length:Nat):Int):=by rw [zAd (by omega) (by omega)];omega
 refine run220 _ _ _ _ _ _ _ _ ?_
 unfold vc220
 simp only [hw,yT,zEL,zDW]
 have a0:LimbsIn (w.alloc (.cells ((List.replicate (A.length+B.length) 0).map u32v).toArray 209)) w.heap.size (List.replicate (A.length+B.length) 0):=heap_alloc_new w _
 refine⟨⟨by omega,by omega,by omega,by omega⟩,fun vals w1=>∃ (i:Nat) (D:List Nat),vals=[.int .i64 i]/\i<=A.length/\D.length=A.length+B.length/\okL D/\lv D=lv (A.take i)*lv B /\
   (∀ j,i+B.length<=j->D.getD j 0=0)/\LimbsIn w1 w.heap.size D/\Ext w w1,mu1 A.length,
  ⟨0,_,rfl,Nat.zero_le _,List.length_replicate,zGb _,?_,?_,a0,(yE w).alloc _⟩,?_⟩
 ·rw [lv_zero,List.take_zero,zCH,Nat.zero_mul]
 ·intro j _
  rw [List.getD,List.getElem?_replicate];split <;> rfl
 rintro n w1 ⟨i,D,hv,hi,u,oD,f,hz,hD,he⟩
 cases hv
 refine zAe (fun b0=>?_) (fun a9=>?_)
 ·obtain⟨ad,a1,m⟩:=(ha.ext he).get (i:=i) (by omega)
  have hx:=zA5 oa i
  refine⟨ad,a1,⟨by omega,by omega⟩,_,m,fun vals w2=>∃ (k c:Nat) (E:List Nat),vals=[.int .i64 k,.int .u64 c]/\k<=B.length/\c<1000000000/\E.length=A.length+B.length/\okL E /\
    lv E+1000000000 ^ (i+k)*c=lv D+1000000000 ^ i*(A.getD i 0*lv (B.take k))/\(∀ j,i+B.length<=j->E.getD j 0=0)/\LimbsIn w2 w.heap.size E/\Ext w w2,mu1 B.length,
   ⟨0,0,D,rfl,Nat.zero_le _,by omega,u,oD,?_,hz,hD,he⟩,?_⟩
  ·rw [List.take_zero,zCH];simp
  rintro n2 n3 w2 ⟨k,c,E,hv,hk,hc,x,oE,g,s,hE,o⟩
  cases hv
  refine zAe (fun a7=>?_) (fun a6=>?_)
  ·obtain⟨bd,a2,l⟩:=(hb.ext o).get (i:=k) (by omega)
   have hy:=zA5 ob k
   have hd:=zA5 oE (i+k)
   have e1:i64.wrap ((i:Int)+(k:Int))=((i+k:Nat):Int):=by rw [zAd (by omega) (by omega)];omega
   have d:i+k<E.length:=by omega
   have h:=hE.cell d
   have a5:=mul_lt2 hx hy hd hc
   have a8:A.getD i 0*B.getD k 0<=999999999*999999999:=Nat.mul_le_mul (by omega) (by omega)
   refine⟨bd,a2,⟨by omega,by omega⟩,_,l,_,rfl,?_⟩
   simp only [e1,yT,Nat.mul_one,zAi,Nat.zero_add]
   refine⟨⟨by omega,by omega⟩,_,h,_,rfl,⟨by omega,by omega⟩,?_⟩
   simp only [zAi,Nat.zero_add]
   have e2:u64.wrap (u64.wrap (u64.wrap ((E.getD (i+k) 0:Nat):Int)+u64.wrap (u64.wrap ((A.getD i 0:Nat):Int)*u64.wrap ((B.getD k 0:Nat):Int)))+(c:Int))=((E.getD (i+k) 0+A.getD i 0*B.getD k 0+c:Nat):Int):=by
    rw [w64u (n:=E.getD (i+k) 0) (by omega),w64u (n:=A.getD i 0) (by omega),w64u (n:=B.getD k 0) (by omega),<- Int.natCast_mul,w64u (by omega),<- Int.natCast_add,w64u (by omega),<- Int.natCast_add,w64u (by omega)]
   rw [e2]
   generalize hV:E.getD (i+k) 0+A.getD i 0*B.getD k 0+c=V at a5
   have e3:u32.wrap (((V:Nat):Int).tmod 1000000000)=((V % 1000000000:Nat):Int):=by
    rw [show ((V:Nat):Int).tmod 1000000000=((V % 1000000000:Nat):Int) from rfl]
    exact w32 (by omega)
   have e4:u64.wrap (((V:Nat):Int).tdiv 1000000000)=((V / 1000000000:Nat):Int):=by
    rw [show ((V:Nat):Int).tdiv 1000000000=((V / 1000000000:Nat):Int) from rfl]
    exact w64u (by omega)
   rw [e3,e4,zAf (by omega)]
   refine⟨⟨⟨_,h⟩,zBc hE⟩,⟨k+1,V / 1000000000,E.set (i+k) (V % 1000000000),rfl,by omega,by omega,by rw [List.length_set,x],zDU oE _ (Nat.mod_lt _ (by omega)),?_,?_,hE.set _ _,Below.setCell (p:=⟨w.heap.size,i+k,none⟩) o yL _⟩,?_⟩
   ·have:=mul_step (y:=B.getD k 0) rfl g hV.symm (lv_set (V % 1000000000) d)
    rw [zA7]
    exact this
   ·intro j hj
    rw [List.getD_eq_getElem?_getD,List.getElem?_set_ne (by omega),<- List.getD_eq_getElem?_getD]
    exact s j hj
   ·simp only [mu1,yT];omega
  ·have a4:k=B.length:=by omega
   subst a4
   have e1:i64.wrap ((i:Int)+(B.length:Int))=((i+B.length:Nat):Int):=by rw [zAd (by omega) (by omega)];omega
   have d:i+B.length<E.length:=by omega
   have h:=hE.cell d
   refine⟨_,rfl,?_⟩
   simp only [e1,yT,Nat.mul_one,zAi,Nat.zero_add]
   rw [w32 (by omega),zAf (by omega)]
   refine⟨⟨by omega,by omega⟩,⟨⟨_,h⟩,zBc hE⟩,⟨i+1,E.set (i+B.length) c,rfl,by omega,by rw [List.length_set,x],zDU oE _ hc,?_,?_,hE.set _ _,Below.setCell (p:=⟨w.heap.size,i+B.length,none⟩) o yL _⟩,?_⟩
   ·have h1:=lv_set c d
    rw [s _ yL,Nat.mul_zero,Nat.add_zero] at h1
    rw [h1,g,f,List.take_length,zA7,Nat.add_mul,Nat.mul_assoc]
   ·intro j hj
    rw [List.getD_eq_getElem?_getD,List.getElem?_set_ne (by omega),<- List.getD_eq_getElem?_getD]
    exact s j (by omega)
   ·simp only [mu1,yT];omega
 ·have a3:i=A.length:=by omega
  subst a3
  rw [List.take_length] at f
  have ho:=hD.own (B:=w.heap.size) yL (by unfold maxLen;omega)
  rw [<- u]
  refine yC (c218 yL (by omega) w1 (zAJ ho)) ?_
  rintro v w5 ⟨rfl,rfl⟩
  refine⟨_,_,_,rfl,?_,⟨_,_,_,rfl,?_⟩,he⟩
  ·rw [<- f];exact zCr ho oD
  ·have:=zDz D D.length
   omega
theorem quo_step {b r a Y lA:Nat} (hb:0<b) (h:b*Y+r=lA):b*((r*1000000000+a) / b+1000000000*Y)+(r*1000000000+a) % b=a+1000000000*lA:=by
 have h1:=Nat.div_add_mod (r*1000000000+a) b
 rw [Nat.mul_add,<- h]
 have h2:b*(1000000000*Y)=1000000000*(b*Y):=by rw [Nat.mul_left_comm]
 rw [h2,Nat.mul_add]
 omega
theorem c250 {a:OA} {ca:Nat} {A:List Nat} (w:World) (ha:NatS w a A) (oa:okL A) {b:Nat} (hb0:0<b) (hb:b<1000000000) (hl:A.length<=1099511627776) :
  Ret prog 250 #[.slice a A.length ca,.int .u32 b] w fun v w'=>(∃ q r,v = .tuple #[q,r]/\NatV w' q (lv A / b)/\NatV w' r (lv A % b))/\Ext w w':=by
 refine run250 _ _ _ _ _ _ ?_
 unfold vc250
 simp only [yT,zEL,zDW]
 have s:LimbsIn (w.alloc (.cells ((List.replicate A.length 0).map u32v).toArray 209)) w.heap.size (List.replicate A.length 0):=heap_alloc_new w _
 refine⟨⟨by omega,by omega,by omega,by omega⟩,fun vals w1=>∃ (j r:Nat) (D:List Nat),vals=[.int .i64 ((j:Int) - 1),.int .u64 r]/\j<=A.length/\D.length=A.length/\r<b/\okL D/\b*lv (D.drop j)+r=lv (A.drop j)/\LimbsIn w1 w.heap.size D/\Ext w w1,muD,
  ⟨A.length,0,_,by rw [zAd (by omega) (by omega)];rfl,yL,List.length_replicate,hb0,zGb _,?_,s,(yE w).alloc _⟩,?_⟩
 ·rw [List.drop_length,List.drop_of_length_le (by simp)];rfl
 rintro n n1 w1 ⟨j,r,D,hv,hj,g,hr,oD,d,hD,he⟩
 cases hv
 have h:u64.wrap (b:Int)=(b:Int):=w64u (by omega)
 refine zAe (fun a5=>?_) (fun a6=>?_)
 ·obtain⟨i,rfl⟩ : ∃ i,j=i+1:=⟨j - 1,by omega⟩
  obtain⟨ad,a1,f⟩:=(ha.ext he).get (i:=i) (by omega)
  have e:(((i+1:Nat):Int) - 1)=(i:Int):=by omega
  have hx:=zA5 oa i
  simp only [e]
  have a2:decide (u64.wrap (b:Int)=0)=false:=decide_eq_false (by rw [h];omega)
  refine⟨ad,a1,⟨by omega,by omega⟩,_,f,?_⟩
  rw [a2,cond_false,cond_false]
  have hi:i<D.length:=by omega
  have a3:=hD.cell hi
  refine⟨_,rfl,?_⟩
  simp only [yT,Nat.mul_one,zAi,Nat.zero_add]
  have a7:r*1000000000+1000000000<=b*1000000000:=by rw [<- Nat.succ_mul];exact Nat.mul_le_mul_right _ hr
  have e2:u64.wrap (u64.wrap ((r:Int)*1000000000)+u64.wrap ((A.getD i 0:Nat):Int))=((r*1000000000+A.getD i 0:Nat):Int):=by
   rw [w64ui (n:=(r:Int)*1000000000) (by omega) (by omega),w64u (n:=A.getD i 0) (by omega),w64ui (by omega) (by omega)];omega
  rw [e2,h]
  have o:=quo_step (a:=A.getD i 0) hb0 d
  generalize hV:r*1000000000+A.getD i 0=V at o
  have x:V / b<1000000000:=by
   rw [Nat.div_lt_iff_lt_mul hb0]
   rw [Nat.mul_comm 1000000000 b]
   omega
  have a0:=Nat.mod_lt V hb0
  rw [show ((V:Nat):Int).tmod (b:Int)=((V % b:Nat):Int) from rfl,show ((V:Nat):Int).tdiv (b:Int)=((V / b:Nat):Int) from rfl,w64u (n:=V / b) (by omega),w32 (by omega),zAd (by omega) (by omega)]
  refine⟨⟨by omega,by omega⟩,⟨⟨_,a3⟩,zBc (w:=w1.drew) hD⟩,⟨i,V % b,D.set i (V / b),rfl,by omega,by rw [List.length_set,g],a0,zDU oD _ x,?_,LimbsIn.set (w:=w1.drew) hD _ _,Below.setCell (p:=⟨w.heap.size,i,none⟩) he.drew yL _⟩,?_⟩
  ·rw [zAG (a:=A) (i:=i) (by omega),<- o,zAG (a:=D.set i (V / b)) (i:=i) (by rw [List.length_set];omega),List.drop_set_of_lt (by omega)]
   congr 2
   rw [List.getD_eq_getElem?_getD,List.getElem?_set_self (by omega)];rfl
  ·simp only [muD];omega
 ·have:j=0:=by omega
  subst this
  rw [List.drop_zero,List.drop_zero] at d
  have ho:=hD.own (B:=w.heap.size) yL (by unfold maxLen;omega)
  rw [<- g]
  refine yC (c218 yL (by omega) w1 (zAJ ho)) ?_
  rintro v w2 ⟨rfl,rfl⟩
  refine⟨_,_,_,rfl,?_⟩
  rw [w32 (by omega)]
  have a4:okL [r]:=by rw [zBN];exact⟨by omega,zBH⟩
  have u:LimbsIn (w2.alloc (.cells #[.int .u32 (r:Int)] 209)) w2.heap.size [r]:=heap_alloc_new w2 _
  have m:=u.own (B:=w2.heap.size) yL (by unfold maxLen;simp)
  refine yC (c218 (L:=[r]) yL (by simp) _ (zAJ m)) ?_
  rintro v w3 ⟨rfl,rfl⟩
  have hx:=(yE w2).alloc (.cells #[.int .u32 (r:Int)] 209)
  have k:lv A / b=lv D:=by rw [<- d,Nat.mul_add_div hb0,Nat.div_eq_of_lt hr,Nat.add_zero]
  have l:lv A % b=r:=by rw [<- d,Nat.mul_add_mod,Nat.mod_eq_of_lt hr]
  refine⟨_,_,_,rfl,⟨_,_,rfl,?_,?_⟩,he.trans hx⟩
  ·rw [k];exact (zCr ho oD).natV.ext hx
  ·rw [l]
   have:=(zCr m a4).natV
   rw [lv_one] at this
   exact this
def LimbsT (w:World) (b:Nat) (L:List Nat):Prop:=∃ tl:List Value,w.heap[b]? = some (.cells (L.map u32v++tl).toArray 209 (0,0))
theorem LimbsT.cell {w:World} {b:Nat} {L:List Nat} (h:LimbsT w b L) {i:Nat} (hi:i<L.length):w.cell? ⟨b,i,none⟩=some (u32v (L.getD i 0)):=by
 obtain⟨tl,h⟩:=h
 rw [zAj h,List.getElem?_toArray,List.getElem?_append_left (by simpa using hi)];simp [List.getD,hi]
theorem LimbsT.free {w:World} {b j:Nat} {L:List Nat} (h:LimbsT w b L):w.frozen? ⟨b,j,none⟩=false:=by
 obtain⟨tl,h⟩:=h
 exact zBc h
theorem LimbsT.set {w:World} {b:Nat} {L:List Nat} (h:LimbsT w b L) (i x:Nat) (hi:i<L.length):LimbsT (w.setCell ⟨b,i,none⟩ (u32v x)) b (L.set i x):=by
 obtain⟨tl,h⟩:=h
 refine⟨tl,?_⟩
 rw [zAW h]
 congr 2
 rw [List.map_set,<- List.set_append_left _ _ (by simpa using hi)]
 simp
theorem LimbsT.nat {w:World} {b:Nat} {L:List Nat} (h:LimbsT w b L):NatS w (some ⟨b,0,none⟩) L:=by
 refine .inr ⟨_,rfl,rfl,fun j v hj=>?_⟩
 have hl:j<L.length:=by have:=(List.getElem?_eq_some_iff.1 hj).1;simpa using this
 rw [zAi,Nat.zero_add,h.cell hl]
 rw [List.getElem?_map,List.getElem?_eq_getElem hl] at hj
 rw [zCN hl]
 exact hj
def sv (U:List Nat) (o m:Nat):Nat:=lv ((U.drop o).take m)
theorem sv_zero (U:List Nat) (o:Nat):sv U o 0=0:=by rw [sv,List.take_zero];rfl
theorem getD_drop (U:List Nat) (o i:Nat):(U.drop o).getD i 0=U.getD (o+i) 0:=by
 rw [List.getD_eq_getElem?_getD,List.getElem?_drop,<- List.getD_eq_getElem?_getD]
theorem zBR (U:List Nat) (o i:Nat):sv U o (i+1)=sv U o i+1000000000 ^ i*U.getD (o+i) 0:=by
 rw [sv,zA7,getD_drop];rfl
theorem zD0 {U U' : List Nat} {o:Nat} : ∀ {m:Nat},(∀ i,i<m->U.getD (o+i) 0=U'.getD (o+i) 0)->sv U o m=sv U' o m
 | 0,_=>by rw [sv_zero,sv_zero]
 | m+1,h=>by
  rw [zBR,zBR,zD0 (fun i hi=>h i (by omega)),h m (by omega)]
theorem sv_lt {U:List Nat} (h:okL U) (o:Nat) : ∀ m,sv U o m<1000000000 ^ m
 | 0=>by rw [sv_zero];simp
 | m+1=>by
  rw [zBR,Nat.pow_succ]
  have h1:=sv_lt h o m
  have h2:=zA5 h (o+m)
  have h3:1000000000 ^ m*U.getD (o+m) 0<=1000000000 ^ m*999999999:=Nat.mul_le_mul_left _ (by omega)
  omega
theorem zCq {U:List Nat} {p:Nat} (x j:Nat) (hp:p<U.length):(U.set p x).getD j 0=if p=j then x else U.getD j 0:=by
 rw [List.getD_eq_getElem?_getD,List.getElem?_set]
 split
 ·rfl
 ·rw [<- List.getD_eq_getElem?_getD]
structure Seg (U U1:List Nat) (o m:Nat):Prop where
 len:U1.length=U.length
 out : ∀ j,j<o\/o+m<=j->U1.getD j 0=U.getD j 0
theorem Seg.refl (U:List Nat) (o m:Nat):Seg U U o m:=⟨rfl,fun _ _=>rfl⟩
theorem Seg.trans {U U1 U2:List Nat} {o m:Nat} (h:Seg U U1 o m) (k:Seg U1 U2 o m):Seg U U2 o m:=⟨k.len.trans h.len,fun j hj=>(k.out j hj).trans (h.out j hj)⟩
structure Only (b:Nat) (w w' : World):Prop where
 below:Below b w w'
 keep : ∀ k o,k≠b->w.heap[k]? = some o->w'.heap[k]? = some o
theorem Only.refl (b:Nat) (w:World):Only b w w:=⟨Below.refl _ _,fun _ _ _ h=>h⟩
theorem Only.drew {b:Nat} {w w' : World} (h:Only b w w'):Only b w w'.drew:=⟨h.below.drew,h.keep⟩
theorem Only.set {b j:Nat} {w w' : World} (h:Only b w w') (v:Value):Only b w (w'.setCell ⟨b,j,none⟩ v) :=
 ⟨Below.setCell (p:=⟨b,j,none⟩) h.below yL v,fun k o hk ho=>(zA4 (a:=⟨b,j,none⟩) hk).trans (h.keep k o hk ho)⟩
theorem Only.trans {b:Nat} {w w1 w2:World} (h:Only b w w1) (k:Only b w1 w2):Only b w w2:=⟨Below.trans h.below k.below,fun i o hi ho=>k.keep i o hi (h.keep i o hi ho)⟩
def NatK (w:World) (b:Nat) (v:OA) (V:List Nat):Prop:=∀ w',Only b w w'->NatS w' v V
theorem NatK.only {w w1:World} {b:Nat} {v:OA} {V:List Nat} (h:NatK w b v V) (ho:Only b w w1):NatK w1 b v V:=fun w' h'=>h w' (ho.trans h')
theorem sub_step {P s t lV su b c ui vi x b' : Nat} (h:s+t*lV=su+P*(b+c)) (hx:x+(c+t*vi) % 1000000000+b=ui+1000000000*b') {s1:Nat} (hs1:s1=s+P*x) :
  s1+t*(lV+P*vi)=su+P*ui+P*1000000000*(b' + (c+t*vi) / 1000000000):=by
 have e1:P*x+P*((c+t*vi) % 1000000000)+P*b=P*ui+P*(1000000000*b'):=by rw [<- Nat.mul_add,<- Nat.mul_add,hx,Nat.mul_add]
 have e2:P*((c+t*vi) % 1000000000)+P*(1000000000*((c+t*vi) / 1000000000))=P*c+P*(t*vi):=by rw [<- Nat.mul_add,<- Nat.mul_add];congr 1;omega
 have e3:t*(P*vi)=P*(t*vi):=Nat.mul_left_comm _ _ _
 have e4:P*1000000000*(b' + (c+t*vi) / 1000000000)=P*(1000000000*b')+P*(1000000000*((c+t*vi) / 1000000000)):=by rw [Nat.mul_assoc,Nat.mul_add,Nat.mul_add]
 rw [Nat.mul_add] at h
 rw [hs1,Nat.mul_add,e3,e4]
 omega
theorem carry_step {c P t lV vi:Nat} (h:c*P<=t*lV):(c+t*vi) / 1000000000*(P*1000000000)<=t*(lV+P*vi):=by
 have h1:(c+t*vi) / 1000000000*1000000000<=c+t*vi:=Nat.div_mul_le_self _ _
 have h2:(c+t*vi) / 1000000000*(P*1000000000)=(c+t*vi) / 1000000000*1000000000*P:=by rw [Nat.mul_comm P,Nat.mul_assoc]
 rw [h2]
 have h3:=Nat.mul_le_mul_right P h1
 rw [Nat.add_mul] at h3
 have h4:t*vi*P=t*(P*vi):=by rw [Nat.mul_assoc,Nat.mul_comm vi]
 rw [h4] at h3
 rw [Nat.mul_add]
 omega
theorem c264 {ub o m cu cv:Nat} {v:OA} {U V:List Nat} {t:Nat} (w:World) (hU:LimbsT w ub U) (oU:okL U) (hm:o+m<=U.length) (hVm:V.length+1=m) (hv:NatK w ub v V) (oV:okL V) (ht:t<=1000000000) (hl:U.length<=4398046511104) :
  Ret prog 264 #[.slice (some ⟨ub,o,none⟩) m cu,.slice v V.length cv,.int .u64 t] w fun r w'=>(∃ b U1,r = .bool b/\Seg U U1 o m/\okL U1/\sv U1 o m+t*lv V=sv U o m+1000000000 ^ m*(cond b 1 0)/\LimbsT w' ub U1)/\Only ub w w':=by
 refine run264 _ _ _ _ _ _ _ _ _ ⟨fun vals w1=>∃ (i b c:Nat) (U1:List Nat),vals=[.int .i64 i,.int .i64 b,.int .u64 c]/\i<=m/\b<=1/\c<=1000000000/\c*1000000000 ^ i<=t*lv (V.take i)/\Seg U U1 o i/\okL U1 /\
   sv U1 o i+t*lv (V.take i)=sv U o i+1000000000 ^ i*(b+c)/\LimbsT w1 ub U1/\Only ub w w1,mu1 m,
  ⟨0,0,0,U,rfl,Nat.zero_le _,by omega,by omega,by omega,Seg.refl _ _ _,oU,?_,hU,Only.refl _ _⟩,?_⟩
 ·rw [List.take_zero,zCH];simp
 rintro n n1 n2 w1 ⟨i,b,c,U1,a6,hi,hb,hc,u,d,s,k,l,p⟩
 cases a6
 refine zAe (fun b3=>?_) (fun b0=>?_)
 ·have b2:i<m:=by omega
  have g:o+i<U1.length:=by rw [d.len];omega
  have f:=l.cell g
  have a1:U1.getD (o+i) 0=U.getD (o+i) 0:=d.out _ (.inr yL)
  have hu:=zA5 s (o+i)
  have b6:=zA5 oV i
  have b5:t*V.getD i 0<=1000000000*999999999:=Nat.mul_le_mul ht (by omega)
  intro K hK
  have next:K [.int .u64 ((c+t*V.getD i 0:Nat):Int)] w1:=by
   refine hK _ ⟨_,rfl,⟨by omega,by omega⟩,_,by rw [yT,Nat.mul_one,zAi];exact f,fun K1 a0=>?_⟩
   generalize hKK:c+t*V.getD i 0=C at *
   rw [show ((C:Nat):Int).tmod 1000000000=((C % 1000000000:Nat):Int) from rfl]
   have e1:i64.wrap (i64.wrap (i64.wrap ((U1.getD (o+i) 0:Nat):Int) - (b:Int)) - i64.wrap ((C % 1000000000:Nat):Int))=((U1.getD (o+i) 0:Nat):Int) - b - ((C % 1000000000:Nat):Int):=by
    rw [zAd (n:=((U1.getD (o+i) 0:Nat):Int)) (by omega) (by omega),zAd (n:=((U1.getD (o+i) 0:Nat):Int) - (b:Int)) (by omega) (by omega),zAd (n:=((C % 1000000000:Nat):Int)) (by omega) (by omega),zAd (by omega) (by omega)]
   have fin : ∀ (b' x:Nat),b'<=1->x<1000000000->x+C % 1000000000+b=U1.getD (o+i) 0+1000000000*b'->K1 [.int .i64 b',.int .i64 x] w1:=by
    intro b' x a2 hx hs
    refine a0 _ _ ⟨_,rfl,⟨by omega,by omega⟩,?_⟩
    rw [yT,Nat.mul_one,zAi,show ((C:Nat):Int).tdiv 1000000000=((C / 1000000000:Nat):Int) from rfl,w64u (by omega),w32 (by omega),zAf (by omega)]
    refine⟨⟨⟨_,f⟩,l.free⟩,⟨i+1,b',C / 1000000000,U1.set (o+i) x,rfl,by omega,a2,by omega,?_,?_,zDU s _ hx,?_,l.set _ _ g,p.set _⟩,?_⟩
    ·rw [zA7,Nat.pow_succ,<- hKK]
     exact carry_step u
    ·refine⟨by rw [List.length_set,d.len],fun j hj=>?_⟩
     rw [zCq _ _ g,if_neg (by omega)]
     exact d.out j (by omega)
    ·have h1:sv (U1.set (o+i) x) o i=sv U1 o i:=zD0 fun j hj=>by rw [zCq _ _ g,if_neg (by omega)]
     rw [zA7,Nat.pow_succ,<- hKK,zBR U,<- a1]
     rw [<- hKK] at hs
     exact sub_step k hs (by rw [zBR,h1,zCq _ _ g,if_pos rfl])
    ·simp only [mu1,yT];omega
   rw [e1]
   refine zAe (fun a7=>?_) (fun a8=>?_)
   ·rw [zAd (by omega) (by omega)]
    have:=fin 1 (U1.getD (o+i) 0+1000000000 - b - C % 1000000000) (by omega) (by omega) (by omega)
    rw [show ((U1.getD (o+i) 0+1000000000 - b - C % 1000000000:Nat):Int)=((U1.getD (o+i) 0:Nat):Int) - b - ((C % 1000000000:Nat):Int)+1000000000 by omega] at this
    exact this
   ·have:=fin 0 (U1.getD (o+i) 0 - b - C % 1000000000) (by omega) (by omega) (by omega)
    rw [show ((U1.getD (o+i) 0 - b - C % 1000000000:Nat):Int)=((U1.getD (o+i) 0:Nat):Int) - b - ((C % 1000000000:Nat):Int) by omega] at this
    exact this
  refine zAe (fun b4=>?_) (fun b1=>?_)
  ·obtain⟨ad,ha,a4⟩:=(hv _ p).get (i:=i) (by omega)
   refine⟨ad,ha,⟨by omega,by omega⟩,_,a4,?_⟩
   rw [w64u (n:=V.getD i 0) (by omega),<- Int.natCast_mul,w64u (by omega),<- Int.natCast_add,w64u (by omega)]
   exact next
  ·have:V.getD i 0=0:=by rw [List.getD,List.getElem?_eq_none (by omega)];rfl
   rw [this,Nat.mul_zero,Nat.add_zero] at next
   exact next
 ·have a5:i=m:=by omega
  subst a5
  rw [List.take_of_length_le (by omega)] at k u
  have a9:=lv_lt oV
  have a3:c=0:=by
   rcases Nat.eq_zero_or_pos c with h | h
   ·exact h
   ·have h1:1*1000000000 ^ i<=c*1000000000 ^ i:=Nat.mul_le_mul_right _ h
    have h2:t*lv V<=1000000000*lv V:=Nat.mul_le_mul_right _ ht
    have h3:1000000000 ^ i=1000000000 ^ V.length*1000000000:=by rw [<- hVm,Nat.pow_succ]
    omega
  subst a3
  refine⟨⟨_,U1,rfl,d,s,?_,l⟩,p⟩
  rw [k,Nat.add_zero]
  congr 2
  rcases Nat.eq_zero_or_pos b with h | h
  ·subst h;rfl
  ·have:b=1:=by omega
   subst this;rfl
theorem c265 {ub o m cu cv:Nat} {v:OA} {U V:List Nat} (w:World) (hU:LimbsT w ub U) (oU:okL U) (hm:o+m<=U.length) (hVm:V.length<=m) (hv:NatK w ub v V) (oV:okL V) (hl:U.length<=4398046511104) :
  Ret prog 265 #[.slice (some ⟨ub,o,none⟩) m cu,.slice v V.length cv] w fun r w'=>(r = .tuple #[]/\∃ c U1,c<=1/\Seg U U1 o m/\okL U1/\sv U1 o m+1000000000 ^ m*c=sv U o m+lv V/\LimbsT w' ub U1)/\Only ub w w':=by
 refine run265 _ _ _ _ _ _ _ _ ⟨fun vals w1=>∃ (i c:Nat) (U1:List Nat),vals=[.int .i64 i,.int .u32 c]/\i<=m/\c<=1/\Seg U U1 o i/\okL U1 /\
   sv U1 o i+1000000000 ^ i*c=sv U o i+lv (V.take i)/\LimbsT w1 ub U1/\Only ub w w1,mu1 m,
  ⟨0,0,U,rfl,Nat.zero_le _,by omega,Seg.refl _ _ _,oU,?_,hU,Only.refl _ _⟩,?_⟩
 ·rw [List.take_zero,zCH]
 rintro n n1 w1 ⟨i,c,U1,x,hi,hc,b,l,h,g,k⟩
 cases x
 refine zAe (fun a2=>?_) (fun a0=>?_)
 ·have a1:i<m:=by omega
  have f:o+i<U1.length:=by rw [b.len];omega
  have d:=g.cell f
  have p:U1.getD (o+i) 0=U.getD (o+i) 0:=b.out _ (.inr yL)
  have hu:=zA5 l (o+i)
  have a3:=zA5 oV i
  refine⟨_,rfl,⟨by omega,by omega⟩,_,by rw [yT,Nat.mul_one,zAi];exact d,yC (c252 w1.drew (hv _ k.drew) i) ?_⟩
  rintro r w2 ⟨rfl,rfl⟩
  have e2:u32.wrap (((U1.getD (o+i) 0:Nat):Int)+((V.getD i 0:Nat):Int))=((U1.getD (o+i) 0+V.getD i 0:Nat):Int):=by rw [w32i (by omega) (by omega)];omega
  have e3:u32.wrap (((U1.getD (o+i) 0+V.getD i 0:Nat):Int)+(c:Int))=((U1.getD (o+i) 0+V.getD i 0+c:Nat):Int):=by rw [w32i (by omega) (by omega)];omega
  refine⟨_,rfl,Below.refl _ _,_,rfl,⟨by omega,by omega⟩,?_⟩
  rw [e2,e3,yT,Nat.mul_one,zAi]
  generalize hs:U1.getD (o+i) 0+V.getD i 0+c=s
  rw [show ((s:Nat):Int).tmod 1000000000=((s % 1000000000:Nat):Int) from rfl,show ((s:Nat):Int).tdiv 1000000000=((s / 1000000000:Nat):Int) from rfl,w32 (n:=s / 1000000000) (by omega),zAf (by omega)]
  refine⟨⟨⟨_,d⟩,LimbsT.free (w:=w1.drew) g⟩,⟨i+1,s / 1000000000,U1.set (o+i) (s % 1000000000),rfl,by omega,by omega,?_,zDU l _ (Nat.mod_lt _ (by omega)),?_,LimbsT.set (w:=w1.drew) g _ _ f,k.drew.set _⟩,?_⟩
  ·refine⟨by rw [List.length_set,b.len],fun j hj=>?_⟩
   rw [zCq _ _ f,if_neg (by omega)]
   exact b.out j (by omega)
  ·have h1:sv (U1.set (o+i) (s % 1000000000)) o i=sv U1 o i:=zD0 fun j hj=>by rw [zCq _ _ f,if_neg (by omega)]
   rw [zA7,Nat.pow_succ,Nat.mul_assoc,zBR U,<- p,zBR,h1,zCq _ _ f,if_pos rfl]
   have g1:1000000000 ^ i*(s % 1000000000)+1000000000 ^ i*(1000000000*(s / 1000000000))=1000000000 ^ i*s:=by rw [<- Nat.mul_add];congr 1;omega
   have g2:1000000000 ^ i*s=1000000000 ^ i*U1.getD (o+i) 0+1000000000 ^ i*V.getD i 0+1000000000 ^ i*c:=by rw [<- hs,Nat.mul_add,Nat.mul_add]
   omega
  ·simp only [mu1,yT];omega
 ·have u:i=m:=by omega
  subst u
  rw [List.take_of_length_le (by omega)] at h
  exact⟨⟨rfl,c,U1,hc,b,l,h,g⟩,k⟩
end Go.Proofs.Si
