/- Part of the proof: SiR5, SiL1, SiL2, SiL3. -/
import Derived.Test.YtoaiappkhcjagaaGreatDoorMSiR1
import Derived.Test.YtoaiappkhcjagaaGreatDoorSiV2
import Derived.Test.YtoaiappkhcjagaaGreatDoorMV8
set_option linter.unusedVariables false
set_option linter.unusedSimpArgs false
namespace Go.Proofs.Si
open Go Go.V Go.Proofs Go.RowKit Go.Num Go.Proofs.Tryz
set_option maxRecDepth 100000
def sgnQ (q:Rat):Int:=q.num.sign
theorem zDb (z:Int):sgn (decide (z<0)) z.natAbs=z:=by
 unfold sgn
 by_cases h:z<0
 ·rw [decide_eq_true h,if_pos rfl];omega
 ·rw [decide_eq_false h,if_neg (by decide)];omega
theorem sgn_mul (neg:Bool) (a b:Nat):sgn neg a*(b:Int)=sgn neg (a*b):=by
 cases neg <;> simp [sgn,Int.neg_mul]
theorem sgn_mul2 (m n:Bool) (a b:Nat):sgn m a*sgn n b=sgn (m != n) (a*b):=by
 cases m <;> cases n <;> simp [sgn,Int.neg_mul,Int.mul_neg]
theorem zCB (n:Bool) (a b:Nat):sgn n a+sgn n b=sgn n (a+b):=by
 cases n <;> simp [sgn] <;> omega
theorem zEn {m n:Bool} (h:m≠n) {a b:Nat} (hab:b<=a):sgn m a+sgn n b=sgn m (a - b):=by
 cases m <;> cases n <;> simp [sgn] at h ⊢ <;> omega
theorem zEm {m n:Bool} (h:m≠n) {a b:Nat} (hab:a<b):sgn m a+sgn n b=sgn n (b - a):=by
 cases m <;> cases n <;> simp [sgn] at h ⊢ <;> omega
theorem zF8 {p q:Rat} {neg:Bool} {x:Nat} (h:sgn (decide (p.num<0)) (p.num.natAbs*q.den)+sgn (decide (q.num<0)) (q.num.natAbs*p.den)=sgn neg x):red neg x (p.den*q.den)=p+q:=by
 rw [Rat.add_def',red,<- h,<- sgn_mul,<- sgn_mul,zDb,zDb]
theorem mul_red (p q:Rat):red (decide (p.num<0) != decide (q.num<0)) (p.num.natAbs*q.num.natAbs) (p.den*q.den)=p*q:=by
 rw [Rat.mul_def',red,<- sgn_mul2,zDb,zDb]
theorem zC1 (m n:Nat):(dec (m+n)).length<=max (dec m).length (dec n).length+1:=by
 have h1:=zB1 m
 have h2:=zB1 n
 obtain⟨k,hk⟩ : ∃ k,k=max (dec m).length (dec n).length:=⟨_,rfl⟩
 have g1:=Nat.lt_of_lt_of_le h1 (Nat.pow_le_pow_right (by omega:0<10) (show _<=k by omega))
 have g2:=Nat.lt_of_lt_of_le h2 (Nat.pow_le_pow_right (by omega:0<10) (show _<=k by omega))
 rw [<- hk,zA9 (by omega),Nat.pow_succ]
 omega
theorem zA2 (m n:Nat):(dec (m*n)).length<=(dec m).length+(dec n).length:=by
 have hp1:0<(dec m).length:=List.length_pos_iff.2 (zBm m)
 have:=Nat.mul_lt_mul'' (zB1 m) (zB1 n)
 rw [<- Nat.pow_add] at this
 exact (zA9 (by omega)).2 this
def TxtV (q:Rat) (v:Value):Prop:=∃ u:ByteArray,v = .string u/\bs u=txtQ q
theorem zDe {a:ByteArray} {q:Rat} (h:bs a=txtQ q) {v:Value} (hp:ParseQ a v) : ∃ s t:ByteArray,v = .tuple #[.agg #[.bool (decide (q.num<0)),.string s,.string t],.bool true]/\bs s=dec q.num.natAbs/\bs t=dec q.den:=by
 rcases hp with ⟨q',x,h',⟨s,t,rfl,hs,ht⟩,rfl⟩ | ⟨hn,_⟩
 ·have:=zA1 (h.symm.trans h')
  subst this
  exact⟨s,t,rfl,hs,ht⟩
 ·exact absurd ⟨q,h⟩ hn
theorem zBe (q:Rat):(dec q.num.natAbs).length<=(txtQ q).length/\(dec q.den).length<=(txtQ q).length:=by
 unfold txtQ txt3
 have h1:1<=(dec q.num.natAbs).length:=List.length_pos_iff.2 (zBm _)
 constructor
 ·simp only [List.length_append];omega
 ·by_cases h:q.den=1
  ·rw [h,dec_one];simp only [List.length_append,List.length_singleton];omega
  ·rw [if_neg h];simp only [List.length_append,List.length_cons];omega
theorem box3 (w:World) (v0 v1 v2 a0 a1 a2:Value) :
  (setCells (w.alloc (.cells #[a0,a1,a2] 110)) ⟨w.heap.size,0,none⟩ 0 [v0,v1,v2]).heap[w.heap.size]? = some (.cells #[v0,v1,v2] 110 (0,0)):=zDN (heap_alloc_new w _) _ _ _
theorem zCa (w:World) (v0 v1 v2 a0 a1 a2:Value):Ext w (setCells (w.alloc (.cells #[a0,a1,a2] 110)) ⟨w.heap.size,0,none⟩ 0 [v0,v1,v2]) :=
 zCi ((Ext.refl w).alloc _) (Nat.le_refl _) _ _ _
theorem zCV (w:World) (a0 a1 a2:Value):writable (w.alloc (.cells #[a0,a1,a2] 110)) ⟨w.heap.size,0,none⟩ 3:=zC4 (heap_alloc_new w _)
theorem red_len (neg:Bool) (a:Nat) {b:Nat} (hb:b≠0):(dec (red neg a b).num.natAbs).length<=(dec a).length/\(dec (red neg a b).den).length<=(dec b).length:=by
 rw [zD0 _ _ hb,zEo _ _ hb,zCd]
 exact⟨zAK (Nat.div_le_self _ _),zAK (Nat.div_le_self _ _)⟩
theorem add_red' (p q:Rat) : ∃ neg x,p+q=red neg x (p.den*q.den)/\x<=p.num.natAbs*q.den+q.num.natAbs*p.den:=by
 by_cases h:decide (p.num<0)=decide (q.num<0)
 ·exact⟨_,_,(zF8 (by rw [h,zCB])).symm,Nat.le_refl _⟩
 ·by_cases hle:q.num.natAbs*p.den<=p.num.natAbs*q.den
  ·exact⟨_,_,(zF8 (zEn h hle)).symm,by omega⟩
  ·exact⟨_,_,(zF8 (zEm h (by omega))).symm,by omega⟩
def dn (q:Rat):Nat:=(dec q.num.natAbs).length
def dd (q:Rat):Nat:=(dec q.den).length
theorem add_dn (p q:Rat):dn (p+q)<=max (dn p+dd q) (dn q+dd p)+1/\dd (p+q)<=dd p+dd q:=by
 obtain⟨neg,x,he,hx⟩:=add_red' p q
 have h:=red_len neg x (Nat.mul_ne_zero p.den_nz q.den_nz)
 rw [<- he] at h
 have h1:=zAK hx
 have h2:=zC1 (p.num.natAbs*q.den) (q.num.natAbs*p.den)
 have h3:=zA2 p.num.natAbs q.den
 have h4:=zA2 q.num.natAbs p.den
 have h5:=zA2 p.den q.den
 unfold dn dd
 omega
theorem neg_dn (q:Rat):dn (-q)=dn q/\dd (-q)=dd q:=by
 unfold dn dd
 rw [Rat.neg_den,Rat.neg_num,Int.natAbs_neg]
 exact⟨rfl,rfl⟩
theorem sub_dn (p q:Rat):dn (p - q)<=max (dn p+dd q) (dn q+dd p)+1/\dd (p - q)<=dd p+dd q:=by
 have h:=add_dn p (-q)
 rw [(neg_dn q).1,(neg_dn q).2,<- Rat.sub_eq_add_neg] at h
 exact h
theorem sub_len (p q:Rat):(dec (p - q).num.natAbs).length+(dec (p - q).den).length<=(dec p.num.natAbs).length+(dec p.den).length+(dec q.num.natAbs).length+(dec q.den).length+(dec p.den).length+(dec q.den).length+1:=by
 have:=sub_dn p q
 unfold dn dd at this
 omega
theorem zFz (q:Rat):dn q<=(txtQ q).length/\dd q<=(txtQ q).length:=zBe q
theorem c77 (a:ByteArray) (hz:a.size<=536870912) (w:World):Ret prog 77 #[.string a] w fun v w'=>v = .bool (okQ (bs a))/\Ext w w':=by
 refine run77 _ _ _ (Called.of (c81 a hz w) ?_)
 rintro v w1 ⟨hp,he⟩
 rcases hp with ⟨q,x,hq,⟨s,t,rfl,-,-⟩,rfl⟩ | ⟨hn,rfl⟩
 ·exact⟨_,_,_,_,rfl,zCV _ _ _ _,by rw [zB5.2 ⟨q,hq⟩],he.trans (zCa _ _ _ _ _ _ _)⟩
 ·refine⟨_,_,_,_,rfl,zCV _ _ _ _,?_,he.trans (zCa _ _ _ _ _ _ _)⟩
  cases h:okQ (bs a) with
  | false=>rfl
  | true=>exact absurd (zB5.1 h) hn
theorem c43 {a:ByteArray} {q:Rat} (ha:bs a=txtQ q) (hz:a.size<=536870912) (w:World):Ret prog 43 #[.string a] w fun v w'=>v = .int .i64 (sgnQ q)/\Ext w w':=by
 refine run43 _ _ _ (Called.of (c81 a hz w) ?_)
 rintro v w1 ⟨hp,he⟩
 obtain⟨s,t,rfl,hs,ht⟩:=zDe ha hp
 have hb:=box3 w1 (.bool (decide (q.num<0))) (.string s) (.string t) (.bool false) (.string { data:=#[] }) (.string { data:=#[] })
 have he2:=he.trans (zCa w1 (.bool (decide (q.num<0))) (.string s) (.string t) (.bool false) (.string { data:=#[] }) (.string { data:=#[] }))
 refine⟨_,_,_,_,rfl,zCV _ _ _ _,fun K hK=>?_⟩
 rw [Bool.not_true,cond_false]
 refine⟨_,zAm (j:=1) hb,hK _ ?_⟩
 rw [zGA hs]
 unfold sgnQ
 refine zAa (fun h0=>⟨?_,he2⟩) (fun h0=>⟨_,zAm (j:=0) hb,zAa (fun hn=>⟨?_,he2⟩) (fun hn=>⟨?_,he2⟩)⟩)
 ·have:=of_decide_eq_true h0
  rw [Int.natAbs_eq_zero.1 this];rfl
 ·rw [Int.sign_eq_neg_one_of_neg (of_decide_eq_true hn)]
 ·have h1:=of_decide_eq_false hn
  have h2:=of_decide_eq_false h0
  rw [Int.sign_eq_one_of_pos (by omega)]
theorem c58 {a b:ByteArray} {p q:Rat} (ha:bs a=txtQ p) (hb:bs b=txtQ q) (hz:a.size<=268435456/\b.size<=268435456) (w:World) :
  Ret prog 58 #[.string a,.string b] w fun v w'=>TxtV (p+q) v/\Ext w w':=by
 refine run58 _ _ _ _ (Called.of (c81 a (by omega) w) ?_)
 rintro v w1 ⟨hp,he1⟩
 obtain⟨s,t,rfl,hs,ht⟩:=zDe ha hp
 have hb1:=box3 w1 (.bool (decide (p.num<0))) (.string s) (.string t) (.bool false) (.string { data:=#[] }) (.string { data:=#[] })
 have hx1:=he1.trans (zCa w1 (.bool (decide (p.num<0))) (.string s) (.string t) (.bool false) (.string { data:=#[] }) (.string { data:=#[] }))
 refine⟨_,_,_,_,rfl,zCV _ _ _ _,?_⟩
 generalize setCells (w1.alloc (.cells #[.bool false,.string { data:=#[] },.string { data:=#[] }] 110)) ⟨w1.heap.size,0,none⟩ 0 [.bool (decide (p.num<0)),.string s,.string t]=W1 at hb1 hx1 ⊢
 generalize w1.heap.size=B1 at hb1 ⊢
 refine Called.of (c81 b (by omega) W1) ?_
 rintro v w2 ⟨hp2,he2⟩
 obtain⟨s2,t2,rfl,hs2,ht2⟩:=zDe hb hp2
 have hb2:=box3 w2 (.bool (decide (q.num<0))) (.string s2) (.string t2) (.bool false) (.string { data:=#[] }) (.string { data:=#[] })
 have hx2:=he2.trans (zCa w2 (.bool (decide (q.num<0))) (.string s2) (.string t2) (.bool false) (.string { data:=#[] }) (.string { data:=#[] }))
 refine⟨_,_,_,_,rfl,zCV _ _ _ _,?_⟩
 generalize setCells (w2.alloc (.cells #[.bool false,.string { data:=#[] },.string { data:=#[] }] 110)) ⟨w2.heap.size,0,none⟩ 0 [.bool (decide (q.num<0)),.string s2,.string t2]=W2 at hb2 hx2 ⊢
 generalize w2.heap.size=B2 at hb2 ⊢
 have hb1':=(hx2.blk hb1)
 have hx:Ext w W2:=hx1.trans hx2
 have hl1:=zBe p
 have hl2:=zBe q
 rw [<- ha,<- zAg] at hl1
 rw [<- hb,<- zAg] at hl2
 have z1:s.size<=268435456:=by rw [zAg,hs];omega
 have z2:t.size<=268435456:=by rw [zAg,ht];omega
 have z3:s2.size<=268435456:=by rw [zAg,hs2];omega
 have z4:t2.size<=268435456:=by rw [zAg,ht2];omega
 rw [Bool.not_true,Bool.or_self,cond_false]
 intro K hK
 refine⟨_,zAm (w:=W2.drew) (j:=1) hb1',_,zAm (w:=W2.drew) (j:=2) hb2,_,zAm (w:=W2.drew) (j:=1) hb2,_,zAm (w:=W2.drew) (j:=2) hb1',_,zAm (w:=W2.drew) (j:=2) hb1',_,zAm (w:=W2.drew) (j:=2) hb2,Called.of (c83 hs ht2 ⟨by omega,by omega⟩ W2.drew) ?_⟩
 rintro v w3 ⟨⟨u1,rfl,hu1⟩,he3⟩
 refine⟨u1,rfl,he3,Called.of (c83 hs2 ht ⟨by omega,by omega⟩ w3) ?_⟩
 rintro v w4 ⟨⟨u2,rfl,hu2⟩,he4⟩
 refine⟨u2,rfl,he3.trans he4,Called.of (c83 ht ht2 ⟨by omega,by omega⟩ w4) ?_⟩
 rintro v w5 ⟨⟨u3,rfl,hu3⟩,he5⟩
 have hxx:Ext W2 w5:=((Ext.refl W2).drew.trans he3).trans (he4.trans he5)
 have hb15:=hxx.blk hb1'
 have hb25:=hxx.blk hb2
 have hx5:=hx.trans hxx
 have hmul : ∀ (x y:Nat) (u v t:ByteArray),bs u=dec x->bs v=dec y->bs t=dec (x*y)->u.size<=268435456->v.size<=268435456->t.size<=536870912:=by
  intro x y u v t h1 h2 h3 h4 h5
  rw [zAg,h1] at h4
  rw [zAg,h2] at h5
  rw [zAg,h3]
  have hp1:0<(dec x).length:=List.length_pos_iff.2 (zBm x)
  have:=Nat.mul_lt_mul'' (zB1 x) (zB1 y)
  rw [<- Nat.pow_add] at this
  have:=(zA9 (show 0<(dec x).length+(dec y).length by omega)).2 this
  omega
 have zu1:=hmul _ _ _ _ _ hs ht2 hu1 z1 z4
 have zu2:=hmul _ _ _ _ _ hs2 ht hu2 z3 z2
 have zu3:=hmul _ _ _ _ _ ht ht2 hu3 z2 z4
 have hd0:p.den*q.den≠0:=Nat.mul_ne_zero p.den_nz q.den_nz
 have fin : ∀ (neg:Bool) (x:Nat) (u:ByteArray) (W:World),bs u=dec x->u.size<=536870913->Ext w W->sgn (decide (p.num<0)) (p.num.natAbs*q.den)+sgn (decide (q.num<0)) (q.num.natAbs*p.den)=sgn neg x ->
   ∀ {Q:Value->World->Prop},(∀ s w',bs s=txtQ (p+q)->Ext w w'->Q (.string s) w') ->
   Called prog 82 #[.bool neg,.string u,.string u3] W fun v w6=>∃ b8 s9 s10,v = .agg #[.bool b8,.string s9,.string s10]/\Called prog 84 #[.agg #[.bool b8,.string s9,.string s10]] w6 fun v4 w7=>∃ s11,v4 = .string s11/\Q (.string s11) w7:=by
  intro neg x u W hu zu hW hs Q hQ
  refine Called.of (c82 neg hu hu3 hd0 ⟨by omega,by omega⟩ W) ?_
  rintro v w6 ⟨⟨y1,y2,rfl,hy1,hy2⟩,he6⟩
  have zy1:y1.size<=2147483648:=by
   rw [zAg,hy1,zD0 neg _ hd0,zCd]
   have h6:=zAK (Nat.div_le_self x (Nat.gcd x (p.den*q.den)))
   rw [<- hu,<- zAg] at h6
   omega
  have zy2:y2.size<=2147483648:=by
   rw [zAg,hy2,zEo neg _ hd0]
   have h6:=zAK (Nat.div_le_self (p.den*q.den) (Nat.gcd x (p.den*q.den)))
   rw [<- hu3,<- zAg] at h6
   omega
  refine⟨_,_,_,rfl,Called.of (c84 _ hy1 hy2 ⟨zy1,zy2⟩ w6) ?_⟩
  rintro v w7 ⟨⟨y,rfl,hy⟩,he7⟩
  refine⟨y,rfl,hQ y w7 ?_ ((hW.trans he6).trans he7)⟩
  rw [hy,<- zF8 hs];rfl
 refine⟨u3,rfl,hK u1 u2 u3 w5 ⟨_,zAm (j:=0) hb15,_,zAm (j:=0) hb25,?_⟩⟩
 refine zAa (fun heq=>?_) (fun hne=>?_)
 ·intro K1 hK1
  refine⟨_,zAm (w:=w5.drew) (j:=0) hb15,Called.of (c108 hu1 hu2 ⟨by omega,by omega⟩ w5.drew) ?_⟩
  rintro v w6 ⟨⟨u4,rfl,hu4⟩,he6⟩
  refine⟨u4,rfl,he6,?_⟩
  have heq' : decide (p.num<0)=decide (q.num<0):=by simpa using heq
  have hz4:u4.size<=536870913:=by
   have:=zC1 (p.num.natAbs*q.den) (q.num.natAbs*p.den)
   rw [<- hu1,<- hu2,<- hu4,<- zAg,<- zAg,<- zAg] at this
   omega
  exact fin _ _ u4 w6 hu4 hz4 (hx5.drew.trans he6) (by rw [heq',zCB]) (Q:=fun v w=>K1 [v] w) (fun s w' h1 h2=>hK1 s w' ⟨⟨s,rfl,h1⟩,h2⟩)
 ·have hne' : decide (p.num<0)≠decide (q.num<0):=by
   intro e;rw [e] at hne;simp at hne
  refine Called.of (c109 hu1 hu2 w5) ?_
  rintro v w6 ⟨rfl,rfl⟩
  refine⟨_,rfl,?_⟩
  refine zAd (fun hge=>?_) (fun hlt=>?_)
  ·have hle:q.num.natAbs*p.den<=p.num.natAbs*q.den:=by
    unfold cmpN at hge
    split at hge
    ·exact absurd hge (by decide)
    ·omega
   intro K2 hK2
   refine⟨_,zAm (w:=w6.drew) (j:=0) hb15,Called.of (c110 hu1 hu2 hle (by omega) w6.drew) ?_⟩
   rintro v w7 ⟨⟨u4,rfl,hu4⟩,he7⟩
   refine⟨u4,rfl,he7,?_⟩
   have hz4:u4.size<=536870913:=by
    have:=zAK (Nat.sub_le (p.num.natAbs*q.den) (q.num.natAbs*p.den))
    rw [<- hu4,<- hu1,<- zAg,<- zAg] at this
    omega
   exact fin _ _ u4 w7 hu4 hz4 (hx5.drew.trans he7) (zEn hne' hle) (Q:=fun v w=>K2 [v] w) (fun s w' h1 h2=>hK2 s w' ⟨⟨s,rfl,h1⟩,h2⟩)
  ·have hlt' : p.num.natAbs*q.den<q.num.natAbs*p.den:=by
    unfold cmpN at hlt
    split at hlt
    ·assumption
    ·split at hlt
     ·exact absurd (by decide) hlt
     ·exact absurd (by decide) hlt
   intro K2 hK2
   refine⟨_,zAm (w:=w6.drew) (j:=0) hb25,Called.of (c110 hu2 hu1 (Nat.le_of_lt hlt') (by omega) w6.drew) ?_⟩
   rintro v w7 ⟨⟨u4,rfl,hu4⟩,he7⟩
   refine⟨u4,rfl,he7,?_⟩
   have hz4:u4.size<=536870913:=by
    have:=zAK (Nat.sub_le (q.num.natAbs*p.den) (p.num.natAbs*q.den))
    rw [<- hu4,<- hu2,<- zAg,<- zAg] at this
    omega
   exact fin _ _ u4 w7 hu4 hz4 (hx5.drew.trans he7) (zEm hne' hlt') (Q:=fun v w=>K2 [v] w) (fun s w' h1 h2=>hK2 s w' ⟨⟨s,rfl,h1⟩,h2⟩)
theorem c79 {a:ByteArray} {q:Rat} (ha:bs a=txtQ q) (hz:a.size<=536870912) (w:World):Ret prog 79 #[.string a] w fun v w'=>TxtV (-q) v/\Ext w w':=by
 refine run79 _ _ _ (Called.of (c81 a hz w) ?_)
 rintro v w1 ⟨hp,he⟩
 obtain⟨s,t,rfl,hs,ht⟩:=zDe ha hp
 have hb:=box3 w1 (.bool (decide (q.num<0))) (.string s) (.string t) (.bool false) (.string { data:=#[] }) (.string { data:=#[] })
 have he2:=he.trans (zCa w1 (.bool (decide (q.num<0))) (.string s) (.string t) (.bool false) (.string { data:=#[] }) (.string { data:=#[] }))
 refine⟨_,_,_,_,rfl,zCV _ _ _ _,?_⟩
 have hl1:=zBe q
 rw [<- ha,<- zAg] at hl1
 have z1:s.size<=2147483648:=by rw [zAg,hs];omega
 have z2:t.size<=2147483648:=by rw [zAg,ht];omega
 rw [Bool.not_true,cond_false]
 intro K hK
 have fin : ∀ neg:Bool,neg=decide ((-q).num<0)->∀ u,bs u=txt3 neg q.num.natAbs q.den->bs u=txtQ (-q):=by
  intro neg hn u hu
  rw [hu,txtQ,Rat.neg_den,Rat.neg_num,Int.natAbs_neg,hn,Rat.neg_num]
 refine⟨_,zAm (j:=0) hb,zAa (fun hn=>?_) (fun hn=>?_)⟩
 ·refine⟨_,zAm (j:=1) hb,_,zAm (j:=1) hb,_,zAm (j:=2) hb,Called.of (c84 _ hs ht ⟨z1,z2⟩ _) ?_⟩
  rintro v w3 ⟨⟨u,rfl,hu⟩,he3⟩
  refine⟨u,rfl,hK u w3 ⟨⟨u,rfl,fin _ ?_ u hu⟩,he2.trans he3⟩⟩
  rw [zGA hs,Rat.neg_num,Bool.eq_iff_iff,Bool.not_eq_true',decide_eq_false_iff_not,decide_eq_true_eq]
  have hn' : ¬ q.num<0:=by simpa using hn
  omega
 ·refine⟨_,zAm (j:=1) hb,_,zAm (j:=2) hb,Called.of (c84 _ hs ht ⟨z1,z2⟩ _) ?_⟩
  rintro v w3 ⟨⟨u,rfl,hu⟩,he3⟩
  refine⟨u,rfl,hK u w3 ⟨⟨u,rfl,fin _ ?_ u hu⟩,he2.trans he3⟩⟩
  have hn' : q.num<0:=by simpa using hn
  rw [Rat.neg_num]
  exact (decide_eq_false (by omega)).symm
theorem neg_len (q:Rat):(txtQ (-q)).length<=(txtQ q).length+1:=by
 unfold txtQ txt3
 rw [Rat.neg_den,Rat.neg_num,Int.natAbs_neg]
 simp only [List.length_append]
 split <;> split <;> simp only [List.length_cons,List.length_nil] <;> omega
theorem c59 {a b:ByteArray} {p q:Rat} (ha:bs a=txtQ p) (hb:bs b=txtQ q) (hz:a.size<=268435456/\b.size<268435456) (w:World) :
  Ret prog 59 #[.string a,.string b] w fun v w'=>TxtV (p - q) v/\Ext w w':=by
 refine run59 _ _ _ _ (Called.of (c79 hb (by omega) w) ?_)
 rintro v w1 ⟨⟨u,rfl,hu⟩,he1⟩
 have hzu:=neg_len q
 rw [<- hu,<- hb,<- zAg,<- zAg] at hzu
 refine⟨u,rfl,Called.of (c58 ha hu ⟨hz.1,by omega⟩ w1) ?_⟩
 rintro v w2 ⟨⟨y,rfl,hy⟩,he2⟩
 rw [<- Rat.sub_eq_add_neg] at hy
 exact⟨y,rfl,⟨y,rfl,hy⟩,he1.trans he2⟩
theorem c44 {a b:ByteArray} {p q:Rat} (ha:bs a=txtQ p) (hb:bs b=txtQ q) (hz:a.size<=268435456/\b.size<=268435456) (w:World) :
  Ret prog 44 #[.string a,.string b] w fun v w'=>TxtV (p*q) v/\Ext w w':=by
 refine run44 _ _ _ _ (Called.of (c81 a (by omega) w) ?_)
 rintro v w1 ⟨hp,he1⟩
 obtain⟨s,t,rfl,hs,ht⟩:=zDe ha hp
 have hb1:=box3 w1 (.bool (decide (p.num<0))) (.string s) (.string t) (.bool false) (.string { data:=#[] }) (.string { data:=#[] })
 have hx1:=he1.trans (zCa w1 (.bool (decide (p.num<0))) (.string s) (.string t) (.bool false) (.string { data:=#[] }) (.string { data:=#[] }))
 refine⟨_,_,_,_,rfl,zCV _ _ _ _,?_⟩
 generalize setCells (w1.alloc (.cells #[.bool false,.string { data:=#[] },.string { data:=#[] }] 110)) ⟨w1.heap.size,0,none⟩ 0 [.bool (decide (p.num<0)),.string s,.string t]=W1 at hb1 hx1 ⊢
 generalize w1.heap.size=B1 at hb1 ⊢
 refine Called.of (c81 b (by omega) W1) ?_
 rintro v w2 ⟨hp2,he2⟩
 obtain⟨s2,t2,rfl,hs2,ht2⟩:=zDe hb hp2
 have hb2:=box3 w2 (.bool (decide (q.num<0))) (.string s2) (.string t2) (.bool false) (.string { data:=#[] }) (.string { data:=#[] })
 have hx2:=he2.trans (zCa w2 (.bool (decide (q.num<0))) (.string s2) (.string t2) (.bool false) (.string { data:=#[] }) (.string { data:=#[] }))
 refine⟨_,_,_,_,rfl,zCV _ _ _ _,?_⟩
 generalize setCells (w2.alloc (.cells #[.bool false,.string { data:=#[] },.string { data:=#[] }] 110)) ⟨w2.heap.size,0,none⟩ 0 [.bool (decide (q.num<0)),.string s2,.string t2]=W2 at hb2 hx2 ⊢
 generalize w2.heap.size=B2 at hb2 ⊢
 have hb1':=(hx2.blk hb1)
 have hx:Ext w W2:=hx1.trans hx2
 have hl1:=zBe p
 have hl2:=zBe q
 rw [<- ha,<- zAg] at hl1
 rw [<- hb,<- zAg] at hl2
 have z1:s.size<=268435456:=by rw [zAg,hs];omega
 have z2:t.size<=268435456:=by rw [zAg,ht];omega
 have z3:s2.size<=268435456:=by rw [zAg,hs2];omega
 have z4:t2.size<=268435456:=by rw [zAg,ht2];omega
 rw [Bool.not_true,Bool.or_self,cond_false]
 intro K hK
 refine⟨_,zAm (w:=W2.drew) (j:=0) hb1',_,zAm (w:=W2.drew) (j:=0) hb2,_,zAm (w:=W2.drew) (j:=1) hb1',_,zAm (w:=W2.drew) (j:=1) hb2,_,zAm (w:=W2.drew) (j:=2) hb1',_,zAm (w:=W2.drew) (j:=2) hb2,Called.of (c83 hs hs2 ⟨by omega,by omega⟩ W2.drew) ?_⟩
 rintro v w3 ⟨⟨u1,rfl,hu1⟩,he3⟩
 refine⟨u1,rfl,he3,Called.of (c83 ht ht2 ⟨by omega,by omega⟩ w3) ?_⟩
 rintro v w4 ⟨⟨u3,rfl,hu3⟩,he4⟩
 have hx5:Ext w w4:=hx.trans (((Ext.refl W2).drew.trans he3).trans he4)
 have hmul : ∀ (x y:Nat) (u v t:ByteArray),bs u=dec x->bs v=dec y->bs t=dec (x*y)->u.size<=268435456->v.size<=268435456->t.size<=536870912:=by
  intro x y u v t h1 h2 h3 h4 h5
  rw [zAg,h1] at h4
  rw [zAg,h2] at h5
  rw [zAg,h3]
  have hp1:0<(dec x).length:=List.length_pos_iff.2 (zBm x)
  have:=Nat.mul_lt_mul'' (zB1 x) (zB1 y)
  rw [<- Nat.pow_add] at this
  have:=(zA9 (show 0<(dec x).length+(dec y).length by omega)).2 this
  omega
 have zu1:=hmul _ _ _ _ _ hs hs2 hu1 z1 z3
 have zu3:=hmul _ _ _ _ _ ht ht2 hu3 z2 z4
 have hd0:p.den*q.den≠0:=Nat.mul_ne_zero p.den_nz q.den_nz
 refine⟨u3,rfl,he3.trans he4,Called.of (c82 _ hu1 hu3 hd0 ⟨by omega,by omega⟩ w4) ?_⟩
 rintro v w6 ⟨⟨y1,y2,rfl,hy1,hy2⟩,he6⟩
 have zy1:y1.size<=2147483648:=by
  rw [zAg,hy1,zD0 _ _ hd0,zCd]
  have h6:=zAK (Nat.div_le_self (p.num.natAbs*q.num.natAbs) (Nat.gcd (p.num.natAbs*q.num.natAbs) (p.den*q.den)))
  rw [<- hu1,<- zAg] at h6
  omega
 have zy2:y2.size<=2147483648:=by
  rw [zAg,hy2,zEo _ _ hd0]
  have h6:=zAK (Nat.div_le_self (p.den*q.den) (Nat.gcd (p.num.natAbs*q.num.natAbs) (p.den*q.den)))
  rw [<- hu3,<- zAg] at h6
  omega
 refine⟨_,_,_,rfl,Called.of (c84 _ hy1 hy2 ⟨zy1,zy2⟩ w6) ?_⟩
 rintro v w7 ⟨⟨y,rfl,hy⟩,he7⟩
 refine⟨y,rfl,hK y w7 ⟨⟨y,rfl,?_⟩,(hx5.trans he6).trans he7⟩⟩
 rw [hy,<- mul_red];rfl
theorem c37 {a b:ByteArray} {p q:Rat} (ha:bs a=txtQ p) (hb:bs b=txtQ q) (hz:a.size+b.size<=178000000) (w:World) :
  Ret prog 37 #[.string a,.string b] w fun v w'=>v = .int .i64 (sgnQ (p - q))/\Ext w w':=by
 refine run37 _ _ _ _ fun K hK=>?_
 refine Called.of (c77 a (by omega) w) ?_
 rintro v w1 ⟨rfl,he1⟩
 refine⟨_,rfl,?_⟩
 rw [zB5.2 ⟨p,ha⟩,Bool.not_true,cond_false]
 refine Called.of (c77 b (by omega) w1) ?_
 rintro v w2 ⟨rfl,he2⟩
 refine⟨_,rfl,?_⟩
 rw [zB5.2 ⟨q,hb⟩]
 refine hK _ w2 ?_
 rw [Bool.not_true,cond_false]
 refine Called.of (c59 ha hb ⟨by omega,by omega⟩ w2) ?_
 rintro v w3 ⟨⟨u,rfl,hu⟩,he3⟩
 have hl:u.size<=536870912:=by
  have h1:=txt_len (decide ((p - q).num<0)) (p - q).num.natAbs (p - q).den
  have h2:=sub_len p q
  have h3:=zBe p
  have h4:=zBe q
  rw [<- ha,<- zAg] at h3
  rw [<- hb,<- zAg] at h4
  rw [zAg,hu]
  unfold txtQ
  omega
 refine⟨u,rfl,Called.of (c43 hu (by omega) w3) ?_⟩
 rintro v w4 ⟨rfl,he4⟩
 exact⟨_,rfl,rfl,he1.trans (he2.trans (he3.trans he4))⟩
end Go.Proofs.Si
namespace Go.Proofs.Si
open Go Go.V Go.Proofs Go.RowKit Go.Num Go.Proofs.Tryz
open Go.IntKind (i64 u64 u32 u8)
set_option maxRecDepth 100000
def u32v (n:Nat):Value := .int .u32 (n:Int)
def NatS (w:World) (a:Option Addr) (L:List Nat):Prop:=SlAt w a (L.map u32v)
theorem NatS.ext {w w' : World} {a:Option Addr} {L:List Nat} (h:NatS w a L) (he:Ext w w'):NatS w' a L:=SlAt.ext h he
theorem NatS.get {w:World} {a:Option Addr} {L:List Nat} (h:NatS w a L) {i:Nat} (hi:i<L.length) : ∃ ad,a=some ad/\w.cell? (ad.add (i*1))=some (u32v (L.getD i 0)):=by
 obtain⟨ad,ha,_,hr⟩:=SlAt.at h (j:=i) (by simpa using hi)
 refine⟨ad,ha,?_⟩
 rw [Nat.mul_one]
 apply hr
 rw [List.getElem?_map,List.getElem?_eq_getElem hi,zCM hi];rfl
def NatV (w:World) (v:Value) (n:Nat):Prop:=∃ a c L,v = .slice a L.length c/\L.length<=c/\NatS w a L/\okL L/\normL L/\lv L=n
def NatO (w:World) (B:Nat) (v:Value) (n:Nat):Prop:=∃ a c L,v = .slice a L.length c/\w.ownsRow B 209 1 (.slice a L.length c) L.length (L.map u32v)/\okL L/\normL L/\lv L=n
theorem NatO.natV {w:World} {B:Nat} {v:Value} {n:Nat} (h:NatO w B v n):NatV w v n:=by
 obtain⟨a,c,L,hv,ho,h1,h2,h3⟩:=h
 exact⟨a,c,L,hv,zFp ho,zBr ho,h1,h2,h3⟩
theorem NatV.ext {w w' : World} {v:Value} {n:Nat} (h:NatV w v n) (he:Ext w w'):NatV w' v n:=by
 obtain⟨a,c,L,hv,hc,hs,r⟩:=h
 exact⟨a,c,L,hv,hc,hs.ext he,r⟩
theorem zCt {w:World} {B:Nat} {p:Option Addr} {k:Nat} {D:List Nat} (h:w.ownsRow B 209 1 (.slice p D.length k) D.length (D.map u32v)) (hok:okL D):NatO w B (.slice p (trimN D D.length) k) (lv D):=by
 have hle:=zDE D D.length
 have hl:(D.take (trimN D D.length)).length=trimN D D.length:=by rw [List.length_take,Nat.min_eq_left hle]
 refine⟨p,k,D.take (trimN D D.length),by rw [hl],?_,zBK hok _,zFH D _ (Nat.le_refl _),?_⟩
 ·rw [hl]
  have:=own_cut h hle
  rw [Nat.mul_one,<- List.map_take] at this
  exact this
 ·rw [zGu,List.take_length]
theorem w32 {n:Nat} (h:n<4294967296):u32.wrap (n:Int)=(n:Int):=by show (n:Int) % 4294967296=_;omega
theorem w32i {n:Int} (h0:0<=n) (h:n<4294967296):u32.wrap n=n:=by show n % 4294967296=_;omega
theorem w64u {n:Nat} (h:n<18446744073709551616):u64.wrap (n:Int)=(n:Int):=by show (n:Int) % 18446744073709551616=_;omega
theorem w64ui {n:Int} (h0:0<=n) (h:n<18446744073709551616):u64.wrap n=n:=by show n % 18446744073709551616=_;omega
theorem tmodN (a b:Nat):(a:Int).tmod (b:Int)=((a % b:Nat):Int):=rfl
theorem tdivN (a b:Nat):(a:Int).tdiv (b:Int)=((a / b:Nat):Int):=rfl
theorem zFg (n:Nat):(n*siE.P.types[209].size)=n:=Nat.mul_one n
theorem c218 {a:Option Addr} {c:Nat} {L:List Nat} (hc:L.length<=c) (hl:L.length<=4611686018427387904) (w:World) (hs:NatS w a L) :
  Ret prog 218 #[.slice a L.length c] w fun v w'=>v = .slice a (trimN L L.length) c/\w' = w:=by
 refine run218 _ _ _ _ _ ⟨fun vals w'=>∃ j:Nat,vals=[.int .i64 j]/\j<=L.length/\w' = w/\trimN L j=trimN L L.length,muD,⟨L.length,rfl,Nat.le_refl _,rfl,rfl⟩,?_⟩
 rintro n w1 ⟨j,hv,hj,rfl,ht⟩
 cases hv
 intro K hK
 refine zAd (fun h0=>?_) (fun h0=>?_)
 ·obtain⟨i,rfl⟩ : ∃ i,j=i+1:=⟨j - 1,by omega⟩
  obtain⟨ad,ha,hcell⟩:=hs.get (i:=i) (by omega)
  have e:i64.wrap (((i+1:Nat):Int) - 1)=(i:Int):=by rw [zAf] <;> omega
  rw [trimN] at ht
  rw [e]
  refine⟨ad,ha,⟨by omega,by omega⟩,_,hcell,hK _ ?_⟩
  rw [e]
  refine zAa (fun hz=>⟨⟨i,rfl,by omega,rfl,?_⟩,?_⟩) (fun hz=>⟨⟨by omega,by omega⟩,?_,rfl⟩)
  ·have:L.getD i 0=0:=by
    have:=of_decide_eq_true (p:=((L.getD i 0:Nat):Int)=0) (by simpa using hz)
    omega
   rw [if_pos this] at ht
   exact ht
  ·simp only [muD];omega
  ·have:L.getD i 0≠0:=by
    intro e0
    rw [e0] at hz
    exact absurd hz (by decide)
   rw [if_neg this] at ht
   rw [<- ht,Int.toNat_natCast]
 ·have:j=0:=by omega
  subst this
  refine hK false ⟨⟨by omega,by omega⟩,?_,rfl⟩
  rw [<- ht];rfl
theorem c252 {a:Option Addr} {c:Nat} {L:List Nat} (w:World) (hs:NatS w a L) (i:Nat) :
  Ret prog 252 #[.slice a L.length c,.int .i64 i] w fun v w'=>v = .int .u32 ((L.getD i 0:Nat):Int)/\w' = w:=by
 refine run252 _ _ _ _ _ _ (zAd (fun h=>⟨?_,rfl⟩) (fun h=>?_))
 ·rw [List.getD,List.getElem?_eq_none (by omega)];rfl
 ·obtain⟨ad,ha,hcell⟩:=hs.get (i:=i) (by omega)
  exact⟨ad,ha,⟨by omega,by omega⟩,_,hcell,rfl,rfl⟩
theorem c188 {a:Option Addr} {c:Nat} {L:List Nat} (w:World) (hs:NatS w a L) (hok:okL L) (hn:normL L) :
  Ret prog 188 #[.slice a L.length c] w fun v w'=>v = .bool (decide (lv L=1))/\w' = w:=by
 refine run188 _ _ _ _ _ fun K hK=>zAa (fun h=>?_) (fun h=>hK _ ⟨?_,rfl⟩)
 ·have hl:L.length=1:=by have:=of_decide_eq_true (p:=(L.length:Int)=1) (by simpa using h);omega
  obtain⟨ad,ha,hcell⟩:=hs.get (i:=0) (by omega)
  have had:ad.add (0*1)=ad:=by
   rw [Nat.mul_one]
   rcases hs with h0 | ⟨ad',h1,h2,_⟩
   ·rw [List.map_eq_nil_iff] at h0;rw [h0] at hl;cases hl
   ·rw [ha] at h1;cases h1
    cases ad with
    | mk b o s=>cases h2;rw [zAk];rfl
  rw [had] at hcell
  refine⟨ad,ha,⟨by omega,by omega⟩,_,hcell,hK _ ⟨?_,rfl⟩⟩
  match L,hl with
  | [x],_ =>
   rw [lv_one]
   congr 1
   rw [Bool.eq_iff_iff,beq_iff_eq,decide_eq_true_eq]
   show ((x:Nat):Int)=1↔x=1
   omega
 ·congr 1
  have hl:L.length≠1:=by intro e;rw [e] at h;exact absurd h (by decide)
  symm
  apply decide_eq_false
  intro e
  by_cases h0:L.length=0
  ·rw [List.eq_nil_of_length_eq_zero h0] at e;cases e
  ·have:=zEs hn (by omega)
   have h2:1000000000 ^ 1<=1000000000 ^ (L.length - 1):=Nat.pow_le_pow_right (by omega) (by omega)
   omega
theorem c223 {a b:Option Addr} {ca cb:Nat} {A B:List Nat} (w:World) (ha:NatS w a A) (hb:NatS w b B) (oa:okL A) (ob:okL B) (na:normL A) (nb:normL B) (hl:A.length<=1099511627776/\B.length<=1099511627776) :
  Ret prog 223 #[.slice a A.length ca,.slice b B.length cb] w fun v w'=>(∃ z:Int,v = .int .i64 z/\(z<0↔lv A<lv B))/\Ext w w':=by
 refine run223 _ _ _ _ _ _ _ _ (zAa (fun h=>⟨⟨_,rfl,?_⟩,Ext.refl _⟩) (fun h=>?_))
 ·have hne:A.length≠B.length:=by intro e;rw [e] at h;simp at h
  rw [zAf (by omega) (by omega)]
  constructor
  ·intro hlt
   have : ¬ lv B<=lv A:=fun hle=>by have:=zCv oa nb hle;omega
   omega
  ·intro hlt
   have:=zCv ob na (Nat.le_of_lt hlt)
   omega
 ·have he:A.length=B.length:=by have:=of_decide_eq_true (p:=(A.length:Int)=B.length) (by simpa using h);omega
  refine⟨fun vals w'=>∃ j:Nat,vals=[.int .i64 ((j:Int) - 1)]/\j<=A.length/\lv (A.drop j)=lv (B.drop j)/\Ext w w',muD,
   ⟨A.length,by rw [zAf (by omega) (by omega)],Nat.le_refl _,by rw [List.drop_length,he,List.drop_length],Ext.refl _⟩,?_⟩
  rintro n w1 ⟨j,hv,hj,hd,he1⟩
  cases hv
  refine zAd (fun h0=>?_) (fun h0=>⟨⟨0,rfl,?_⟩,he1⟩)
  ·obtain⟨i,rfl⟩ : ∃ i,j=i+1:=⟨j - 1,by omega⟩
   obtain⟨ad,ha1,hcell⟩:=(ha.ext he1.drew).get (i:=i) (by omega)
   obtain⟨bd,hb1,hcellb⟩:=(hb.ext he1.drew).get (i:=i) (by omega)
   have e:(((i+1:Nat):Int) - 1)=(i:Int):=by omega
   have oa1:=zAz oa i
   have ob1:=zAz ob i
   simp only [e]
   refine⟨ad,ha1,⟨by omega,by omega⟩,_,hcell,bd,hb1,⟨by omega,by omega⟩,_,hcellb,zAa (fun hne=>?_) (fun heq=>?_)⟩
   ·refine⟨ad,ha1,⟨by omega,by omega⟩,_,hcell,bd,hb1,⟨by omega,by omega⟩,_,hcellb,⟨_,rfl,?_⟩,he1.drew.drew⟩
    have hne' : A.getD i 0≠B.getD i 0:=by intro e;rw [e] at hne;simp at hne
    rw [zAf (n:=((A.getD i 0:Nat):Int)) (by omega) (by omega),zAf (n:=((B.getD i 0:Nat):Int)) (by omega) (by omega),zAf (by omega) (by omega)]
    constructor
    ·intro hlt
     exact lv_cmp oa ob (by omega) (by omega) hd (by omega)
    ·intro hlt
     have : ¬ B.getD i 0<A.getD i 0:=fun h=>by
      have:=lv_cmp ob oa (by omega) (by omega) hd.symm h
      omega
     omega
   ·have heq' : A.getD i 0=B.getD i 0:=by
     have:=of_decide_eq_true (p:=((A.getD i 0:Nat):Int)=(B.getD i 0:Nat)) (by simpa using heq)
     omega
    rw [zAf (by omega) (by omega)]
    refine⟨⟨i,rfl,by omega,?_,he1.drew⟩,?_⟩
    ·rw [zAE (a:=A) (i:=i) (by omega),zAE (a:=B) (i:=i) (by omega),heq',hd]
    ·simp only [muD];omega
  ·have:j=0:=by omega
   subst this
   rw [List.drop_zero,List.drop_zero] at hd
   rw [hd]
   omega
theorem c222 {a b:Option Addr} {ca cb:Nat} {A B:List Nat} (w:World) (ha:NatS w a A) (hb:NatS w b B) (oa:okL A) (ob:okL B) (hl:A.length<=1099511627776/\B.length<=1099511627776) :
  Ret prog 222 #[.slice a A.length ca,.slice b B.length cb] w fun v w'=>NatO w' w.heap.size v (lv A+lv B)/\Ext w w':=by
 obtain⟨N,hN⟩ : ∃ N,N=max A.length B.length:=⟨_,rfl⟩
 have hm:(if (B.length:Int)>(A.length:Int) then (B.length:Int) else (A.length:Int))=(N:Int):=by split <;> omega
 have hm1:i64.wrap ((N:Int)+1)=((N+1:Nat):Int):=zAh (by omega)
 refine run222 _ _ _ _ _ _ _ _ ?_
 unfold vc222
 simp only [hm,hm1,Int.toNat_natCast]
 refine⟨⟨by omega,by omega,by omega,by omega⟩,fun vals w1=>∃ (i carry:Nat) (D:List Nat) (p:Option Addr) (k:Nat),vals=[.int .i64 i,.int .u32 carry,.slice p D.length k]/\D.length=i/\i<=N/\carry<=1/\okL D /\
  lv D+1000000000 ^ i*carry=lv (A.take i)+lv (B.take i)/\w1.ownsRow w.heap.size 209 1 (.slice p D.length k) D.length (D.map u32v)/\Ext w w1,mu1 N,
  ⟨0,0,[],_,_,rfl,rfl,Nat.zero_le _,by omega,zBQ,rfl,World.ownsRow_made _ _ _ (Nat.le_refl _) (by unfold maxLen;omega) ?_,(Ext.refl w).alloc _⟩,?_⟩
 ·simp [madeCells,Value.cells,zFg]
 rintro n n1 p k k1 w1 ⟨i,carry,D,p',k',hv,hDl,hi,hc1,oD,hval,ho,he⟩
 cases hv
 refine zAd (fun hlt=>?_) (fun hge=>?_)
 ·refine Called.of (c252 w1 (ha.ext he) i) ?_
  rintro v w2 ⟨rfl,rfl⟩
  refine⟨_,rfl,Called.of (c252 w2 (hb.ext he) i) ?_⟩
  rintro v w3 ⟨rfl,rfl⟩
  have h1:=zAz oa i
  have h2:=zAz ob i
  have e2:u32.wrap (((A.getD i 0:Nat):Int)+((B.getD i 0:Nat):Int))=((A.getD i 0+B.getD i 0:Nat):Int):=by rw [w32i (by omega) (by omega)];omega
  have e3:u32.wrap (((A.getD i 0+B.getD i 0:Nat):Int)+(carry:Int))=((A.getD i 0+B.getD i 0+carry:Nat):Int):=by rw [w32i (by omega) (by omega)];omega
  refine⟨_,rfl,?_⟩
  simp only [e2,e3]
  generalize hs:A.getD i 0+B.getD i 0+carry=s
  have e4:((s:Nat):Int).tmod 1000000000=((s % 1000000000:Nat):Int):=rfl
  have e5:u32.wrap (((s:Nat):Int).tdiv 1000000000)=((s / 1000000000:Nat):Int):=by
   rw [show ((s:Nat):Int).tdiv 1000000000=((s / 1000000000:Nat):Int) from rfl]
   exact w32 (by omega)
  rw [e4,e5]
  refine⟨_,_,_,AppOk.one (L:=[u32v (s % 1000000000)]) ho rfl rfl (by unfold maxLen;omega) (by omega) he.size,?_⟩
  intro p1 k3 w4 r
  have hx:=(Ext.refl w3).alloc (.cells #[u32v (s % 1000000000)] 209)
  have hb3:Ext w w4:=r.below (zA8 ho hx) (he.trans hx) (by rw [size_alloc];have:=he.size;omega) (Nat.le_refl _)
  have e6:(D++[s % 1000000000]).length=D.length+1:=by simp
  rw [zAh (by omega)]
  refine⟨⟨i+1,s / 1000000000,D++[s % 1000000000],p1,k3,by rw [e6],by omega,by omega,by omega,?_,?_,?_,hb3⟩,?_⟩
  ·rw [zFq];exact⟨oD,by rw [zBX];exact⟨Nat.mod_lt _ (by omega),zBQ⟩⟩
  ·rw [zD4,zA4,zA4,hDl,Nat.pow_succ,Nat.mul_assoc]
   have g1:1000000000 ^ i*(s % 1000000000)+1000000000 ^ i*(1000000000*(s / 1000000000))=1000000000 ^ i*s:=by rw [<- Nat.mul_add];congr 1;omega
   have g2:1000000000 ^ i*s=1000000000 ^ i*A.getD i 0+1000000000 ^ i*B.getD i 0+1000000000 ^ i*carry:=by rw [<- hs,Nat.mul_add,Nat.mul_add]
   omega
  ·have:=r.own
   rw [e6,List.map_append];exact this
  ·simp only [mu1,Int.toNat_natCast];omega
 ·have hiN:i=N:=by omega
  subst hiN
  refine⟨_,_,_,AppOk.one (L:=[u32v carry]) ho rfl rfl (by unfold maxLen;omega) (by omega) he.size,?_⟩
  intro p1 k3 w4 r
  have hx:=(Ext.refl w1).alloc (.cells #[u32v carry] 209)
  have hb3:Ext w w4:=r.below (zA8 ho hx) (he.trans hx) (by rw [size_alloc];have:=he.size;omega) (Nat.le_refl _)
  have e6:(D++[carry]).length=D.length+1:=by simp
  have ho2:w4.ownsRow w.heap.size 209 1 (.slice p1 (D++[carry]).length k3) (D++[carry]).length ((D++[carry]).map u32v):=by
   rw [e6,List.map_append];exact r.own
  have oD2:okL (D++[carry]):=by rw [zFq];exact⟨oD,by rw [zBX];exact⟨by omega,zBQ⟩⟩
  rw [<- e6]
  refine Called.of (c218 (zFp ho2) (by omega) w4 (zBr ho2)) ?_
  rintro v w5 ⟨rfl,rfl⟩
  refine⟨_,_,_,rfl,?_,hb3⟩
  have:=zCt ho2 oD2
  rw [zD4,hDl,hval,List.take_of_length_le (by omega),List.take_of_length_le (by omega)] at this
  exact this
theorem c224 {a b:Option Addr} {ca cb:Nat} {A B:List Nat} (w:World) (ha:NatS w a A) (hb:NatS w b B) (oa:okL A) (ob:okL B) (nb:normL B) (hle:lv B<=lv A) (hl:A.length<=1099511627776) :
  Ret prog 224 #[.slice a A.length ca,.slice b B.length cb] w fun v w'=>NatO w' w.heap.size v (lv A - lv B)/\Ext w w':=by
 refine run224 _ _ _ _ _ _ _ _ ?_
 unfold vc224
 simp only [Int.toNat_natCast]
 have hbl:=zCv oa nb hle
 refine⟨⟨by omega,by omega,by omega,by omega⟩,fun vals w1=>∃ (i carry:Nat) (D:List Nat) (p:Option Addr) (k:Nat),vals=[.int .i64 i,.int .i64 carry,.slice p D.length k]/\D.length=i/\i<=A.length/\carry<=1/\okL D /\
  lv D+lv (B.take i)=lv (A.take i)+1000000000 ^ i*carry/\w1.ownsRow w.heap.size 209 1 (.slice p D.length k) D.length (D.map u32v)/\Ext w w1,mu1 A.length,
  ⟨0,0,[],_,_,rfl,rfl,Nat.zero_le _,by omega,zBQ,rfl,World.ownsRow_made _ _ _ (Nat.le_refl _) (by unfold maxLen;omega) ?_,(Ext.refl w).alloc _⟩,?_⟩
 ·simp [madeCells,Value.cells,zFg]
 rintro n n1 p k k1 w1 ⟨i,carry,D,p',k',hv,hDl,hi,hc1,oD,hval,ho,he⟩
 cases hv
 refine zAd (fun hlt=>?_) (fun hge=>?_)
 ·obtain⟨ad,ha1,hcell⟩:=(ha.ext he.drew).get (i:=i) (by omega)
  refine⟨ad,ha1,⟨by omega,by omega⟩,_,hcell,Called.of (c252 w1.drew (hb.ext he.drew) i) ?_⟩
  rintro v w2 ⟨rfl,rfl⟩
  have h1:=zAz oa i
  have h2:=zAz ob i
  refine⟨_,rfl,Below.refl _ _,fun K hK=>?_⟩
  have fin : ∀ (c x:Nat),c<=1->x<1000000000->x+B.getD i 0+carry=A.getD i 0+1000000000*c->K [.int .i64 c,.int .i64 x] w1.drew:=by
   intro c x hc hx hs
   refine hK _ _ ?_
   rw [w32 (by omega)]
   have ho':=zA8 ho ((Ext.refl w1).drew)
   refine⟨_,_,_,AppOk.one (L:=[u32v x]) ho' rfl rfl (by unfold maxLen;omega) (by omega) he.drew.size,?_⟩
   intro p1 k3 w4 r
   have hx4:=(Ext.refl w1.drew).alloc (.cells #[u32v x] 209)
   have hb3:Ext w w4:=r.below (zA8 ho' hx4) (he.drew.trans hx4) (by rw [size_alloc];have:=he.drew.size;omega) (Nat.le_refl _)
   have e6:(D++[x]).length=D.length+1:=by simp
   rw [zAh (by omega)]
   refine⟨⟨i+1,c,D++[x],p1,k3,by rw [e6],by omega,by omega,by omega,?_,?_,?_,hb3⟩,?_⟩
   ·rw [zFq];exact⟨oD,by rw [zBX];exact⟨hx,zBQ⟩⟩
   ·rw [zD4,zA4,zA4,hDl,Nat.pow_succ,Nat.mul_assoc]
    have g1:1000000000 ^ i*(x+B.getD i 0+carry)=1000000000 ^ i*(A.getD i 0+1000000000*c):=by rw [hs]
    rw [Nat.mul_add,Nat.mul_add,Nat.mul_add] at g1
    omega
   ·have:=r.own
    rw [e6,List.map_append];exact this
   ·simp only [mu1,Int.toNat_natCast];omega
  have e1:i64.wrap (i64.wrap (i64.wrap ((A.getD i 0:Nat):Int) - i64.wrap ((B.getD i 0:Nat):Int)) - (carry:Int))=((A.getD i 0:Nat):Int) - (B.getD i 0:Nat) - carry:=by
   rw [zAf (n:=((A.getD i 0:Nat):Int)) (by omega) (by omega),zAf (n:=((B.getD i 0:Nat):Int)) (by omega) (by omega),zAf (n:=((A.getD i 0:Nat):Int) - _) (by omega) (by omega),zAf (by omega) (by omega)]
  rw [e1]
  refine zAd (fun hneg=>?_) (fun hpos=>?_)
  ·rw [zAf (by omega) (by omega)]
   have:=fin 1 (A.getD i 0+1000000000 - B.getD i 0 - carry) (by omega) (by omega) (by omega)
   rw [show ((A.getD i 0+1000000000 - B.getD i 0 - carry:Nat):Int)=((A.getD i 0:Nat):Int) - (B.getD i 0:Nat) - carry+1000000000 by omega] at this
   exact this
  ·have:=fin 0 (A.getD i 0 - B.getD i 0 - carry) (by omega) (by omega) (by omega)
   rw [show ((A.getD i 0 - B.getD i 0 - carry:Nat):Int)=((A.getD i 0:Nat):Int) - (B.getD i 0:Nat) - carry by omega] at this
   exact this
 ·have hiN:i=A.length:=by omega
  refine Called.of (c218 (zFp ho) (by omega) w1 (zBr ho)) ?_
  rintro v w5 ⟨rfl,rfl⟩
  refine⟨_,_,_,rfl,?_,he⟩
  have:=zCt ho oD
  rw [hiN,List.take_of_length_le (Nat.le_refl _),List.take_of_length_le hbl] at hval
  have hlt:=lv_lt oD
  rw [hDl,hiN] at hlt
  have hc0:carry=0:=by
   rcases Nat.eq_zero_or_pos carry with h | h
   ·exact h
   ·have:carry=1:=by omega
    rw [this,Nat.mul_one] at hval
    omega
  rw [hc0,Nat.mul_zero,Nat.add_zero] at hval
  rw [show lv A - lv B=lv D by omega]
  exact this
theorem zEu (n:Nat):madeCells (Value.int .u32 0).cells n=((List.replicate n 0).map u32v).toArray:=by
 apply Array.ext
 ·simp [madeCells]
 ·intro i h1 h2
  simp [madeCells,Value.cells,Nat.mod_one,u32v]
def LimbsIn (w:World) (b:Nat) (L:List Nat):Prop:=w.heap[b]? = some (.cells (L.map u32v).toArray 209 (0,0))
theorem LimbsIn.cell {w:World} {b:Nat} {L:List Nat} (h:LimbsIn w b L) {i:Nat} (hi:i<L.length):w.cell? ⟨b,i,none⟩=some (u32v (L.getD i 0)):=by
 rw [zAm h];simp [List.getD,hi]
theorem LimbsIn.set {w:World} {b:Nat} {L:List Nat} (h:LimbsIn w b L) (i x:Nat):LimbsIn (w.setCell ⟨b,i,none⟩ (u32v x)) b (L.set i x):=by
 unfold LimbsIn
 rw [zAY h]
 simp [List.map_set]
theorem LimbsIn.ext {w w' : World} {b:Nat} {L:List Nat} (h:LimbsIn w b L) (he:Ext w w'):LimbsIn w' b L:=he.blk h
theorem LimbsIn.own {w:World} {b B:Nat} {L:List Nat} (h:LimbsIn w b L) (hb:B<=b) (hm:L.length<=maxLen):w.ownsRow B 209 1 (.slice (some ⟨b,0,none⟩) L.length L.length) L.length (L.map u32v) :=
 ⟨by simp,.inr ⟨b,L.length,_,rfl,hb,h,Nat.le_refl _,hm,by simp,by rw [Nat.mul_one,List.toList_toArray,<- List.length_map (f:=u32v),List.take_length]⟩⟩
theorem mul_step {P lD lD0 x y lB c d:Nat} {i k v:Nat} (hP:P=1000000000 ^ (i+k)) (h:lD+P*c=lD0+1000000000 ^ i*(x*lB)) (hv:v=d+x*y+c) {lD' : Nat} (hs:lD' + P*d=lD+P*(v % 1000000000)) :
  lD' + 1000000000 ^ (i+k+1)*(v / 1000000000)=lD0+1000000000 ^ i*(x*(lB+1000000000 ^ k*y)):=by
 rw [Nat.pow_succ,<- hP]
 have e1:P*1000000000*(v / 1000000000)+P*(v % 1000000000)=P*v:=by rw [Nat.mul_assoc,<- Nat.mul_add];congr 1;omega
 have e2:P*v=P*d+P*(x*y)+P*c:=by rw [hv,Nat.mul_add,Nat.mul_add]
 have e3:1000000000 ^ i*(x*(lB+1000000000 ^ k*y))=1000000000 ^ i*(x*lB)+P*(x*y):=by
  rw [hP,Nat.pow_add,Nat.mul_add,Nat.mul_add]
  congr 1
  rw [Nat.mul_left_comm x,Nat.mul_assoc]
 rw [e3]
 omega
theorem mul_lt2 {x y d c:Nat} (hx:x<1000000000) (hy:y<1000000000) (hd:d<1000000000) (hc:c<1000000000):d+x*y+c<1000000000*1000000000:=by
 have:x*y<=999999999*999999999:=Nat.mul_le_mul (by omega) (by omega)
 omega
theorem c220 {a b:Option Addr} {ca cb:Nat} {A B:List Nat} (w:World) (ha:NatS w a A) (hb:NatS w b B) (oa:okL A) (ob:okL B) (hl:A.length<=1099511627776/\B.length<=1099511627776) :
  Ret prog 220 #[.slice a A.length ca,.slice b B.length cb] w fun v w'=>NatO w' w.heap.size v (lv A*lv B)/\(∃ p n c,v = .slice p n c/\n<=A.length+B.length)/\Ext w w':=by
 have hw:i64.wrap ((A.length:Int)+(B.length:Int))=((A.length+B.length:Nat):Int):=by rw [zAf (by omega) (by omega)];omega
 refine run220 _ _ _ _ _ _ _ _ ?_
 unfold vc220
 simp only [hw,Int.toNat_natCast,zFg,zEu]
 have hA0:LimbsIn (w.alloc (.cells ((List.replicate (A.length+B.length) 0).map u32v).toArray 209)) w.heap.size (List.replicate (A.length+B.length) 0):=heap_alloc_new w _
 refine⟨⟨by omega,by omega,by omega,by omega⟩,fun vals w1=>∃ (i:Nat) (D:List Nat),vals=[.int .i64 i]/\i<=A.length/\D.length=A.length+B.length/\okL D/\lv D=lv (A.take i)*lv B /\
   (∀ j,i+B.length<=j->D.getD j 0=0)/\LimbsIn w1 w.heap.size D/\Ext w w1,mu1 A.length,
  ⟨0,_,rfl,Nat.zero_le _,List.length_replicate,zG2 _,?_,?_,hA0,(Ext.refl w).alloc _⟩,?_⟩
 ·rw [lv_zero,List.take_zero,zCH,Nat.zero_mul]
 ·intro j _
  rw [List.getD,List.getElem?_replicate];split <;> rfl
 rintro n w1 ⟨i,D,hv,hi,hDl,oD,hval,hz,hD,he⟩
 cases hv
 refine zAd (fun hlt=>?_) (fun hge=>?_)
 ·obtain⟨ad,ha1,hcell⟩:=(ha.ext he).get (i:=i) (by omega)
  have hx:=zAz oa i
  refine⟨ad,ha1,⟨by omega,by omega⟩,_,hcell,fun vals w2=>∃ (k c:Nat) (E:List Nat),vals=[.int .i64 k,.int .u64 c]/\k<=B.length/\c<1000000000/\E.length=A.length+B.length/\okL E /\
    lv E+1000000000 ^ (i+k)*c=lv D+1000000000 ^ i*(A.getD i 0*lv (B.take k))/\(∀ j,i+B.length<=j->E.getD j 0=0)/\LimbsIn w2 w.heap.size E/\Ext w w2,mu1 B.length,
   ⟨0,0,D,rfl,Nat.zero_le _,by omega,hDl,oD,?_,hz,hD,he⟩,?_⟩
  ·rw [List.take_zero,zCH];simp
  rintro n2 n3 w2 ⟨k,c,E,hv,hk,hc,hEl,oE,hvalE,hzE,hE,he2⟩
  cases hv
  refine zAd (fun hlt2=>?_) (fun hge2=>?_)
  ·obtain⟨bd,hb1,hcellb⟩:=(hb.ext he2).get (i:=k) (by omega)
   have hy:=zAz ob k
   have hd:=zAz oE (i+k)
   have e1:i64.wrap ((i:Int)+(k:Int))=((i+k:Nat):Int):=by rw [zAf (by omega) (by omega)];omega
   have hik:i+k<E.length:=by omega
   have hcE:=hE.cell hik
   have hxy:=mul_lt2 hx hy hd hc
   have hxy2:A.getD i 0*B.getD k 0<=999999999*999999999:=Nat.mul_le_mul (by omega) (by omega)
   refine⟨bd,hb1,⟨by omega,by omega⟩,_,hcellb,_,rfl,?_⟩
   simp only [e1,Int.toNat_natCast,Nat.mul_one,zAk,Nat.zero_add]
   refine⟨⟨by omega,by omega⟩,_,hcE,_,rfl,⟨by omega,by omega⟩,?_⟩
   simp only [zAk,Nat.zero_add]
   have e2:u64.wrap (u64.wrap (u64.wrap ((E.getD (i+k) 0:Nat):Int)+u64.wrap (u64.wrap ((A.getD i 0:Nat):Int)*u64.wrap ((B.getD k 0:Nat):Int)))+(c:Int))=((E.getD (i+k) 0+A.getD i 0*B.getD k 0+c:Nat):Int):=by
    rw [w64u (n:=E.getD (i+k) 0) (by omega),w64u (n:=A.getD i 0) (by omega),w64u (n:=B.getD k 0) (by omega),<- Int.natCast_mul,w64u (by omega),<- Int.natCast_add,w64u (by omega),<- Int.natCast_add,w64u (by omega)]
   rw [e2]
   generalize hV:E.getD (i+k) 0+A.getD i 0*B.getD k 0+c=V at hxy
   have e3:u32.wrap (((V:Nat):Int).tmod 1000000000)=((V % 1000000000:Nat):Int):=by
    rw [show ((V:Nat):Int).tmod 1000000000=((V % 1000000000:Nat):Int) from rfl]
    exact w32 (by omega)
   have e4:u64.wrap (((V:Nat):Int).tdiv 1000000000)=((V / 1000000000:Nat):Int):=by
    rw [show ((V:Nat):Int).tdiv 1000000000=((V / 1000000000:Nat):Int) from rfl]
    exact w64u (by omega)
   rw [e3,e4,zAh (by omega)]
   refine⟨⟨⟨_,hcE⟩,zBd hE⟩,⟨k+1,V / 1000000000,E.set (i+k) (V % 1000000000),rfl,by omega,by omega,by rw [List.length_set,hEl],zEr oE _ (Nat.mod_lt _ (by omega)),?_,?_,hE.set _ _,Below.setCell (p:=⟨w.heap.size,i+k,none⟩) he2 (Nat.le_refl _) _⟩,?_⟩
   ·have:=mul_step (y:=B.getD k 0) rfl hvalE hV.symm (lv_set (V % 1000000000) hik)
    rw [zA4]
    exact this
   ·intro j hj
    rw [List.getD_eq_getElem?_getD,List.getElem?_set_ne (by omega),<- List.getD_eq_getElem?_getD]
    exact hzE j hj
   ·simp only [mu1,Int.toNat_natCast];omega
  ·have hkB:k=B.length:=by omega
   subst hkB
   have e1:i64.wrap ((i:Int)+(B.length:Int))=((i+B.length:Nat):Int):=by rw [zAf (by omega) (by omega)];omega
   have hik:i+B.length<E.length:=by omega
   have hcE:=hE.cell hik
   refine⟨_,rfl,?_⟩
   simp only [e1,Int.toNat_natCast,Nat.mul_one,zAk,Nat.zero_add]
   rw [w32 (by omega),zAh (by omega)]
   refine⟨⟨by omega,by omega⟩,⟨⟨_,hcE⟩,zBd hE⟩,⟨i+1,E.set (i+B.length) c,rfl,by omega,by rw [List.length_set,hEl],zEr oE _ hc,?_,?_,hE.set _ _,Below.setCell (p:=⟨w.heap.size,i+B.length,none⟩) he2 (Nat.le_refl _) _⟩,?_⟩
   ·have h1:=lv_set c hik
    rw [hzE _ (Nat.le_refl _),Nat.mul_zero,Nat.add_zero] at h1
    rw [h1,hvalE,hval,List.take_length,zA4,Nat.add_mul,Nat.mul_assoc]
   ·intro j hj
    rw [List.getD_eq_getElem?_getD,List.getElem?_set_ne (by omega),<- List.getD_eq_getElem?_getD]
    exact hzE j (by omega)
   ·simp only [mu1,Int.toNat_natCast];omega
 ·have hiN:i=A.length:=by omega
  subst hiN
  rw [List.take_length] at hval
  have ho:=hD.own (B:=w.heap.size) (Nat.le_refl _) (by unfold maxLen;omega)
  rw [<- hDl]
  refine Called.of (c218 (Nat.le_refl _) (by omega) w1 (zBr ho)) ?_
  rintro v w5 ⟨rfl,rfl⟩
  refine⟨_,_,_,rfl,?_,⟨_,_,_,rfl,?_⟩,he⟩
  ·rw [<- hval];exact zCt ho oD
  ·have:=zDE D D.length
   omega
theorem quo_step {b r a Y lA:Nat} (hb:0<b) (h:b*Y+r=lA):b*((r*1000000000+a) / b+1000000000*Y)+(r*1000000000+a) % b=a+1000000000*lA:=by
 have h1:=Nat.div_add_mod (r*1000000000+a) b
 rw [Nat.mul_add,<- h]
 have h2:b*(1000000000*Y)=1000000000*(b*Y):=by rw [Nat.mul_left_comm]
 rw [h2,Nat.mul_add]
 omega
theorem c250 {a:Option Addr} {ca:Nat} {A:List Nat} (w:World) (ha:NatS w a A) (oa:okL A) {b:Nat} (hb0:0<b) (hb:b<1000000000) (hl:A.length<=1099511627776) :
  Ret prog 250 #[.slice a A.length ca,.int .u32 b] w fun v w'=>(∃ q r,v = .tuple #[q,r]/\NatV w' q (lv A / b)/\NatV w' r (lv A % b))/\Ext w w':=by
 refine run250 _ _ _ _ _ _ ?_
 unfold vc250
 simp only [Int.toNat_natCast,zFg,zEu]
 have hA0:LimbsIn (w.alloc (.cells ((List.replicate A.length 0).map u32v).toArray 209)) w.heap.size (List.replicate A.length 0):=heap_alloc_new w _
 refine⟨⟨by omega,by omega,by omega,by omega⟩,fun vals w1=>∃ (j r:Nat) (D:List Nat),vals=[.int .i64 ((j:Int) - 1),.int .u64 r]/\j<=A.length/\D.length=A.length/\r<b/\okL D/\b*lv (D.drop j)+r=lv (A.drop j)/\LimbsIn w1 w.heap.size D/\Ext w w1,muD,
  ⟨A.length,0,_,by rw [zAf (by omega) (by omega)];rfl,Nat.le_refl _,List.length_replicate,hb0,zG2 _,?_,hA0,(Ext.refl w).alloc _⟩,?_⟩
 ·rw [List.drop_length,List.drop_of_length_le (by simp)];rfl
 rintro n n1 w1 ⟨j,r,D,hv,hj,hDl,hr,oD,hval,hD,he⟩
 cases hv
 have hbu:u64.wrap (b:Int)=(b:Int):=w64u (by omega)
 refine zAd (fun hge=>?_) (fun hlt=>?_)
 ·obtain⟨i,rfl⟩ : ∃ i,j=i+1:=⟨j - 1,by omega⟩
  obtain⟨ad,ha1,hcell⟩:=(ha.ext he).get (i:=i) (by omega)
  have e:(((i+1:Nat):Int) - 1)=(i:Int):=by omega
  have hx:=zAz oa i
  simp only [e]
  have hbz:decide (u64.wrap (b:Int)=0)=false:=decide_eq_false (by rw [hbu];omega)
  refine⟨ad,ha1,⟨by omega,by omega⟩,_,hcell,?_⟩
  rw [hbz,cond_false,cond_false]
  have hi:i<D.length:=by omega
  have hcE:=hD.cell hi
  refine⟨_,rfl,?_⟩
  simp only [Int.toNat_natCast,Nat.mul_one,zAk,Nat.zero_add]
  have hrb:r*1000000000+1000000000<=b*1000000000:=by rw [<- Nat.succ_mul];exact Nat.mul_le_mul_right _ hr
  have e2:u64.wrap (u64.wrap ((r:Int)*1000000000)+u64.wrap ((A.getD i 0:Nat):Int))=((r*1000000000+A.getD i 0:Nat):Int):=by
   rw [w64ui (n:=(r:Int)*1000000000) (by omega) (by omega),w64u (n:=A.getD i 0) (by omega),w64ui (by omega) (by omega)];omega
  rw [e2,hbu]
  have hst:=quo_step (a:=A.getD i 0) hb0 hval
  generalize hV:r*1000000000+A.getD i 0=V at hst
  have hVb:V / b<1000000000:=by
   rw [Nat.div_lt_iff_lt_mul hb0]
   rw [Nat.mul_comm 1000000000 b]
   omega
  have hVm:=Nat.mod_lt V hb0
  rw [show ((V:Nat):Int).tmod (b:Int)=((V % b:Nat):Int) from rfl,show ((V:Nat):Int).tdiv (b:Int)=((V / b:Nat):Int) from rfl,w64u (n:=V / b) (by omega),w32 (by omega),zAf (by omega) (by omega)]
  refine⟨⟨by omega,by omega⟩,⟨⟨_,hcE⟩,zBd (w:=w1.drew) hD⟩,⟨i,V % b,D.set i (V / b),rfl,by omega,by rw [List.length_set,hDl],hVm,zEr oD _ hVb,?_,LimbsIn.set (w:=w1.drew) hD _ _,Below.setCell (p:=⟨w.heap.size,i,none⟩) he.drew (Nat.le_refl _) _⟩,?_⟩
  ·rw [zAE (a:=A) (i:=i) (by omega),<- hst,zAE (a:=D.set i (V / b)) (i:=i) (by rw [List.length_set];omega),List.drop_set_of_lt (by omega)]
   congr 2
   rw [List.getD_eq_getElem?_getD,List.getElem?_set_self (by omega)];rfl
  ·simp only [muD];omega
 ·have:j=0:=by omega
  subst this
  rw [List.drop_zero,List.drop_zero] at hval
  have ho:=hD.own (B:=w.heap.size) (Nat.le_refl _) (by unfold maxLen;omega)
  rw [<- hDl]
  refine Called.of (c218 (Nat.le_refl _) (by omega) w1 (zBr ho)) ?_
  rintro v w2 ⟨rfl,rfl⟩
  refine⟨_,_,_,rfl,?_⟩
  rw [w32 (by omega)]
  have hr1:okL [r]:=by rw [zBX];exact⟨by omega,zBQ⟩
  have hL1:LimbsIn (w2.alloc (.cells #[.int .u32 (r:Int)] 209)) w2.heap.size [r]:=heap_alloc_new w2 _
  have ho1:=hL1.own (B:=w2.heap.size) (Nat.le_refl _) (by unfold maxLen;simp)
  refine Called.of (c218 (L:=[r]) (Nat.le_refl _) (by simp) _ (zBr ho1)) ?_
  rintro v w3 ⟨rfl,rfl⟩
  have hx:=(Ext.refl w2).alloc (.cells #[.int .u32 (r:Int)] 209)
  have hdiv:lv A / b=lv D:=by rw [<- hval,Nat.mul_add_div hb0,Nat.div_eq_of_lt hr,Nat.add_zero]
  have hmod:lv A % b=r:=by rw [<- hval,Nat.mul_add_mod,Nat.mod_eq_of_lt hr]
  refine⟨_,_,_,rfl,⟨_,_,rfl,?_,?_⟩,he.trans hx⟩
  ·rw [hdiv];exact (zCt ho oD).natV.ext hx
  ·rw [hmod]
   have:=(zCt ho1 hr1).natV
   rw [lv_one] at this
   exact this
def LimbsT (w:World) (b:Nat) (L:List Nat):Prop:=∃ tl:List Value,w.heap[b]? = some (.cells (L.map u32v++tl).toArray 209 (0,0))
theorem LimbsT.cell {w:World} {b:Nat} {L:List Nat} (h:LimbsT w b L) {i:Nat} (hi:i<L.length):w.cell? ⟨b,i,none⟩=some (u32v (L.getD i 0)):=by
 obtain⟨tl,h⟩:=h
 rw [zAm h,List.getElem?_toArray,List.getElem?_append_left (by simpa using hi)];simp [List.getD,hi]
theorem LimbsT.free {w:World} {b j:Nat} {L:List Nat} (h:LimbsT w b L):w.frozen? ⟨b,j,none⟩=false:=by
 obtain⟨tl,h⟩:=h
 exact zBd h
theorem LimbsT.set {w:World} {b:Nat} {L:List Nat} (h:LimbsT w b L) (i x:Nat) (hi:i<L.length):LimbsT (w.setCell ⟨b,i,none⟩ (u32v x)) b (L.set i x):=by
 obtain⟨tl,h⟩:=h
 refine⟨tl,?_⟩
 rw [zAY h]
 congr 2
 rw [List.map_set,<- List.set_append_left _ _ (by simpa using hi)]
 simp
theorem LimbsT.nat {w:World} {b:Nat} {L:List Nat} (h:LimbsT w b L):NatS w (some ⟨b,0,none⟩) L:=by
 refine .inr ⟨_,rfl,rfl,fun j v hj=>?_⟩
 have hl:j<L.length:=by have:=(List.getElem?_eq_some_iff.1 hj).1;simpa using this
 rw [zAk,Nat.zero_add,h.cell hl]
 rw [List.getElem?_map,List.getElem?_eq_getElem hl] at hj
 rw [zCM hl]
 exact hj
def sv (U:List Nat) (o m:Nat):Nat:=lv ((U.drop o).take m)
theorem sv_zero (U:List Nat) (o:Nat):sv U o 0=0:=by rw [sv,List.take_zero];rfl
theorem getD_drop (U:List Nat) (o i:Nat):(U.drop o).getD i 0=U.getD (o+i) 0:=by
 rw [List.getD_eq_getElem?_getD,List.getElem?_drop,<- List.getD_eq_getElem?_getD]
theorem zCc (U:List Nat) (o i:Nat):sv U o (i+1)=sv U o i+1000000000 ^ i*U.getD (o+i) 0:=by
 rw [sv,zA4,getD_drop];rfl
theorem zDG {U U' : List Nat} {o:Nat} : ∀ {m:Nat},(∀ i,i<m->U.getD (o+i) 0=U'.getD (o+i) 0)->sv U o m=sv U' o m
 | 0,_=>by rw [sv_zero,sv_zero]
 | m+1,h=>by
  rw [zCc,zCc,zDG (fun i hi=>h i (by omega)),h m (by omega)]
theorem sv_lt {U:List Nat} (h:okL U) (o:Nat) : ∀ m,sv U o m<1000000000 ^ m
 | 0=>by rw [sv_zero];simp
 | m+1=>by
  rw [zCc,Nat.pow_succ]
  have h1:=sv_lt h o m
  have h2:=zAz h (o+m)
  have h3:1000000000 ^ m*U.getD (o+m) 0<=1000000000 ^ m*999999999:=Nat.mul_le_mul_left _ (by omega)
  omega
theorem zBU {U:List Nat} {p:Nat} (x j:Nat) (hp:p<U.length):(U.set p x).getD j 0=if p=j then x else U.getD j 0:=by
 rw [List.getD_eq_getElem?_getD,List.getElem?_set]
 split
 ·rfl
 ·rw [<- List.getD_eq_getElem?_getD]
structure Seg (U U1:List Nat) (o m:Nat):Prop where
 len:U1.length=U.length
 out : ∀ j,j<o\/o+m<=j->U1.getD j 0=U.getD j 0
theorem Seg.refl (U:List Nat) (o m:Nat):Seg U U o m:=⟨rfl,fun _ _=>rfl⟩
theorem Seg.set {U U1:List Nat} {o m i:Nat} (h:Seg U U1 o m) (hi:i<m) (x:Nat) (hp:o+i<U.length):Seg U (U1.set (o+i) x) o m:=by
 refine⟨by rw [List.length_set,h.len],fun j hj=>?_⟩
 rw [zBU _ _ (by rw [h.len];exact hp),if_neg (by omega)]
 exact h.out j hj
theorem Seg.trans {U U1 U2:List Nat} {o m:Nat} (h:Seg U U1 o m) (k:Seg U1 U2 o m):Seg U U2 o m:=⟨k.len.trans h.len,fun j hj=>(k.out j hj).trans (h.out j hj)⟩
structure Only (b:Nat) (w w' : World):Prop where
 below:Below b w w'
 keep : ∀ k o,k≠b->w.heap[k]? = some o->w'.heap[k]? = some o
theorem Only.refl (b:Nat) (w:World):Only b w w:=⟨Below.refl _ _,fun _ _ _ h=>h⟩
theorem Only.drew {b:Nat} {w w' : World} (h:Only b w w'):Only b w w'.drew:=⟨h.below.drew,h.keep⟩
theorem Only.set {b j:Nat} {w w' : World} (h:Only b w w') (v:Value):Only b w (w'.setCell ⟨b,j,none⟩ v) :=
 ⟨Below.setCell (p:=⟨b,j,none⟩) h.below (Nat.le_refl _) v,fun k o hk ho=>(zAs (a:=⟨b,j,none⟩) hk).trans (h.keep k o hk ho)⟩
theorem Only.trans {b:Nat} {w w1 w2:World} (h:Only b w w1) (k:Only b w1 w2):Only b w w2:=⟨Below.trans h.below k.below,fun i o hi ho=>k.keep i o hi (h.keep i o hi ho)⟩
def NatK (w:World) (b:Nat) (v:Option Addr) (V:List Nat):Prop:=∀ w',Only b w w'->NatS w' v V
theorem NatK.only {w w1:World} {b:Nat} {v:Option Addr} {V:List Nat} (h:NatK w b v V) (ho:Only b w w1):NatK w1 b v V:=fun w' h'=>h w' (ho.trans h')
theorem sub_step {P s t lV su b c ui vi x b' : Nat} (h:s+t*lV=su+P*(b+c)) (hx:x+(c+t*vi) % 1000000000+b=ui+1000000000*b') {s1:Nat} (hs1:s1=s+P*x) :
  s1+t*(lV+P*vi)=su+P*ui+P*1000000000*(b' + (c+t*vi) / 1000000000):=by
 have e1:P*x+P*((c+t*vi) % 1000000000)+P*b=P*ui+P*(1000000000*b'):=by rw [<- Nat.mul_add,<- Nat.mul_add,hx,Nat.mul_add]
 have e2:P*((c+t*vi) % 1000000000)+P*(1000000000*((c+t*vi) / 1000000000))=P*c+P*(t*vi):=by rw [<- Nat.mul_add,<- Nat.mul_add];congr 1;omega
 have e3:t*(P*vi)=P*(t*vi):=Nat.mul_left_comm _ _ _
 have e4:P*1000000000*(b' + (c+t*vi) / 1000000000)=P*(1000000000*b')+P*(1000000000*((c+t*vi) / 1000000000)):=by rw [Nat.mul_assoc,Nat.mul_add,Nat.mul_add]
 rw [Nat.mul_add] at h
 rw [hs1,Nat.mul_add,e3,e4]
 omega
theorem carry_step {c P t lV vi:Nat} (h:c*P<=t*lV):(c+t*vi) / 1000000000*(P*1000000000)<=t*(lV+P*vi):=by
 have h1:(c+t*vi) / 1000000000*1000000000<=c+t*vi:=Nat.div_mul_le_self _ _
 have h2:(c+t*vi) / 1000000000*(P*1000000000)=(c+t*vi) / 1000000000*1000000000*P:=by rw [Nat.mul_comm P,Nat.mul_assoc]
 rw [h2]
 have h3:=Nat.mul_le_mul_right P h1
 rw [Nat.add_mul] at h3
 have h4:t*vi*P=t*(P*vi):=by rw [Nat.mul_assoc,Nat.mul_comm vi]
 rw [h4] at h3
 rw [Nat.mul_add]
 omega
theorem c264 {ub o m cu cv:Nat} {v:Option Addr} {U V:List Nat} {t:Nat} (w:World) (hU:LimbsT w ub U) (oU:okL U) (hm:o+m<=U.length) (hVm:V.length+1=m) (hv:NatK w ub v V) (oV:okL V) (ht:t<=1000000000) (hl:U.length<=4398046511104) :
  Ret prog 264 #[.slice (some ⟨ub,o,none⟩) m cu,.slice v V.length cv,.int .u64 t] w fun r w'=>(∃ b U1,r = .bool b/\Seg U U1 o m/\okL U1/\sv U1 o m+t*lv V=sv U o m+1000000000 ^ m*(cond b 1 0)/\LimbsT w' ub U1)/\Only ub w w':=by
 refine run264 _ _ _ _ _ _ _ _ _ ⟨fun vals w1=>∃ (i b c:Nat) (U1:List Nat),vals=[.int .i64 i,.int .i64 b,.int .u64 c]/\i<=m/\b<=1/\c<=1000000000/\c*1000000000 ^ i<=t*lv (V.take i)/\Seg U U1 o i/\okL U1 /\
   sv U1 o i+t*lv (V.take i)=sv U o i+1000000000 ^ i*(b+c)/\LimbsT w1 ub U1/\Only ub w w1,mu1 m,
  ⟨0,0,0,U,rfl,Nat.zero_le _,by omega,by omega,by omega,Seg.refl _ _ _,oU,?_,hU,Only.refl _ _⟩,?_⟩
 ·rw [List.take_zero,zCH];simp
 rintro n n1 n2 w1 ⟨i,b,c,U1,hv',hi,hb,hc,hcp,hseg,oU1,hval,hU1,hon⟩
 cases hv'
 refine zAd (fun hlt=>?_) (fun hge=>?_)
 ·have hi' : i<m:=by omega
  have hoi:o+i<U1.length:=by rw [hseg.len];omega
  have hcell:=hU1.cell hoi
  have hUi:U1.getD (o+i) 0=U.getD (o+i) 0:=hseg.out _ (.inr (Nat.le_refl _))
  have hu:=zAz oU1 (o+i)
  have hvi:=zAz oV i
  have htv:t*V.getD i 0<=1000000000*999999999:=Nat.mul_le_mul ht (by omega)
  intro K hK
  have next:K [.int .u64 ((c+t*V.getD i 0:Nat):Int)] w1:=by
   refine hK _ ⟨_,rfl,⟨by omega,by omega⟩,_,by rw [Int.toNat_natCast,Nat.mul_one,zAk];exact hcell,fun K1 hK1=>?_⟩
   generalize hKK:c+t*V.getD i 0=C at *
   rw [show ((C:Nat):Int).tmod 1000000000=((C % 1000000000:Nat):Int) from rfl]
   have e1:i64.wrap (i64.wrap (i64.wrap ((U1.getD (o+i) 0:Nat):Int) - (b:Int)) - i64.wrap ((C % 1000000000:Nat):Int))=((U1.getD (o+i) 0:Nat):Int) - b - ((C % 1000000000:Nat):Int):=by
    rw [zAf (n:=((U1.getD (o+i) 0:Nat):Int)) (by omega) (by omega),zAf (n:=((U1.getD (o+i) 0:Nat):Int) - (b:Int)) (by omega) (by omega),zAf (n:=((C % 1000000000:Nat):Int)) (by omega) (by omega),zAf (by omega) (by omega)]
   have fin : ∀ (b' x:Nat),b'<=1->x<1000000000->x+C % 1000000000+b=U1.getD (o+i) 0+1000000000*b'->K1 [.int .i64 b',.int .i64 x] w1:=by
    intro b' x hb' hx hs
    refine hK1 _ _ ⟨_,rfl,⟨by omega,by omega⟩,?_⟩
    rw [Int.toNat_natCast,Nat.mul_one,zAk,show ((C:Nat):Int).tdiv 1000000000=((C / 1000000000:Nat):Int) from rfl,w64u (by omega),w32 (by omega),zAh (by omega)]
    refine⟨⟨⟨_,hcell⟩,hU1.free⟩,⟨i+1,b',C / 1000000000,U1.set (o+i) x,rfl,by omega,hb',by omega,?_,?_,zEr oU1 _ hx,?_,hU1.set _ _ hoi,hon.set _⟩,?_⟩
    ·rw [zA4,Nat.pow_succ,<- hKK]
     exact carry_step hcp
    ·refine⟨by rw [List.length_set,hseg.len],fun j hj=>?_⟩
     rw [zBU _ _ hoi,if_neg (by omega)]
     exact hseg.out j (by omega)
    ·have h1:sv (U1.set (o+i) x) o i=sv U1 o i:=zDG fun j hj=>by rw [zBU _ _ hoi,if_neg (by omega)]
     rw [zA4,Nat.pow_succ,<- hKK,zCc U,<- hUi]
     rw [<- hKK] at hs
     exact sub_step hval hs (by rw [zCc,h1,zBU _ _ hoi,if_pos rfl])
    ·simp only [mu1,Int.toNat_natCast];omega
   rw [e1]
   refine zAd (fun hneg=>?_) (fun hpos=>?_)
   ·rw [zAf (by omega) (by omega)]
    have:=fin 1 (U1.getD (o+i) 0+1000000000 - b - C % 1000000000) (by omega) (by omega) (by omega)
    rw [show ((U1.getD (o+i) 0+1000000000 - b - C % 1000000000:Nat):Int)=((U1.getD (o+i) 0:Nat):Int) - b - ((C % 1000000000:Nat):Int)+1000000000 by omega] at this
    exact this
   ·have:=fin 0 (U1.getD (o+i) 0 - b - C % 1000000000) (by omega) (by omega) (by omega)
    rw [show ((U1.getD (o+i) 0 - b - C % 1000000000:Nat):Int)=((U1.getD (o+i) 0:Nat):Int) - b - ((C % 1000000000:Nat):Int) by omega] at this
    exact this
  refine zAd (fun hlv=>?_) (fun hgv=>?_)
  ·obtain⟨ad,ha,hcv⟩:=(hv _ hon).get (i:=i) (by omega)
   refine⟨ad,ha,⟨by omega,by omega⟩,_,hcv,?_⟩
   rw [w64u (n:=V.getD i 0) (by omega),<- Int.natCast_mul,w64u (by omega),<- Int.natCast_add,w64u (by omega)]
   exact next
  ·have:V.getD i 0=0:=by rw [List.getD,List.getElem?_eq_none (by omega)];rfl
   rw [this,Nat.mul_zero,Nat.add_zero] at next
   exact next
 ·have him:i=m:=by omega
  subst him
  rw [List.take_of_length_le (by omega)] at hval hcp
  have hVl:=lv_lt oV
  have hc0:c=0:=by
   rcases Nat.eq_zero_or_pos c with h | h
   ·exact h
   ·have h1:1*1000000000 ^ i<=c*1000000000 ^ i:=Nat.mul_le_mul_right _ h
    have h2:t*lv V<=1000000000*lv V:=Nat.mul_le_mul_right _ ht
    have h3:1000000000 ^ i=1000000000 ^ V.length*1000000000:=by rw [<- hVm,Nat.pow_succ]
    omega
  subst hc0
  refine⟨⟨_,U1,rfl,hseg,oU1,?_,hU1⟩,hon⟩
  rw [hval,Nat.add_zero]
  congr 2
  rcases Nat.eq_zero_or_pos b with h | h
  ·subst h;rfl
  ·have:b=1:=by omega
   subst this;rfl
theorem c265 {ub o m cu cv:Nat} {v:Option Addr} {U V:List Nat} (w:World) (hU:LimbsT w ub U) (oU:okL U) (hm:o+m<=U.length) (hVm:V.length<=m) (hv:NatK w ub v V) (oV:okL V) (hl:U.length<=4398046511104) :
  Ret prog 265 #[.slice (some ⟨ub,o,none⟩) m cu,.slice v V.length cv] w fun r w'=>(r = .tuple #[]/\∃ c U1,c<=1/\Seg U U1 o m/\okL U1/\sv U1 o m+1000000000 ^ m*c=sv U o m+lv V/\LimbsT w' ub U1)/\Only ub w w':=by
 refine run265 _ _ _ _ _ _ _ _ ⟨fun vals w1=>∃ (i c:Nat) (U1:List Nat),vals=[.int .i64 i,.int .u32 c]/\i<=m/\c<=1/\Seg U U1 o i/\okL U1 /\
   sv U1 o i+1000000000 ^ i*c=sv U o i+lv (V.take i)/\LimbsT w1 ub U1/\Only ub w w1,mu1 m,
  ⟨0,0,U,rfl,Nat.zero_le _,by omega,Seg.refl _ _ _,oU,?_,hU,Only.refl _ _⟩,?_⟩
 ·rw [List.take_zero,zCH]
 rintro n n1 w1 ⟨i,c,U1,hv',hi,hc,hseg,oU1,hval,hU1,hon⟩
 cases hv'
 refine zAd (fun hlt=>?_) (fun hge=>?_)
 ·have hi' : i<m:=by omega
  have hoi:o+i<U1.length:=by rw [hseg.len];omega
  have hcell:=hU1.cell hoi
  have hUi:U1.getD (o+i) 0=U.getD (o+i) 0:=hseg.out _ (.inr (Nat.le_refl _))
  have hu:=zAz oU1 (o+i)
  have hvi:=zAz oV i
  refine⟨_,rfl,⟨by omega,by omega⟩,_,by rw [Int.toNat_natCast,Nat.mul_one,zAk];exact hcell,Called.of (c252 w1.drew (hv _ hon.drew) i) ?_⟩
  rintro r w2 ⟨rfl,rfl⟩
  have e2:u32.wrap (((U1.getD (o+i) 0:Nat):Int)+((V.getD i 0:Nat):Int))=((U1.getD (o+i) 0+V.getD i 0:Nat):Int):=by rw [w32i (by omega) (by omega)];omega
  have e3:u32.wrap (((U1.getD (o+i) 0+V.getD i 0:Nat):Int)+(c:Int))=((U1.getD (o+i) 0+V.getD i 0+c:Nat):Int):=by rw [w32i (by omega) (by omega)];omega
  refine⟨_,rfl,Below.refl _ _,_,rfl,⟨by omega,by omega⟩,?_⟩
  rw [e2,e3,Int.toNat_natCast,Nat.mul_one,zAk]
  generalize hs:U1.getD (o+i) 0+V.getD i 0+c=s
  rw [show ((s:Nat):Int).tmod 1000000000=((s % 1000000000:Nat):Int) from rfl,show ((s:Nat):Int).tdiv 1000000000=((s / 1000000000:Nat):Int) from rfl,w32 (n:=s / 1000000000) (by omega),zAh (by omega)]
  refine⟨⟨⟨_,hcell⟩,LimbsT.free (w:=w1.drew) hU1⟩,⟨i+1,s / 1000000000,U1.set (o+i) (s % 1000000000),rfl,by omega,by omega,?_,zEr oU1 _ (Nat.mod_lt _ (by omega)),?_,LimbsT.set (w:=w1.drew) hU1 _ _ hoi,hon.drew.set _⟩,?_⟩
  ·refine⟨by rw [List.length_set,hseg.len],fun j hj=>?_⟩
   rw [zBU _ _ hoi,if_neg (by omega)]
   exact hseg.out j (by omega)
  ·have h1:sv (U1.set (o+i) (s % 1000000000)) o i=sv U1 o i:=zDG fun j hj=>by rw [zBU _ _ hoi,if_neg (by omega)]
   rw [zA4,Nat.pow_succ,Nat.mul_assoc,zCc U,<- hUi,zCc,h1,zBU _ _ hoi,if_pos rfl]
   have g1:1000000000 ^ i*(s % 1000000000)+1000000000 ^ i*(1000000000*(s / 1000000000))=1000000000 ^ i*s:=by rw [<- Nat.mul_add];congr 1;omega
   have g2:1000000000 ^ i*s=1000000000 ^ i*U1.getD (o+i) 0+1000000000 ^ i*V.getD i 0+1000000000 ^ i*c:=by rw [<- hs,Nat.mul_add,Nat.mul_add]
   omega
  ·simp only [mu1,Int.toNat_natCast];omega
 ·have him:i=m:=by omega
  subst him
  rw [List.take_of_length_le (by omega)] at hval
  exact⟨⟨rfl,c,U1,hc,hseg,oU1,hval,hU1⟩,hon⟩
end Go.Proofs.Si
