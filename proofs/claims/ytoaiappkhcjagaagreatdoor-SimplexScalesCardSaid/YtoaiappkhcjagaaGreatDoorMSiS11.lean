/- Part of the proof: SiS11, SiS12, SiS13, SiS14, SiS15, SiS16, SiS17. -/
import Derived.Test.YtoaiappkhcjagaaGreatDoorMSiY8
import Derived.Test.YtoaiappkhcjagaaGreatDoorSiV8
set_option linter.unusedVariables false
set_option linter.unusedSimpArgs false
namespace Go.Proofs.Si
open Go Go.V Go.Proofs Go.RowKit Go.Num Go.Tb Go.Proofs.Tryz
set_option maxRecDepth 100000
set_option maxHeartbeats 1000000 in
theorem c69 {S:Tb.Sys} {Rl:RowL} {ra ma:Option Addr} {rc mc:Nat} {y:Nat->Rat} (hf:Few S) (hC : ∀ i,i<S.m->∀ j,j<S.n->dg 20000000 (S.C i j)) (hK_ : ∀ i,i<S.m->dg 20000000 (S.K i)) (hy : ∀ i,i<S.m->dg 20000000 (y i))
  (hd1 : ∀ i,i<=S.m->∀ j,j<S.n->dg 80000000 (sumN i fun k=>S.C k j*y k)) (hd2 : ∀ i,i<=S.m->dg 80000000 (sumN i fun k=>S.K k*y k)) (w:World) (hR:RowsR w ra S Rl) (hm:QS w ma y S.m) (hg:Gl w) :
  Ret prog 69 #[.int .i64 S.n,.slice ra S.m rc,.slice ma S.m mc] w fun v w'=>(∃ b,v = .bool b/\(b=true↔zAQ S y))/\Ext w w':=by
 have hf':=hf
 unfold Few at hf'
 refine run69 _ _ _ _ _ _ _ _ _ ⟨⟨by omega,by omega,by omega,by omega⟩,?_⟩
 simp only [Int.toNat_natCast,zFf]
 have e0:madeCells (Value.agg #[Value.int .i64 0,.int .i64 0,.string { data:=#[] }]).cells (S.n*3)=(QL (fun _=>0) S.n).toArray:=zD8 S.n
 rw [e0]
 have y1:=Box.new w (QL (fun _=>0) S.n) 88
 have z1:=(Ext.refl w).alloc (.cells (QL (fun _=>0) S.n).toArray 88)
 generalize w.alloc (.cells (QL (fun _=>0) S.n).toArray 88)=W1 at y1 z1 ⊢
 have y2:=Box.new W1 [.slice none 0 0] 83
 have z2:=(Ext.refl W1).alloc (.cells [Value.slice none 0 0].toArray 83)
 rw [show (Obj.cells #[Value.slice none 0 0] 83) = .cells [Value.slice none 0 0].toArray 83 from rfl]
 generalize W1.alloc (.cells [Value.slice none 0 0].toArray 83)=W2 at y2 z2 ⊢
 refine⟨⟨⟨_,y2.blk.cell (j:=0) rfl⟩,y2.blk.free⟩,?_⟩
 have l1:=y1.lt
 have l2:=y2.lt
 have y1':=(y1.ext z2).away (zAe (b:=W1.heap.size) (o:=0) (v := .slice (some ⟨w.heap.size,0,none⟩) S.n S.n)) (by omega)
 have y2':=y2.set 0 (.slice (some ⟨w.heap.size,0,none⟩) S.n S.n)
 have z3:Ext w (W2.setCell ⟨W1.heap.size,0,none⟩ (.slice (some ⟨w.heap.size,0,none⟩) S.n S.n)):=(z1.trans z2).setCell z1.size _
 generalize W2.setCell ⟨W1.heap.size,0,none⟩ (.slice (some ⟨w.heap.size,0,none⟩) S.n S.n)=W3 at y1' y2' z3 ⊢
 have y3:=Box.new W3 zq 88
 have z4:=(Ext.refl W3).alloc (.cells zq.toArray 88)
 rw [show (Obj.cells #[Value.int .i64 0,.int .i64 0,.string { data:=#[] }] 88) = .cells zq.toArray 88 from rfl]
 generalize W3.alloc (.cells zq.toArray 88)=W4 at y3 z4 ⊢
 have y4:=Box.new W4 [.bool false] 4
 have z5:=(Ext.refl W4).alloc (.cells [Value.bool false].toArray 4)
 rw [show (Obj.cells #[Value.bool false] 4) = .cells [Value.bool false].toArray 4 from rfl]
 generalize W4.alloc (.cells [Value.bool false].toArray 4)=W5 at y4 z5 ⊢
 refine⟨⟨⟨_,y4.blk.cell (j:=0) rfl⟩,y4.blk.free⟩,?_⟩
 have l3:=y3.lt
 have q1:=y2'.lt
 have q0:=y1'.lt
 have hA0:CbAt w (W5.setCell ⟨W4.heap.size,0,none⟩ (.bool false)) W1.heap.size w.heap.size W3.heap.size W4.heap.size S.n (fun _=>0) 0 false:={
  x0:=((y2'.ext z4).ext z5).away zAe (by have:=(y2'.ext z4).lt;omega)
  xs:=((y1'.ext z4).ext z5).away zAe (by have:=(y1'.ext z4).lt;omega)
  x1:=by rw [zEp];exact (y3.ext z5).away zAe (by omega)
  x2:=y4.set 0 (.bool false)
  g0:=z1.size
  gs:=Nat.le_refl _
  g1:=z3.size
  g2:=(z3.trans z4).size
  ne:=by omega
  hx:=((z3.trans z4).trans z5).setCell (z3.trans z4).size _ }
 generalize W5.setCell ⟨W4.heap.size,0,none⟩ (.bool false)=W6 at hA0 ⊢
 refine⟨fun vals w1=>∃ (i:Nat) (st:Bool),vals=[.int .i64 i]/\i<=S.m/\CbAt w w1 W1.heap.size w.heap.size W3.heap.size W4.heap.size S.n (fun j=>sumN i fun k=>S.C k j*y k) (sumN i fun k=>S.K k*y k) st/\(st=true↔∃ k,k<i/\S.rel k=2/\0<y k)/\(∀ k,k<i->S.rel k≠3->0<=y k),mu1 S.m,⟨0,false,rfl,Nat.zero_le _,hA0,by simp,fun k hk=>by omega⟩,?_⟩
 rintro m w1 ⟨i,st,hv,hi,hA,hst,hadm⟩
 cases hv
 refine zAd (fun hlt=>?_) (fun hge=>?_)
 ·have him:i<S.m:=by omega
  obtain⟨ad,ha,hc,_⟩:=(hR.ext hA.hx).get him
  have hN:=Box.new w1 zr 90
  have hxp:Ext w1 (setCells (w1.alloc (.cells zr.toArray 90)) ⟨w1.heap.size,0,none⟩ 0 (rowc S Rl i)):=((Ext.refl w1).alloc _).put (Nat.le_refl _) _ _
  have hP:=hN.put (rowc S Rl i) (by rfl)
  have hAp:=hA.ext hxp
  obtain⟨bb,oo,hma,hmv⟩:=(hm.ext hAp.hx).get him
  refine⟨ad,ha,⟨by omega,hlt⟩,_,_,_,_,_,_,_,hc,hN.blk.writable (by decide),fun K hK=>?_⟩
  refine⟨_,hma,⟨by omega,hlt⟩,_,_,_,hmv,Called.of (c75 ((hy i him).mono (by decide)) _ (hg.ext hAp.hx)) ?_⟩
  rintro v w4 ⟨rfl,he4⟩
  have hA4:=hAp.ext he4
  have hP4:=hP.ext he4
  refine⟨_,rfl,?_⟩
  have bad : ∀ u,Ext w u->¬ (S.rel i≠3->0<=y i)->K [.bool true] u:=fun u hu h=>hK true u ⟨⟨false,rfl,by simp only [Bool.false_eq_true,false_iff];exact fun h2=>h (h2.1 i him)⟩,hu⟩
  have good : ∀ u,Ext w4 u->(S.rel i≠3->0<=y i)->K [.bool false] u:=by
   intro u hu h
   refine hK false u ?_
   rw [cond_false]
   have hAu:=(hA4.ext hu).ext (Ext.refl _).drew
   obtain⟨bb,oo,hma,hmv⟩:=(hm.ext hAu.hx).get him
   have hPu:=(hP4.ext hu).ext (Ext.refl _).drew
   refine⟨_,_,_,_,_,_,_,hPu.blk.all,_,hma,⟨by omega,hlt⟩,_,_,_,hmv,?_⟩
   refine Called.of (c115 hf (hC i him) (hK_ i him) (hy i him) (hd1 i (by omega)) (hd2 i (by omega)) w _ ((hR.2 i him).ext hAu.hx) hAu (fun w' h'=>(hR.2 i him).ext h') hg) ?_
   rintro r w3 ⟨rfl,hA3,_⟩
   rw [zAh (by omega)]
   refine⟨rfl,⟨i+1,_,rfl,him,hA3,?_,fun k hk hr=>?_⟩,by simp only [mu1,Int.toNat_natCast];omega⟩
   ·rw [Bool.or_eq_true,hst,Bool.and_eq_true,decide_eq_true_iff,decide_eq_true_iff]
    constructor
    ·rintro (⟨k,h1,h2⟩ | h1)
     ·exact⟨k,by omega,h2⟩
     ·exact⟨i,by omega,h1⟩
    ·rintro⟨k,h1,h2⟩
     by_cases e:k=i
     ·subst e;exact .inr h2
     ·exact .inl ⟨k,by omega,h2⟩
   ·by_cases e:k=i
    ·subst e;exact h hr
    ·exact hadm k (by omega) hr
  refine zAd (fun h=>?_) (fun h=>good _ (Ext.refl _) fun _=>?_)
  ·have hneg:=sgnQ_neg.1 h
   refine⟨_,hP4.blk.cell (j:=1) rfl,?_⟩
   by_cases h3:S.rel i=3
   ·rw [show ((S.rel i:Int) != 3)=false from by rw [h3];rfl]
    exact good _ (Ext.refl _) fun h=>absurd h3 h
   ·rw [show ((S.rel i:Int) != 3)=true from by rw [bne_iff_ne];omega]
    exact bad _ hA4.hx fun h=>Rat.not_le.2 hneg (h h3)
  ·exact Rat.not_lt.1 fun h2=>h (sgnQ_neg.2 h2)
 have ei:i=S.m:=by omega
 subst ei
 have hco : ∀ j,(sumN S.m fun k=>S.C k j*y k)=comb S y j:=fun j=>zAi fun k _=>Rat.mul_comm _ _
 have hcK:(sumN S.m fun k=>S.K k*y k)=combK S y:=zAi fun k _=>Rat.mul_comm _ _
 refine⟨_,_,_,hA.x0.blk.cell (j:=0) rfl,fun vals w5=>∃ j:Nat,vals=[.int .i64 j]/\j<=S.n/\(∀ k,k<j->comb S y k=0)/\Ext w1 w5,mu1 S.n,⟨0,rfl,Nat.zero_le _,fun k hk=>by omega,Ext.refl _⟩,?_⟩
 rintro m w5 ⟨j,hv,hj,hz,he5⟩
 cases hv
 have hA5:=hA.ext he5
 refine zAd (fun hlt=>?_) (fun hge=>?_)
 ·have hjn:j<S.n:=by omega
  have hq:=hA5.xs.qget hjn
  simp only [hco] at hq
  have hN:=Box.new w5 zq 88
  have hxp:Ext w5 (setCells (w5.alloc (.cells zq.toArray 88)) ⟨w5.heap.size,0,none⟩ 0 (qc (comb S y j))):=((Ext.refl w5).alloc _).put (Nat.le_refl _) _ _
  have hP:=hN.put (qc (comb S y j)) (by rfl)
  refine⟨_,rfl,⟨by omega,hlt⟩,_,_,_,hq,hN.blk.writable (by decide),_,_,_,hP.blk.all,Called.of (c75 (by rw [<- hco];exact (hd1 S.m (Nat.le_refl _) j hjn).mono (by decide)) _ (hg.ext (hA5.hx.trans hxp))) ?_⟩
  rintro v w6 ⟨rfl,he6⟩
  refine⟨_,rfl,zF3 (p:=True) (sgn_ne _) (fun hnz=>⟨⟨false,rfl,?_⟩,(hA5.hx.trans hxp).trans he6⟩) (fun hzz=>?_)⟩
  ·simp only [Bool.false_eq_true,false_iff]
   intro h
   have hnz:comb S y j≠0:=by simpa using hnz
   exact hnz (h.2.1 j hjn)
  ·have hzz:comb S y j=0:=by simpa using hzz
   rw [zAh (by omega)]
   refine⟨⟨j+1,rfl,hjn,fun k hk=>?_,(he5.trans hxp).trans he6⟩,by simp only [mu1,Int.toNat_natCast];omega⟩
   by_cases e:k=j
   ·rw [e];exact hzz
   ·exact hz k (by omega)
 have ej:j=S.n:=by omega
 subst ej
 intro K1 hK1
 have hx1:=hA5.x1
 rw [hcK] at hx1
 have dB:dg 400000000 (combK S y):=by rw [<- hcK];exact (hd2 S.m (Nat.le_refl _)).mono (by decide)
 have hrs:zAQ S y↔(combK S y<0\/combK S y=0/\st=true):=by
  unfold zAQ
  rw [hst]
  exact⟨fun h=>h.2.2,fun h=>⟨hadm,hz,h⟩⟩
 refine⟨_,_,_,hx1.blk.all,Called.of (c75 dB _ (hg.ext hA5.hx)) ?_⟩
 rintro v w8 ⟨rfl,he8⟩
 refine⟨_,rfl,zAd (fun h=>hK1 _ _ ⟨⟨true,rfl,by simp only [true_iff];exact hrs.2 (.inl (sgnQ_neg.1 h))⟩,hA5.hx.trans he8⟩) (fun h=>?_)⟩
 have hnn : ¬ combK S y<0:=fun h2=>h (sgnQ_neg.2 h2)
 refine⟨_,_,_,(hx1.ext he8).blk.all,Called.of (c75 dB _ (hg.ext (hA5.hx.trans he8))) ?_⟩
 rintro v w9 ⟨rfl,he9⟩
 refine⟨_,rfl,zAa (fun h2=>?_) (fun h2=>hK1 _ _ ⟨⟨false,rfl,?_⟩,(hA5.hx.trans he8).trans he9⟩)⟩
 ·have h2:combK S y=0:=sgnQ_zero.1 (by simpa using h2)
  refine⟨_,((hA5.ext he8).ext he9).x2.blk.cell (j:=0) rfl,hK1 _ _ ⟨⟨st,rfl,?_⟩,(hA5.hx.trans he8).trans he9⟩⟩
  rw [hrs]
  exact⟨fun h => .inr ⟨h2,h⟩,fun h=>h.elim (fun h=>absurd h hnn) fun h=>h.2⟩
 ·have h2 : ¬ combK S y=0:=fun e=>by rw [sgnQ_zero.2 e] at h2;cases h2
  simp only [Bool.false_eq_true,false_iff]
  exact fun h=>(hrs.1 h).elim hnn fun h=>h2 h.1
noncomputable def rd (s:ByteArray):Rat:=open Classical in if h : ∃ q,bs s=txtQ q then Classical.choose h else 0
theorem rd_of {s:ByteArray} {q:Rat} (h:bs s=txtQ q):rd s=q:=by
 unfold rd
 rw [dif_pos ⟨q,h⟩]
 exact zA1 ((Classical.choose_spec (⟨q,h⟩ : ∃ q,bs s=txtQ q)).symm.trans h)
theorem rd_ok {s:ByteArray} (h:okQ (bs s)=true):bs s=txtQ (rd s):=by
 obtain⟨q,hq⟩:=zB5.1 h
 rw [rd_of hq,hq]
theorem ok_of {s:ByteArray} {q:Rat} (h:bs s=txtQ q):okQ (bs s)=true:=zB5.2 ⟨q,h⟩
theorem rd_mk (q:Rat):rd (mk (txtQ q))=q:=rd_of (bs_mk _)
theorem rd_dg {s:ByteArray} {k:Nat} (h:okQ (bs s)=true) (hs:s.size<=k):dg (k+1) (rd s):=zDY (by rw [<- rd_ok h,<- zAg];exact hs)
noncomputable def sysX (X:TX) (n:Nat):Tb.Sys:={ n:=n,m:=X.m,C:=fun i j=>rd (X.C i j),rel:=fun i=>(X.rel i).toNat,K:=fun i=>rd (X.K i) }
theorem zBh {X:TX} {n:Nat} (h : ∀ i,i<X.m->okRow X n i):Reads X (sysX X n) where
 m:=rfl
 n:=fun i hi=>by have:=(h i hi).1;show X.n i=n;omega
 C:=fun i hi j hj=>rd_ok ((h i hi).2.2.2.1 j (by have:=(h i hi).1;replace hj:j<n:=hj;omega))
 rel:=fun i hi=>by
  have h1:=(h i hi).2.1
  have h2:=(h i hi).2.2.1
  show X.rel i=((X.rel i).toNat:Int)/\1<=(X.rel i).toNat/\(X.rel i).toNat<=3
  omega
 K:=fun i hi=>rd_ok (h i hi).2.2.2.2
structure Agree (S S' : Tb.Sys):Prop where
 n:S.n=S'.n
 m:S.m=S'.m
 C : ∀ i,i<S.m->∀ j,j<S.n->S.C i j=S'.C i j
 rel : ∀ i,i<S.m->S.rel i=S'.rel i
 K : ∀ i,i<S.m->S.K i=S'.K i
theorem Reads.agree {X:TX} {S S' : Tb.Sys} (h:Reads X S) (h' : Reads X S') (hn:S.n=S'.n):Agree S S' where
 n:=hn
 m:=h.m.trans h'.m.symm
 C:=fun i hi j hj=>zA1 ((h.C i (by rw [<- h.m];exact hi) j hj).symm.trans (h'.C i (by rw [<- h.m];exact hi) j (by rw [<- hn];exact hj)))
 rel:=fun i hi=>by
  have h1:=(h.rel i (by rw [<- h.m];exact hi)).1
  have h2:=(h'.rel i (by rw [<- h.m];exact hi)).1
  omega
 K:=fun i hi=>zA1 ((h.K i (by rw [<- h.m];exact hi)).symm.trans (h'.K i (by rw [<- h.m];exact hi)))
theorem Agree.lhs {S S' : Tb.Sys} (h:Agree S S') {x x' : Nat->Rat} (hx : ∀ j,j<S.n->x j=x' j) {i:Nat} (hi:i<S.m):Tb.lhs S x i=Tb.lhs S' x' i:=by
 unfold Tb.lhs
 rw [<- h.n]
 exact zAi fun j hj=>by rw [h.C i hi j hj,hx j hj]
theorem Agree.meets {S S' : Tb.Sys} (h:Agree S S') {x x' : Nat->Rat} (hx : ∀ j,j<S.n->x j=x' j) {i:Nat} (hi:i<S.m):meets S x i↔meets S' x' i:=by
 unfold Si.meets
 rw [h.lhs hx hi,h.K i hi,h.rel i hi]
theorem sat_meets {S:Tb.Sys} {x:Nat->Rat} : Sat S x↔∀ i,i<S.m->meets S x i:=Iff.rfl
theorem Agree.sat {S S' : Tb.Sys} (h:Agree S S') {x x' : Nat->Rat} (hx : ∀ j,j<S.n->x j=x' j):Sat S x↔Sat S' x':=by
 rw [sat_meets,sat_meets,<- h.m]
 exact⟨fun k i hi=>(h.meets hx hi).1 (k i hi),fun k i hi=>(h.meets hx hi).2 (k i hi)⟩
theorem Agree.comb {S S' : Tb.Sys} (h:Agree S S') {y y' : Nat->Rat} (hy : ∀ k,k<S.m->y k=y' k) {j:Nat} (hj:j<S.n):Tb.comb S y j=Tb.comb S' y' j:=by
 unfold Tb.comb
 rw [<- h.m]
 exact zAi fun k hk=>by rw [h.C k hk j hj,hy k hk]
theorem Agree.combK {S S' : Tb.Sys} (h:Agree S S') {y y' : Nat->Rat} (hy : ∀ k,k<S.m->y k=y' k):Tb.combK S y=Tb.combK S' y':=by
 unfold Tb.combK
 rw [<- h.m]
 exact zAi fun k hk=>by rw [h.K k hk,hy k hk]
theorem Agree.adm {S S' : Tb.Sys} (h:Agree S S') {y y' : Nat->Rat} (hy : ∀ k,k<S.m->y k=y' k):Adm S y↔Adm S' y':=by
 unfold Adm
 rw [<- h.m]
 exact⟨fun g k hk=>by rw [<- h.rel k hk,<- hy k hk];exact g k hk,fun g k hk=>by rw [h.rel k hk,hy k hk];exact g k hk⟩
theorem Agree.strict {S S' : Tb.Sys} (h:Agree S S') {y y' : Nat->Rat} (hy : ∀ k,k<S.m->y k=y' k):zEe S y↔zEe S' y':=by
 unfold zEe
 rw [<- h.m]
 exact⟨fun ⟨k,hk,a,b⟩=>⟨k,hk,by rw [<- h.rel k hk];exact a,by rw [<- hy k hk];exact b⟩,fun ⟨k,hk,a,b⟩=>⟨k,hk,by rw [h.rel k hk];exact a,by rw [hy k hk];exact b⟩⟩
theorem Agree.refutes {S S' : Tb.Sys} (h:Agree S S') {y y' : Nat->Rat} (hy : ∀ k,k<S.m->y k=y' k):zAQ S y↔zAQ S' y':=by
 unfold zAQ
 rw [h.adm hy,h.combK hy,h.strict hy,<- h.n]
 constructor
 ·rintro⟨a,b,c⟩
  exact⟨a,fun j hj=>by rw [<- h.comb hy hj];exact b j hj,c⟩
 ·rintro⟨a,b,c⟩
  exact⟨a,fun j hj=>by rw [h.comb hy hj];exact b j hj,c⟩
theorem PtReads.rd {t:Nat->ByteArray} {n:Nat} {x:Nat->Rat} (h:PtReads t n x) : ∀ j,j<n->x j=rd (t j):=fun j hj=>(rd_of (h j hj)).symm
theorem zDd {t:Nat->ByteArray} {n:Nat} (h : ∀ j,j<n->okQ (bs (t j))=true):PtReads t n fun j=>rd (t j):=fun j hj=>rd_ok (h j hj)
def holdsX (X:TX) (nx:Nat) (t:Nat->ByteArray):Prop:=(∀ j,j<nx->okQ (bs (t j))=true)/\(∀ i,i<X.m->okRow X nx i)/\Sat (sysX X nx) fun j=>rd (t j)
theorem zEv {X:TX} {nx:Nat} {t:Nat->ByteArray} : zFZ X nx t↔holdsX X nx t:=by
 constructor
 ·rintro⟨h1,h2,h3⟩
  exact⟨h1,h2,fun i hi=>h3 _ _ (zBh h2) rfl (zDd h1) i hi⟩
 ·rintro⟨h1,h2,h3⟩
  refine⟨h1,h2,fun S x hS hn hx i hi=>?_⟩
  have ha:=(zBh (n:=nx) h2).agree hS hn.symm
  exact (ha.meets (fun j hj=>(hx.rd j hj).symm) hi).1 (h3 i hi)
structure DotsY (S:Tb.Sys) (y:Nat->Rat) (d:Nat):Prop where
 c : ∀ i,i<=S.m->∀ j,j<S.n->dg d (sumN i fun k=>S.C k j*y k)
 k : ∀ i,i<=S.m->dg d (sumN i fun k=>S.K k*y k)
def checkX (X:TX) (n:Int) (mf:Nat) (t:Nat->ByteArray):Prop:=okRows X n/\mf=X.m/\(∀ j,j<mf->okQ (bs (t j))=true)/\zAQ (sysX X n.toNat) fun k=>rd (t k)
set_option maxHeartbeats 1000000 in
theorem c26 {X:TX} {A:TA} {n:Int} {a fa:Option Addr} {c mf fc:Nat} {t:Nat->ByteArray} (hX:Tame X) (hmf:mf<=1048576) (hts : ∀ j,j<mf->(t j).size<=1000000000)
  (hD:okRows X n->mf=X.m->(∀ j,j<mf->okQ (bs (t j))=true)->(∀ i,i<X.m->∀ j,j<n.toNat->dg 20000000 (rd (X.C i j)))/\(∀ i,i<X.m->dg 20000000 (rd (X.K i)))/\(∀ i,i<X.m->dg 20000000 (rd (t i)))/\DotsY (sysX X n.toNat) (fun k=>rd (t k)) 80000000)
  (w:World) (hR:RowsT w a X A) (hf:SS w fa t mf) (hg:Gl w) :
  Ret prog 26 #[.int .i64 n,.slice a X.m c,.slice fa mf fc] w fun v w'=>(∃ b,v = .bool b/\(b=true↔checkX X n mf t))/\Ext w w':=by
 refine run26 _ _ _ _ _ _ _ _ _ fun K hK=>Called.of (c68 hX w hR hg) ?_
 rintro v w1 ⟨⟨b,rfl,hb⟩,he1⟩
 have no : ∀ w2,Ext w w2->¬ checkX X n mf t->K [.bool true] w2:=fun w2 h2 h=>hK true w2 ⟨⟨false,rfl,by simp [h]⟩,h2⟩
 refine⟨_,rfl,zAa (fun h1=>no _ he1 fun h=>?_) (fun h1=>?_)⟩
 ·have h1:b=false:=by simpa using h1
  rw [hb.2 h.1] at h1;cases h1
 have h1:b=true:=by simpa using h1
 have hok:=hb.1 h1
 refine zAa (fun h2=>no _ he1 fun h=>?_) (fun h2=>?_)
 ·have h2:(mf:Int)≠(X.m:Int):=by simpa using h2
  exact h2 (by rw [h.2.1])
 have h2:(mf:Int)=(X.m:Int):=by simpa using h2
 have h2:mf=X.m:=by omega
 refine Called.of (c62 (by omega) w1 (hf.ext he1) hts (hg.ext he1)) ?_
 rintro v w2 ⟨⟨b3,rfl,hb3⟩,he2⟩
 have hx2:=he1.trans he2
 refine⟨_,rfl,?_⟩
 cases b3 with
 | false=>exact no _ hx2 fun h=>by have:=hb3.2 h.2.2.1;cases this
 | true =>
  refine hK false w2 ?_
  rw [cond_false]
  have hft:=hb3.1 rfl
  obtain⟨d1,d2,d3,d4⟩:=hD hok h2 hft
  have hn:((n.toNat:Nat):Int)=n:=Int.toNat_of_nonneg hok.1
  have hall : ∀ i,i<X.m->okRow X (n.toNat:Nat) i:=fun i hi=>by rw [hn];exact hok.2.2.2 i hi
  have hS:=zBh hall
  have hfew:Few (sysX X n.toNat):=by
   have a1:=hok.2.1
   have a2:=hok.2.2.1
   unfold Few
   show n.toNat+X.m<=1048576
   omega
  refine Called.of (c65 hfew hX hS w2 (hR.ext hx2) (hg.ext hx2)) ?_
  rintro v w3 ⟨Rl,rfl,hRl,he3⟩
  have hx3:=hx2.trans he3
  refine⟨_,_,_,rfl,Called.of (c64 (f:=fun k=>rd (t k)) (by omega) w3 (hf.ext hx3) hts (zDd hft) (hg.ext hx3)) ?_⟩
  rintro v w4 ⟨rfl,hL,he4⟩
  have hx4:=hx3.trans he4
  refine⟨_,_,_,rfl,?_⟩
  have h69:=c69 (S:=sysX X n.toNat) (Rl:=Rl) (ra:=some ⟨w2.heap.size,0,none⟩) (rc:=(sysX X n.toNat).m) (mc:=mf) (y:=fun k=>rd (t k)) hfew d1 d2 d3 d4.c d4.k w4 (hRl.ext he4) (by rw [show (sysX X n.toNat).m=mf from h2.symm];exact hL.qs) (hg.ext hx4)
  rw [show ((sysX X n.toNat).n:Int)=n from hn,show Value.slice (some ⟨w3.heap.size,0,none⟩) (sysX X n.toNat).m mf=Value.slice (some ⟨w3.heap.size,0,none⟩) mf mf by rw [show (sysX X n.toNat).m=mf from h2.symm]] at h69
  refine Called.of h69 ?_
  rintro v w5 ⟨⟨b5,rfl,hb5⟩,he5⟩
  refine⟨_,rfl,⟨_,rfl,?_⟩,hx4.trans he5⟩
  rw [hb5]
  exact⟨fun h=>⟨hok,h2,hft,h⟩,fun h=>h.2.2.2⟩
def LpX (X:TX) (n:Int) (w0 w:World) (v:Value):Prop :=
  (¬ okRows X n/\v = .tuple #[.agg #[.int .i64 0,.slice none 0 0,.slice none 0 0],.int .i64 1]) \/
  (okRows X n/\∃ b:Nat,w0.heap.size<=b /\
    ((∃ pt,v = .tuple #[.agg #[.int .i64 1,.slice (some ⟨b,0,none⟩) n.toNat n.toNat,.slice none 0 0],.int .i64 0]/\zBG w b pt n.toNat/\Sat (sysX X n.toNat) pt/\∀ j,j<n.toNat->dg 14000000 (pt j)) \/
     (∃ y,v = .tuple #[.agg #[.int .i64 2,.slice none 0 0,.slice (some ⟨b,0,none⟩) X.m X.m],.int .i64 0]/\zBG w b y X.m/\zAQ (sysX X n.toNat) y/\∀ k,dg 2000000 (y k))))
theorem okRows.nat {X:TX} {n:Int} (h:okRows X n) : ∀ i,i<X.m->okRow X (n.toNat:Nat) i:=fun i hi=>by rw [Int.toNat_of_nonneg h.1];exact h.2.2.2 i hi
theorem c28x {X:TX} {A:TA} {n:Int} {a:Option Addr} {c:Nat} (hX:Tame X) (hF : ∀ S,Reads X S->(S.n:Int)=n->Fits S) (w:World) (hR:RowsT w a X A) (hg:Gl w) :
  Ret prog 28 #[.int .i64 n,.slice a X.m c] w fun v w'=>LpX X n w w' v/\Ext w w':=by
 refine (c28 hX hF w hR hg).mono ?_
 rintro v w' ⟨h,he⟩
 refine⟨?_,he⟩
 rcases h with h | ⟨hok,S,b,hS,hn,hb,h⟩
 ·exact .inl h
 have hn' : S.n=n.toNat:=by omega
 have hag:=hS.agree (zBh hok.nat) (show S.n=n.toNat by omega)
 refine .inr ⟨hok,b,hb,?_⟩
 rw [<- hn',<- hS.m]
 rcases h with ⟨pt,h1,h2,h3,h4⟩ | ⟨y,h1,h2,h3,h4⟩
 ·exact .inl ⟨pt,h1,h2,by rw [hn'];exact (hag.sat fun _ _=>rfl).1 h3,h4⟩
 ·exact .inr ⟨y,h1,h2,by rw [hn'];exact (hag.refutes fun _ _=>rfl).1 h3,h4⟩
theorem delta_dg {S:Tb.Sys} {s:Dy} {j v:Nat} {up:Bool} (hF:Fits S) (hI:Inv S s) (hj:j<S.n) (hv:v<S.n+S.m):dg 2000002 (delta s j (oneQ up) v):=by
 unfold delta
 split
 ·exact (zCE up).mono (by decide)
 ·split
  ·rename_i h
   obtain⟨h1,_⟩:=(hI.dict.perm.lin v hv).1 h
   exact ((hF.a s hI _ (by omega) j hj).mul (zCE up)).mono (by decide)
  ·exact zCy (by decide)
theorem dual_dg {S:Tb.Sys} {s:Dy} {d:Nat->Rat} {k e:Nat} (he:0<e) (hI:Inv S s) (hd : ∀ j,j<S.n->dg e (d j)):dg e (dual S s d k):=by
 unfold dual
 by_cases h : ∃ j,j<S.n/\s.cols j=S.n+k
 ·obtain⟨j,hj,hc⟩:=h
  rw [zAZ hj _ fun i hi hne=>if_neg fun e2=>hne (hI.dict.perm.inj i j hi hj (e2.trans hc.symm)),if_pos hc]
  exact hd j hj
 ·rw [zAM fun i hi=>if_neg fun e2=>h ⟨i,hi,e2⟩]
  exact zCy he
def RayX (S:Tb.Sys) (c r:Nat->Rat):Prop:=(0<sumN S.n fun v=>c v*r v)/\∀ k,k<S.m->lhs S r k<=0/\(S.rel k=3->lhs S r k=0)
structure BestX (S:Tb.Sys) (c pt y:Nat->Rat) (att:Bool):Prop where
 adm:Adm S y
 cb : ∀ j,j<S.n->comb S y j=c j
 rel : ∀ k,k<S.m->lhs S pt k<=S.K k/\(S.rel k=3->lhs S pt k=S.K k)
 val:(sumN S.n fun v=>c v*pt v)=combK S y
 sat:att=true->Sat S pt
 strict:att=false->zEe S y
def okMax (X:TX) (n:Int) (mc:Nat) (t:Nat->ByteArray):Prop:=okRows X n/\(mc:Int)=n/\∀ j,j<mc->okQ (bs (t j))=true
abbrev ob (k:Int) (u:ByteArray) (b:Bool) (p d r:Value):List Value:=[.int .i64 k,.string u,.bool b,p,d,r]
abbrev opv (k:Int) (u:ByteArray) (b:Bool) (p d r:Value) (e:Int):Value := .tuple #[.agg #[.int .i64 k,.string u,.bool b,p,d,r],.int .i64 e]
abbrev nsl:Value := .slice none 0 0
def OptX (X:TX) (n:Int) (mc:Nat) (t:Nat->ByteArray) (w0 w:World) (v:Value):Prop :=
  (¬ okMax X n mc t/\v=opv 0 { data:=#[] } false nsl nsl nsl 1) \/
  (okMax X n mc t /\
    ((∃ b y,w0.heap.size<=b/\v=opv 0 { data:=#[] } false nsl (.slice (some ⟨b,0,none⟩) X.m X.m) nsl 0/\zBG w b y X.m/\zAQ (sysX X n.toNat) y/\∀ k,dg 2000000 (y k)) \/
     (∃ b1 b2 pt r,w0.heap.size<=b1/\w0.heap.size<=b2/\v=opv 2 { data:=#[] } false (.slice (some ⟨b1,0,none⟩) n.toNat n.toNat) nsl (.slice (some ⟨b2,0,none⟩) n.toNat n.toNat) 0/\zBG w b1 pt n.toNat/\zBG w b2 r n.toNat /\
       Sat (sysX X n.toNat) pt/\(∀ j,j<n.toNat->dg 14000000 (pt j))/\RayX (sysX X n.toNat) (fun j=>rd (t j)) r/\∀ j,j<n.toNat->dg 2000002 (r j)) \/
     (∃ b1 b2 u att pt y,w0.heap.size<=b1/\w0.heap.size<=b2/\v=opv 1 u att (.slice (some ⟨b1,0,none⟩) n.toNat n.toNat) (.slice (some ⟨b2,0,none⟩) X.m X.m) nsl 0/\bs u=txtQ (combK (sysX X n.toNat) y)/\dg 60000000 (combK (sysX X n.toNat) y)/\zBG w b1 pt n.toNat/\zBG w b2 y X.m /\
       BestX (sysX X n.toNat) (fun j=>rd (t j)) pt y att/\(∀ j,j<n.toNat->dg 14000000 (pt j))/\∀ k,dg 2000000 (y k))))
abbrev zb:List Value:=[.slice none 0 0,.int .i64 0,.int .i64 0,.string { data:=#[] },.int .i64 0,.int .i64 0,.string { data:=#[] },.slice none 0 0]
theorem bx1 {w:World} {b ty:Nat} {r d:Value} {x:V2} (h:Box w b ty (bestc r x d)):vcells w ⟨b,1,none⟩ 0 (qc x.1):=h.blk.vcells fun j hj=>by
 have:j<3:=hj
 match j,this with
 | 0,_=>rfl
 | 1,_=>rfl
 | 2,_=>rfl
theorem bx2 {w:World} {b ty:Nat} {r d:Value} {x:V2} (h:Box w b ty (bestc r x d)):vcells w ((⟨b,1,none⟩:Addr).add 3) 0 (qc x.2):=by
 rw [zAk]
 exact h.blk.vcells fun j hj=>by
  have:j<3:=hj
  match j,this with
  | 0,_=>rfl
  | 1,_=>rfl
  | 2,_=>rfl
set_option maxHeartbeats 600000 in
theorem c30 {X:TX} {A:TA} {n:Int} {a ca:Option Addr} {c mc cC:Nat} {t:Nat->ByteArray} (hX:Tame X) (hmc:mc<=1048576) (hts : ∀ j,j<mc->(t j).size<=1000000000)
  (hF:okRows X n->Fits (sysX X n.toNat)) (hC:okMax X n mc t->FitsC (sysX X n.toNat) (fun j=>rd (t j))/\∀ s,Inv (sysX X n.toNat) s->∀ j,j<n.toNat->dg 2000000 (costs (sysX X n.toNat) s (fun j=>rd (t j)) j))
  (w:World) (hR:RowsT w a X A) (hc:SS w ca t mc) (hg:Gl w) :
  Ret prog 30 #[.int .i64 n,.slice a X.m c,.slice ca mc cC] w fun v w'=>OptX X n mc t w w' v/\Ext w w':=by
 have z1:=(Ext.refl w).alloc (.cells (ob 0 { data:=#[] } false nsl nsl nsl).toArray 38)
 have y1:=Box.new w (ob 0 { data:=#[] } false nsl nsl nsl) 38
 refine run30 _ _ _ _ _ _ _ _ _ fun K hK=>?_
 have no : ∀ w2,Ext w w2->Box w2 w.heap.size 38 (ob 0 { data:=#[] } false nsl nsl nsl)->¬ okMax X n mc t->K [.bool true] w2:=by
  intro w2 h2 hB2 h
  refine hK true w2 ?_
  rw [cond_true]
  have p:=hB2.put (ob 0 { data:=#[] } false nsl nsl nsl) (by rfl)
  exact⟨hB2.blk.writable (by decide),_,_,_,_,_,_,_,_,_,_,_,_,p.blk.all,.inl ⟨h,rfl⟩,h2.put (Nat.le_refl _) _ _⟩
 refine Called.of (c68 hX _ (hR.ext z1) (hg.ext z1)) ?_
 rintro v w1 ⟨⟨b,rfl,hb⟩,he1⟩
 have hx1:=z1.trans he1
 have hB1:=y1.ext he1
 refine⟨_,rfl,zAa (fun h1=>no _ hx1 hB1 fun h=>?_) (fun h1=>?_)⟩
 ·have h1:b=false:=by simpa using h1
  rw [hb.2 h.1] at h1;cases h1
 have h1:b=true:=by simpa using h1
 have hok:=hb.1 h1
 refine zAa (fun h2=>no _ hx1 hB1 fun h=>?_) (fun h2=>?_)
 ·have h2:(mc:Int)≠n:=by simpa using h2
  exact h2 h.2.1
 have h2:(mc:Int)=n:=by simpa using h2
 refine Called.of (c62 (by omega) w1 (hc.ext hx1) hts (hg.ext hx1)) ?_
 rintro v w2 ⟨⟨b3,rfl,hb3⟩,he2⟩
 have hx2:=hx1.trans he2
 have hB2:=hB1.ext he2
 refine⟨_,rfl,?_⟩
 cases b3 with
 | false=>exact no _ hx2 hB2 fun h=>by have:=hb3.2 h.2.2;cases this
 | true =>
 refine hK false w2 ?_
 rw [cond_false]
 have hft:=hb3.1 rfl
 have hokM:okMax X n mc t:=⟨hok,h2,hft⟩
 obtain⟨hCS,hcost⟩:=hC hokM
 have hFS:=hF hok
 have hS:=zBh hok.nat
 have hSn:((sysX X n.toNat).n:Int)=n:=Int.toNat_of_nonneg hok.1
 have hSm:(sysX X n.toNat).m=X.m:=rfl
 have hn' : (sysX X n.toNat).n=n.toNat:=rfl
 unfold OptX
 generalize sysX X n.toNat=S at *
 rw [<- hSm,<- hn']
 rw [<- hn'] at hcost
 generalize hq:(fun j=>rd (t j))=q at *
 have hpt:PtReads t mc q:=by rw [<- hq];exact zDd hft
 have hf':=hFS.few
 unfold Few at hf'
 have emc:mc=S.n:=by omega
 subst emc
 subst h2
 have h65:=c65 (c:=c) hFS.few hX hS w2 (hR.ext hx2) (hg.ext hx2)
 rw [<- hS.m] at h65
 refine Called.of h65 ?_
 rintro v w3 ⟨Rl,rfl,hRl,he3⟩
 have hx3:=hx2.trans he3
 have hB3:=hB2.ext he3
 refine⟨_,_,_,rfl,?_⟩
 refine Called.of (c70 (rc:=S.m) hFS.few w3 hRl (hg.ext hx3)) ?_
 rintro v w4 ⟨T,rfl,_,_,hT,he4⟩
 have hx4:=hx3.trans he4
 refine⟨_,rfl,Called.of (c71 hFS (zDj S) w4 hT) ?_⟩
 rintro v w5 ⟨f,s',r,hso,hI,hV,hT5,hbl⟩
 have hx5:Ext w w5:=Below.trans hx4 (Below.mono hbl hx3.size)
 have hB5:Box w5 w.heap.size 38 (ob 0 { data:=#[] } false nsl nsl nsl):=(hB3.ext he4).same (hbl.block _ hB3.lt)
 obtain⟨_,hs1,hs2⟩:=zDa f (zDj S) hso
 cases r with
 | some p =>
  obtain⟨i,up⟩:=p
  obtain⟨b,rfl,hb4,hM⟩:=hV
  obtain⟨bd,hvi,hen⟩:=hs2 i up rfl
  have hi:=(zB9 hI.dict.perm hvi).1
  refine⟨_,_,_,_,rfl,?_⟩
  rw [show (!false)=true from rfl,cond_true]
  have hyd : ∀ k,dg 2000000 (refv S s' i up k):=refv_dg (by decide) (hFS.a s' hI i hi)
  refine Called.of (c72 (by omega) w5 hM.qs (fun j hj=>(hyd j).mono (by decide)) (hg.ext hx5)) ?_
  rintro v w6 ⟨rfl,hTx,he6⟩
  have hx6:=hx5.trans he6
  have hB6:=hB5.ext he6
  have p:=hB6.put (ob 0 { data:=#[] } false nsl (.slice (some ⟨w5.heap.size,0,none⟩) S.m S.m) nsl) (by rfl)
  have hlt:=hB5.lt
  exact⟨_,_,_,rfl,hB6.blk.writable (by decide),_,_,_,_,_,_,_,_,_,_,_,_,p.blk.all,.inr ⟨hokM,.inl ⟨w5.heap.size,_,by omega,rfl,hTx.away zAb (by omega),zFm hI hvi hen,hyd⟩⟩,hx6.put (Nat.le_refl _) _ _⟩
 | none =>
 cases hV
 refine⟨_,_,_,_,rfl,?_⟩
 rw [show (!true)=false from rfl,cond_false]
 have hFe:=feas_of hI (hs1 rfl)
 refine Called.of (c64 (f:=q) (by omega) w5 (hc.ext hx5) hts hpt (hg.ext hx5)) ?_
 rintro v w6 ⟨rfl,hL,he6⟩
 have hx6:=hx5.trans he6
 have hT6:=hT5.withX he6 (xb:=w5.heap.size) (c:=q) (Nat.le_refl _) hL.blk
 have hT6' : TabAt S w3.heap.size w6 { T with xb:=w5.heap.size,xl:=QL q S.n,yb:=0,yl:=[] } s':={ hT6 with yt := .inl rfl }
 refine⟨_,_,_,rfl,Called.of (c74 (T:={ T with xb:=w5.heap.size,xl:=QL q S.n,yb:=0,yl:=[] }) (c:=q) (cc:=S.n) hFS hCS hI hFe w6 hT6' rfl rfl) ?_⟩
 rintro v w7 ⟨f2,s2,r2,hmx,hI2,hFe2,hMV,hT7,hbl7⟩
 have hx7:Ext w w7:=Below.trans hx6 (Below.mono hbl7 hx3.size)
 have hB7:Box w7 w.heap.size 38 (ob 0 { data:=#[] } false nsl nsl nsl):=(hB5.ext he6).same (hbl7.block _ hB3.lt)
 have hlt7:=hB7.lt
 have hb3':=hx3.size
 obtain⟨_,_,hst,hcase⟩:=maxN_inv f2 hI hFe hmx
 have hN:=Box.new w7 zb 103
 have hcd:=hcost s2 hI2
 rcases hcase with ⟨hno,rfl⟩ | ⟨j,him,hle,rfl⟩
 ·obtain⟨b,rfl,hbB,hD⟩:=hMV
  refine⟨_,_,_,_,_,_,_,_,_,_,_,_,rfl,hN.blk.writable (by show 0+8<=8;decide),?_⟩
  have hP:=hN.put (bestc nsl (zval S s2 q) (.slice (some ⟨b,0,none⟩) S.m S.m)) (by rfl)
  have hx8:Ext w7 (setCells (w7.alloc (.cells zb.toArray 103)) ⟨w7.heap.size,0,none⟩ 0 (bestc nsl (zval S s2 q) (.slice (some ⟨b,0,none⟩) S.m S.m))):=((Ext.refl w7).alloc _).put (Nat.le_refl _) _ _
  change ∃ p12 k24 k25,(setCells (w7.alloc (.cells zb.toArray 103)) ⟨w7.heap.size,0,none⟩ 0 (bestc nsl (zval S s2 q) (.slice (some ⟨b,0,none⟩) S.m S.m))).cell? _=some (.slice p12 k24 k25)/\_
  refine⟨_,_,_,hP.blk.cell (j:=0) rfl,?_⟩
  rw [show (!(none:Option Addr).isNone)=false from rfl,cond_false]
  have hz:=hCS.zv s2 hI2 S.n (Nat.le_refl _)
  rw [zvF_eq] at hz
  refine⟨_,_,_,bx2 hP,?_⟩
  change Called _ 75 #[qv (zval S s2 q).2] (setCells (w7.alloc (.cells zb.toArray 103)) ⟨w7.heap.size,0,none⟩ 0 (bestc nsl (zval S s2 q) (.slice (some ⟨b,0,none⟩) S.m S.m))) _
  generalize setCells (w7.alloc (.cells zb.toArray 103)) ⟨w7.heap.size,0,none⟩ 0 (bestc nsl (zval S s2 q) (.slice (some ⟨b,0,none⟩) S.m S.m))=W8 at hP hx8 ⊢
  refine Called.of (c75 (hz.2.mono (by decide)) _ (hg.ext (hx7.trans hx8))) ?_
  rintro v w12 ⟨rfl,he12⟩
  refine⟨_,rfl,fun K2 hK2=>?_⟩
  have hx12:=(hx8.trans he12).drew
  have hP12:=(hP.ext he12).ext (Ext.refl _).drew
  refine⟨_,_,_,bx1 hP12,_,_,_,hP12.blk.cell (j:=7) rfl,?_⟩
  refine Called.of (c76 (q:=(zval S s2 q).1) (hz.1.mono (by decide)) _ (hg.ext (hx7.trans hx12))) ?_
  rintro v w14 ⟨⟨u,rfl,hu⟩,he14⟩
  have hx14:=hx12.trans he14
  refine⟨_,rfl,he14,Called.of (c73 (T:={ T with xb:=w5.heap.size,xl:=QL q S.n,yb:=0,yl:=[] }) (rel:=!(Tb.sgnQ (zval S s2 q).2==0)) hFS.few hFS.short (hFS.val s2 hI2) w14 (hT7.ext hx14 hT7.hB)) ?_⟩
  rintro v w15 ⟨b',rfl,hb',hPt,he15⟩
  have hx15:=hx14.trans he15
  have hed:dg 9000000 (if (!(Tb.sgnQ (zval S s2 q).2==0))=true then 0 else zBS S s2):=by
   split
   ·exact zCy (by decide)
   ·exact zEx hFS.short (hFS.val s2 hI2) S.m (Nat.le_refl _)
  have hpd:=zG0 hFS hI2 hed
  refine⟨_,_,_,rfl,he14.trans he15,Called.of (c72 (by omega) w15 hPt.qs (fun j hj=>(hpd j (by omega)).mono (by decide)) (hg.ext (hx7.trans hx15))) ?_⟩
  rintro v w16 ⟨rfl,hTx1,he16⟩
  have hx16:=hx15.trans he16
  have hyd : ∀ k,dg 2000000 (dual S s2 (costs S s2 q) k):=fun k=>dual_dg (by decide) hI2 hcd
  refine⟨_,_,_,rfl,(he14.trans he15).trans he16,Called.of (c72 (n:=S.m) (by omega) w16 (hD.ext hx16).qs (fun j hj=>(hyd j).mono (by decide)) (hg.ext (hx7.trans hx16))) ?_⟩
  rintro v w17 ⟨rfl,hTx2,he17⟩
  have hx17:=hx16.trans he17
  have hB17:=hB7.ext hx17
  have s15:=hx15.size
  have s16:=hx16.size
  refine⟨_,_,_,rfl,hB17.blk.writable (by decide),hK2 0 _ ?_⟩
  have p:=hB17.put (ob 1 u (Tb.sgnQ (zval S s2 q).2==0) (.slice (some ⟨w15.heap.size,0,none⟩) S.n S.n) (.slice (some ⟨w16.heap.size,0,none⟩) S.m S.m) nsl) (by rfl)
  obtain⟨o1,o2,o3,o4⟩:=best_ok hI2 hno
  rw [<- o3] at hu
  have hzc:=hz.1
  rw [<- o3] at hzc
  refine⟨_,_,_,_,_,_,_,_,_,_,_,_,p.blk.all,.inr ⟨hokM,.inr (.inr ⟨w15.heap.size,w16.heap.size,u,_,_,_,by omega,by omega,rfl,hu,hzc,(hTx1.ext he17).away zAb (by omega),hTx2.away zAb (by omega),?_,fun j hj=>hpd j (by omega),hyd⟩)⟩,(hx7.trans hx17).put (Nat.le_refl _) _ _⟩
  by_cases hatt:Tb.sgnQ (zval S s2 q).2=0
  ·have h0:=Tb.sgnQ_zero.1 hatt
   rw [hatt]
   have hsat:=zDQ hI2 hFe2
   refine { adm:=o1,cb:=o2,rel:=fun k hk=>⟨(hsat k hk).1,(hsat k hk).2.2⟩,val:=?_,sat:=fun _=>hsat,strict:=fun h=>(by cases h) }
   show (sumN S.n fun v=>q v*zB0 s2 (zBS S s2) v)=_
   rw [zFD,o3,h0,Rat.zero_mul,Rat.add_zero]
  ·rw [show (Tb.sgnQ (zval S s2 q).2==0)=false from by simpa using hatt]
   have hrl:=zGz hI2 hFe2
   refine { adm:=o1,cb:=o2,rel:=hrl,val:=?_,sat:=fun h=>(by cases h),strict:=fun _=>o4.1 fun e=>hatt (Tb.sgnQ_zero.2 e) }
   show (sumN S.n fun v=>q v*zB0 s2 0 v)=_
   rw [zFD,o3,Rat.mul_zero,Rat.add_zero]
 ·obtain⟨b,rfl,hbB,hD⟩:=hMV
  have hj:=(zAV him).1
  refine⟨_,_,_,_,_,_,_,_,_,_,_,_,rfl,hN.blk.writable (by show 0+8<=8;decide),?_⟩
  have hP:=hN.put (bestc (.slice (some ⟨b,0,none⟩) S.n S.n) zero2 nsl) (by rfl)
  have hx8:Ext w7 (setCells (w7.alloc (.cells zb.toArray 103)) ⟨w7.heap.size,0,none⟩ 0 (bestc (.slice (some ⟨b,0,none⟩) S.n S.n) zero2 nsl)):=((Ext.refl w7).alloc _).put (Nat.le_refl _) _ _
  change ∃ p12 k24 k25,(setCells (w7.alloc (.cells zb.toArray 103)) ⟨w7.heap.size,0,none⟩ 0 (bestc (.slice (some ⟨b,0,none⟩) S.n S.n) zero2 nsl)).cell? _=some (.slice p12 k24 k25)/\_
  refine⟨_,_,_,hP.blk.cell (j:=0) rfl,?_⟩
  rw [show (!(some (⟨b,0,none⟩:Addr)).isNone)=true from rfl,cond_true]
  intro K1 hK1
  change ∃ p16 k32 k33,(setCells (w7.alloc (.cells zb.toArray 103)) ⟨w7.heap.size,0,none⟩ 0 (bestc (.slice (some ⟨b,0,none⟩) S.n S.n) zero2 nsl)).drew.cell? _=some (.slice p16 k32 k33)/\Called _ 73 _ (setCells (w7.alloc (.cells zb.toArray 103)) ⟨w7.heap.size,0,none⟩ 0 (bestc (.slice (some ⟨b,0,none⟩) S.n S.n) zero2 nsl)).drew _
  have hP12:=hP.ext (Ext.refl _).drew
  have hx12:=hx8.drew
  refine⟨_,_,_,hP12.blk.cell (j:=0) rfl,Called.of (c73 (T:={ T with xb:=w5.heap.size,xl:=QL q S.n,yb:=0,yl:=[] }) (rel:=false) hFS.few hFS.short (hFS.val s2 hI2) _ (hT7.ext hx12 hT7.hB)) ?_⟩
  rintro v w15 ⟨b',rfl,hb',hPt,he15⟩
  have hx15:=hx12.trans he15
  have hpd:=zG0 hFS hI2 (zEx hFS.short (hFS.val s2 hI2) S.m (Nat.le_refl _))
  refine⟨_,_,_,rfl,he15,Called.of (c72 (by omega) w15 hPt.qs (fun j hj=>(hpd j (by omega)).mono (by decide)) (hg.ext (hx7.trans hx15))) ?_⟩
  rintro v w16 ⟨rfl,hTx1,he16⟩
  have hx16:=hx15.trans he16
  have hyd : ∀ v,v<S.n->dg 2000002 (delta s2 j (oneQ (decide (0<costs S s2 q j))) v):=fun v hv=>delta_dg hFS hI2 hj (by omega)
  refine⟨_,_,_,rfl,he15.trans he16,Called.of (c72 (n:=S.n) (by omega) w16 (hD.ext hx16).qs (fun j hj=>(hyd j hj).mono (by decide)) (hg.ext (hx7.trans hx16))) ?_⟩
  rintro v w17 ⟨rfl,hTx2,he17⟩
  have hx17:=hx16.trans he17
  have hB17:=hB7.ext hx17
  have s15:=hx15.size
  have s16:=hx16.size
  refine⟨_,_,_,rfl,hB17.blk.writable (by decide),hK1 0 _ ?_⟩
  have p:=hB17.put (ob 2 { data:=#[] } false (.slice (some ⟨w15.heap.size,0,none⟩) S.n S.n) nsl (.slice (some ⟨w16.heap.size,0,none⟩) S.n S.n)) (by rfl)
  exact⟨_,_,_,_,_,_,_,_,_,_,_,_,p.blk.all,.inr ⟨hokM,.inr (.inl ⟨w15.heap.size,w16.heap.size,_,_,by omega,by omega,rfl,(hTx1.ext he17).away zAb (by omega),hTx2.away zAb (by omega),zDQ hI2 hFe2,fun j hj=>hpd j (by omega),ray_ok hI2 him hle,hyd⟩)⟩,(hx7.trans hx17).put (Nat.le_refl _) _ _⟩
abbrev zrow:List Value:=[.slice none 0 0,.int .i64 0,.string { data:=#[] }]
theorem SL_snoc (s:Nat->ByteArray) (n:Nat):SL s (n+1)=SL s n++[.string (s n)]:=zDD _ n
set_option maxHeartbeats 600000 in
theorem c78 {s:Nat->ByteArray} {f:Nat->Rat} {kq:Rat} {nC cC:Nat} {ra:Option Addr} {rel:Int} {sk:ByteArray} (hn:nC<=1048576) (hs : ∀ j,j<nC->bs (s j)=txtQ (f j)) (hz : ∀ j,j<nC->(s j).size<=1000000000) (hsk:bs sk=txtQ kq) (hzk:sk.size<=1000000000)
  (hd : ∀ j,j<nC->dg 400000000 (f j)) (hdk:dg 400000000 kq) (w:World) (hS:SS w ra s nC) (hg:Gl w) :
  Ret prog 78 #[.agg #[.slice ra nC cC,.int .i64 rel,.string sk]] w fun v w'=>∃ a' c' sK,v = .agg #[.slice a' nC c',.int .i64 (if rel=2 then 1 else 2),.string sK]/\bs sK=txtQ (-kq)/\SS w' a' (fun j=>mk (txtQ (-(f j)))) nC/\Ext w w':=by
 have z1:=(Ext.refl w).alloc (.cells [Value.slice ra nC cC,.int .i64 rel,.string sk].toArray 49)
 have hB:=Box.new w [Value.slice ra nC cC,.int .i64 rel,.string sk] 49
 have s1:(w.alloc (.cells [Value.slice ra nC cC,.int .i64 rel,.string sk].toArray 49)).heap.size=w.heap.size+1:=size_alloc ..
 refine run78 _ _ _ _ _ _ _ ?_
 unfold vc78
 rw [show (Obj.cells #[Value.slice ra nC cC,.int .i64 rel,.string sk] 49) = .cells [Value.slice ra nC cC,.int .i64 rel,.string sk].toArray 49 from rfl]
 generalize w.alloc (.cells [Value.slice ra nC cC,.int .i64 rel,.string sk].toArray 49)=W1 at z1 hB s1 ⊢
 have z2:=(Ext.refl W1).alloc (.cells zrow.toArray 49)
 have hO:=Box.new W1 zrow 49
 rw [show (Obj.cells #[Value.slice none 0 0,.int .i64 0,.string { data:=#[] }] 49) = .cells zrow.toArray 49 from rfl]
 have hB2:=hB.ext z2
 generalize W1.alloc (.cells zrow.toArray 49)=W2 at z2 hO hB2 ⊢
 have hx2:=z1.trans z2
 refine⟨_,hB2.blk.cell (j:=2) rfl,Called.of (c104 hsk hzk _ (hg.ext hx2)) ?_⟩
 rintro v w1 ⟨rfl,he1⟩
 have hx3:=hx2.trans he1
 refine⟨_,_,_,rfl,Called.of (c133 hdk w1 (hg.ext hx3)) ?_⟩
 rintro v w2 ⟨rfl,he2⟩
 have hx4:=hx3.trans he2
 refine⟨_,_,_,rfl,Called.of (c76 hdk.neg w2 (hg.ext hx4)) ?_⟩
 rintro v w3 ⟨⟨u,rfl,hu⟩,he3⟩
 have hx5:=hx4.trans he3
 have hN:=Box.new w3 zrow 49
 have hB3:=((hB2.ext he1).ext he2).ext he3
 have hO3:=((hO.ext he1).ext he2).ext he3
 have l1:=hB.lt
 have l2:=hO3.lt
 have hsz:=hx5.size
 refine⟨u,rfl,hN.blk.writable (by decide),fun K hK=>?_⟩
 have hP:=hN.put [nsl,.int .i64 2,.string u] (by rfl)
 have hxP:Ext w3 (setCells (w3.alloc (.cells zrow.toArray 49)) ⟨w3.heap.size,0,none⟩ 0 [nsl,.int .i64 2,.string u]):=((Ext.refl w3).alloc _).put (Nat.le_refl _) _ _
 have main : ∀ w4 k,k=(if rel=2 then 1 else 2:Int)->Box w4 w3.heap.size 49 [nsl,.int .i64 k,.string u]->Ext w3 w4->K [] w4:=by
  intro w4 k hk hO4 hx4
  refine hK w4 ?_
  have hxw4:=hx5.trans hx4
  refine⟨_,_,_,(hB3.ext hx4).blk.cell (j:=0) rfl,Called.of (c64 hn w4 (hS.ext hxw4) hz hs (hg.ext hxw4)) ?_⟩
  rintro v w5 ⟨rfl,hL,he5⟩
  have hxw5:=hxw4.trans he5
  have hO5:=hO4.ext he5
  have m4:=hx4.size
  have m5:=he5.size
  have ll:=hL.lt
  have lo:=hO4.lt
  refine⟨_,_,_,rfl,fun vals w6=>∃ (i:Nat) (p:Option Addr) (c' : Nat),vals=[.int .i64 i]/\i<=nC/\Box w6 w3.heap.size 49 [.slice p i c',.int .i64 k,.string u]/\w6.ownsRow w5.heap.size 9 1 (.slice p i c') i (SL (fun j=>mk (txtQ (-(f j)))) i)/\Box w6 w4.heap.size 88 (QL f nC)/\Box w6 W1.heap.size 49 zrow/\w5.heap.size<=w6.heap.size/\Ext w w6,mu1 nC,⟨0,none,0,rfl,Nat.zero_le _,hO5,World.ownsRow_nil _ _ _ _,hL,(hO3.ext hx4).ext he5,Nat.le_refl _,hxw5⟩,?_⟩
  rintro m w6 ⟨i,p,c',hv,hi,hO6,hown,hL6,hC6,hs6,hx6⟩
  cases hv
  refine zAd (fun hlt=>?_) (fun hge=>?_)
  ·have hin:i<nC:=by omega
   have hQ:=Box.new w6 zq 88
   have hx7:Ext w6 (setCells (w6.alloc (.cells zq.toArray 88)) ⟨w6.heap.size,0,none⟩ 0 (qc (f i))).drew:=(((Ext.refl w6).alloc _).put (Nat.le_refl _) _ _).drew
   have hQ7:=(hQ.put (qc (f i)) (by rfl)).ext (Ext.refl _).drew
   refine⟨_,rfl,⟨by omega,hlt⟩,_,_,_,hL6.qget hin,hQ.blk.writable (by decide),fun K1 hK1=>?_⟩
   change ∃ p2 k4 k5,(setCells (w6.alloc (.cells zq.toArray 88)) ⟨w6.heap.size,0,none⟩ 0 (qc (f i))).drew.cell? _=some (.slice p2 k4 k5)/\∃ n7 n8 s5,vcells (setCells (w6.alloc (.cells zq.toArray 88)) ⟨w6.heap.size,0,none⟩ 0 (qc (f i))).drew _ _ _/\Called _ 133 _ (setCells (w6.alloc (.cells zq.toArray 88)) ⟨w6.heap.size,0,none⟩ 0 (qc (f i))).drew _
   have hO7:=hO6.ext hx7
   have hown7:=zA8 hown hx7
   have hL7:=hL6.ext hx7
   have hC7:=hC6.ext hx7
   refine⟨_,_,_,hO7.blk.cell (j:=0) rfl,_,_,_,hQ7.blk.all,Called.of (c133 (hd i hin) _ (hg.ext (hx6.trans hx7))) ?_⟩
   rintro v w8 ⟨rfl,he8⟩
   refine⟨_,_,_,rfl,he8,Called.of (c76 (hd i hin).neg w8 (hg.ext ((hx6.trans hx7).trans he8))) ?_⟩
   rintro v w9 ⟨⟨u2,rfl,hu2⟩,he9⟩
   have he89:=he8.trans he9
   have hx9:=(hx6.trans hx7).trans he89
   have hO9:=hO7.ext he89
   have hown9:=zA8 hown7 he89
   have hL9:=hL7.ext he89
   have hC9:=hC7.ext he89
   have s9:w5.heap.size<=w9.heap.size:=Nat.le_trans hs6 (hx7.trans he89).size
   refine⟨_,rfl,he89,he89.alloc _,_,_,_,AppOk.one (L:=[.string u2]) hown9 rfl rfl (by unfold maxLen;omega) (by omega) s9,?_⟩
   intro p3 k7 w10 r
   have za:=(Ext.refl w9).alloc (.cells #[.string u2] 9)
   have sa:(w9.alloc (.cells #[.string u2] 9)).heap.size=w9.heap.size+1:=size_alloc ..
   have g3 : ∀ k,k<w9.heap.size->(Value.slice p i c').ownBlock≠some k->w10.heap[k]? = w9.heap[k]?:=fun k hk hne =>
    (r.grown.block k (by omega) (Ne.symm hne)).trans (za.block k hk)
   have hO10:Box w10 w3.heap.size 49 _:=hO9.same (g3 _ hO9.lt (zAA hown9 hO9 (by decide)))
   have hL10:Box w10 w4.heap.size 88 _:=hL9.same (g3 _ hL9.lt (zAA hown9 hL9 (by decide)))
   have hC10:Box w10 W1.heap.size 49 _:=hC9.same (g3 _ hC9.lt (zAA hown9 hC9 (by decide)))
   have hx10:Ext w w10:=r.below (zA8 hown9 za) (hx9.trans za) (by have:=hx9.size;omega) (by have:=hxw5.size;omega)
   refine⟨⟨⟨_,hO10.blk.cell (j:=0) rfl⟩,hO10.blk.free⟩,hK1 _ ?_⟩
   rw [zAh (by omega)]
   have eu:u2=mk (txtQ (-(f i))):=zGi (by rw [bs_mk,hu2])
   have hr:=r.own
   rw [eu,<- SL_snoc (fun j=>mk (txtQ (-(f j)))) i] at hr
   have s10:=r.grown.size
   have hne:(Value.slice p3 (i+1) k7).ownBlock≠some w3.heap.size:=zAA hr hO10 (by decide)
   refine⟨⟨i+1,p3,k7,rfl,hin,hO10.set 0 _,zBC hr hne _,hL10.away zAe (by omega),hC10.away zAe (by omega),?_,hx10.setCell (by omega) _⟩,by simp only [mu1,Int.toNat_natCast];omega⟩
   rw [zCA];omega
  ·have ei:i=nC:=by omega
   subst ei
   have pO:=hC6.put [Value.slice p i c',.int .i64 k,.string u] (by rfl)
   refine⟨_,_,_,_,_,hO6.blk.all,hC6.blk.writable (by decide),_,_,_,_,_,pO.blk.all,p,c',u,by rw [hk],hu,?_,hx6.put (by omega) _ _⟩
   exact zBr (zDf hown fun k' hk'=>zAb k' fun e=>zAA hown hC6 (by decide) (e▸hk'))
 refine⟨_,(hB3.ext hxP).blk.cell (j:=1) rfl,zAa (fun h=>?_) (fun h=>?_)⟩
 ·have h:rel=2:=by simpa using h
  exact⟨⟨⟨_,hP.blk.cell (j:=1) rfl⟩,hP.blk.free⟩,main _ 1 (by rw [if_pos h]) (hP.set 1 (.int .i64 1)) (hxP.setCell (Nat.le_refl _) _)⟩
 ·have h : ¬ rel=2:=by simpa using h
  exact main _ 2 (by rw [if_neg h]) hP hxP
def negR (S:Tb.Sys) (c:Nat->Rat) (rel:Nat) (k:Rat):Tb.Sys:={ n:=S.n,m:=S.m+1,C:=fun i j=>if i<S.m then S.C i j else -(c j),rel:=fun i=>if i<S.m then S.rel i else (if rel=2 then 1 else 2),K:=fun i=>if i<S.m then S.K i else -k }
def okImp (X X1:TX) (n:Int):Prop:=okRows X n/\okRow X1 n 0
noncomputable def impS (X X1:TX) (n:Int):Tb.Sys:=negR (sysX X n.toNat) (fun j=>rd (X1.C 0 j)) (X1.rel 0).toNat (rd (X1.K 0))
def ImpX (X X1:TX) (n:Int) (w0 w:World) (v:Value):Prop :=
 (¬ okImp X X1 n/\v = .tuple #[.bool false,nsl,.int .i64 1]) \/
 (okImp X X1 n/\((X1.rel 0=3/\v = .tuple #[.bool false,nsl,.int .i64 8]) \/
  (X1.rel 0≠3/\((∃ pt,v = .tuple #[.bool false,nsl,.int .i64 0]/\Sat (impS X X1 n) pt) \/
   (∃ b y,w0.heap.size<=b/\v = .tuple #[.bool true,.slice (some ⟨b,0,none⟩) (X.m+1) (X.m+1),.int .i64 0]/\zBG w b y (X.m+1)/\zAQ (impS X X1 n) y/\∀ k,dg 2000000 (y k))))))
theorem own_box {w:World} {b e size n:Nat} {L:List Value} (h:Box w b e L) (hs:L.length=n*size) (hm:n<=maxLen):w.ownsRow b e size (.slice (some ⟨b,0,none⟩) n n) n L:=by
 refine⟨hs,.inr ⟨b,n,L.toArray,rfl,Nat.le_refl _,h,Nat.le_refl _,hm,by simpa using hs,?_⟩⟩
 simp [<- hs]
theorem plain_app : ∀ (a b:List Value),zAq a=true->zAq b=true->zAq (a++b)=true:=by
 intro a
 induction a with
 | nil=>intro b _ h;exact h
 | cons x a ih =>
  intro b h1 h2
  rw [List.cons_append]
  rw [zAq] at h1 ⊢
  cases hx:V.plainCell x with
  | false=>rw [hx] at h1;cases h1
  | true =>
   rw [hx,cond_true] at h1
   rw [cond_true]
   exact ih b h1 h2
theorem plain_GL {g:Nat->List Value} (hg : ∀ i,zAq (g i)=true) : ∀ n,zAq (GL g n)=true
 | 0=>rfl
 | n+1=>plain_app _ _ (plain_GL hg n) (hg n)
theorem zFT (q:Rat):(txtQ (-q)).length<=(txtQ q).length+1:=by
 unfold txtQ txt3
 rw [Rat.neg_num,Int.natAbs_neg,Rat.neg_den]
 simp only [List.length_append]
 split <;> split <;> simp <;> omega
noncomputable def negX (X1:TX) (sK:ByteArray):TX:={ m:=1,n:=fun _=>X1.n 0,C:=fun _ j=>mk (txtQ (-(rd (X1.C 0 j)))),rel:=fun _=>(if X1.rel 0=2 then 1 else 2),K:=fun _=>sK }
noncomputable def oneR (n:Nat) (X1:TX):Tb.Sys:={ n:=n,m:=1,C:=fun _ j => -(rd (X1.C 0 j)),rel:=fun _=>if (X1.rel 0).toNat=2 then 1 else 2,K:=fun _ => -(rd (X1.K 0)) }
theorem RowsB.ext {w w' : World} {b:Nat} {S:Tb.Sys} {Rl:RowL} (h:RowsB w b S Rl) (he:Ext w w'):RowsB w' b S Rl:=⟨h.1.ext he,fun i hi=>by obtain⟨b',h1,h2,h3⟩:=h.2 i hi;exact⟨b',h1,h2,h3.ext he⟩⟩
theorem rowc_len (S:Tb.Sys) (Rl:RowL) (i:Nat):(rowc S Rl i).length=5:=rfl
set_option maxHeartbeats 600000 in
theorem c38 {X X1:TX} {A A1:TA} {n:Int} {a:Option Addr} {c:Nat} (hX:Tame X) (hX1:Tame X1) (hts1:(∀ j,j<X1.n 0->(X1.C 0 j).size<=999999)/\(X1.K 0).size<=999999) (hm1:X1.m=1) (hF:okImp X X1 n->Fits (impS X X1 n)) (w:World) (hR:RowsT w a X A) (hs:SS w (A1.cA 0) (X1.C 0) (X1.n 0)) (hg:Gl w) :
  Ret prog 38 #[.int .i64 n,.slice a X.m c,.agg #[.slice (A1.cA 0) (X1.n 0) (A1.cC 0),.int .i64 (X1.rel 0),.string (X1.K 0)]] w fun v w'=>ImpX X X1 n w w' v/\Ext w w':=by
 have h01:0<X1.m:=by omega
 have z1:=(Ext.refl w).alloc (.cells (rtc X1 A1 0).toArray 49)
 have hB:=Box.new w (rtc X1 A1 0) 49
 refine run38 _ _ _ _ _ _ _ _ _ _ _ fun K hK=>?_
 have no : ∀ w2,Ext w w2->¬ okImp X X1 n->K [.bool true] w2:=fun w2 h2 h=>hK true w2 ⟨.inl ⟨h,rfl⟩,h2⟩
 refine Called.of (c68 hX _ (hR.ext z1) (hg.ext z1)) ?_
 rintro v w1 ⟨⟨b,rfl,hb⟩,he1⟩
 have hx1:=z1.trans he1
 have hB1:=hB.ext he1
 refine⟨_,rfl,zAa (fun h1=>no _ hx1 fun h=>?_) (fun h1=>?_)⟩
 ·have h1:b=false:=by simpa using h1
  rw [hb.2 h.1] at h1;cases h1
 have h1:b=true:=by simpa using h1
 have hok:=hb.1 h1
 refine⟨_,_,_,_,_,hB1.blk.all,Called.of (c63 (X:=X1) (A:=A1) (i:=0) hX1 h01 w1 (hs.ext hx1) (hg.ext hx1)) ?_⟩
 rintro v w2 ⟨⟨b3,rfl,hb3⟩,he2⟩
 have hx2:=hx1.trans he2
 have hB2:=hB1.ext he2
 refine⟨_,rfl,?_⟩
 cases b3 with
 | false=>exact no _ hx2 fun h=>by have:=hb3.2 h.2;cases this
 | true =>
 refine hK false w2 ?_
 rw [cond_false]
 have hok1:=hb3.1 rfl
 have hokI:okImp X X1 n:=⟨hok,hok1⟩
 refine⟨_,hB2.blk.cell (j:=1) rfl,zAa (fun h3=>⟨.inr ⟨hokI,.inl ⟨by simpa using h3,rfl⟩⟩,hx2⟩) (fun h3=>?_)⟩
 have h3 : ¬ X1.rel 0=3:=by simpa using h3
 intro K1 hK1
 have hFS:=hF hokI
 have hS:=zBh hok.nat
 obtain⟨q1,q2,q3,q4,q5⟩:=hok1
 have hn0:=hok.1
 have hn1:=hok.2.1
 have hm200:=hok.2.2.1
 have hSn:((sysX X n.toNat).n:Int)=n:=Int.toNat_of_nonneg hok.1
 have hSm:(sysX X n.toNat).m=X.m:=rfl
 unfold ImpX at hK1
 unfold impS at hFS hK1
 have hfew:Few (sysX X n.toNat):=by unfold Few;omega
 generalize sysX X n.toNat=S at *
 rw [<- hSm] at hK1
 subst hSn
 have hd:=(Ext.refl w2).drew
 have hx2d:=hx2.drew
 have hB2d:=hB2.ext hd
 have h65:=c65b (c:=c) hfew hX hS _ (hR.ext hx2d) (hg.ext hx2d)
 refine⟨_,_,_,_,_,hB2d.blk.all,Called.of h65 ?_⟩
 rintro v w6 ⟨Rl,rfl,hRl,he6⟩
 have hx6:=hx2d.trans he6
 have hnn:X1.n 0=S.n:=by omega
 refine⟨_,_,_,rfl,he6,Called.of (c78 (f:=fun j=>rd (X1.C 0 j)) (kq:=rd (X1.K 0)) (by have:=hX1.n 0 h01;omega) (fun j hj=>rd_ok (q4 j hj)) (fun j hj=>Nat.le_trans (hX1.c 0 h01 j hj) (by decide)) (rd_ok q5) (Nat.le_trans (hX1.k 0 h01) (by decide))
  (fun j hj=>(rd_dg (q4 j hj) (hX1.c 0 h01 j hj)).mono (by decide)) ((rd_dg q5 (hX1.k 0 h01)).mono (by decide)) w6 (hs.ext hx6) (hg.ext hx6)) ?_⟩
 rintro v w7 ⟨a',c',sK,rfl,hsK,hSS,he7⟩
 have hx7:=hx6.trans he7
 have tXN:Tame (negX X1 sK):={
  n:=fun _ _=>hX1.n 0 h01
  c:=fun i _ j hj=>by
   show (mk (txtQ (-(rd (X1.C 0 j))))).size<=1000000
   rw [zAg,bs_mk]
   have h1:=zFT (rd (X1.C 0 j))
   have h2:=hts1.1 j hj
   rw [<- rd_ok (q4 j hj),<- zAg] at h1
   omega
  k:=fun i _=>by
   show sK.size<=1000000
   rw [zAg,hsK]
   have h1:=zFT (rd (X1.K 0))
   have h2:=hts1.2
   rw [<- rd_ok q5,<- zAg] at h1
   omega }
 have hS1:Reads (negX X1 sK) (oneR S.n X1):={
  m:=rfl
  n:=fun _ _=>hnn
  C:=fun i _ j hj=>bs_mk _
  rel:=fun i _=>by
   show (if X1.rel 0=2 then 1 else 2:Int)=((if (X1.rel 0).toNat=2 then 1 else 2:Nat):Int)/\1<=(if (X1.rel 0).toNat=2 then 1 else 2)/\(if (X1.rel 0).toNat=2 then 1 else 2)<=3
   by_cases h:X1.rel 0=2
   ·rw [if_pos h,if_pos (by omega)];decide
   ·rw [if_neg h,if_neg (by omega)];decide
  K:=fun i _=>hsK }
 have hf1:Few (oneR S.n X1):=by
  unfold Few
  show S.n+1<=1048576
  omega
 have zN:=(Ext.refl w7).alloc (.cells (rtc (negX X1 sK) ⟨fun _=>a',fun _=>c'⟩ 0).toArray 49)
 have hN:=Box.new w7 (rtc (negX X1 sK) ⟨fun _=>a',fun _=>c'⟩ 0) 49
 have hRN:RowsT (w7.alloc (.cells (rtc (negX X1 sK) ⟨fun _=>a',fun _=>c'⟩ 0).toArray 49)) (some ⟨w7.heap.size,0,none⟩) (negX X1 sK) ⟨fun _=>a',fun _=>c'⟩:=by
  refine⟨?_,fun i _=>hSS.ext zN⟩
  show SlAt _ _ (GL (rtc (negX X1 sK) ⟨fun _=>a',fun _=>c'⟩) 1)
  rw [GL,GL,List.nil_append]
  exact hN.blk.sl
 have hx8:=hx7.trans zN
 refine⟨_,_,_,_,_,rfl,?_⟩
 refine Called.of (c65b (X:=negX X1 sK) (A:=⟨fun _=>a',fun _=>c'⟩) (c:=1) hf1 tXN hS1 _ hRN (hg.ext hx8)) ?_
 rintro v w8 ⟨Rl1,rfl,hRl1,he8⟩
 have hx9:=hx8.trans he8
 have hRl8:=(hRl.ext he7).ext (zN.trans he8)
 have hown:=own_box (n:=S.m) (size:=5) hRl8.1 (by rw [zAU (rowc_len S Rl)];omega) (by unfold maxLen;omega)
 refine⟨_,_,_,rfl,w2.drew.heap.size,GL (rowc S Rl) S.m,GL (rowc (oneR S.n X1) Rl1) 1,?_,?_⟩
 ·exact {
   own := .inl hown
   len:=zAU (rowc_len _ Rl1) 1
   src := .inr ⟨_,rfl,hRl1.1.blk.all⟩
   plain:=plain_GL (fun _=>rfl) 1
   max:=by show S.m+1<=maxLen;unfold maxLen;omega
   bytes:=by show (S.m+1)*64<=_;omega
   base:=(((he6.trans he7).trans zN).trans he8).size }
 intro p7 k15 w9 r
 have hxw9:Ext w w9:=r.below hown hx9 hx9.size hx2d.size
 have g3 : ∀ {k ty:Nat} {L:List Value},Box w8 k ty L->ty≠90->w9.heap[k]? = w8.heap[k]?:=fun hb hne =>
  r.grown.block _ hb.lt (Ne.symm (zAA hown hb (fun e=>hne e.symm)))
 have hRows:RowsR w9 p7 (negR S (fun j=>rd (X1.C 0 j)) (X1.rel 0).toNat (rd (X1.K 0))) ⟨upd Rl.cA S.m (Rl1.cA 0),upd Rl.cC S.m (Rl1.cC 0)⟩:=by
  constructor
  ·have h:=zBr r.own
   have e:GL (rowc (negR S (fun j=>rd (X1.C 0 j)) (X1.rel 0).toNat (rd (X1.K 0))) ⟨upd Rl.cA S.m (Rl1.cA 0),upd Rl.cC S.m (Rl1.cC 0)⟩) (S.m+1)=GL (rowc S Rl) S.m++GL (rowc (oneR S.n X1) Rl1) 1:=by
    rw [GL,GL,GL,List.nil_append]
    congr 1
    ·refine zCb fun i hi=>?_
     unfold rowc
     simp only [negR,if_pos hi,zAu _ (show i≠S.m by omega)]
    ·unfold rowc
     simp only [negR,oneR,if_neg (Nat.lt_irrefl _),zAy]
   show SlAt w9 p7 (GL _ (S.m+1))
   rw [e]
   exact h
  ·intro i hi
   replace hi:i<S.m+1:=hi
   show QS w9 (upd Rl.cA S.m (Rl1.cA 0) i) (fun j=>if i<S.m then S.C i j else -(rd (X1.C 0 j))) S.n
   by_cases e:i=S.m
   ·rw [e,zAy]
    simp only [if_neg (Nat.lt_irrefl _)]
    obtain⟨b',h1,_,h5⟩:=hRl1.2 0 Nat.one_pos
    rw [h1]
    exact (h5.same (g3 h5 (by decide))).qs
   ·rw [zAu _ e]
    simp only [if_pos (show i<S.m by omega)]
    obtain⟨b',h1,_,h5⟩:=hRl8.2 i (by omega)
    rw [h1]
    exact (h5.same (g3 h5 (by decide))).qs
 refine hK1 _ _ _ _ ?_
 have h70:=c70 (S:=negR S (fun j=>rd (X1.C 0 j)) (X1.rel 0).toNat (rd (X1.K 0))) (rc:=k15) hFS.few w9 hRows (hg.ext hxw9)
 refine Called.of h70 ?_
 rintro v w10 ⟨T,rfl,_,_,hT,he10⟩
 refine⟨_,rfl,Called.of (c71 hFS (zDj _) w10 hT) ?_⟩
 rintro v w11 ⟨f,s',r',hso,hI,hV,hT11,hbl⟩
 have hx11:Ext w w11:=Below.trans (hxw9.trans he10) (Below.mono hbl hxw9.size)
 obtain⟨_,hs1,hs2⟩:=zDa f (zDj _) hso
 have s9:=hxw9.size
 cases r' with
 | none =>
  cases hV
  refine⟨_,_,_,_,rfl,?_⟩
  rw [cond_true]
  exact⟨.inr ⟨hokI,.inr ⟨h3,.inl ⟨_,rfl,zDQ hI (feas_of hI (hs1 rfl))⟩⟩⟩,hx11⟩
 | some p =>
  obtain⟨i,up⟩:=p
  obtain⟨b,rfl,hb4,hM⟩:=hV
  obtain⟨bd,hvi,hen⟩:=hs2 i up rfl
  have hi:=(zB9 hI.dict.perm hvi).1
  refine⟨_,_,_,_,rfl,?_⟩
  rw [cond_false]
  have hyd : ∀ k,dg 2000000 (refv _ s' i up k):=refv_dg (by decide) (hFS.a s' hI i hi)
  refine Called.of (c72 (by show S.m+1<=1048576;omega) w11 hM.qs (fun j hj=>(hyd j).mono (by decide)) (hg.ext hx11)) ?_
  rintro v w12 ⟨rfl,hTx,he12⟩
  have s11:=hx11.size
  exact⟨_,_,_,rfl,.inr ⟨hokI,.inr ⟨h3,.inr ⟨w11.heap.size,_,by omega,rfl,hTx,zFm hI hvi hen,hyd⟩⟩⟩,hx11.trans he12⟩
structure DotsZ (S:Tb.Sys) (y:Nat->Rat) (d:Nat):Prop where
 p : ∀ k,k<S.m->∀ j,j<S.n->dg d (y k*S.C k j)
 c : ∀ i,i<=S.m->∀ j,j<S.n->dg d (sumN i fun k=>y k*S.C k j)
 pk : ∀ k,k<S.m->dg d (y k*S.K k)
 k : ∀ i,i<=S.m->dg d (sumN i fun k=>y k*S.K k)
theorem DotsZ.y {S:Tb.Sys} {y:Nat->Rat} {d e:Nat} (h:DotsZ S y d) (hd:d<=e):DotsY S y e where
 c:=fun i hi j hj=>by
  rw [show (sumN i fun k=>S.C k j*y k)=sumN i fun k=>y k*S.C k j from zAi fun k _=>Rat.mul_comm _ _]
  exact (h.c i hi j hj).mono hd
 k:=fun i hi=>by
  rw [show (sumN i fun k=>S.K k*y k)=sumN i fun k=>y k*S.K k from zAi fun k _=>Rat.mul_comm _ _]
  exact (h.k i hi).mono hd
def TL (f:Nat->Rat) (n:Nat):List Value:=SL (fun j=>mk (txtQ (f j))) n
theorem TL_set {f:Nat->Rat} {n j:Nat} (hj:j<n) {u:ByteArray} {q:Rat} (hu:bs u=txtQ q):(TL f n).set j (.string u)=TL (upd f j q) n:=by
 unfold TL SL
 rw [zCq hj]
 refine zA3 fun k _=>?_
 by_cases e:k=j
 ·rw [e,zAy]
  show Value.string u=Value.string (mk (txtQ (upd f j q j)))
  rw [zAy]
  congr 1
  exact zGi (by rw [bs_mk,hu])
 ·rw [zAu _ e]
  show Value.string (mk (txtQ (f k)))=Value.string (mk (txtQ (upd f j q k)))
  rw [zAu _ e]
theorem TL_length (f:Nat->Rat) (n:Nat):(TL f n).length=n:=zA7 _ _
theorem TL_congr {f g:Nat->Rat} {n:Nat} (h : ∀ i,i<n->f i=g i):TL f n=TL g n:=zA3 fun i hi=>by (show Value.string (mk (txtQ (f i)))=Value.string (mk (txtQ (g i)));rw [h i hi])
structure CmbAt (w0 w:World) (B sb:Nat) (p:Option Addr) (c n:Nat) (f:Nat->Rat) (q:Rat) (st adm:Bool):Prop where
 s : ∃ u,bs u=txtQ q/\Box w sb 43 [.slice p n c,.string u,.bool st,.bool adm]
 own:OwnB w B 9 p (TL f n)
 r:Box w w0.heap.size 43 [.slice none 0 0,.string { data:=#[] },.bool false,.bool false]
 lo:w0.heap.size<sb
 hi:sb<B
 hx:Ext w0 w
theorem CmbAt.ext {w0 w w' : World} {B sb:Nat} {p:Option Addr} {c n:Nat} {f:Nat->Rat} {q:Rat} {st adm:Bool} (h:CmbAt w0 w B sb p c n f q st adm) (he:Ext w w'):CmbAt w0 w' B sb p c n f q st adm :=
 { h with s:=by obtain⟨u,h1,h2⟩:=h.s;exact⟨u,h1,h2.ext he⟩,own:=h.own.ext he,r:=h.r.ext he,hx:=h.hx.trans he }
theorem CmbAt.congr {w0 w:World} {B sb:Nat} {p:Option Addr} {c n:Nat} {f g:Nat->Rat} {q:Rat} {st adm:Bool} (h:CmbAt w0 w B sb p c n f q st adm) (hf : ∀ j,j<n->f j=g j):CmbAt w0 w B sb p c n g q st adm :=
 { h with own:=by rw [<- TL_congr hf];exact h.own }
theorem CmbAt.box {w0 w:World} {B sb:Nat} {p:Option Addr} {c n:Nat} {f:Nat->Rat} {q:Rat} {st adm:Bool} (h:CmbAt w0 w B sb p c n f q st adm) {i:Nat} {v:Value} {q' : Rat} {st' adm' : Bool}
  (hs : ∀ u,bs u=txtQ q->∃ u',bs u' = txtQ q'/\[.slice p n c,.string u,.bool st,.bool adm].set i v=[.slice p n c,.string u',.bool st',.bool adm']):CmbAt w0 (w.setCell ⟨sb,i,none⟩ v) B sb p c n f q' st' adm':=by
 obtain⟨u,h1,h2⟩:=h.s
 obtain⟨u',h3,h4⟩:=hs u h1
 have h5:=h2.set i v
 rw [h4] at h5
 have hsb:=h.lo
 exact { s:=⟨u',h3,h5⟩,own:=h.own.away zAe fun b _ hb=>boxNe hb h2.blk (by decide),r:=h.r.away zAe (by omega),lo:=h.lo,hi:=h.hi,hx:=h.hx.setCell (by omega) _ }
theorem CmbAt.set {w0 w:World} {B sb:Nat} {p:Option Addr} {c n:Nat} {f:Nat->Rat} {q:Rat} {st adm:Bool} (h:CmbAt w0 w B sb p c n f q st adm) {j:Nat} (hj:j<n) {u:ByteArray} {x:Rat} (hu:bs u=txtQ x) :
  ∃ b,p=some ⟨b,0,none⟩/\B<=b/\w.cell? ((⟨b,0,none⟩:Addr).add (j*1))=some (.string (Si.mk (txtQ (f j))))/\w.frozen? ((⟨b,0,none⟩:Addr).add (j*1))=false/\CmbAt w0 (w.setCell ((⟨b,0,none⟩:Addr).add (j*1)) (.string u)) B sb p c n (upd f j x) q st adm/\Blk w b 9 (TL f n):=by
 rcases h.own with e | ⟨b,hp,hb,hk⟩
 ·have:=congrArg List.length e
  rw [TL_length] at this
  simp only [List.length_nil] at this
  omega
 obtain⟨v,h1,h2⟩:=h.s
 have hsb:=h.lo
 have hB:=h.hi
 refine⟨b,hp,hb,?_,?_,?_,hk⟩
 ·rw [zAk,Nat.mul_one,Nat.zero_add]
  exact hk.cell (zBg hj)
 ·rw [zAk];exact hk.free
 ·rw [zAk,Nat.mul_one,Nat.zero_add]
  have hs:=hk.set j (.string u) (by rw [TL_length];exact hj)
  rw [TL_set hj hu] at hs
  exact { s:=⟨v,h1,h2.away zAe (by omega)⟩,own := .inr ⟨b,hp,hb,hs⟩,r:=h.r.away zAe (by omega),lo:=h.lo,hi:=h.hi,hx:=h.hx.setCell (by omega) _ }
theorem str_eq0 (s:ByteArray):(s.toList==({ data:=#[48] } : ByteArray).toList)=decide (bs s=[48]):=zAw s _
theorem c80 {la:Option Addr} {n lc:Nat} {s:Nat->ByteArray} (hn:n<=1048576) (w:World) (hs:SS w la s n) :
  Ret prog 80 #[.slice la n lc] w fun v w'=>(∃ b,v = .bool b/\(b=true↔∀ j,j<n->bs (s j)=[48]))/\w' = w:=by
 refine run80 _ _ _ _ _ ⟨fun vals w1=>∃ i:Nat,vals=[.int .i64 i]/\i<=n/\(∀ k,k<i->bs (s k)=[48])/\w1=w,mu1 n,⟨0,rfl,Nat.zero_le _,fun k hk=>by omega,rfl⟩,?_⟩
 rintro m w1 ⟨i,hv,hi,hall,rfl⟩
 cases hv
 refine zAd (fun hlt=>?_) (fun hge=>⟨⟨true,rfl,by simp only [true_iff];exact fun k hk=>hall k (by omega)⟩,rfl⟩)
 have hin:i<n:=by omega
 obtain⟨ad,ha,hc⟩:=hs.get hin
 refine⟨ad,ha,⟨by omega,hlt⟩,_,hc,?_⟩
 rw [str_eq0]
 refine zAa (fun hb=>⟨⟨false,rfl,?_⟩,rfl⟩) (fun hb=>?_)
 ·simp only [Bool.false_eq_true,false_iff]
  intro h
  simp [h i hin] at hb
 ·have hb:bs (s i)=[48]:=by simpa using hb
  rw [zAh (by omega)]
  refine⟨⟨i+1,rfl,hin,fun k hk=>?_,rfl⟩,by simp only [mu1,Int.toNat_natCast];omega⟩
  by_cases e:k=i
  ·rw [e];exact hb
  ·exact hall k (by omega)
end Go.Proofs.Si
namespace Go.Proofs.Si
open Go Go.V Go.Proofs Go.RowKit Go.Num Go.Tb Go.Proofs.Tryz
open Go.IntKind (i64 u64 u32 u8)
set_option maxRecDepth 100000
theorem RowsT.cells {w:World} {a:Option Addr} {X:TX} {A:TA} (h:RowsT w a X A) {i:Nat} (hi:i<X.m) : ∃ ad,a=some ad/\vcells w (ad.add (i*3)) 0 (rtc X A i)/\w.cell? (ad.add (i*3))=some (.slice (A.cA i) (X.n i) (A.cC i))/\w.cell? ((ad.add (i*3)).add 1)=some (.int .i64 (X.rel i))/\w.cell? ((ad.add (i*3)).add 2)=some (.string (X.K i)):=by
 obtain⟨b,o,ha,hv⟩:=SlAt.gget (m:=3) (by omega) (fun _=>rfl) h.1 hi
 have h0:=zAC.1 hv 0 _ rfl
 have h1:=zAC.1 hv 1 _ rfl
 have h2:=zAC.1 hv 2 _ rfl
 rw [zAk,zAk] at h0
 refine⟨_,ha,hv,?_,h1,h2⟩
 rw [zAk]
 exact h0
def sameRow (X Y:TX) (i:Nat):Prop:=X.rel i=Y.rel i/\X.K i=Y.K i/\X.n i=Y.n i/\∀ j,j<X.n i->X.C i j=Y.C i j
theorem sameRow.refl (X:TX) (i:Nat):sameRow X X i:=⟨rfl,rfl,rfl,fun _ _=>rfl⟩
theorem c46 {a:Option Addr} {s:Nat->ByteArray} {n c:Nat} {most:Int} (hmost:most<=1048576) (w:World) (ha:SS w a s n) :
  Ret prog 46 #[.slice a n c,.int .i64 most] w fun v w'=>(∃ b,v = .bool b/\(b=false->(n:Int)<=most/\∀ j,j<n->(s j).size<=60))/\w' = w:=by
 refine run46 _ _ _ _ _ _ (zAd (fun h=>⟨⟨true,rfl,fun h=>by cases h⟩,rfl⟩) (fun h=>?_))
 refine⟨fun vals w1=>∃ i:Nat,vals=[.int .i64 i]/\i<=n/\(∀ k,k<i->(s k).size<=60)/\w1=w,mu1 n,⟨0,rfl,Nat.zero_le _,fun k hk=>by omega,rfl⟩,?_⟩
 rintro m1 w1 ⟨i,hv,hi,hall,rfl⟩
 cases hv
 refine zAd (fun hlt=>?_) (fun hge=>⟨⟨false,rfl,fun _=>⟨by omega,fun k hk=>hall k (by omega)⟩⟩,rfl⟩)
 have hin:i<n:=by omega
 obtain⟨a1,h1,hc1⟩:=ha.get hin
 refine⟨a1,h1,⟨by omega,hlt⟩,_,hc1,zAd (fun h=>⟨⟨true,rfl,fun h=>by cases h⟩,rfl⟩) (fun h2=>?_)⟩
 rw [zAh (by omega)]
 refine⟨⟨i+1,rfl,hin,fun k hk=>?_,rfl⟩,by simp only [mu1,Int.toNat_natCast];omega⟩
 by_cases e:k=i
 ·rw [e];omega
 ·exact hall k (by omega)
def smallX (X:TX) (m n:Nat):Prop:=X.m<=m/\∀ i,i<X.m->(X.K i).size<=60/\X.n i<=n/\∀ j,j<X.n i->(X.C i j).size<=60
theorem smallX.tame {X:TX} {m n:Nat} (h:smallX X m n) (hn:n<=1048576):Tame X where
 n:=fun i hi=>Nat.le_trans (h.2 i hi).2.1 hn
 c:=fun i hi j hj=>Nat.le_trans ((h.2 i hi).2.2 j hj) (by decide)
 k:=fun i hi=>Nat.le_trans (h.2 i hi).1 (by decide)
theorem c61 {X:TX} {A:TA} {a:Option Addr} {c:Nat} {most:Nat} (hmost:most<=1048576) (w:World) (ha:RowsT w a X A) :
  Ret prog 61 #[.slice a X.m c,.int .i64 most] w fun v w'=>(∃ b,v = .bool b/\(b=false->smallX X most 60))/\w' = w:=by
 refine run61 _ _ _ _ _ _ (zAd (fun h=>⟨⟨true,rfl,fun h=>by cases h⟩,rfl⟩) (fun h=>?_))
 refine⟨fun vals w1=>∃ i:Nat,vals=[.int .i64 i]/\i<=X.m/\(∀ k,k<i->(X.K k).size<=60/\X.n k<=60/\∀ j,j<X.n k->(X.C k j).size<=60)/\w1=w,mu1 X.m,⟨0,rfl,Nat.zero_le _,fun k hk=>by omega,rfl⟩,?_⟩
 rintro m1 w1 ⟨i,hv,hi,hall,rfl⟩
 cases hv
 refine zAd (fun hlt=>?_) (fun hge=>⟨⟨false,rfl,fun _=>⟨by omega,fun k hk=>hall k (by omega)⟩⟩,rfl⟩)
 have hin:i<X.m:=by omega
 obtain⟨a1,h1,_,q0,q1,q2⟩:=ha.cells hin
 intro K hK
 have no:K [.bool true] w1:=hK true w1 (by rw [cond_true];exact⟨⟨true,rfl,fun h=>by cases h⟩,rfl⟩)
 refine⟨a1,h1,⟨by omega,hlt⟩,_,q2,zAd (fun _=>no) (fun h2=>?_)⟩
 refine⟨a1,h1,⟨by omega,hlt⟩,_,_,_,q0,Called.of (c46 (most:=60) (by decide) _ (ha.2 i hin)) ?_⟩
 rintro v w3 ⟨⟨b,rfl,hb⟩,rfl⟩
 refine⟨_,rfl,?_⟩
 cases b with
 | true=>exact no
 | false =>
  obtain⟨g1,g2⟩:=hb rfl
  refine hK false _ ?_
  rw [cond_false,zAh (by omega)]
  refine⟨⟨i+1,rfl,hin,fun k hk=>?_,rfl⟩,by simp only [mu1,Int.toNat_natCast];omega⟩
  by_cases e:k=i
  ·rw [e];exact⟨by omega,by omega,g2⟩
  ·exact hall k (by omega)
structure LT where
 a:Nat->Option Addr
 n:Nat->Nat
 c:Nat->Nat
 s:Nat->Nat->ByteArray
def ListsT (w:World) (a:Option Addr) (L:LT) (n:Nat):Prop:=SlAt w a (upto (fun i => .slice (L.a i) (L.n i) (L.c i)) n)/\∀ i,i<n->SS w (L.a i) (L.s i) (L.n i)
theorem c20 {X:TX} {A:TA} {L:LT} {n:Int} {a la:Option Addr} {c nl lc:Nat} (hnl:nl<=1048576) (w:World) (ha:RowsT w a X A) (hl:ListsT w la L nl) :
  Ret prog 20 #[.int .i64 n,.slice a X.m c,.slice la nl lc] w fun v w'=>(∃ b,v = .bool b/\(b=false->n<=6/\smallX X 14 60/\∀ i,i<nl->L.n i<=40/\∀ j,j<L.n i->(L.s i j).size<=60))/\w' = w:=by
 refine run20 _ _ _ _ _ _ _ _ _ fun K hK=>?_
 have no:K [.bool true] w:=hK true w (by rw [cond_true];exact⟨⟨true,rfl,fun h=>by cases h⟩,rfl⟩)
 refine zAd (fun _=>no) (fun hn=>?_)
 refine Called.of (c61 (most:=14) (by decide) w ha) ?_
 rintro v w4 ⟨⟨b,rfl,hb⟩,rfl⟩
 refine⟨_,rfl,?_⟩
 cases b with
 | true=>exact no
 | false =>
 have hsm:=hb rfl
 refine hK false _ ?_
 rw [cond_false]
 refine⟨fun vals w1=>∃ i:Nat,vals=[.int .i64 i]/\i<=nl/\(∀ k,k<i->L.n k<=40/\∀ j,j<L.n k->(L.s k j).size<=60)/\w1=w4,mu1 nl,⟨0,rfl,Nat.zero_le _,fun k hk=>by omega,rfl⟩,?_⟩
 rintro m1 w1 ⟨i,hv,hi,hall,rfl⟩
 cases hv
 refine zAd (fun hlt=>?_) (fun hge=>⟨⟨false,rfl,fun _=>⟨by omega,hsm,fun k hk=>hall k (by omega)⟩⟩,rfl⟩)
 have hin:i<nl:=by omega
 obtain⟨a1,h1,hc1⟩:=slGet hl.1 hin
 refine⟨a1,h1,⟨by omega,hlt⟩,_,_,_,hc1,Called.of (c46 (most:=40) (by decide) _ (hl.2 i hin)) ?_⟩
 rintro v w3 ⟨⟨b,rfl,hb⟩,rfl⟩
 refine⟨_,rfl,?_⟩
 cases b with
 | true=>rw [cond_true];exact⟨⟨true,rfl,fun h=>by cases h⟩,rfl⟩
 | false =>
  obtain⟨g1,g2⟩:=hb rfl
  rw [cond_false,zAh (by omega)]
  refine⟨⟨i+1,rfl,hin,fun k hk=>?_,rfl⟩,by simp only [mu1,Int.toNat_natCast];omega⟩
  by_cases e:k=i
  ·rw [e];exact⟨by omega,g2⟩
  ·exact hall k (by omega)
structure OwnT (w:World) (B:Nat) (p:Option Addr) (c:Nat) (X:TX) (A:TA) (k:Nat):Prop where
 row:w.ownsRow B 49 3 (.slice p k c) k (GL (rtc X A) k)
 c : ∀ i,i<k->w.ownsRow B 9 1 (.slice (A.cA i) (X.n i) (A.cC i)) (X.n i) (SL (X.C i) (X.n i))
theorem OwnT.ext {w w' : World} {B:Nat} {p:Option Addr} {c:Nat} {X:TX} {A:TA} {k:Nat} (h:OwnT w B p c X A k) (he:Ext w w'):OwnT w' B p c X A k:=⟨zA8 h.row he,fun i hi=>zA8 (h.c i hi) he⟩
theorem OwnT.t {w:World} {B:Nat} {p:Option Addr} {c:Nat} {X:TX} {A:TA} (h:OwnT w B p c X A X.m):RowsT w p X A:=⟨zBr h.row,fun i hi=>zBr (h.c i hi)⟩
theorem zCX (s:Nat->ByteArray) (n:Nat):(SL s n).length=n:=zA7 _ _
end Go.Proofs.Si
namespace Go.Proofs.Si
open Go Go.V Go.Proofs Go.RowKit Go.Num Go.Tb
set_option maxRecDepth 100000
structure Sm6 (S:Tb.Sys):Prop where
 n:S.n<=6
 m:S.m<=15
 C : ∀ i,i<S.m->∀ j,j<S.n->dg 61 (S.C i j)
 K : ∀ i,i<S.m->dg 61 (S.K i)
theorem bd_le : ∀ n,n<=6->bd 61 n+1<=251222:=by decide
theorem vd_le : ∀ n,n<=6->vd 61 61 n<=1507760:=by decide
theorem Sm6.a {S:Tb.Sys} (h:Sm6 S) {s:Dy} (hI:Inv S s) {i j:Nat} (hi:i<S.m) (hj:j<S.n):dg 251222 (s.a i j) :=
 (dict_dg hI.dict (fun i j hi hj=>h.C i hi j hj) i j hi hj).mono (bd_le _ h.n)
theorem Sm6.val {S:Tb.Sys} (h:Sm6 S) {s:Dy} (hI:Inv S s) {v:Nat} (hv:v<S.n+S.m):dg 1507760 (s.val v).1/\dg 1507760 (s.val v).2:=by
 have h1:=val_dg hI (fun i j hi hj=>h.C i hi j hj) h.K v hv
 have h2:=vd_le _ h.n
 exact⟨h1.1.mono h2,h1.2.mono h2⟩
theorem Sm6.fits {S:Tb.Sys} (h:Sm6 S):Fits S where
 few:=by have:=h.n;have:=h.m;unfold Few;omega
 short:=⟨fun i hi=>(h.K i hi).mono (by decide),by decide⟩
 a:=fun s hI i hi j hj=>(h.a hI hi hj).mono (by decide)
 val:=fun s hI v hv=>⟨(h.val hI hv).1.mono (by decide),(h.val hI hv).2.mono (by decide)⟩
theorem Sm6.cost {S:Tb.Sys} (h:Sm6 S) {c:Nat->Rat} (hc : ∀ j,j<S.n->dg 61 (c j)) {s:Dy} (hI:Inv S s) {j:Nat} (hj:j<S.n) : ∀ k,k<=S.n->dg (62+k*251286) (costF S s c k j):=by
 intro k
 induction k with
 | zero =>
  intro _
  rw [costF]
  split
  ·rename_i h1;exact (hc _ h1).mono (by omega)
  ·exact zCy (by omega)
 | succ k ih =>
  intro hk
  have ihk:=ih (by omega)
  rw [costF]
  split
  ·exact ihk.mono (by omega)
  ·rename_i hl
   obtain⟨h1,_⟩:=(hI.dict.perm.lin k (by omega)).1 (by omega)
   exact (ihk.add ((hc k (by omega)).mul (h.a hI (i:=(s.line k).toNat) (by omega) hj))).mono (by omega)
theorem Sm6.fitsC {S:Tb.Sys} (h:Sm6 S) {c:Nat->Rat} (hc : ∀ j,j<S.n->dg 61 (c j)):FitsC S c/\∀ s,Inv S s->∀ j,j<S.n->dg 2000000 (costs S s c j):=by
 have hn:=h.n
 refine⟨{ sh:=fun v hv=>(hc v hv).mono (by decide),cost:=fun s hI k hk j hj=>(h.cost hc hI hj k hk).mono (by omega),zv:=fun s hI k hk=>?_ },fun s hI j hj=>(h.cost hc hI hj S.n (Nat.le_refl _)).mono (by omega)⟩
 have e : ∀ k,zvF s c k=(sumN k fun v=>c v*(s.val v).1,sumN k fun v=>c v*(s.val v).2):=by
  intro k
  induction k with
  | zero=>rfl
  | succ k ih=>rw [zvF,ih,sumN,sumN,add2,zAn,Rat.mul_comm (s.val k).1,Rat.mul_comm (s.val k).2]
 rw [e]
 exact⟨(zFL (h:=1507822) fun i hi=>((hc i (by omega)).mul (h.val hI (v:=i) (by omega)).1).mono (by decide)).mono (by omega),(zFL (h:=1507822) fun i hi=>((hc i (by omega)).mul (h.val hI (v:=i) (by omega)).2).mono (by decide)).mono (by omega)⟩
theorem Sm6.dotsZ {S:Tb.Sys} (h:Sm6 S) {y:Nat->Rat} (hy : ∀ k,k<S.m->dg 2000000 (y k)):DotsZ S y 60000000:=by
 have hm:=h.m
 exact {
  p:=fun k hk j hj=>((hy k hk).mul (h.C k hk j hj)).mono (by decide)
  c:=fun i hi j hj=>(zFL (h:=2000062) fun k hk=>(hy k (by omega)).mul (h.C k (by omega) j hj)).mono (by omega)
  pk:=fun k hk=>((hy k hk).mul (h.K k hk)).mono (by decide)
  k:=fun i hi=>(zFL (h:=2000062) fun k hk=>(hy k (by omega)).mul (h.K k (by omega))).mono (by omega) }
theorem Sm6.dots {S:Tb.Sys} (h:Sm6 S) {x:Nat->Rat} (hx : ∀ j,j<S.n->dg 14000000 (x j)):Dots S x 84001000:=by
 have hn:=h.n
 intro i hi
 exact⟨fun j hj=>((h.C i hi j hj).mul (hx j hj)).mono (by decide),fun k hk=>(zFL (h:=14000062) fun j hj=>(h.C i hi j (by omega)).mul (hx j (by omega))).mono (by omega)⟩
theorem smallX.sm {X:TX} {n:Nat} (h:smallX X 14 60) (hn:n<=6) (hok : ∀ i,i<X.m->okRow X n i):Sm6 (sysX X n) where
 n:=hn
 m:=by have:=h.1;show X.m<=15;omega
 C:=fun i hi j hj=>rd_dg ((hok i hi).2.2.2.1 j (by have:=(hok i hi).1;replace hj:j<n:=hj;omega)) ((h.2 i hi).2.2 j (by have:=(hok i hi).1;replace hj:j<n:=hj;omega))
 K:=fun i hi=>rd_dg (hok i hi).2.2.2.2 (h.2 i hi).1
theorem Agree.sm {S S' : Tb.Sys} (h:Agree S S') (hs:Sm6 S):Sm6 S' where
 n:=by rw [<- h.n];exact hs.n
 m:=by rw [<- h.m];exact hs.m
 C:=fun i hi j hj=>by
  rw [<- h.C i (by rw [h.m];exact hi) j (by rw [h.n];exact hj)]
  exact hs.C i (by rw [h.m];exact hi) j (by rw [h.n];exact hj)
 K:=fun i hi=>by
  rw [<- h.K i (by rw [h.m];exact hi)]
  exact hs.K i (by rw [h.m];exact hi)
theorem zFM {X:TX} {n:Int} (h:smallX X 14 60) (hn:n<=6) (hok:okRows X n) : ∀ S,Reads X S->(S.n:Int)=n->Fits S:=by
 intro S hS hSn
 have h0:=hok.1
 exact (((zBh hok.nat).agree hS (by show n.toNat=S.n;omega)).sm (h.sm (by omega) hok.nat)).fits
theorem zEK (z:Int):txtQ (z:Rat)=(if z<0 then [45] else [])++dec z.natAbs:=by
 rw [zA0,Rat.num_intCast,Rat.den_intCast,if_pos rfl,List.append_nil]
end Go.Proofs.Si
