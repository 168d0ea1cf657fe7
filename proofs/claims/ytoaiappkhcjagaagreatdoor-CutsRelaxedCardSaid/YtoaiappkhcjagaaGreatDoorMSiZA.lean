/- Part of the proof: SiZA, SiZB, SiP0, SiP1, SiF2, SiRow. -/
import Derived.Test.YtoaiappkhcjagaaGreatDoorMSiZ5
import Derived.Test.YtoaiappkhcjagaaGreatDoorSiV10
import Derived.Test.YtoaiappkhcjagaaGreatDoorSiE
import Derived.Test.YtoaiappkhcjagaaGreatDoorProg
import Derived.KernelRfl
import GoSem.ClaimSeven
import Derived.Test.YtoaiappkhcjagaaGreatDoorMSiS15
import Derived.ProofKit
import Derived.OpenShut
import Derived.ShutString
import Derived.Below
import Derived.Lay
import Derived.LaidOnce
import Derived.SevenTiedAt
import Derived.ChangeSlices
import Derived.ChangeOld
import Derived.Carry
import Derived.DataReads
import Derived.Lib.LaidTab
import Derived.Stop.LaidErr
set_option linter.unusedVariables false
set_option linter.unusedSimpArgs false
namespace Go.Proofs.Si
open Go Go.V Go.Proofs Go.RowKit Go.Num Go.Tb Go.Proofs.Tryz
set_option maxRecDepth 100000
theorem bd5 : ∀ n,n<=5->bd 370 n+1<=379222:=by decide
theorem fits5 {S:Tb.Sys} (hn:S.n<=5) (hm:S.m<=1000) (hC : ∀ i,i<S.m->∀ j,j<S.n->dg 370 (S.C i j)) (hK : ∀ i,i<S.m->dg 745 (S.K i)):Fits S:=by
 have hA : ∀ s,Inv S s->∀ i,i<S.m->∀ j,j<S.n->dg 379222 (s.a i j):=fun s hI i hi j hj=>(dict_dg hI.dict (fun i j hi hj=>hC i hi j hj) i j hi hj).mono (bd5 _ hn)
 exact {
  few:=by unfold Few;omega
  short:=⟨fun i hi=>(hK i hi).mono (by decide),by decide⟩
  a:=fun s hI i hi j hj=>(hA s hI i hi j hj).mono (by decide)
  val:=fun s hI v hv=>by
   have:=val_of_a (by decide) hI (hA s hI) hK v hv
   exact⟨this.1.mono (by omega),this.2.mono (by omega)⟩ }
theorem uC_dg {n rel:Nat} {C:Nat->Rat} {K:Rat} (hn:n<=5) (hC : ∀ j,j<n->dg 61 (C j)) (hK:dg 61 K):(∀ j,j<n->dg 370 (uC n C rel K j))/\dg 745 (uK n C rel K):=by
 have g:dg 306 ((lcmD C n:Nat):Rat):=zCF (by
  have h1:=zDA (C:=C) (d:=61) (n:=n) fun j hj=>hC j hj
  omega)
 have f : ∀ j,j<n->dg 368 (C j*((lcmD C n:Nat):Rat)):=fun j hj=>((hC j hj).mul g).mono (by omega)
 have hg:dg 368 ((gcdD C (lcmD C n) n:Nat):Rat):=zCF (zDE (by decide) fun j hj=>f j (by omega))
 have b:dg 738 (K*facT n C):=by
  unfold facT
  rw [<- Rat.mul_assoc]
  exact ((hK.mul g).mul hg.inv).mono (by decide)
 have d1:dg 1 ((1:Int):Rat):=zCR (by rw [show (1:Int).natAbs=1 from rfl,zBx];decide)
 constructor
 ·intro j hj
  unfold uC
  split
  ·obtain⟨z,e,hz⟩:=tC_int (C:=C) hj
   rw [e]
   exact zCR (Nat.le_trans (zAu hz) (Nat.le_trans (f j hj).1 (by decide)))
  ·exact zBs (by decide)
 ·unfold uK
  split
  ·unfold tK
   split
   ·exact zBs (by decide)
   ·split
    ·exact b.mono (by decide)
    ·split
     ·have dfl:dg 738 ((flo (-(K*facT n C)):Int):Rat):=zCR (Nat.le_trans (zAu (zCP _)) b.neg.1)
      rw [Rat.intCast_sub,Rat.intCast_neg]
      exact (dfl.neg.sub d1).mono (by decide)
     ·exact (zCR (Nat.le_trans (zAu (zCP _)) b.1)).mono (by decide)
  ·rw [Rat.intCast_neg];exact d1.neg.mono (by decide)
theorem zBS {X:TX} {n:Nat} (h:smallX X 12 60) (hok:okRows X n) : ∀ i,i<X.m->(∀ j,j<n->dg 61 (rC X i j))/\dg 61 (rK X i):=fun i hi=>by
 obtain⟨q1,q2,q3,q4,q5⟩:=hok.2.2.2 i hi
 exact⟨fun j hj=>rd_dg (q4 j (by omega)) ((h.2 i hi).2.2 j (by omega)),rd_dg q5 (h.2 i hi).1⟩
theorem tight_fits {X:TX} {n:Nat} (h:smallX X 12 60) (hn:n<=5) (hok:okRows X n):Fits (tSys X n) :=
 fits5 hn (by show X.m<=1000;have:=h.1;omega) (fun i hi j hj=>(uC_dg hn (zBS h hok i hi).1 (zBS h hok i hi).2).1 j hj) (fun i hi=>(uC_dg hn (zBS h hok i hi).1 (zBS h hok i hi).2).2)
theorem tSat_back {X:TX} {n:Nat} {x:Nat->Rat} (hok:okRows X n) (h:Sat (tSys X n) x):Sat (sysX X n) x/\∀ i,i<X.m->tOk n (rC X i) (rR X i) (rK X i):=by
 have key : ∀ i,i<X.m->tOk n (rC X i) (rR X i) (rK X i):=by
  intro i hi
  refine Classical.byContradiction fun b=>?_
  have h1:=(h i hi).1
  have e1:lhs (tSys X n) x i=0:=by
   show (sumN n fun j=>uC n (rC X i) (rR X i) (rK X i) j*x j)=0
   exact zero_lhs (fun k hk=>by unfold uC;rw [if_neg b]) x
  have e2:(tSys X n).K i=((-1:Int):Rat):=by
   show uK n (rC X i) (rR X i) (rK X i)=_
   unfold uK;rw [if_neg b]
  rw [e1,e2] at h1
  exact absurd h1 (by decide)
 refine⟨fun i hi=>?_,key⟩
 replace hi:i<X.m:=hi
 obtain⟨q1,q2,q3,q4,q5⟩:=hok.2.2.2 i hi
 have hk:=key i hi
 have h1:=h i hi
 have e1:lhs (tSys X n) x i=sumN n fun j=>tC n (rC X i) j*x j:=by
  show (sumN n fun j=>uC n (rC X i) (rR X i) (rK X i) j*x j)=_
  unfold uC;rw [if_pos hk]
 have e2:(tSys X n).K i=tK n (rC X i) (rR X i) (rK X i):=by
  show uK n (rC X i) (rR X i) (rK X i)=_
  unfold uK;rw [if_pos hk]
 have e3:(tSys X n).rel i=tRel n (rC X i) (rR X i):=by
  show uRel n (rC X i) (rR X i) (rK X i)=_
  unfold uRel;rw [if_pos hk]
 rw [e1,e2,e3] at h1
 exact tight_back (rel:=rR X i) (by unfold rR;omega) hk h1
def IlpR (X:TX) (n:Int) (bud:Int) (w:World) (v:Value):Prop :=
  (¬ (okRows X n/\0<=bud/\bud<=4000)/\v = .tuple #[.agg #[.int .i64 0,nsl,nsl],.int .i64 1]) \/
  ((okRows X n/\0<=bud/\bud<=4000) /\
    ((∃ y b b',v = .tuple #[.agg #[.int .i64 2,nsl,.slice (some ⟨b,0,none⟩) 1 1],.int .i64 0]/\Box w b 115 (ltc b' X.m)/\Box w b' 9 (SL (fun i=>mk (txtQ (y i))) X.m)/\zBg (tSys X n.toNat) y/\∀ k,dg 2000000 (y k)) \/
     (∃ b pt,v = .tuple #[.agg #[.int .i64 1,.slice (some ⟨b,0,none⟩) n.toNat n.toNat,nsl],.int .i64 0]/\TxtsAt w b pt n.toNat/\Sat (tSys X n.toNat) pt/\(∀ j,j<n.toNat->(pt j).den=1)/\∀ j,j<n.toNat->dg 14000000 (pt j))))
set_option maxHeartbeats 2000000 in
theorem c49r {X:TX} {A:TA} {n bud:Int} {a:OA} {c:Nat} (hX:smallX X 12 60) (hn:n<=5) (H:okRows X n->∀ f s',zAS (tSys X n.toNat) f (init (tSys X n.toNat))=some (s',none)->∀ j,j<n.toNat->(zB4 s' (zBj (tSys X n.toNat) s') j).den=1) (w:World) (hR:RowsT w a X A) (hg:Gl w) :
  Ret prog 49 #[.int .i64 n,.slice a X.m c,.int .i64 bud] w fun v w'=>IlpR X n bud w' v/\Ext w w':=by
 have a6:=hX.tame (by decide)
 have z1:=(yE w).alloc (.cells [Value.int .i64 0,nsl,nsl].toArray 65)
 have bI:=yN w [Value.int .i64 0,nsl,nsl] 65
 refine run49 _ _ _ _ _ _ _ (yC (c92 a6 _ (hR.ext z1) (hg.ext z1)) ?_)
 rintro v w1 ⟨⟨b,rfl,hb⟩,a1⟩
 have l:=z1.trans a1
 have s:=bI.ext a1
 refine⟨_,rfl,zAb (fun h=>?_) (fun h=>?_)⟩
 ·have hP:=s.put [Value.int .i64 0,nsl,nsl] (by rfl)
  refine⟨s.blk.writable (by decide),_,_,_,_,_,_,_,hP.blk.all,.inl ⟨?_,rfl⟩,l.put yL _ _⟩
  rintro⟨h1,h2,h3⟩
  rw [hb.2 h1,decide_eq_false (by omega),decide_eq_false (by omega)] at h
  cases h
 rw [Bool.or_eq_false_iff,Bool.or_eq_false_iff,decide_eq_false_iff_not,decide_eq_false_iff_not] at h
 obtain⟨⟨h1,h2⟩,h3⟩:=h
 have d:=hb.1 (by simpa using h1)
 have p:okRows X n/\0<=bud/\bud<=4000:=⟨d,by omega,by omega⟩
 obtain⟨nn,rfl⟩ : ∃ nn:Nat,n=nn:=⟨n.toNat,(Int.toNat_of_nonneg d.1).symm⟩
 have H':=H d
 rw [yT] at H'
 have hF:=tight_fits hX (by omega) d
 refine yC (c94 a6 d (zBS hX d) w1 (hR.ext l) (hg.ext l)) ?_
 rintro v w2 ⟨Rl,rfl,a8,a2⟩
 have a7:=l.trans a2
 refine⟨_,_,_,rfl,yC (c93r (S:=tSys X nn) (rc:=X.m) (bud:=bud) hF H' w2 a8 (hg.ext a7)) ?_⟩
 rintro v w3 ⟨hs,a3⟩
 have o:=a7.trans a3
 have i:=(s.ext a2).ext a3
 rcases hs with ⟨y,b,pf,cf,rfl,hL,hY,href,hyd⟩ | ⟨b,pt,rfl,hP,hsat,hint,hpd⟩
 ·refine⟨_,_,_,_,_,_,_,rfl,?_⟩
  rw [show ((2:Int)==1)=false from rfl,cond_false,show ((2:Int)==2)=true from rfl,cond_true]
  refine yC (c95r (m:=X.m) (by have:=hX.1;omega) (fun k _=>(hyd k).mono (by decide)) w3 hL hY (hg.ext o)) ?_
  rintro v w5 ⟨b',rfl,a9,a0,a5⟩
  have u:=i.ext a5
  have g:=u.put [.int .i64 2,nsl,.slice (some ⟨w3.heap.size,0,none⟩) 1 1] (by rfl)
  have b0:=i.lt
  refine⟨_,_,_,rfl,u.blk.writable (by decide),_,_,_,_,_,_,_,g.blk.all,.inr ⟨p,.inl ⟨y,w3.heap.size,b',rfl,a9.away zAh (by omega),?_,?_,hyd⟩⟩,(o.trans a5).put yL _ _⟩
  ·refine a0.same ?_
   exact zAh _ fun e=>by
    subst e
    have:=a0.symm.trans u
    simp at this
  ·rw [yT];exact href
 ·refine⟨_,_,_,_,_,_,_,rfl,?_⟩
  rw [show ((1:Int)==1)=true from rfl,cond_true]
  refine yC (c72 (f:=pt) (n:=nn) (by omega) w3 hP.qs (fun j hj=>(hpd j hj).mono (by decide)) (hg.ext o)) ?_
  rintro v w4 ⟨rfl,hT,a4⟩
  have x:=i.ext a4
  have g:=x.put [.int .i64 1,.slice (some ⟨w3.heap.size,0,none⟩) nn nn,nsl] (by rfl)
  have b0:=i.lt
  refine⟨_,_,_,rfl,x.blk.writable (by decide),_,_,_,_,_,_,_,g.blk.all,.inr ⟨p,.inr ⟨w3.heap.size,pt,rfl,?_,?_,?_,?_⟩⟩,(o.trans a4).put yL _ _⟩
  ·rw [yT];exact hT.away zAh (by omega)
  ·rw [yT];exact hsat
  ·rw [yT];exact hint
  ·rw [yT];exact hpd
set_option maxHeartbeats 4000000 in
theorem c101 {S:Tb.Sys} {Rl:RowL} {ra ma:OA} {rc mc:Nat} {y:Nat->Rat} (hf:Few S) (hrel : ∀ k,k<S.m->1<=S.rel k/\S.rel k<=3) (hdC : ∀ i,i<S.m->∀ j,j<S.n->dg 60000000 (S.C i j)) (hdK : ∀ i,i<S.m->dg 60000000 (S.K i)) (hdy : ∀ k,k<S.m->dg 60000000 (y k)) (hD:DotsZ S y 60000000) (w:World) (hR:RowsR w ra S Rl) (hy:QS w ma y S.m) (hg:Gl w) :
  Ret prog 101 #[.int .i64 S.n,.slice ra S.m rc,.slice ma S.m mc] w fun v w'=>(∃ b,v = .bool b/\(b=true↔zBg S y))/\Ext w w':=by
 unfold Few at hf
 refine run101 _ _ _ _ _ _ _ _ _ ⟨⟨by omega,by omega,by omega,by omega⟩,?_⟩
 simp only [yT,zFx]
 have e0:madeCells (Value.agg #[Value.int .i64 0,.int .i64 0,.string { data:=#[] }]).cells (S.n*3)=(QL (fun _=>0) S.n).toArray:=zEd S.n
 rw [e0]
 have zS:=(yE w).alloc (.cells (QL (fun _=>0) S.n).toArray 88)
 have bS:=yN w (QL (fun _=>0) S.n) 88
 have sS:(w.alloc (.cells (QL (fun _=>0) S.n).toArray 88)).heap.size=w.heap.size+1:=size_alloc ..
 generalize w.alloc (.cells (QL (fun _=>0) S.n).toArray 88)=W1 at zS bS sS ⊢
 have zB:=(yE W1).alloc (.cells zq.toArray 88)
 have bB:=yN W1 zq 88
 have h7:=bS.ext zB
 rw [show zq=qc 0 from qc_zero.symm] at bB
 have k3:W1.heap.size<(W1.alloc (.cells zq.toArray 88)).heap.size:=by rw [size_alloc];omega
 refine⟨fun vals w1=>∃ (i:Nat) (b:Bool),vals=[.int .i64 i,.bool b]/\i<=S.m/\(∀ k,k<i->S.rel k≠3->0<=y k)/\(b=true↔∃ k,k<i/\S.rel k=2/\0<y k)/\Box w1 w.heap.size 88 (QL (fun j=>sumN i fun k=>y k*S.C k j) S.n)/\Box w1 W1.heap.size 88 (qc (sumN i fun k=>y k*S.K k))/\Ext w w1,mu1 S.m,⟨0,false,rfl,Nat.zero_le _,fun k hk=>by omega,by simp,h7,bB,zS.trans zB⟩,?_⟩
 rintro m b w1 ⟨i,b0,hv,hi,a2,hb,a9,a1,he⟩
 cases hv
 have k4:=a1.lt
 refine zAe (fun x=>?_) (fun j5=>?_)
 ·have d:i<S.m:=by omega
  obtain⟨ad,ha,hc,_⟩:=(hR.ext he).get d
  obtain⟨b2,o2,g1,k2⟩:=(hy.ext he).get d
  have bN:=yN w1 z90 90
  have eN:Ext w1 (setCells (w1.alloc (.cells z90.toArray 90)) ⟨w1.heap.size,0,none⟩ 0 (rowc S Rl i)):=((yE w1).alloc _).put yL _ _
  have bP:=bN.put (rowc S Rl i) (by rfl)
  have e5:=he.trans eN
  obtain⟨b3,o3,g2,j1⟩:=(hy.ext e5).get d
  rw [g1] at g2
  cases g2
  refine⟨ad,ha,⟨by omega,x⟩,_,_,_,_,_,_,_,hc,bN.blk.writable (by decide),_,g1,⟨by omega,x⟩,_,_,_,j1,yC (c75 ((hdy i d).mono (by decide)) _ (hg.ext e5)) ?_⟩
  rintro v w2 ⟨rfl,d9⟩
  have a6:=e5.trans d9
  have d3:=eN.trans d9
  have i5:=a9.ext d3
  have h8:=a1.ext d3
  refine⟨_,rfl,zAb (fun h0=>?_) (fun h0=>?_)⟩
  ·
   have a0:y i=0:=Tb.sgnQ_zero.1 (by simpa using h0)
   rw [zAf (by omega)]
   refine⟨⟨i+1,b,rfl,d,fun k hk hr=>?_,?_,?_,?_,a6⟩,by simp only [mu1,yT];omega⟩
   ·by_cases e:k=i
    ·rw [e,a0];exact Rat.le_refl
    ·exact a2 k (by omega) hr
   ·rw [hb]
    exact⟨fun ⟨k,h1,h2,h3⟩=>⟨k,by omega,h2,h3⟩,fun ⟨k,h1,h2,h3⟩=>by
     by_cases e:k=i
     ·rw [e,a0] at h3;exact absurd h3 (Rat.lt_irrefl)
     ·exact⟨k,by omega,h2,h3⟩⟩
   ·have:QL (fun j=>sumN (i+1) fun k=>y k*S.C k j) S.n=QL (fun j=>sumN i fun k=>y k*S.C k j) S.n:=zAR fun j _=>by rw [zAp,a0,Rat.zero_mul,Rat.add_zero]
    rw [this];exact i5
   ·rw [zAp,a0,Rat.zero_mul,Rat.add_zero];exact h8
  ·have a0:y i≠0:=fun e=>by rw [e] at h0;exact absurd h0 (by decide)
   intro K hK
   have e8:=bP.ext d9
   have k5:=bP.lt
   have go : ∀ (b1:Bool) w3,Ext w2 w3->(b1=true↔y i<0/\S.rel i≠3)->K [.bool b1] w3:=by
    intro b1 w3 h3 g3
    refine hK b1 w3 (zAb (fun h=>?_) (fun h=>?_))
    ·obtain⟨n1,n2⟩:=g3.1 h
     refine⟨⟨false,rfl,?_⟩,a6.trans h3⟩
     simp only [Bool.false_eq_true,false_iff]
     exact fun hr=>Rat.not_lt.2 (hr.1 i d n2) n1
    have j6 : ¬ (y i<0/\S.rel i≠3):=fun hh=>by rw [g3.2 hh] at h;cases h
    have j7:=a6.trans h3
    have f7:=d3.trans h3
    have e9:=e8.ext h3
    have k6:w1.heap.size<w3.heap.size:=e9.lt
    refine⟨fun vals w4=>∃ j:Nat,vals=[.int .i64 j]/\j<=S.n/\Box w4 w.heap.size 88 (QL (fun j'=>(sumN i fun k=>y k*S.C k j')+if j' < j then y i*S.C i j' else 0) S.n)/\Box w4 W1.heap.size 88 (qc (sumN i fun k=>y k*S.K k))/\Box w4 w1.heap.size 90 (rowc S Rl i)/\Ext w w4,mu1 S.n,⟨0,rfl,Nat.zero_le _,?_,(a1.ext f7),e9,j7⟩,?_⟩
    ·have:QL (fun j'=>(sumN i fun k=>y k*S.C k j')+if j' < 0 then y i*S.C i j' else 0) S.n=QL (fun j=>sumN i fun k=>y k*S.C k j) S.n:=zAR fun j _=>by rw [if_neg (by omega),Rat.add_zero]
     rw [this];exact a9.ext f7
    rintro m w4 ⟨j,hv,hj,d6,d4,a7,e4⟩
    cases hv
    have u:=(yE w4).drew
    have l:=e4.trans u
    refine zAe (fun x=>?_) (fun j5=>?_)
    ·have s:j<S.n:=by omega
     intro K1 i0
     obtain⟨b5,o5,i8,j2⟩:=QS.get ((hR.ext l).2 i d) s
     obtain⟨b6,o6,d7,d8⟩:=(hy.ext l).get d
     have i6:=d6.ext u
     have e1:((sumN i fun k=>y k*S.C k j)+if j<j then y i*S.C i j else 0)=sumN i fun k=>y k*S.C k j:=by rw [if_neg (Nat.lt_irrefl _),Rat.add_zero]
     have g9:=i6.qget s
     rw [e1] at g9
     refine⟨_,rfl,⟨by omega,x⟩,_,_,_,g9,_,_,_,(a7.ext u).blk.cell (j:=0) rfl,_,i8,⟨by omega,x⟩,_,_,_,j2,_,d7,⟨by omega,by omega⟩,_,_,_,d8,yC (c113 ((hdC i d j s).mono (by decide)) ((hdy i d).mono (by decide)) _ (hg.ext l)) ?_⟩
     rintro v w6 ⟨rfl,e2⟩
     have ep:S.C i j*y i=y i*S.C i j:=Rat.mul_comm _ _
     rw [ep]
     refine⟨_,_,_,rfl,e2,yC (c112 ((hD.c i (by omega) j s).mono (by decide)) ((hD.p i d j s).mono (by decide)) w6 (hg.ext (l.trans e2))) ?_⟩
     rintro v w7 ⟨rfl,j4⟩
     have e7:=u.trans (e2.trans j4)
     have g0:=d6.ext e7
     have hq:=g0.qset s ((sumN i fun k=>y k*S.C k j)+y i*S.C i j)
     refine⟨_,_,_,rfl,_,rfl,⟨by omega,x⟩,g0.qwr s,i0 _ ?_⟩
     rw [zAf (by omega)]
     refine⟨⟨j+1,rfl,s,?_,?_,?_,?_⟩,by simp only [mu1,yT];omega⟩
     ·have:QL (upd (fun j'=>(sumN i fun k=>y k*S.C k j')+if j' < j then y i*S.C i j' else 0) j ((sumN i fun k=>y k*S.C k j)+y i*S.C i j)) S.n=QL (fun j'=>(sumN i fun k=>y k*S.C k j')+if j' < j+1 then y i*S.C i j' else 0) S.n:=zAR fun k hk=>by
       by_cases ek:k=j
       ·rw [ek,zA1,if_pos (by omega)]
       ·rw [zAs _ ek]
        by_cases h:k<j
        ·rw [if_pos h,if_pos (by omega)]
        ·rw [if_neg h,if_neg (by omega)]
      rw [<- this];exact hq
     ·rw [zAi];exact (d4.ext e7).same (zAk (b:=w.heap.size) (o:=0+j*3) (k:=W1.heap.size) (by omega) _ 0)
     ·rw [zAi];exact (a7.ext e7).same (zAk (b:=w.heap.size) (o:=0+j*3) (k:=w1.heap.size) (by omega) _ 0)
     ·rw [zAi];exact (e4.trans e7).put yL _ _
    ·have s:j=S.n:=by omega
     subst s
     intro K2 i1
     obtain⟨b6,o6,d7,d8⟩:=(hy.ext l).get d
     have h9:=d4.ext u
     refine⟨_,_,_,h9.blk.all,_,_,_,r90_k (a7.ext u),_,d7,⟨by omega,by omega⟩,_,_,_,d8,yC (c113 ((hdK i d).mono (by decide)) ((hdy i d).mono (by decide)) _ (hg.ext l)) ?_⟩
     rintro v w9 ⟨rfl,e3⟩
     have ep:S.K i*y i=y i*S.K i:=Rat.mul_comm _ _
     rw [ep]
     refine⟨_,_,_,rfl,e3,yC (c112 ((hD.k i (by omega)).mono (by decide)) ((hD.pk i d).mono (by decide)) w9 (hg.ext (l.trans e3))) ?_⟩
     rintro v h4 ⟨rfl,g5⟩
     have a8:=u.trans (e3.trans g5)
     have b9:=d4.ext a8
     have f9:=d6.ext a8
     have f8:=b9.put (qc ((sumN i fun k=>y k*S.K k)+y i*S.K i)) (by rfl)
     refine⟨_,_,_,rfl,b9.blk.writable (Nat.le_refl 3),i1 _ ?_⟩
     have e6:=(a7.ext a8).same (zAk (b:=W1.heap.size) (o:=0) (k:=w1.heap.size) (by omega) (qc ((sumN i fun k=>y k*S.K k)+y i*S.K i)) 0)
     have i7:=f9.same (zAk (b:=W1.heap.size) (o:=0) (k:=w.heap.size) (by omega) (qc ((sumN i fun k=>y k*S.K k)+y i*S.K i)) 0)
     have j8:Ext w (setCells h4 ⟨W1.heap.size,0,none⟩ 0 (qc ((sumN i fun k=>y k*S.K k)+y i*S.K i))):=(e4.trans a8).put (by omega) _ _
     intro K3 i2
     have b8 : ∀ k,k<i+1->S.rel k≠3->0<=y k:=fun k hk hr=>by
      by_cases e:k=i
      ·rw [e] at hr ⊢
       exact Rat.not_lt.1 fun hh=>j6 ⟨hh,hr⟩
      ·exact a2 k (by omega) hr
     have next : ∀ b2:Bool,(b2=true↔∃ k,k<i+1/\S.rel k=2/\0<y k)->K3 [.bool b2] (setCells h4 ⟨W1.heap.size,0,none⟩ 0 (qc ((sumN i fun k=>y k*S.K k)+y i*S.K i))):=fun b2 j0=>i2 b2 (by
      rw [zAf (by omega)]
      refine⟨⟨i+1,b2,rfl,d,b8,j0,?_,?_,j8⟩,by simp only [mu1,yT];omega⟩
      ·have:QL (fun j=>sumN (i+1) fun k=>y k*S.C k j) S.n=QL (fun j'=>(sumN i fun k=>y k*S.C k j')+if j' < S.n then y i*S.C i j' else 0) S.n:=zAR fun k hk=>by rw [zAp,if_pos hk]
       rw [this];exact i7
      ·rw [zAp];exact f8)
     cases b with
     | true =>
      rw [cond_true]
      refine next true ?_
      simp only [true_iff]
      obtain⟨k,h1,h2,h3⟩:=hb.1 rfl
      exact⟨k,by omega,h2,h3⟩
     | false =>
      rw [cond_false]
      refine⟨_,e6.blk.cell (j:=1) rfl,next _ ?_⟩
      have g7 : ¬ ∃ k,k<i/\S.rel k=2/\0<y k:=fun hh=>by have:=hb.2 hh;cases this
      rw [beq_iff_eq]
      constructor
      ·intro h2
       have h2:S.rel i=2:=by exact_mod_cast h2
       refine⟨i,by omega,h2,?_⟩
       have h5:=b8 i (by omega) (by omega)
       exact Rat.not_le.1 fun hh=>a0 (Rat.le_antisymm hh h5)
      ·rintro⟨k,h1,h2,h3⟩
       by_cases e:k=i
       ·rw [e] at h2;exact_mod_cast h2
       ·exact absurd ⟨k,by omega,h2,h3⟩ g7
   obtain⟨b7,o7,i9,j3⟩:=(hy.ext a6).get d
   refine⟨_,i9,⟨by omega,by omega⟩,_,_,_,j3,yC (c75 ((hdy i d).mono (by decide)) w2 (hg.ext a6)) ?_⟩
   rintro v h6 ⟨rfl,a3⟩
   refine⟨_,rfl,zAe (fun g=>?_) (fun g=>?_)⟩
   ·refine⟨_,(e8.ext a3).blk.cell (j:=1) rfl,go _ h6 a3 ?_⟩
    have:y i<0:=Tb.sgnQ_neg.1 g
    simp only [bne_iff_ne,ne_eq]
    exact⟨fun h=>⟨this,fun e=>h (by exact_mod_cast e)⟩,fun h e=>h.2 (by exact_mod_cast e)⟩
   ·exact go false h6 a3 (by simp only [Bool.false_eq_true,false_iff];exact fun h=>g (Tb.sgnQ_neg.2 h.1))
 ·have d:i=S.m:=by omega
  subst d
  intro K4 d5
  have eC:QL (fun j=>sumN S.m fun k=>y k*S.C k j) S.n=QL (comb S y) S.n:=rfl
  rw [eC] at a9
  have eK:(sumN S.m fun k=>y k*S.K k)=combK S y:=rfl
  rw [eK] at a1
  refine yC (c141 (f:=comb S y) (by omega) (fun j hj=>(hD.c S.m yL j hj).mono (by decide)) w1 a9.qs (hg.ext he)) ?_
  rintro v k0 ⟨⟨b4,rfl,g4⟩,d1⟩
  have a4:=he.trans d1
  have d0:=a1.ext d1
  have no : ∀ w2,Ext w w2->¬ zBg S y->K4 [.bool false] w2:=fun w2 h2 h=>d5 false w2 ⟨⟨false,rfl,by simp [h]⟩,h2⟩
  refine⟨_,rfl,zAb (fun hz=>?_) (fun hz=>no _ a4 fun h=>by rw [g4.2 h.2.1] at hz;cases hz)⟩
  have j9:=g4.1 hz
  have g8:zBg S y↔(combK S y<0\/combK S y=0/\b=true):=by
   unfold zBg
   rw [hb]
   exact⟨fun h=>h.2.2,fun h=>⟨a2,j9,h⟩⟩
  have dK:dg 400000000 (combK S y):=(hD.k S.m yL).mono (by decide)
  refine⟨_,_,_,d0.blk.all,yC (c75 dK k0 (hg.ext a4)) ?_⟩
  rintro v k1 ⟨rfl,d2⟩
  have a5:=a4.trans d2
  refine⟨_,rfl,zAe (fun g=>d5 _ _ ⟨⟨true,rfl,by simp only [true_iff];exact g8.2 (.inl (Tb.sgnQ_neg.1 g))⟩,a5⟩) (fun g=>?_)⟩
  refine⟨_,_,_,(d0.ext d2).blk.all,yC (c75 dK k1 (hg.ext a5)) ?_⟩
  rintro v k7 ⟨rfl,g6⟩
  refine⟨_,rfl,d5 _ _ ⟨⟨_,rfl,?_⟩,a5.trans g6⟩⟩
  rw [g8,Bool.and_eq_true,beq_iff_eq,Tb.sgnQ_zero]
  exact⟨fun h => .inr h,fun h=>h.elim (fun h=>absurd (Tb.sgnQ_neg.2 h) g) id⟩
end Go.Proofs.Si
namespace Go.Proofs.Si
open Go Go.V Go.Proofs Go.RowKit Go.Proofs.Tryz
def vpc (E:Env) (fn:Func) (args:List Value) (w:World) (R:Value->World->Prop):Prop :=
 match fn.body with
 | some c=>vcode E (args.length+(fn.ntmps - args.length)) c (zFV fn.results.toList)
   (fun f w=>vret E.P f w (zEB fun v=>R v w) fn.results.toList) (fun _ _ _=>False) (fun _ _=>False) (argFr args 0) w
 | none=>False
theorem zC5 {E:Env} (hE:E.Ok) {fn:Func} {args:List Value} {w:World} {R:Value->World->Prop} {c:Code} {a:Act} (hb:fn.body=some c) (h:vpc E fn args w R) (hs:Sat (args.length+(fn.ntmps - args.length)) (argFr args 0) a) :
  c.wp E.P (fun e a' w'=>e = .normal/\(∃ v,(results fn a'.tmps).run E.P w' = .ok v w'/\R v w')/\(∃ W,(wr c).nrm=some W/\V.Agree W a a')/\a'.defers=[]/\a'.tmps.size=args.length+(fn.ntmps - args.length)) a w:=by
 unfold vpc at h
 rw [hb] at h
 have fin : ∀ (f' : Fr) (a' : Act) (w' : World),vret E.P f' w' (zEB fun v=>R v w') fn.results.toList->Sat (args.length+(fn.ntmps - args.length)) f' a' ->
   ∃ v,(results fn a'.tmps).run E.P w' = .ok v w'/\R v w':=by
  intro f' a' w' hv hs
  obtain⟨vs,hr,hk⟩:=zCT hs _ _ hv
  have e:fn.results=fn.results.toList.toArray:=by simp
  refine⟨if h:vs.toArray.size=1 then vs.toArray[0] else .tuple vs.toArray,?_,?_⟩
  ·rw [zFz,e,List.mapM_toArray,Sem.run_bind]
   have h2:Sem.run E.P (List.toArray <$> fn.results.toList.mapM (zF0 a'.tmps)) w' = .ok vs.toArray w':=by
    rw [map_eq_pure_bind,Sem.run_bind,hr]
    rfl
   rw [h2]
   rfl
  ·match vs,hk with
   | [v],hk=>exact hk
   | [],hk=>exact hk
   | v::u::l,hk =>
    have : ¬ ((v::u::l).toArray.size=1):=by simp
    rw [dif_neg this]
    exact hk
 refine zEE hE c _ _ _ _ (argFr args 0) w _ _ (fun c a d v w' hp=>?_) h hs (fun f' a' w' h1 h2 h3=>⟨rfl,fin f' a' w' h1 h2,h3,h2.defers,h2.size⟩) (fun i f' a' w' h1=>h1.elim) (fun f' a' w' h1=>h1.elim)
 cases hp.1
noncomputable def codeL:Code->Code
 | .seq a _=>a
 | c=>c
noncomputable def codeR:Code->Code
 | .seq _ b=>b
 | c=>c
noncomputable def codeT:Code->Code
 | .cond _ a _=>a
 | c=>c
noncomputable def body100:Code:=match f100.body with
 | some c=>c
 | none => .skip
noncomputable def piece (c:Code) (out:Array ResultVar):Func:={ f100 with body:=some c,results:=out }
noncomputable def pc0:Func:=piece (codeL (codeL body100)) #[.tmp 12]
noncomputable def pc2:Func:=piece (codeL (codeR body100)) #[.tmp 6]
noncomputable def pc3:Func:=piece (codeL (codeR (codeR body100))) #[]
noncomputable def rest4:Code:=codeR (codeR (codeR body100))
noncomputable def pc4:Func:=piece (codeL (codeL rest4)) #[.tmp 22]
noncomputable def leaf5:Code:=codeT (codeR (codeL rest4))
noncomputable def pc5:Func:=piece (codeL (codeL leaf5)) #[.tmp 43]
noncomputable def rest7:Code:=codeR rest4
end Go.Proofs.Si
namespace Go.Proofs.Si
open Go Go.V Go.Proofs Go.RowKit
section
variable {P:Program} {ops' : Array Oper} {oL:Oper} {Q:Exit->Act->World->Prop}
end
end Go.Proofs.Si
namespace Go.Proofs.Si
open Go Go.Proofs Go.Proofs.Tryz
set_option maxRecDepth 100000
theorem looksFact:true=prog.looks []:=by kernel_rfl
theorem ownFact:ownKnob prog.godebug=none:=by kernel_rfl
end Go.Proofs.Si
namespace Go.Proofs.Si
open Go Go.V Go.Proofs Go.RowKit Go.Proofs.Tryz
open Go.ChangeShapes Go.WideShapes Go.ChangeAt Go.Proofs.Tryz
set_option maxRecDepth 100000
theorem laidOutK:laidOutB prog=true:=by kernel_rfl
theorem spot_none {w:World} {x:Addr} {v:Value} (h:w.cell? x=some v):x.spot=none:=by
 unfold World.cell? at h
 cases hb:w.heap[x.block]? with
 | none=>rw [hb] at h;cases h
 | some o =>
  rw [hb] at h
  cases o with
  | cells c e f =>
   cases hsp:x.spot with
   | none=>rfl
   | some y=>simp [hsp] at h
  | _=>cases h
theorem add_zero (x:Addr):x.add 0=x:=by unfold Addr.add;simp
theorem pick {α:Type} [Inhabited α] {P:Nat->α->Prop} {n:Nat} (h : ∀ i,i<n->∃ y,P i y) : ∃ f:Nat->α,∀ i,i<n->P i (f i):=by
 classical
 refine⟨fun i=>if hi:i<n then Classical.choose (h i hi) else default,fun i hi=>?_⟩
 show P i (dite _ _ _)
 rw [dif_pos hi]
 exact Classical.choose_spec (h i hi)
theorem open_strs {H:Type} {enc:TypeId × Value->H} {W:World} {fuel:Nat} {a:OA} {len cap:Nat} {x:DataW H × List MemPlace} (h:DataW.trod enc prog W 0 (fun _=>true) true fuel 23 [.slice a len cap]=some x) : ∃ t:Nat->BA,SS W a t len:=by
 rcases DataW.trod_slice underlying23 h with ⟨e,_⟩ | ⟨ad,len',cap',elems,rest,n,_,e,rfl,_,hl,hm,hlen,hel,_,_⟩
 ·cases e
  exact⟨fun _=>ByteArray.empty,.inl rfl⟩
 ·cases e
  have hc:prog.cellsOf 9=1:=by kernel_rfl
  have each : ∀ i,i<len->∃ s:BA,W.cell? (ad.add i)=some (.string s):=by
   intro i hi
   have h1:=hel i hi
   rw [hc,List.getElem?_eq_getElem (by omega)] at h1
   obtain⟨cs,h2,h3⟩:=Option.bind_eq_some_iff.1 h1
   obtain⟨s,e1,_,_⟩:=DataW.trod_string underlying9 h3
   obtain⟨_,_,h4⟩:=World.cells?_some h2
   have h5:=h4 0 (by decide)
   rw [Nat.mul_one,add_zero] at h5
   refine⟨s,?_⟩
   rw [h5,e1];rfl
  haveI:Inhabited ByteArray:=⟨ByteArray.empty⟩
  obtain⟨t,ht⟩:=pick each
  refine⟨t,?_⟩
  cases len with
  | zero=>exact .inl rfl
  | succ k =>
   right
   have h0:=ht 0 (by omega)
   rw [add_zero] at h0
   refine⟨ad,rfl,spot_none h0,fun j v hj=>?_⟩
   have b:j<k+1:=by
    have:=(List.getElem?_eq_some_iff.1 hj).1
    rwa [zCh] at this
   have e:=zAX (f:=fun i=>Value.string (t i)) b
   have d:(SL t (k+1))[j]? = some (.string (t j)):=e
   rw [d] at hj
   cases hj
   exact ht j b
theorem open_row {H:Type} {enc:TypeId × Value->H} {W:World} {fuel:Nat} {cs:List Value} {x:DataW H × List MemPlace} (h:DataW.trod enc prog W 0 (fun _=>true) true fuel 49 cs=some x) :
  ∃ (a:OA) (n c:Nat) (t:Nat->BA) (rel:Int) (k:BA),cs=[.slice a n c,.int .i64 rel,.string k]/\SS W a t n:=by
 obtain⟨xs,n,_,rfl,hl,d,hf⟩:=DataW.trod_struct underlying49 h
 have hc:prog.cellsOf 49=3:=by kernel_rfl
 have h3:prog.cellsOf 3=1:=by kernel_rfl
 have h9:prog.cellsOf 9=1:=by kernel_rfl
 have i:prog.cellsOf 23=1:=by kernel_rfl
 rw [hc] at hl
 match cs,hl with
 | [c0,c1,c2],_ =>
  match xs,d with
  | [x0,x1,x2],_ =>
   have f0:DataW.trod enc prog W 0 (fun _=>true) true n 23 (([c0,c1,c2].drop 0).take (prog.cellsOf 23))=some x0:=hf 0 _ rfl
   have f1:DataW.trod enc prog W 0 (fun _=>true) true n 3 (([c0,c1,c2].drop 1).take (prog.cellsOf 3))=some x1:=hf 1 _ rfl
   have f2:DataW.trod enc prog W 0 (fun _=>true) true n 9 (([c0,c1,c2].drop 2).take (prog.cellsOf 9))=some x2:=hf 2 _ rfl
   rw [i] at f0
   rw [h3] at f1
   rw [h9] at f2
   obtain⟨n1,e1,_,_⟩:=DataW.trod_int underlying3 f1
   obtain⟨s2,e2,_,_⟩:=DataW.trod_string underlying9 f2
   have f:c1 = .int .i64 n1:=(List.cons.inj e1).1
   have g:c2 = .string s2:=(List.cons.inj e2).1
   subst f g
   have b:DataW.trod enc prog W 0 (fun _=>true) true n 23 [c0]=some x0:=f0
   rcases DataW.trod_slice underlying23 b with ⟨e,_⟩ | ⟨ad,len',cap',elems,rest,n',_,e,rfl,_⟩
   ·have e' : c0 = .slice none 0 0:=(List.cons.inj e).1
    subst e'
    exact⟨none,0,0,fun _=>ByteArray.empty,n1,s2,rfl,.inl rfl⟩
   ·have e':=(List.cons.inj e).1
    subst e'
    obtain⟨t,ht⟩:=open_strs b
    exact⟨_,_,_,t,n1,s2,rfl,ht⟩
structure RowD where
 a:OA
 n:Nat
 c:Nat
 t:Nat->BA
 rel:Int
 k:BA
instance:Inhabited RowD:=⟨⟨none,0,0,fun _=>ByteArray.empty,0,ByteArray.empty⟩⟩
theorem open_rows {H:Type} {enc:TypeId × Value->H} {W:World} {fuel:Nat} {a:OA} {len cap:Nat} {x:DataW H × List MemPlace} (h:DataW.trod enc prog W 0 (fun _=>true) true fuel 22 [.slice a len cap]=some x) :
  ∃ (X:TX) (A:TA),X.m=len/\RowsT W a X A:=by
 rcases DataW.trod_slice underlying22 h with ⟨e,_⟩ | ⟨ad,len',cap',elems,rest,n,_,e,rfl,_,hl,hm,hlen,hel,_,_⟩
 ·cases e
  exact⟨⟨0,fun _=>0,fun _ _=>ByteArray.empty,fun _=>0,fun _=>ByteArray.empty⟩,⟨fun _=>none,fun _=>0⟩,rfl,.inl rfl,fun i hi=>absurd hi (Nat.not_lt_zero i)⟩
 ·cases e
  have hc:prog.cellsOf 49=3:=by kernel_rfl
  have each : ∀ i,i<len->∃ y:RowD,(∀ k v,[Value.slice y.a y.n y.c,.int .i64 y.rel,.string y.k][k]? = some v->W.cell? ((ad.add (i*3)).add k)=some v)/\SS W y.a y.t y.n:=by
   intro i hi
   have h1:=hel i hi
   rw [hc,List.getElem?_eq_getElem (by omega)] at h1
   obtain⟨cs,h2,h3⟩:=Option.bind_eq_some_iff.1 h1
   obtain⟨ra,rn,rc,rt,rrel,rk,rfl,g⟩:=open_row h3
   obtain⟨_,_,h4⟩:=World.cells?_some h2
   refine⟨⟨ra,rn,rc,rt,rrel,rk⟩,fun k v hk=>?_,g⟩
   have d:k<3:=(List.getElem?_eq_some_iff.1 hk).1
   rw [h4 k d]
   exact hk
  obtain⟨f,hf⟩:=pick each
  refine⟨⟨len,fun i=>(f i).n,fun i=>(f i).t,fun i=>(f i).rel,fun i=>(f i).k⟩,⟨fun i=>(f i).a,fun i=>(f i).c⟩,rfl,?_,fun i hi=>(hf i hi).2⟩
  cases len with
  | zero=>exact .inl rfl
  | succ k =>
   right
   have h0:=(hf 0 (by omega)).1 0 _ rfl
   rw [Nat.zero_mul,add_zero,add_zero] at h0
   have hs:=spot_none h0
   refine⟨ad,rfl,hs,fun j v hj=>?_⟩
   have b : ∀ i,(rtc ⟨k+1,fun i=>(f i).n,fun i=>(f i).t,fun i=>(f i).rel,fun i=>(f i).k⟩ ⟨fun i=>(f i).a,fun i=>(f i).c⟩ i).length=3:=fun _=>rfl
   have l:j<3*(k+1):=by
    have:=(List.getElem?_eq_some_iff.1 hj).1
    rwa [zBd b] at this
   have hq:j / 3<k+1:=by omega
   have e:=GL_get b hq (j % 3) (by omega)
   rw [show 3*(j / 3)+j % 3=j by omega] at e
   rw [e] at hj
   have:=(hf (j / 3) hq).1 (j % 3) v hj
   rw [add_add _ hs] at this
   rw [show j / 3*3+j % 3=j by omega] at this
   exact this
end Go.Proofs.Si
