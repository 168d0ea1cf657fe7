/- Part of the proof: SiZS, SiZT, SiZU, SiZV. -/
import Derived.Test.YtoaiappkhcjagaaGreatDoorMSiZI
import Derived.Test.YtoaiappkhcjagaaGreatDoorSiV15
import Derived.Test.YtoaiappkhcjagaaGreatDoorMSiZA
set_option linter.unusedVariables false
set_option linter.unusedSimpArgs false
namespace Go.Proofs.Si
open Go Go.V Go.Proofs Go.RowKit Go.Num Go.Tb Go.Proofs.Tryz
set_option maxRecDepth 100000
theorem text_1:bs (⟨#[49]⟩:BA)=txtQ 1:=by
 rw [zA2,if_neg (by decide),if_pos (show (1:Rat).den=1 from rfl)];show [49]=[]++dec 1++[];rw [zAu (by omega)];rfl
set_option maxHeartbeats 2000000 in
theorem c151{c:Bool}{s:Nat->BA}{f:Nat->Rat}{kq:Rat}{nC cC fN fC:Nat}{ra fA}{sk:BA}(hn:nC<=1048576)(hs : ∀ j,j<nC->bs (s j)=txtQ (f j))(hz : ∀ j,j<nC->(s j).size<=60)(hsk:bs sk=txtQ kq)(hzk:sk.size<=60)(w)(hS:SS w ra s nC) :
  Ret prog 151 #[.agg #[Bv c,Lv ra nC cC,Sv sk,Lv fA fN fC]] w fun v w'=>∃ p c' sK,v = .tuple #[.agg #[Lv ra nC cC,Iv 1,Sv sk],.agg #[Lv p nC c',Iv 1,Sv sK]]/\bs sK=txtQ (-kq - 1)/\SS w' p (fun j=>mk (txtQ (-(f j)))) nC/\Ext w w':=by
 have z1:=(yE w).alloc (.cells [Bv c,Lv ra nC cC,Sv sk,Lv fA fN fC].toArray 115);have hB:=yN w [Bv c,Lv ra nC cC,Sv sk,Lv fA fN fC] 115;refine run151 _ _ _ _ _ _ _ _ _ _ ?_;unfold vc151;rw [show (Obj.cells #[Bv c,Lv ra nC cC,Sv sk,Lv fA fN fC] 115) = .cells [Bv c,Lv ra nC cC,Sv sk,Lv fA fN fC].toArray 115 from rfl,show (Obj.cells #[N0,Iv 0,S0] 49) = .cells zrow.toArray 49 from rfl];generalize w.alloc (.cells [Bv c,Lv ra nC cC,Sv sk,Lv fA fN fC].toArray 115)=W1 at z1 hB ⊢;have l1:=hB.lt;have z2:=(yE W1).alloc (.cells zrow.toArray 49);have hL:=yN W1 zrow 49;have b8:=hB.ext z2;generalize W1.alloc (.cells zrow.toArray 49)=W2 at z2 hL b8 ⊢;have l2:=hL.lt;have z3:=(yE W2).alloc (.cells zrow.toArray 49);have hR:=yN W2 zrow 49;have a5:=b8.ext z3;have d3:=hL.ext z3;generalize W2.alloc (.cells zrow.toArray 49)=W3 at z3 hR a5 d3 ⊢;have l3:=hR.lt;have g8:=(z1.trans z2).trans z3;refine⟨_,a5.blk.cell (j:=2) rfl,yC (c79 hsk (Nat.le_trans hzk (by decide)) _) ?_⟩;rintro v w1 ⟨⟨u1,rfl,e1⟩,g1⟩
 have h6:u1.size<=61:=by
  have h1:=negtxt_len kq;rw [<- e1,<- hsk,<- zAc,<- zAc] at h1;omega
 refine⟨_,rfl,yC (c59 (q:=1) e1 text_1 ⟨by omega,by decide⟩ w1) ?_⟩;rintro v w2 ⟨⟨u2,rfl,g6⟩,g2⟩;have n:=g1.trans g2;have e4:=g8.trans n;have hN:=yN w2 zrow 49;have hP:=hN.put [nsl,Iv 1,Sv u2] (by rfl);have e2:Ext w2 (setCells (w2.alloc (.cells zrow.toArray 49)) ⟨w2.heap.size,0,none⟩ 0 [nsl,Iv 1,Sv u2]):=((yE w2).alloc _).put yL _ _;have b9:=(a5.ext n).ext e2;have d5:=(d3.ext n).ext e2;have e0:=(hR.ext n).ext e2;have lr:=(hR.ext n).lt;refine⟨_,rfl,hN.blk.writable (by decide),?_⟩;show ∃ (I:List Value->World->Prop) (μ:List Value->World->Nat),I _ (setCells (w2.alloc (.cells zrow.toArray 49)) ⟨w2.heap.size,0,none⟩ 0 [nsl,Iv 1,Sv u2])/\_;generalize setCells (w2.alloc (.cells zrow.toArray 49)) ⟨w2.heap.size,0,none⟩ 0 [nsl,Iv 1,Sv u2]=w5 at hP e2 b9 d5 e0 ⊢;have e5:=e4.trans e2;refine⟨fun vals w6=>∃ (i:Nat) (p:OA) (c' : Nat),vals=[Iv i]/\i<=nC/\Box w6 w2.heap.size 49 [Lv p i c',Iv 1,Sv u2]/\w6.ownsRow w5.heap.size 9 1 (Lv p i c') i (SL (fun j=>mk (txtQ (-(f j)))) i)/\Box w6 w.heap.size 115 [Bv c,Lv ra nC cC,Sv sk,Lv fA fN fC]/\Box w6 W1.heap.size 49 zrow/\Box w6 W2.heap.size 49 zrow/\w5.heap.size<=w6.heap.size/\Ext w w6,mu1 nC,⟨0,none,0,rfl,Nat.zero_le _,hP,World.ownsRow_nil _ _ _ _,b9,d5,e0,yL,e5⟩,?_⟩;rintro m w6 ⟨i,p,c',hv,hi,d6,a3,a6,d4,d9,g5,b7⟩;cases hv;refine⟨_,_,_,a6.blk.cell (j:=1) rfl,zAd (fun g4=>?_) (fun h5=>?_)⟩
 ·have a2:i<nC:=by omega
  have h:=(yE w6).drew;have d7:=d6.ext h;have b6:=zAm a3 h;have d1:=a6.ext h;have f7:=d4.ext h;have f9:=d9.ext h;obtain⟨ad,ha,hc⟩:=(hS.ext (b7.trans h)).get a2;intro K1 a8;refine⟨_,_,_,d7.blk.cell (j:=0) rfl,_,_,_,d1.blk.cell (j:=1) rfl,ad,ha,⟨by omega,g4⟩,_,hc,yC (c79 (hs i a2) (Nat.le_trans (hz i a2) (by decide)) _) ?_⟩;rintro v w9 ⟨⟨u3,rfl,g7⟩,g⟩;have e6:=(b7.trans h).trans g;have b1:=d7.ext g;have d:=zAm b6 g;have a7:=d1.ext g;have a9:=f7.ext g;have b3:=f9.ext g;have s9:w5.heap.size<=w9.heap.size:=Nat.le_trans g5 (h.trans g).size;refine⟨_,rfl,g,g.alloc _,_,_,_,AppOk.one (L:=[Sv u3]) d rfl rfl (by unfold maxLen;omega) (by omega) s9,?_⟩;intro p3 k7 e8 r;have za:=(yE w9).alloc (.cells #[Sv u3] 9)
  have g3 : ∀ k,k<w9.heap.size->(Lv p i c').ownBlock≠some k->e8.heap[k]? = w9.heap[k]?:=fun k hk b5 =>
   (r.grown.block k (Nat.lt_of_lt_of_le hk za.size) (Ne.symm b5)).trans (za.block k hk)
  have l:=b1.same (g3 _ b1.lt (zAs d b1 (by decide)));have d0:=a7.same (g3 _ a7.lt (zAs d a7 (by decide)));have d2:=a9.same (g3 _ a9.lt (zAs d a9 (by decide)));have d8:=b3.same (g3 _ b3.lt (zAs d b3 (by decide)));have e3:Ext w e8:=r.below (zAm d za) (e6.trans za) (e6.trans za).size e5.size;refine⟨⟨⟨_,l.blk.cell (j:=0) rfl⟩,l.blk.free⟩,a8 _ ?_⟩;rw [zAg (by omega)];have eu:u3=mk (txtQ (-(f i))):=zDn (by rw [bs_mk,g7]);have hr:=r.own;rw [eu,<- zFE (fun j=>mk (txtQ (-(f j)))) i] at hr;have h4:=Nat.le_trans za.size r.grown.size;have b5:(Lv p3 (i+1) k7).ownBlock≠some w2.heap.size:=zAs hr l (by decide);have h2:=e4.size;refine⟨⟨i+1,p3,k7,rfl,a2,l.set 0 _,zAK hr b5 _,d0.away zAh (by omega),d2.away zAh (by omega),d8.away zAh (by omega),?_,e3.setCell h2 _⟩,by simp only [mu1,yT];omega⟩;rw [zBz];exact Nat.le_trans s9 h4
 ·have ei:i=nC:=by omega
  subst ei;have hd:=(yE w6).drew;have a1:=d6.ext hd;have a0:=a6.ext hd;have b0:=d4.ext hd;have g0:=d9.ext hd;have x:=zAm a3 hd;have h0:=b7.trans hd;intro K1 a8;have lO:=a1.lt;have p1:=b0.put [Lv ra i cC,Iv 1,Sv sk] (by rfl);have f8:=a1.away (zAf (b:=W1.heap.size) (o:=0) (i:=0) (L:=[Lv ra i cC,Iv 1,Sv sk])) (by omega);have e9:=a0.away (zAf (b:=W1.heap.size) (o:=0) (i:=0) (L:=[Lv ra i cC,Iv 1,Sv sk])) (by omega);have b2:=g0.away (zAf (b:=W1.heap.size) (o:=0) (i:=0) (L:=[Lv ra i cC,Iv 1,Sv sk])) (by omega);have a4:=zAV x fun k' b4=>zAf (b:=W1.heap.size) (o:=0) (i:=0) (L:=[Lv ra i cC,Iv 1,Sv sk]) k' fun e=>zAs x b0 (by decide) (e▸b4);have g9:=h0.put (b:=W1.heap.size) (o:=0) (by omega) [Lv ra i cC,Iv 1,Sv sk] 0;refine⟨fun u=>Box u w.heap.size 115 [Bv c,Lv ra i cC,Sv sk,Lv fA fN fC]/\Box u w2.heap.size 49 [Lv p i c',Iv 1,Sv u2],⟨a0,a1⟩,_,_,_,a0.blk.cell (j:=1) rfl,fun u hu=>⟨_,_,_,hu.1.blk.cell (j:=1) rfl,rfl⟩,_,a0.blk.cell (j:=2) rfl,fun u hu=>⟨_,hu.1.blk.cell (j:=2) rfl,rfl⟩,_,_,_,_,_,a1.blk.all,fun u hu=>⟨_,_,_,_,_,hu.2.blk.all,rfl⟩,b0.blk.writable (by decide),⟨e9,f8⟩,b2.blk.writable (by decide),a8 _ ?_⟩;have p2:=b2.put [Lv p i c',Iv 1,Sv u2] (by rfl);have h3:=p1.away (zAf (b:=W2.heap.size) (o:=0) (i:=0) (L:=[Lv p i c',Iv 1,Sv u2])) (by omega);have e7:=zAV a4 fun k' b4=>zAf (b:=W2.heap.size) (o:=0) (i:=0) (L:=[Lv p i c',Iv 1,Sv u2]) k' fun e=>zAs a4 b2 (by decide) (e▸b4);exact⟨_,_,_,_,_,h3.blk.all,_,_,_,_,_,p2.blk.all,p,c',u2,rfl,g6,zAG e7,g9.put (by omega) _ _⟩
theorem cpyOk{W w a}{n b:Nat}{xs:List Value}(he:Ext W w)(hb:Box w b 49 [])(hbW:W.heap.size<=b)(hS:SlAt W a xs)(hl:xs.length=n*3)(hp:zAp xs=true)(hn:n<=1000):AppOk w W.heap.size 49 3 48 (some ⟨b,0,none⟩) 0 0 [] a n xs where
 own := .inl (zBo (zD9 (n:=0) (size:=3) hb rfl (by decide)) hbW)
 len:=hl
 src:=by
  rcases SlAt.ext hS he with e | ⟨ad,g1,g2,g3⟩
  ·left;subst e;simp at hl;omega
  ·exact .inr ⟨ad,g1,zBD.2 g3⟩
 plain:=hp
 max:=by unfold maxLen;omega
 bytes:=by omega
 base:=he.size
theorem thr_of{W}{row xs:List Value}{a}{n:Nat}{C:OA->Nat->World->Prop}(hS:SlAt W a xs)(hl:xs.length=n*3)(hp:zAp xs=true)(hr:row.length=3)(hrp:zAp row=true)(hn:n<=1000)
  (h : ∀ p k w2,Ext W w2->w2.ownsRow W.heap.size 49 3 (Lv p (0+n+1) k) (0+n+1) ([]++xs++row)->C p k w2):thr W row.toArray a n C:=by
 have zA:=(yE W).alloc (.cells #[] 49);have bA:=yN W [] 49;have zR:=(yE W).alloc (.cells row.toArray 49);have bR:=yN W row 49;have b2:=yN (W.alloc (.cells #[] 49)) row 49;have z2:=(yE (W.alloc (.cells #[] 49))).alloc (.cells row.toArray 49);have b3:=yN (W.alloc (.cells row.toArray 49)) [] 49;have z3:=(yE (W.alloc (.cells row.toArray 49))).alloc (.cells #[] 49);have lA:W.heap.size<(W.alloc (.cells #[] 49)).heap.size:=bA.lt;have lR:W.heap.size<(W.alloc (.cells row.toArray 49)).heap.size:=bR.lt;have own : ∀ {w:World} {b:Nat},W.heap.size<=b->Box w b 49 []->w.ownsRow W.heap.size 49 3 (Lv (some ⟨b,0,none⟩) 0 0) 0 []:=fun hb h=>zBo (zD9 (n:=0) (size:=3) h rfl (by decide)) hb;refine⟨⟨zA,⟨_,_,_,cpyOk zA bA yL hS hl hp hn,fun p k w1 r=>?_⟩,_,_,_,cpyOk (zA.trans z2) (bA.ext z2) yL hS hl hp hn,fun p k w1 r=>?_⟩,zR.trans z3,_,_,_,cpyOk (zR.trans z3) b3 (Nat.le_of_lt lR) hS hl hp hn,fun p k w1 r=>?_⟩
 ·have e1:Ext W w1:=r.below (own yL bA) zA zA.size yL
  have z4:=(yE w1).alloc (.cells row.toArray 49);exact⟨e1,_,_,_,AppOk.one (L:=row) r.own hr hrp (by unfold maxLen;omega) (by omega) e1.size,fun p2 k2 w2 r2=>h p2 k2 w2 (r2.below (zAm r.own z4) (e1.trans z4) (e1.trans z4).size yL) r2.own⟩
 ·have e1:Ext W w1:=r.below (own yL (bA.ext z2)) (zA.trans z2) (zA.trans z2).size yL
  have d:=b2.same (r.grown.block _ b2.lt (by intro e;injection e with e;have e:(W.alloc (.cells #[] 49)).heap.size=W.heap.size:=e;omega));exact⟨e1,_,_,_,⟨.inl r.own,by simpa using hr,.inr ⟨_,rfl,d.blk.all⟩,hrp,by unfold maxLen;omega,by omega,e1.size⟩,fun p2 k2 w2 r2=>h p2 k2 w2 (r2.below r.own e1 e1.size yL) r2.own⟩
 ·have e1:Ext W w1:=r.below (own (Nat.le_of_lt lR) b3) (zR.trans z3) (zR.trans z3).size yL
  have f:=bR.ext z3;have d:=f.same (r.grown.block _ f.lt (by intro e;injection e with e;have e:W.heap.size=(W.alloc (.cells row.toArray 49)).heap.size:=e;omega));exact⟨e1,_,_,_,⟨.inl r.own,by simpa using hr,.inr ⟨_,rfl,d.blk.all⟩,hrp,by unfold maxLen;omega,by omega,e1.size⟩,fun p2 k2 w2 r2=>h p2 k2 w2 (r2.below r.own e1 e1.size yL) r2.own⟩
def snT(A:TA)(m:Nat)(a:OA)(c:Nat):TA:=⟨fun i=>if i=m then a else A.cA i,fun i=>if i=m then c else A.cC i⟩
theorem zFT{w p a}{S:Tb.Sys}{A}{C:Nat->Rat}{K:Rat}{n c:Nat}{sk:BA}(hn:n=S.n)(h:SlAt w p ([]++GL (rtc (txS S) A) S.m++[Lv a n c,Iv 1,Sv sk]))(hk:bs sk=txtQ K)(hX : ∀ i,i<S.m->SS w (A.cA i) (fun j=>mk (txtQ (S.C i j))) S.n)(hY:SS w a (fun j=>mk (txtQ (C j))) n):RowsT w p (txS (pushR S C K)) (snT A S.m a c):=by
 subst hn;refine⟨?_,fun i hi=>?_⟩
 ·have e:GL (rtc (txS (pushR S C K)) (snT A S.m a c)) (S.m+1)=[]++GL (rtc (txS S) A) S.m++[Lv a S.n c,Iv 1,Sv sk]:=by
   show GL _ S.m++_=_;rw [zBL (g:=rtc (txS S) A) fun i hi=>by simp [rtc,txS,pushR,snT,if_neg (show ¬ i=S.m by omega)]];have ek:sk=mk (txtQ K):=zDn (by rw [bs_mk,hk]);simp [rtc,txS,pushR,snT,ek]
  show SlAt w p (GL (rtc (txS (pushR S C K)) (snT A S.m a c)) (S.m+1));rw [e];exact h
 ·have:i<S.m+1:=hi
  show SS w (if i=S.m then a else A.cA i) (fun j=>mk (txtQ ((if i=S.m then C else S.C i) j))) S.n
  by_cases e:i=S.m
  ·rw [if_pos e,if_pos e];exact hY
  ·rw [if_neg e,if_neg e];exact hX i (by omega)
theorem c105neg{n:Int}{ra pa}{m rc k pc:Nat}(w):Ret prog 105 #[Iv n,Lv ra m rc,Lv pa k pc,Iv (-1)] w fun v w'=>v=Iv (-1)/\Ext w w':=by
 refine run105t _ _ _ _ _ _ _ _ _ _ fun K hK=>?_;rw [decide_eq_true (by decide),cond_true];exact hK true ⟨rfl,yE w⟩
def ansI(o:Option Nat):Int:=match o with
 | some j=>(j:Int)
 | none => -1
open Classical in
set_option maxHeartbeats 8000000 in
theorem c105{Y B pa}{pc:Nat}(hY:smallY Y) : ∀ (f:Nat) {S:Tb.Sys} {A:TA} {ra:OA} {rc i:Nat} (hS:SmP S) (hf:Y.m<=f+i) (hm:S.m+(Y.m - i)<=72) (w:World) (hR:RowsT w ra (txS S) A) (hYc:CutsT w pa Y B),
  Ret prog 105 #[Iv S.n,Lv ra S.m rc,Lv pa Y.m pc,Iv i] w fun v w'=>v=Iv (ansI (cutP Y f S i))/\Ext w w':=by
 have b1:=hY.1
 have out : ∀ {S:Tb.Sys} {ra:OA} {rc i:Nat} (w:World),Y.m<=i->∀ f,Ret prog 105 #[Iv S.n,Lv ra S.m rc,Lv pa Y.m pc,Iv i] w fun v w'=>v=Iv (ansI (cutP Y f S i))/\Ext w w':=by
  intro S ra rc i w hi f
  have e:cutP Y f S i=none:=by
   cases f with
   | zero=>rfl
   | succ f=>rw [cutP,if_neg (by omega)]
  rw [e];refine run105t _ _ _ _ _ _ _ _ _ _ fun K hK=>?_;rw [decide_eq_false (by omega),cond_false,decide_eq_true (by omega)];exact hK true ⟨rfl,yE w⟩
 intro f
 induction f with
 | zero=>exact fun hS hf hm w hR hYc=>out w (by omega) 0
 | succ f ih =>
  intro S A ra rc i hS hf hm w hR hYc
  by_cases hi:i<Y.m
  case neg=>exact out w (by omega) _
  cases hl:Y.leaf i with
  | true =>
   refine (c105leaf hS b1 (hY.lf hS hi) hi hl w hR hYc).mono ?_;rintro v w' ⟨rfl,h2⟩;refine⟨?_,h2⟩;rw [cutP,if_pos hi,if_pos hl]
   by_cases hk:zCd S Y i
   ·rw [if_pos hk,if_pos hk];rfl
   ·rw [if_neg hk,if_neg hk];rfl
  | false =>
  have b3:cutP Y (f+1) S i=if okCut S.n Y i then (match cutP Y f (leS S Y i) (i+1) with | some j=>cutP Y f (geS S Y i) j | none=>none) else none:=by
   rw [cutP,if_pos hi,if_neg (by rw [hl];decide)] <;> rfl
  rw [b3];obtain⟨g2,a0,a5,_⟩:=hY.2 i hi;have g1:=hS.n;refine run105t _ _ _ _ _ _ _ _ _ _ fun K hK=>?_;rw [decide_eq_false (by omega),cond_false,decide_eq_false (by omega)];refine hK false ?_;rw [cond_false];obtain⟨ad,e7,e4⟩:=hYc.get hi;have bC:=yN w [Bv false,N0,S0,N0] 115;have z1:=(yE w).alloc (.cells [Bv false,N0,S0,N0].toArray 115);have d:=bC.put (cutc Y B i) rfl;have z2:=z1.put (o:=0) yL (cutc Y B i) 0;refine⟨ad,e7,⟨by omega,by omega⟩,_,_,_,_,_,_,_,_,e4,bC.blk.writable (by decide),?_⟩;rw [show (setCells (w.alloc (Obj.cells #[Bv false,N0,S0,N0] 115)) { block:=w.heap.size,off:=0 } 0 [Bv (Y.leaf i),Lv (B.cA i) (Y.cN i) (B.cC i),Sv (Y.K i),Lv (B.fA i) (Y.fN i) (B.fC i)])=setCells (w.alloc (.cells [Bv false,N0,S0,N0].toArray 115)) ⟨w.heap.size,0,none⟩ 0 (cutc Y B i) from rfl];generalize setCells (w.alloc (.cells [Bv false,N0,S0,N0].toArray 115)) ⟨w.heap.size,0,none⟩ 0 (cutc Y B i)=W1 at d z2 ⊢;refine⟨_,d.blk.cell (j:=0) rfl,?_⟩;rw [hl,cond_false];intro K2 x;have no : ∀ w',Ext w w'->¬ okCut S.n Y i->K2 [Bv true] w':=fun w' he h=>x true w' ⟨by rw [if_neg h];rfl,he⟩;have a8:=((hYc.ext z2).2 i hi).1;refine⟨_,_,_,d.blk.cell (j:=1) rfl,yC (c50 (by omega) (fun j hj=>Nat.le_trans (a0 j hj) (by decide)) W1 a8) ?_⟩;rintro v w2 ⟨⟨b,rfl,hb⟩,a2⟩;refine⟨b,rfl,?_⟩;have d2:=z2.trans a2
  cases b with
  | false =>
   rw [Bool.not_false,cond_true];refine no _ d2 fun h=>?_;have:=hb.2 ⟨by rw [h.1],h.2.1⟩;cases this
  | true =>
  obtain⟨g0,l⟩:=hb.1 rfl
  have a1:Y.cN i=S.n:=by omega
  rw [Bool.not_true,cond_false];refine⟨_,(d.ext a2).blk.cell (j:=2) rfl,yC (c91 (Y.K i) (Nat.le_trans a5 (by decide)) w2) ?_⟩;rintro v w3 ⟨⟨b9,rfl,b2⟩,b7⟩;refine⟨b9,rfl,?_⟩;have d3:=d2.trans b7
  cases b9 with
  | false =>
   rw [Bool.not_false];refine no _ d3 fun h=>?_;have:=b2.2 h.2.2;cases this
  | true =>
  have d0:okCut S.n Y i:=⟨a1,l,b2.1 rfl⟩;have a6:=d0.2.2;rw [if_pos d0] at x;rw [Bool.not_true];refine x false w3 ?_;rw [cond_false];have b4 : ∀ j,j<Y.cN i->dg 61 (rd (Y.C i j)):=fun j hj=>rd_dg (zD2 (l j hj)) (a0 j hj);have b5:dg 61 (rd (Y.K i)):=rd_dg (zD2 a6) a5;have u:=a2.trans b7;refine⟨_,_,_,_,_,_,_,_,(d.ext u).blk.all,yC (c151 (f:=fun j=>rd (Y.C i j)) (kq:=rd (Y.K i)) (by omega) (fun j hj=>rd_ok (zD2 (l j hj))) a0 (rd_ok (zD2 a6)) a5 w3 (a8.ext u)) ?_⟩;rintro v w5 ⟨p,c',sK,rfl,e8,hG,e5⟩;have e9:=d3.trans e5;have n1:=yN w5 zrow 49;have y1:=(yE w5).alloc (.cells zrow.toArray 49);have n2:=yN (w5.alloc (.cells zrow.toArray 49)) zrow 49;have y2:=(yE (w5.alloc (.cells zrow.toArray 49))).alloc (.cells zrow.toArray 49);have d4:=n1.ext y2;have q1:=d4.put [Lv (B.cA i) (Y.cN i) (B.cC i),Iv 1,Sv (Y.K i)] (by rfl);have f7:w5.heap.size<(w5.alloc (.cells zrow.toArray 49)).heap.size:=n1.lt;have d5:=n2.away (zAf (b:=w5.heap.size) (o:=0) (i:=0) (L:=[Lv (B.cA i) (Y.cN i) (B.cC i),Iv 1,Sv (Y.K i)])) (by omega);have q2:=d5.put [Lv p (Y.cN i) c',Iv 1,Sv sK] (by rfl);have f8:=q1.away (zAf (b:=(w5.alloc (.cells zrow.toArray 49)).heap.size) (o:=0) (i:=0) (L:=[Lv p (Y.cN i) c',Iv 1,Sv sK])) (by omega);have y5:=((y1.trans y2).put (b:=w5.heap.size) (o:=0) yL [Lv (B.cA i) (Y.cN i) (B.cC i),Iv 1,Sv (Y.K i)] 0).put (b:=(w5.alloc (.cells zrow.toArray 49)).heap.size) (o:=0) (Nat.le_of_lt f7) [Lv p (Y.cN i) c',Iv 1,Sv sK] 0;refine⟨_,_,_,_,_,_,_,_,_,_,rfl,d4.blk.writable (by decide),d5.blk.writable (by decide),fun K3 d9=>?_⟩;have yd:=y5.drew;have xd:=e9.trans yd
  have xs_len:(GL (rtc (txS S) A) S.m).length=S.m*3:=by rw [zAR (m:=3) fun _=>rfl];omega
  have e6:=hS.m;have e3:=hR.ext xd;refine⟨_,_,_,_,_,(f8.ext (yE _).drew).blk.all,thr_of e3.1 xs_len (zEE (fun _=>rfl) _) rfl rfl (by omega) fun p1 k1 w7 a3 d1=>?_⟩;have s:=xd.trans a3;have d6:=zAG d1;rw [show (0+S.m+1)=S.m+1 by omega,zAg (by omega)]
  have a9:SS w7 (B.cA i) (fun j=>mk (txtQ (rd (Y.C i j)))) (Y.cN i):=by
   have h:=((hYc.ext s).2 i hi).1
   have e:SL (Y.C i) (Y.cN i)=SL (fun j=>mk (txtQ (rd (Y.C i j)))) (Y.cN i):=zA5 fun j hj=>by
    show Sv (Y.C i j)=Sv (mk (txtQ (rd (Y.C i j))));rw [show mk (txtQ (rd (Y.C i j)))=Y.C i j from zDn (by rw [bs_mk,<- rd_ok (zD2 (l j hj))])]
   unfold SS at h ⊢;rw [<- e];exact h
  have e0:RowsT w7 p1 (txS (leS S Y i)) (snT A S.m (B.cA i) (B.cC i)):=zFT a1 d6 (rd_ok (zD2 a6)) (hR.ext s).2 a9;refine yC (ih (S:=leS S Y i) (i:=i+1) (hS.push (by omega) (fun j hj=>(b4 j (by omega)).mono (by decide)) (b5.mono (by decide))) (by omega) (by show S.m+1+_<=72;omega) w7 e0 (hYc.ext s)) ?_;rintro v w8 ⟨rfl,a4⟩;refine⟨_,rfl,d9 _ w8 fun K4 b0=>?_⟩;have d7:=((yE _).drew.trans a3).trans a4;have q8:=(q2.ext d7).ext (yE _).drew;have x8:=(s.trans a4).drew;have e1:=hR.ext x8;refine⟨_,_,_,_,_,q8.blk.all,thr_of e1.1 xs_len (zEE (fun _=>rfl) _) rfl rfl (by omega) fun p2 k2 w9 b8 a7=>?_⟩;have x9:=x8.trans b8;rw [show (0+S.m+1)=S.m+1 by omega]
  cases hcp:cutP Y f (leS S Y i) (i+1) with
  | none =>
   refine yC (c105neg w9) ?_;rintro v f9 ⟨rfl,g⟩;refine⟨_,rfl,b0 _ _ ⟨?_,x9.trans g⟩⟩;simp only [hcp];rfl
  | some j =>
   have hgt:=zF7 hcp;have d8:SS w9 p (fun j=>mk (txtQ (-rd (Y.C i j)))) (Y.cN i):=hG.ext ((((yd.trans a3).trans a4).drew).trans b8);have e2:RowsT w9 p2 (txS (geS S Y i)) (snT A S.m p c'):=zFT a1 (zAG a7) e8 (hR.ext x9).2 d8;have b6:dg 745 (-rd (Y.K i) - 1):=(b5.neg.sub (zF5 (k:=1) (by decide))).mono (by decide);refine yC (ih (S:=geS S Y i) (i:=j) (hS.push (by omega) (fun j hj=>(b4 j (by omega)).neg.mono (by decide)) b6) (by omega) (by show S.m+1+_<=72;omega) w9 e2 (hYc.ext x9)) ?_;rintro v f9 ⟨rfl,g⟩;refine⟨_,rfl,b0 _ _ ⟨?_,x9.trans g⟩⟩;simp only [hcp]
theorem c53P{X A Y B}{n:Int}{ra pa}{rc pc:Nat}(hs:smallX X 12 60)(hX:Tame X)(hYs:smallY Y)(hn:n<=5)(w)(hR:RowsT w ra X A)(hY:CutsT w pa Y B)(hg:Gl w) :
  Ret prog 53 #[Iv n,Lv ra X.m rc,Lv pa Y.m pc] w fun v w'=>(∃ b,v=Bv b/\(b=true↔okRows X n/\cutP Y Y.m (tSys X n.toNat) 0=some Y.m))/\Ext w w' :=
 c53 (cutP Y Y.m (tSys X n.toNat) 0) hs hX w hR hY hg fun hok w2 b0 rb Rl he hb0 bA bP bN bF hRO=>by
  have hn0:0<=n:=hok.1
  obtain⟨nn,rfl⟩ : ∃ nn:Nat,n=nn:=⟨n.toNat,by omega⟩
  have kx : ∀ w',But b0 w2 w'->Ext w w':=fun w' ho=>Below.trans he (ho.below (B:=w.heap.size) (by omega) he.size)
  have h12:=hs.1
  have hm60:=hYs.1
  have hmm:(tSys X nn).m=X.m:=rfl
  exact c100 hYs (by omega) (by omega) (by omega) Y.m (S:=tSys X nn) (Rl:=Rl) (zGx hs (by omega) hok) (by omega) (by rw [hmm];omega) w2 bA bP bN bF (fun w' ho=>hY.ext (kx w' ho)) (hRO.kpt (by omega)) (fun w' ho=>hg.ext (kx w' ho)) ⟨_,rfl,hRO.2.1.lt⟩ yL
theorem c54P{X A Y B}{n:Int}{ra pa}{rc pc:Nat}(hs:smallX X 12 60)(hX:Tame X)(hYs:smallY Y)(hn:n<=5)(w)(hR:RowsT w ra X A)(hY:CutsT w pa Y B) :
  Ret prog 54 #[Iv n,Lv ra X.m rc,Lv pa Y.m pc] w fun v w'=>(∃ b,v=Bv b/\(b=true↔okRows X n/\0<Y.m/\cutP Y Y.m (tSys X n.toNat) 0=some Y.m))/\Ext w w' :=
 c54 (cutP Y Y.m (tSys X n.toNat) 0) hs hX w hR hY fun hok hp w2 p c' A' he hR2=>by
  have hn0:0<=n:=hok.1
  obtain⟨nn,rfl⟩ : ∃ nn:Nat,n=nn:=⟨n.toNat,by omega⟩
  have h12:=hs.1
  have hm60:=hYs.1
  have hmm:(tSys X nn).m=X.m:=rfl
  have:=c105 (pc:=pc) hYs Y.m (S:=tSys X nn) (A:=A') (ra:=p) (rc:=c') (i:=0) (zGx hs (by omega) hok) (by omega) (by rw [hmm];omega) w2 hR2 (hY.ext he)
  exact this
theorem cutP_zero{Y:PX}{S:Tb.Sys}(h:cutP Y Y.m S 0=some Y.m):0<Y.m:=(zF7 h).1
theorem c15{X A Y B}{n:Int}{ra pa}{rc pc:Nat}(w)(hR:RowsT w ra X A)(hY:CutsT w pa Y B)(hg:Gl w) :
  Ret prog 15 #[Iv n,Lv ra X.m rc,Lv pa Y.m pc] w fun v w'=>v=Bv true/\Ext w w':=by
 have a3:Y.m<=1048576\/1048576<Y.m:=by omega
 refine run15 _ _ _ _ _ _ _ _ _ (yC (c45 w hR hY) ?_);rintro v w1 ⟨⟨b,rfl,hb⟩,rfl⟩;refine⟨b,rfl,?_⟩
 cases b with
 | true =>
  rw [cond_true];refine yC (c47 w1 hg) ?_;rintro v w2 ⟨rfl,he⟩;exact⟨_,rfl,rfl,he⟩
 | false =>
 rw [cond_false];obtain⟨hn,hs,g⟩:=hb rfl;have hX:=hs.tame (by decide);refine yC (c22 (by have:=hs.1;omega) (fun i hi=>Nat.le_trans (hs.2 i hi).2.1 (by decide)) w1 hR) ?_;rintro v w3 ⟨p,c',A',rfl,hO,d⟩;refine⟨_,_,_,rfl,fun K hK=>yC (c53P (pc:=pc) hs hX g hn w3 hO.t (hY.ext d) (hg.ext d)) ?_⟩;rintro v w5 ⟨⟨b3,rfl,u⟩,j⟩;have f:=d.trans j;refine⟨_,rfl,yC (c54P (pc:=pc) hs hX g hn w5 (hR.ext f) (hY.ext f)) ?_⟩;rintro v w6 ⟨⟨b4,rfl,x⟩,k⟩;have l:=f.trans k;refine⟨_,rfl,?_⟩
 have s:(b3==b4)=true:=by
  have h:b3=true↔b4=true:=by
   rw [u,x];exact⟨fun h=>⟨h.1,cutP_zero h.2,h.2⟩,fun h=>⟨h.1,h.2.2⟩⟩
  cases b3 <;> cases b4 <;> simp_all
 rw [s,cond_true];refine yC (c25 (X:=X) (Y:=X) (fun i hi=>hX.n i hi) (by have:=hs.1;omega) w6 (hO.t.ext (j.trans k)) (hR.ext l)) ?_;rintro v w7 ⟨⟨b5,rfl,a0⟩,a1⟩;obtain rfl:b5=true:=a0.2 ⟨rfl,fun i hi=>⟨rfl,rfl,rfl,fun _ _=>rfl⟩⟩;have o:=l.trans a1;refine⟨_,rfl,?_⟩;rw [cond_true];refine yC (c47 w7 (hg.ext o)) ?_;rintro v w8 ⟨rfl,a2⟩;exact⟨_,rfl,hK _ _ ⟨rfl,o.trans a2⟩⟩
end Go.Proofs.Si
namespace Go.Proofs.Si
open Go Go.V Go.Proofs Go.RowKit Go.Proofs.Tryz
open Go.ChangeShapes Go.WideShapes Go.ChangeAt Go.Proofs.Tryz
set_option maxRecDepth 100000
theorem open_list{H:Type}{enc:TypeId × Value->H}{W:World}{fuel:Nat}{c:Value}{x:DataW H × List MemPlace}(h:DataW.trod enc prog W 0 (fun _=>true) true fuel 23 [c]=some x) : ∃ (a:OA) (n k:Nat) (t:Nat->BA),c = .slice a n k/\SS W a t n:=by
 rcases DataW.trod_slice underlying23 h with ⟨e,_⟩ | ⟨ad,len',cap',elems,rest,n',_,e,rfl,_⟩
 ·have e' : c = .slice none 0 0:=(List.cons.inj e).1
  subst e';exact⟨none,0,0,fun _=>ByteArray.empty,rfl,.inl rfl⟩
 ·have e':=(List.cons.inj e).1
  subst e';obtain⟨t,ht⟩:=open_strs h;exact⟨_,_,_,t,rfl,ht⟩
structure CutD where
 l:Bool
 a:OA
 n:Nat
 c:Nat
 t:Nat->BA
 k:BA
 b:OA
 m:Nat
 d:Nat
 u:Nat->BA
instance:Inhabited CutD:=⟨⟨false,none,0,0,fun _=>ByteArray.empty,ByteArray.empty,none,0,0,fun _=>ByteArray.empty⟩⟩
theorem open_cut{H:Type}{enc:TypeId × Value->H}{W:World}{fuel:Nat}{cs:List Value}{x:DataW H × List MemPlace}(h:DataW.trod enc prog W 0 (fun _=>true) true fuel 115 cs=some x) :
  ∃ y:CutD,cs=[.bool y.l,.slice y.a y.n y.c,.string y.k,.slice y.b y.m y.d]/\SS W y.a y.t y.n/\SS W y.b y.u y.m:=by
 obtain⟨xs,n,_,rfl,hl,f,hf⟩:=DataW.trod_struct underlying115 h
 have hc:prog.cellsOf 115=4:=by kernel_rfl
 have h4:prog.cellsOf 4=1:=by kernel_rfl
 have h9:prog.cellsOf 9=1:=by kernel_rfl
 have p:prog.cellsOf 23=1:=by kernel_rfl
 rw [hc] at hl
 match cs,hl with
 | [c0,c1,c2,c3],_ =>
  match xs,f with
  | [x0,x1,x2,x3],_ =>
   have f0:DataW.trod enc prog W 0 (fun _=>true) true n 4 (([c0,c1,c2,c3].drop 0).take (prog.cellsOf 4))=some x0:=hf 0 _ rfl;have f1:DataW.trod enc prog W 0 (fun _=>true) true n 23 (([c0,c1,c2,c3].drop 1).take (prog.cellsOf 23))=some x1:=hf 1 _ rfl;have f2:DataW.trod enc prog W 0 (fun _=>true) true n 9 (([c0,c1,c2,c3].drop 2).take (prog.cellsOf 9))=some x2:=hf 2 _ rfl;have f3:DataW.trod enc prog W 0 (fun _=>true) true n 23 (([c0,c1,c2,c3].drop 3).take (prog.cellsOf 23))=some x3:=hf 3 _ rfl;rw [h4] at f0;rw [p] at f1 f3;rw [h9] at f2;obtain⟨b0,e0,_⟩:=DataW.trod_bool underlying4 f0;obtain⟨s2,e2,_,_⟩:=DataW.trod_string underlying9 f2;have g:c0 = .bool b0:=(List.cons.inj e0).1;have i:c2 = .string s2:=(List.cons.inj e2).1;subst g i;have j:DataW.trod enc prog W 0 (fun _=>true) true n 23 [c1]=some x1:=f1;have o:DataW.trod enc prog W 0 (fun _=>true) true n 23 [c3]=some x3:=f3;obtain⟨a,na,ka,t,rfl,ht⟩:=open_list j;obtain⟨b,nb,kb,u,rfl,hu⟩:=open_list o;exact⟨⟨b0,a,na,ka,t,s2,b,nb,kb,u⟩,rfl,ht,hu⟩
theorem open_cuts{H:Type}{enc:TypeId × Value->H}{W:World}{fuel:Nat}{a:OA}{len cap:Nat}{x:DataW H × List MemPlace}(h:DataW.trod enc prog W 0 (fun _=>true) true fuel 63 [.slice a len cap]=some x) :
  ∃ (Y:PX) (B:PA),Y.m=len/\CutsT W a Y B:=by
 rcases DataW.trod_slice underlying63 h with ⟨e,_⟩ | ⟨ad,len',cap',elems,rest,n,_,e,rfl,_,hl,hm,hlen,hel,_,_⟩
 ·cases e
  exact⟨⟨0,fun _=>false,fun _=>0,fun _ _=>ByteArray.empty,fun _=>ByteArray.empty,fun _=>0,fun _ _=>ByteArray.empty⟩,⟨fun _=>none,fun _=>0,fun _=>none,fun _=>0⟩,rfl,.inl rfl,fun i hi=>absurd hi (Nat.not_lt_zero i)⟩
 ·cases e
  have hc:prog.cellsOf 115=4:=by kernel_rfl
  have each : ∀ i,i<len->∃ y:CutD,(∀ k v,[Value.bool y.l,.slice y.a y.n y.c,.string y.k,.slice y.b y.m y.d][k]? = some v->W.cell? ((ad.add (i*4)).add k)=some v)/\SS W y.a y.t y.n/\SS W y.b y.u y.m:=by
   intro i hi;have h1:=hel i hi;rw [hc,List.getElem?_eq_getElem (by omega)] at h1;obtain⟨cs,h2,h3⟩:=Option.bind_eq_some_iff.1 h1;obtain⟨y,rfl,p⟩:=open_cut h3;obtain⟨_,_,h4⟩:=World.cells?_some h2;refine⟨y,fun k v hk=>?_,p⟩;have o:k<4:=(List.getElem?_eq_some_iff.1 hk).1;rw [h4 k o];exact hk
  obtain⟨f,hf⟩:=pick each;refine⟨⟨len,fun i=>(f i).l,fun i=>(f i).n,fun i=>(f i).t,fun i=>(f i).k,fun i=>(f i).m,fun i=>(f i).u⟩,⟨fun i=>(f i).a,fun i=>(f i).c,fun i=>(f i).b,fun i=>(f i).d⟩,rfl,?_,fun i hi=>(hf i hi).2⟩
  cases len with
  | zero=>exact .inl rfl
  | succ k =>
   right;have h0:=(hf 0 (by omega)).1 0 _ rfl;rw [Nat.zero_mul,add_zero,add_zero] at h0;have hs:=zFg h0;refine⟨ad,rfl,hs,fun j v hj=>?_⟩;have g : ∀ i,(cutc ⟨k+1,fun i=>(f i).l,fun i=>(f i).n,fun i=>(f i).t,fun i=>(f i).k,fun i=>(f i).m,fun i=>(f i).u⟩ ⟨fun i=>(f i).a,fun i=>(f i).c,fun i=>(f i).b,fun i=>(f i).d⟩ i).length=4:=fun _=>rfl
   have s:j<4*(k+1):=by
    have:=(List.getElem?_eq_some_iff.1 hj).1
    rwa [zAR g] at this
   have hq:j / 4<k+1:=by omega
   have e:=zFF g hq (j % 4) (by omega);rw [show 4*(j / 4)+j % 4=j by omega] at e;rw [e] at hj;have:=(hf (j / 4) hq).1 (j % 4) v hj;rw [add_add _ hs] at this;rw [show j / 4*4+j % 4=j by omega] at this;exact this
end Go.Proofs.Si
