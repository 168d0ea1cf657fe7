/- Part of the proof: SiY8, SiS1, SiS2, SiS3, SiS4, SiS5, SiS6, SiS7, SiS8, SiS9, SiS10. -/
import Derived.Test.YtoaiappkhcjagaaGreatDoorMSiY1
import Derived.Test.YtoaiappkhcjagaaGreatDoorMTbG
import Derived.Test.YtoaiappkhcjagaaGreatDoorSiV7
set_option linter.unusedVariables false
set_option linter.unusedSimpArgs false
namespace Go.Proofs.Si
open Go Go.V Go.Proofs Go.RowKit Go.Num Go.Tb Go.Proofs.Tryz
set_option maxRecDepth 100000
def MaxV (S:Tb.Sys) (B:Nat) (w:World) (s:Dy) (c:Nat->Rat) (r:ResM) (v:Value):Prop :=
 match r with
 | .best d=>∃ b,v=bestv (.slice none 0 0) (zval S s c) (.slice (some ⟨b,0,none⟩) S.m S.m)/\B<=b/\Box w b 88 (QL (dual S s d) S.m)
 | .ray j up=>∃ b,v=bestv (.slice (some ⟨b,0,none⟩) S.n S.n) zero2 (.slice none 0 0)/\B<=b/\Box w b 88 (QL (delta s j (oneQ up)) S.n)
 | _=>False
set_option maxHeartbeats 2000000 in
theorem c74 {S:Tb.Sys} {B:Nat} {T:Lay} {s0:Dy} {c:Nat->Rat} {cc:Nat} (hF:Fits S) (hC:FitsC S c) (hI:Inv S s0) (hFe:Feas S s0) (w:World) (hT:TabAt S B w T s0) (hx:T.xl=QL c S.n) (hy:T.yl=[]) :
  Ret prog 74 #[.pointer (some ⟨T.bt,0,none⟩),.slice (some ⟨T.xb,0,none⟩) S.n cc] w fun v w'=>∃ f s' r,maxN S c f s0=some (s',r)/\Inv S s'/\Feas S s'/\MaxV S B w' s' c r v/\TabAt S B w' T s'/\Below B w w':=by
 have hB:=hT.hB
 have hf':=hF.few
 unfold Few at hf'
 obtain⟨f0,r0,hend⟩:=max_ends hI hFe c
 have y1:=Box.new w (bestc (.slice none 0 0) zero2 (.slice none 0 0)) 103
 have z1:=(Ext.refl w).alloc (.cells (bestc (.slice none 0 0) zero2 (.slice none 0 0)).toArray 103)
 rw [zB7] at y1 z1
 have hT0:=(hT.ext z1 hB).withY y1.blk
 rw [<- zB7] at hT0
 obtain⟨I',μ',hin,hout⟩:=ghost (G:=Nat × Dy) (fun g vals w1=>vals=[]/\TabAt S B w1 { T with yb:=w.heap.size,yl:=bestc (.slice none 0 0) zero2 (.slice none 0 0) } g.2/\Inv S g.2/\Feas S g.2/\maxN S c g.1 g.2=some r0/\Below B w w1) (fun g=>g.1)
 refine run74 _ _ _ _ _ _ ⟨I',μ',hin (f0,s0) _ _ ⟨rfl,hT0,hI,hFe,hend,Below.mono z1 hB⟩,?_⟩
 intro w1 hI1
 obtain⟨⟨f,s⟩,⟨_,hT1,hIs,hFs,hso,hbl1⟩,hnext⟩:=hout _ _ hI1
 simp only at hT1 hIs hFs hso hnext
 clear hI1 hin hout hT0 y1 z1
 cases f with
 | zero=>rw [maxN] at hso;cases hso
 | succ f =>
 have hp:=hIs.dict.perm
 have hval:=hF.val s hIs
 have hda:=hF.a s hIs
 have hdc:=hC.cost s hIs S.n (Nat.le_refl _)
 have qc1 : ∀ {u:World} {s2:Dy},TabAt S B u { T with yb:=w.heap.size,yl:=bestc (.slice none 0 0) zero2 (.slice none 0 0) } s2->QS u (some ⟨T.xb,0,none⟩) c S.n:=fun h=>h.qx hx
 have put : ∀ {u:World} {s2:Dy} (r:Value) (x:V2) (d:Value),TabAt S B u { T with yb:=w.heap.size,yl:=bestc (.slice none 0 0) zero2 (.slice none 0 0) } s2 ->
   writable u ⟨w.heap.size,0,none⟩ 8/\vcells (setCells u ⟨w.heap.size,0,none⟩ 0 (bestc r x d)) ⟨w.heap.size,0,none⟩ 0 (bestc r x d)/\TabAt S B (setCells u ⟨w.heap.size,0,none⟩ 0 (bestc r x d)) T s2/\Below B u (setCells u ⟨w.heap.size,0,none⟩ 0 (bestc r x d)):=by
  intro u s2 r x d hTu
  have hyb:Blk u w.heap.size 103 (bestc (.slice none 0 0) zero2 (.slice none 0 0)):=hTu.yt.resolve_left (fun e=>by cases e)
  have hbl:Below B u (setCells u ⟨w.heap.size,0,none⟩ 0 (bestc r x d)):=zAr hB _ _
  refine⟨hyb.writable (by show 0+8<=8;decide),(hyb.put (bestc r x d) (by rfl)).all,?_,hbl⟩
  have aw : ∀ {b ty:Nat} {L:List Value},Blk u b ty L->ty≠103->Blk (setCells u ⟨w.heap.size,0,none⟩ 0 (bestc r x d)) b ty L:=fun hb ht=>hb.same (zAb _ (boxNe hb hyb ht))
  exact {
   box:=hTu.box.away zAb (boxNe hTu.box.blk hyb (by decide))
   bt:=hTu.bt
   line:=hTu.line.away zAb (boxNe hTu.line.blk hyb (by decide))
   la:=hTu.la
   val:=hTu.val.away zAb (boxNe hTu.val.blk hyb (by decide))
   va:=hTu.va
   basic:=hTu.basic.away zAb fun b _ hx=>boxNe hx hyb (by decide)
   cols:=hTu.cols.away zAb fun b _ hx=>boxNe hx hyb (by decide)
   a:=hTu.a.away zAb fun b _ hx=>boxNe hx hyb (by decide)
   row:=fun i hi=>(hTu.row i hi).away zAb fun b _ hx=>boxNe hx hyb (by decide)
   rows:=fun w2 h2=>hTu.rows w2 (Below.trans hbl h2)
   gl:=fun w2 h2=>hTu.gl w2 (Below.trans hbl h2)
   xt:=hTu.xt.imp id fun hx=>aw hx (by decide)
   yt := .inl hy
   d4:=hTu.d4,d1:=hTu.d1,d2:=hTu.d2,d3:=hTu.d3 }
 refine Called.of (c125 (T:={ T with yb:=w.heap.size,yl:=bestc (.slice none 0 0) zero2 (.slice none 0 0) }) hF hC hIs w1 hT1 (qc1 hT1)) ?_
 rintro r w2 ⟨rfl,hD,he2⟩
 have hT2:=hT1.ext he2 hT1.hB
 have hbl2:=Below.trans hbl1 (Below.mono he2 hT1.hB)
 refine⟨_,_,_,rfl,Called.of (c126 (d:=costs S s c) (T:={ T with yb:=w.heap.size,yl:=bestc (.slice none 0 0) zero2 (.slice none 0 0) }) hF.few hF.short9 hp (fun v hv=>(hval v hv).mono (by decide)) (fun j hj=>(hdc j hj).mono (by decide)) w2 hT2 hD.qs) ?_⟩
 rintro r w3 ⟨rfl,he3⟩
 have hT3:=hT2.ext he3 hT2.hB
 have hbl3:=Below.trans hbl2 (Below.mono he3 hT2.hB)
 have hD3:=hD.ext he3
 refine⟨_,rfl,?_⟩
 cases him:zBk S s (costs S s c) with
 | none =>
  rw [show decide (bestV none<0)=true from rfl,cond_true]
  have hst:stepM S s c = .best (costs S s c):=by unfold stepM;rw [him]
  rw [maxN,hst] at hso
  cases hso
  refine Called.of (c127 (d:=costs S s c) (T:={ T with yb:=w.heap.size,yl:=bestc (.slice none 0 0) zero2 (.slice none 0 0) }) hF hC hIs w3 hT3 (qc1 hT3) hD3.qs) ?_
  rintro r w4 ⟨b,rfl,hb,hDu,he4⟩
  have hT4:=hT3.ext he4 hT3.hB
  obtain⟨p1,p2,p3,p4⟩:=put (.slice none 0 0) (zval S s c) (.slice (some ⟨b,0,none⟩) S.m S.m) hT4
  refine⟨_,_,_,_,_,_,_,_,_,_,_,_,rfl,p1,_,_,_,_,_,_,_,_,_,_,_,_,p2,f0,s,_,hend,hIs,hFs,⟨b,rfl,Nat.le_trans hT3.hB hb,?_⟩,p3,Below.trans (Below.trans hbl3 (Below.mono he4 hT3.hB)) p4⟩
  exact hDu.away zAb fun e=>by
   have hyb:Blk w3 w.heap.size 103 (bestc (.slice none 0 0) zero2 (.slice none 0 0)):=hT3.yt.resolve_left (fun e=>by cases e)
   have:=hyb.lt
   omega
 | some j =>
  have hj:=(zAV him).1
  rw [show decide (bestV (some j)<0)=false from decide_eq_false (by show ¬ (j:Int)<0;omega),cond_false]
  refine⟨_,rfl,⟨by show 0<=(j:Int);omega,by show (j:Int)<_;omega⟩,_,_,_,hD3.qget hj,Called.of (c75 ((hdc j hj).mono (by decide)) w3 hT3.gg) ?_⟩
  rintro r w5 ⟨rfl,he5⟩
  have hT5:=hT3.ext he5 hT3.hB
  have hbl5:=Below.trans hbl3 (Below.mono he5 hT3.hB)
  refine⟨_,rfl,?_⟩
  have esg:decide (Tb.sgnQ (costF S s c S.n j)>0)=decide (0<costs S s c j):=zGw _
  simp only [esg]
  refine Called.of (c128 (T:={ T with yb:=w.heap.size,yl:=bestc (.slice none 0 0) zero2 (.slice none 0 0) }) hF hIs hj w5 hT5) ?_
  rintro r w6 ⟨rfl,he6⟩
  have hx7:Ext w5 (setCells (w6.alloc (.cells zv.toArray 101)) ⟨w6.heap.size,0,none⟩ 0 (vc2 (accV (zBE S s j (decide (0<costs S s c j)))))):=(he6.alloc _).put he6.size _ _
  have hSt:=(Box.new w6 zv 101).put (vc2 (accV (zBE S s j (decide (0<costs S s c j))))) (by rfl)
  have hT7:=hT5.ext hx7 hT5.hB
  have hbl7:=Below.trans hbl5 (Below.mono hx7 hT5.hB)
  refine⟨_,_,_,_,_,_,_,_,rfl,(Box.new w6 zv 101).blk.writable (by decide),?_⟩
  cases hle:zBE S s j (decide (0<costs S s c j)) with
  | none =>
   rw [show (!(none:Option (Int × V2)).isSome)=true from rfl,cond_true]
   have hst:stepM S s c = .ray j (decide (0<costs S s c j)):=by unfold stepM;rw [him];simp only [hle]
   rw [maxN,hst] at hso
   cases hso
   rw [hle] at hT7 hbl7
   refine Called.of (c129 (T:={ T with yb:=w.heap.size,yl:=bestc (.slice none 0 0) zero2 (.slice none 0 0) }) hF hIs hj _ hT7) ?_
   rintro r w7 ⟨b,rfl,hb,hR,he7⟩
   have hT8:=hT7.ext he7 hT7.hB
   obtain⟨p1,p2,p3,p4⟩:=put (.slice (some ⟨b,0,none⟩) S.n S.n) zero2 (.slice none 0 0) hT8
   rw [zB7] at p2 p3 p4
   refine⟨_,_,_,rfl,p1,_,_,_,_,_,_,_,_,_,_,_,_,p2,f0,s,_,hend,hIs,hFs,⟨b,?_,Nat.le_trans hT7.hB hb,?_⟩,p3,Below.trans (Below.trans hbl7 (Below.mono he7 hT7.hB)) p4⟩
   ·have:=zB7 (.slice (some ⟨b,0,none⟩) S.n S.n) (.slice none 0 0)
    unfold bestc at this
    unfold bestv
    rw [this]
   ·exact hR.away zAb fun e=>by
     have hyb:Blk _ w.heap.size 103 (bestc (.slice none 0 0) zero2 (.slice none 0 0)):=hT7.yt.resolve_left (fun e=>by cases e)
     have:=Nat.lt_of_lt_of_le hyb.lt hb
     omega
  | some q =>
   obtain⟨l,st⟩:=q
   rw [hle] at hT7 hbl7 hSt
   obtain⟨hnoself,hgo⟩:=zDL hIs (c:=c)
   have hst:stepM S s c=(if 0<=l then .go l.toNat j (pivot (Tb.move s j (zDt (decide (0<costs S s c j)) st)) l.toNat j) else .self (Tb.move s j (zDt (decide (0<costs S s c j)) st))):=by unfold stepM;rw [him];simp only [hle]
   have hl0:0<=l:=Decidable.byContradiction fun h=>by rw [if_neg h] at hst;exact hnoself _ hst
   rw [if_pos hl0] at hst
   obtain⟨st',hM⟩:=hgo _ _ _ hst
   have hIn:=hM.inv hIs
   have hFn:=hM.feas hIs hFs
   rw [maxN,hst] at hso
   have hli:l.toNat<S.m:=hM.hi
   have hacc:=zDi hF hIs hj (up:=decide (0<costs S s c j)) S.m (Nat.le_refl _) l st hle
   rw [show (!(some (l,st):Option (Int × V2)).isSome)=false from rfl,cond_false]
   intro K hK
   have main : ∀ w8,Box w8 w6.heap.size 101 (vc2 (zDt (decide (0<costs S s c j)) st))->Ext w5 w8->K [] w8:=by
    intro w8 hB8 hx8
    have hT8:=hT5.ext hx8 hT5.hB
    have dd:dg2 44000000 (zDt (decide (0<costs S s c j)) st):=by
     rw [zFe]
     exact (dg2.scale hacc.1 (zCE _)).mono (by decide)
    refine hK _ ⟨_,_,_,_,_,_,hB8.blk.all,Called.of (c119 (T:={ T with yb:=w.heap.size,yl:=bestc (.slice none 0 0) zero2 (.slice none 0 0) }) hF.few hp hj (fun v hv=>(hval v hv).mono (by decide)) dd (fun i hi=>(hda i hi j hj).mono (by decide)) w8 hT8) ?_⟩
    rintro r w9 ⟨rfl,hT9,hbl9⟩
    refine⟨rfl,?_⟩
    rw [show decide (accL (some (l,st))>=0)=true from decide_eq_true hl0,cond_true]
    have hpm:Perm S (Tb.move s j (zDt (decide (0<costs S s c j)) st)):=⟨hp.bas,hp.col,hp.inj,hp.lin⟩
    have hle2:accL (some (l,st))=((l.toNat:Nat):Int):=by show l=_;omega
    rw [hle2]
    refine Called.of (c123 (T:={ T with yb:=w.heap.size,yl:=bestc (.slice none 0 0) zero2 (.slice none 0 0) }) hF.few hpm hli hj hM.ne (fun i hi j hj=>(hda i hi j hj).mono (by decide)) w9 hT9) ?_
    rintro r w10 ⟨rfl,hT10,hbl10⟩
    exact⟨rfl,hnext (f,_) _ _ ⟨rfl,hT10,hIn,hFn,hso,Below.trans (Below.trans (Below.trans hbl5 (Below.mono hx8 hT5.hB)) hbl9) hbl10⟩ (Nat.lt_succ_self f)⟩
   rw [hle] at hx7
   cases hup:decide (0<costs S s c j) with
   | false =>
    rw [hup] at main
    rw [show (!false)=true from rfl,cond_true]
    intro K1 hK1
    have hxd:=hx7.drew
    have hTd:=hT5.ext hxd hT5.hB
    have hSd:=hSt.ext (Ext.refl _).drew
    refine⟨_,_,_,_,_,_,hSd.blk.all,Called.of (c130 (-1) (by decide) _ hTd.gg) ?_⟩
    rintro r w12 ⟨rfl,he12⟩
    have hT12:=hTd.ext he12 hTd.hB
    refine⟨_,_,_,rfl,he12,Called.of (c121 (hacc.1.mono (by decide)) ((zCQ (by decide)).neg) _ hT12.gg) ?_⟩
    rintro r w13 ⟨rfl,he13⟩
    have hS13:=(hSd.ext he12).ext he13
    refine⟨_,_,_,_,_,_,rfl,hS13.blk.writable (Nat.le_refl 6),hK1 _ (main _ (hS13.put _ (by rfl)) (((hxd.trans he12).trans he13).put he6.size _ _))⟩
   | true =>
    rw [hup] at main
    rw [show (!true)=false from rfl,cond_false]
    exact main _ hSt hx7
structure TX where
 m:Nat
 n:Nat->Nat
 C:Nat->Nat->ByteArray
 rel:Nat->Int
 K:Nat->ByteArray
structure TA where
 cA:Nat->Option Addr
 cC:Nat->Nat
def rtc (X:TX) (A:TA) (i:Nat):List Value:=[.slice (A.cA i) (X.n i) (A.cC i),.int .i64 (X.rel i),.string (X.K i)]
def RowsT (w:World) (a:Option Addr) (X:TX) (A:TA):Prop:=SlAt w a (GL (rtc X A) X.m)/\∀ i,i<X.m->SS w (A.cA i) (X.C i) (X.n i)
theorem RowsT.ext {w w' : World} {a:Option Addr} {X:TX} {A:TA} (h:RowsT w a X A) (he:Ext w w'):RowsT w' a X A:=⟨SlAt.ext h.1 he,fun i hi=>(h.2 i hi).ext he⟩
theorem RowsT.get {w:World} {a:Option Addr} {X:TX} {A:TA} (h:RowsT w a X A) {i:Nat} (hi:i<X.m) : ∃ ad,a=some ad/\vcells w (ad.add (i*3)) 0 (rtc X A i):=by
 obtain⟨b,o,ha,hv⟩:=SlAt.gget (m:=3) (by omega) (fun _=>rfl) h.1 hi
 exact⟨_,ha,hv⟩
def okRow (X:TX) (n:Int) (i:Nat):Prop:=(X.n i:Int)=n/\1<=X.rel i/\X.rel i<=3/\(∀ j,j<X.n i->okQ (bs (X.C i j))=true)/\okQ (bs (X.K i))=true
structure Tame (X:TX):Prop where
 n : ∀ i,i<X.m->X.n i<=1048576
 c : ∀ i,i<X.m->∀ j,j<X.n i->(X.C i j).size<=1000000
 k : ∀ i,i<X.m->(X.K i).size<=1000000
set_option maxHeartbeats 1000000 in
theorem c63 {X:TX} {A:TA} {n:Int} {i:Nat} (hX:Tame X) (hi:i<X.m) (w:World) (hs:SS w (A.cA i) (X.C i) (X.n i)) (hg:Gl w) :
  Ret prog 63 #[.int .i64 n,.agg #[.slice (A.cA i) (X.n i) (A.cC i),.int .i64 (X.rel i),.string (X.K i)]] w fun v w'=>(∃ b,v = .bool b/\(b=true↔okRow X n i))/\Ext w w':=by
 have hx1:=(Ext.refl w).alloc (.cells (rtc X A i).toArray 49)
 have hB:=Box.new w (rtc X A i) 49
 have hn:=hX.n i hi
 refine run63 _ _ _ _ _ _ _ _ fun K hK=>?_
 have no : ∀ w1,Ext w w1->¬ okRow X n i->K [.bool false] w1:=fun w1 h1 h=>hK false w1 ⟨⟨false,rfl,by simp [h]⟩,h1⟩
 refine⟨_,_,_,hB.blk.cell (j:=0) rfl,zAa (fun h1=>?_) (fun h1=>?_)⟩
 ·have h1:(X.n i:Int)=n:=by simpa using h1
  refine⟨_,hB.blk.cell (j:=1) rfl,zAd (fun h2=>?_) (fun h2=>?_)⟩
  ·refine⟨_,hB.blk.cell (j:=1) rfl,zAd (fun h3=>?_) (fun h3=>?_)⟩
   ·refine⟨_,_,_,hB.blk.cell (j:=0) rfl,Called.of (c62 (by omega) _ (hs.ext hx1) (fun j hj=>Nat.le_trans (hX.c i hi j hj) (by decide)) (hg.ext hx1)) ?_⟩
    rintro v w2 ⟨⟨b1,rfl,hb1⟩,he2⟩
    have hx2:=hx1.trans he2
    refine⟨_,rfl,zAa (fun h4=>?_) (fun h4=>?_)⟩
    ·refine⟨_,(hB.ext he2).blk.cell (j:=2) rfl,?_⟩
     have hx3:=hx2.alloc (.cells (SL (fun _=>X.K i) 1).toArray 9)
     have hS:SS (w2.alloc (.cells (SL (fun _=>X.K i) 1).toArray 9)) (some ⟨w2.heap.size,0,none⟩) (fun _=>X.K i) 1:=(Box.new w2 (SL (fun _=>X.K i) 1) 9).blk.sl
     refine Called.of (c62 (n:=1) (by decide) _ hS (fun j hj=>Nat.le_trans (hX.k i hi) (by decide)) (hg.ext hx3)) ?_
     rintro v w3 ⟨⟨b2,rfl,hb2⟩,he3⟩
     refine⟨_,rfl,hK _ _ ⟨⟨b2,rfl,?_⟩,hx3.trans he3⟩⟩
     rw [hb2]
     constructor
     ·intro h;exact⟨h1,h2,h3,hb1.1 h4,h 0 (by decide)⟩
     ·intro h j hj;exact h.2.2.2.2
    ·refine no _ hx2 fun h=>?_
     rw [hb1.2 h.2.2.2.1] at h4;cases h4
   ·exact no _ hx1 fun h=>h3 h.2.2.1
  ·exact no _ hx1 fun h=>h2 h.2.1
 ·exact no _ hx1 fun h=>by
   have h1 : ¬ (X.n i:Int)=n:=by simpa using h1
   exact h1 h.1
def okRows (X:TX) (n:Int):Prop:=0<=n/\n<=40/\X.m<=200/\∀ i,i<X.m->okRow X n i
set_option maxHeartbeats 1000000 in
theorem c68 {X:TX} {A:TA} {n:Int} {a:Option Addr} {c:Nat} (hX:Tame X) (w:World) (hR:RowsT w a X A) (hg:Gl w) :
  Ret prog 68 #[.int .i64 n,.slice a X.m c] w fun v w'=>(∃ b,v = .bool b/\(b=true↔okRows X n))/\Ext w w':=by
 refine run68 _ _ _ _ _ _ fun K hK=>?_
 have no : ¬ (0<=n/\n<=40/\X.m<=200)->K [.bool true] w:=fun h=>hK true ⟨⟨false,rfl,by simp only [Bool.false_eq_true,false_iff];exact fun h2=>h ⟨h2.1,h2.2.1,h2.2.2.1⟩⟩,Ext.refl _⟩
 refine zAa (fun h1=>no fun h=>?_) (fun h1=>?_)
 ·simp only [Bool.or_eq_true,decide_eq_true_iff] at h1;omega
 ·have h1:0<=n/\n<=40:=by simp only [Bool.or_eq_false_iff,decide_eq_false_iff_not] at h1;omega
  by_cases hm:X.m<=200
  ·rw [show decide ((X.m:Int)>200)=false from decide_eq_false (by omega)]
   refine hK false ?_
   rw [cond_false]
   refine⟨fun vals w1=>∃ i:Nat,vals=[.int .i64 i]/\i<=X.m/\(∀ k,k<i->okRow X n k)/\Ext w w1,mu1 X.m,⟨0,rfl,Nat.zero_le _,fun k hk=>by omega,Ext.refl _⟩,?_⟩
   rintro m w1 ⟨i,hv,hi,hall,he⟩
   cases hv
   refine zAd (fun hlt=>?_) (fun hge=>⟨⟨true,rfl,by simp only [true_iff];exact⟨h1.1,h1.2,hm,fun k hk=>hall k (by omega)⟩⟩,he⟩)
   have hin:i<X.m:=by omega
   obtain⟨ad,ha,hc⟩:=(hR.ext he).get hin
   have hN:=Box.new w1 [Value.slice none 0 0,.int .i64 0,.string { data:=#[] }] 49
   have hx:Ext w (setCells (w1.alloc (.cells [Value.slice none 0 0,.int .i64 0,.string { data:=#[] }].toArray 49)) ⟨w1.heap.size,0,none⟩ 0 (rtc X A i)):=(he.alloc _).put he.size _ _
   have hP:=hN.put (rtc X A i) (by rfl)
   refine⟨ad,ha,⟨by omega,hlt⟩,_,_,_,_,_,hc,hN.blk.writable (by decide),_,_,_,_,_,hP.blk.all,Called.of (c63 hX hin _ ((hR.ext hx).2 i hin) (hg.ext hx)) ?_⟩
   rintro v w2 ⟨⟨b,rfl,hb⟩,he2⟩
   refine⟨_,rfl,zAa (fun h=>⟨⟨false,rfl,?_⟩,hx.trans he2⟩) (fun h=>?_)⟩
   ·simp only [Bool.false_eq_true,false_iff]
    intro h2
    rw [hb.2 (h2.2.2.2 i hin)] at h;cases h
   ·have h:b=true:=by simpa using h
    rw [zAh (by omega)]
    refine⟨⟨i+1,rfl,hin,fun k hk=>?_,hx.trans he2⟩,by simp only [mu1,Int.toNat_natCast];omega⟩
    by_cases e:k=i
    ·rw [e];exact hb.1 h
    ·exact hall k (by omega)
  ·rw [show decide ((X.m:Int)>200)=true from decide_eq_true (by omega)]
   exact no fun h=>hm h.2.2
structure Reads (X:TX) (S:Tb.Sys):Prop where
 m:S.m=X.m
 n : ∀ i,i<X.m->X.n i=S.n
 C : ∀ i,i<X.m->∀ j,j<S.n->bs (X.C i j)=txtQ (S.C i j)
 rel : ∀ i,i<X.m->X.rel i=(S.rel i:Int)/\1<=S.rel i/\S.rel i<=3
 K : ∀ i,i<X.m->bs (X.K i)=txtQ (S.K i)
theorem Reads.of {X:TX} {n:Nat} (h : ∀ i,i<X.m->okRow X n i) : ∃ S:Tb.Sys,Reads X S/\S.n=n:=by
 classical
 let val:List UInt8->Rat:=fun l=>if h : ∃ q,l=txtQ q then Classical.choose h else 0
 have hval : ∀ l,okQ l=true->l=txtQ (val l):=fun l hl=>by
  have he:=zB5.1 hl
  show l=txtQ (dite _ _ _)
  rw [dif_pos he]
  exact Classical.choose_spec he
 refine⟨⟨n,X.m,fun i j=>val (bs (X.C i j)),fun i=>(X.rel i).toNat,fun i=>val (bs (X.K i))⟩,⟨rfl,fun i hi=>?_,fun i hi j hj=>?_,fun i hi=>?_,fun i hi=>?_⟩,rfl⟩
 ·have:=(h i hi).1;show X.n i=n;omega
 ·have h1:=(h i hi).1
  exact hval _ ((h i hi).2.2.2.1 j (by replace hj:j<n:=hj;omega))
 ·have h1:=(h i hi).2.1
  have h2:=(h i hi).2.2.1
  refine⟨?_,?_,?_⟩
  ·show X.rel i=((X.rel i).toNat:Int);omega
  ·show 1<=(X.rel i).toNat;omega
  ·show (X.rel i).toNat<=3;omega
 ·exact hval _ (h i hi).2.2.2.2
abbrev zr:List Value:=[.slice none 0 0,.int .i64 0,.int .i64 0,.int .i64 0,.string { data:=#[] }]
theorem ZR_made (n:Nat):madeCells zr.toArray (n*5)=(GL (fun _=>zr) n).toArray:=by
 apply Array.ext'
 show _=GL _ n
 apply GL_ext (m:=5) (by omega) (fun _=>rfl)
 ·simp [madeCells];omega
 ·intro i hi j hj
  simp only [madeCells]
  have:(5*i+j)<n*5:=by omega
  have h3:(5*i+j) % 5=j:=by omega
  match j,hj with
  | 0,_=>simp [show 5*i<n*5 by omega]
  | 1,_=>simp [this,h3]
  | 2,_=>simp [this,h3]
  | 3,_=>simp [this,h3]
  | 4,_=>simp [this,h3]
theorem size90 (n:Nat):n*siE.P.types[90].size=n*5:=rfl
def RowsB (w:World) (b:Nat) (S:Tb.Sys) (Rl:RowL):Prop:=Box w b 90 (GL (rowc S Rl) S.m)/\∀ i,i<S.m->∃ b',Rl.cA i=some ⟨b',0,none⟩/\b<b'/\Box w b' 88 (QL (S.C i) S.n)
theorem RowsB.r {w:World} {b:Nat} {S:Tb.Sys} {Rl:RowL} (h:RowsB w b S Rl):RowsR w (some ⟨b,0,none⟩) S Rl:=⟨h.1.blk.sl,fun i hi=>by obtain⟨b',h1,_,h3⟩:=h.2 i hi;rw [h1];exact h3.qs⟩
set_option maxHeartbeats 2000000 in
theorem c65b {X:TX} {A:TA} {S:Tb.Sys} {a:Option Addr} {c:Nat} (hf:Few S) (hX:Tame X) (hS:Reads X S) (w:World) (hR:RowsT w a X A) (hg:Gl w) :
  Ret prog 65 #[.slice a X.m c] w fun v w'=>∃ Rl,v = .slice (some ⟨w.heap.size,0,none⟩) S.m S.m/\RowsB w' w.heap.size S Rl/\Ext w w':=by
 have hf':=hf
 unfold Few at hf'
 have hm:=hS.m
 refine run65 _ _ _ _ _ ⟨⟨by omega,by omega,by omega,by omega⟩,?_⟩
 simp only [Int.toNat_natCast,size90]
 have e0:madeCells (Value.agg #[Value.slice none 0 0,.int .i64 0,.int .i64 0,.int .i64 0,.string { data:=#[] }]).cells (X.m*5)=(GL (fun _=>zr) X.m).toArray:=ZR_made X.m
 rw [e0]
 refine⟨fun vals w1=>∃ (k:Nat) (Rl:RowL),vals=[.int .i64 k]/\k<=X.m/\Box w1 w.heap.size 90 (GL (fun i=>if i<k then rowc S Rl i else zr) X.m)/\(∀ i,i<k->∃ b,Rl.cA i=some ⟨b,0,none⟩/\w.heap.size<b/\Box w1 b 88 (QL (S.C i) S.n))/\Ext w w1,mu1 X.m,⟨0,⟨fun _=>none,fun _=>0⟩,rfl,Nat.zero_le _,?_,fun i hi=>by omega,(Ext.refl w).alloc _⟩,?_⟩
 ·rw [zCb (g:=fun _=>zr) fun i _=>if_neg (by omega)]
  exact Box.new w _ 90
 rintro m w1 ⟨k,Rl,hv,hk,hB,hQ,he⟩
 cases hv
 refine zAd (fun hlt=>?_) (fun hge=>?_)
 ·have hkm:k<X.m:=by omega
  obtain⟨ad,ha,hc⟩:=(hR.ext he).get hkm
  have hN:=Box.new w1 [Value.slice none 0 0,.int .i64 0,.string { data:=#[] }] 49
  have hx:Ext w (setCells (w1.alloc (.cells [Value.slice none 0 0,.int .i64 0,.string { data:=#[] }].toArray 49)) ⟨w1.heap.size,0,none⟩ 0 (rtc X A k)):=(he.alloc _).put he.size _ _
  have hx1:Ext w1 (setCells (w1.alloc (.cells [Value.slice none 0 0,.int .i64 0,.string { data:=#[] }].toArray 49)) ⟨w1.heap.size,0,none⟩ 0 (rtc X A k)):=((Ext.refl w1).alloc _).put (Nat.le_refl _) _ _
  have hP:=(hN.put (rtc X A k) (by rfl)).ext (Ext.refl _).drew
  refine⟨ad,ha,⟨by omega,hlt⟩,_,_,_,_,_,hc,hN.blk.writable (by decide),fun K hK=>?_⟩
  have hn:=hS.n k hkm
  have hxd:=hx.drew
  refine⟨_,_,_,hP.blk.cell (j:=0) rfl,_,hP.blk.cell (j:=1) rfl,_,hP.blk.cell (j:=2) rfl,?_⟩
  refine Called.of (c64 (f:=S.C k) (by rw [hn];omega) _ ((hR.ext hxd).2 k hkm) (fun j hj=>Nat.le_trans (hX.c k hkm j hj) (by decide)) (fun j hj=>hS.C k hkm j (by omega)) (hg.ext hxd)) ?_
  rintro v w3 ⟨rfl,hL,he3⟩
  have hx3:=hxd.trans he3
  refine⟨_,_,_,rfl,he3,Called.of (c104 (hS.K k hkm) (Nat.le_trans (hX.k k hkm) (by decide)) w3 (hg.ext hx3)) ?_⟩
  rintro v w4 ⟨rfl,he4⟩
  have hx14:=((hx1.drew.trans he3).trans he4)
  have hB4:=hB.ext hx14
  have hL4:=hL.ext he4
  refine⟨_,_,_,rfl,he3.trans he4,_,rfl,⟨by omega,hlt⟩,?_,hK _ ?_⟩
  ·rw [zAk]
   exact hB4.blk.writable (by rw [zAU (m:=5) fun i=>by split <;> rfl,Int.toNat_natCast];omega)
  simp only [size_drew,zCs,size_alloc] at hL4 ⊢
  have hlw:=hB.lt
  obtain⟨lb,hlb⟩ : ∃ lb,lb=w1.heap.size+1:=⟨_,rfl⟩
  rw [<- hlb] at hL4 ⊢
  rw [zAh (by omega)]
  have hne:lb≠w.heap.size:=by omega
  refine⟨⟨k+1,⟨upd Rl.cA k (some ⟨lb,0,none⟩),upd Rl.cC k (X.n k)⟩,rfl,hkm,?_,?_,?_⟩,by simp only [mu1,Int.toNat_natCast];omega⟩
  ·rw [zAk,Int.toNat_natCast]
   have h1:=hB4.setCells (o:=0+k*5) (rowc S ⟨upd Rl.cA k (some ⟨lb,0,none⟩),upd Rl.cC k (X.n k)⟩ k) 0
   rw [show 0+k*5+0=5*k by omega,GL_set (m:=5) (by omega) (fun i=>by split <;> rfl) hkm (rowc S ⟨upd Rl.cA k (some ⟨lb,0,none⟩),upd Rl.cC k (X.n k)⟩ k) rfl] at h1
   rw [zCb (g:=fun i=>if i<k+1 then rowc S ⟨upd Rl.cA k (some ⟨lb,0,none⟩),upd Rl.cC k (X.n k)⟩ i else zr) fun i hi=>?_] at h1
   ·have e:[Value.slice (some ⟨lb,0,none⟩) (X.n k) (X.n k),.int .i64 (X.rel k),.int .i64 (qn (S.K k)),.int .i64 (ql (S.K k)),.string (qb (S.K k))]=rowc S ⟨upd Rl.cA k (some ⟨lb,0,none⟩),upd Rl.cC k (X.n k)⟩ k:=by
     unfold rowc
     simp only [zAy,hn,(hS.rel k hkm).1]
    rw [e]
    exact h1
   ·by_cases e:i=k
    ·subst e;rw [zAy,if_pos (by omega)]
    ·rw [zAu _ e]
     by_cases h:i<k
     ·rw [if_pos h,if_pos (by omega)]
      unfold rowc
      simp only [zAu _ e]
     ·rw [if_neg h,if_neg (by omega)]
  ·intro i hi
   rw [zAk]
   by_cases e:i=k
   ·refine⟨lb,?_,by omega,?_⟩
    ·show upd Rl.cA k _ i=_
     rw [e,zAy]
    ·rw [e]
     rw [hn] at hL4
     exact hL4.away zAb hne
   ·obtain⟨b,h1,h2,h3⟩:=hQ i (by omega)
    refine⟨b,?_,h2,(h3.ext hx14).away zAb (by omega)⟩
    show upd Rl.cA k _ i=_
    rw [zAu _ e];exact h1
  ·rw [zAk];exact (hx3.trans he4).put (Nat.le_refl _) _ _
 ·have ek:k=X.m:=by omega
  subst ek
  refine⟨Rl,by rw [hm],⟨?_,fun i hi=>hQ i (by omega)⟩,he⟩
  rw [hm]
  rw [zCb (g:=rowc S Rl) fun i hi=>if_pos hi] at hB
  exact hB
theorem c65 {X:TX} {A:TA} {S:Tb.Sys} {a:Option Addr} {c:Nat} (hf:Few S) (hX:Tame X) (hS:Reads X S) (w:World) (hR:RowsT w a X A) (hg:Gl w) :
  Ret prog 65 #[.slice a X.m c] w fun v w'=>∃ Rl,v = .slice (some ⟨w.heap.size,0,none⟩) S.m S.m/\RowsR w' (some ⟨w.heap.size,0,none⟩) S Rl/\Ext w w' :=
 (c65b hf hX hS w hR hg).mono fun v w' ⟨Rl,h1,h2,h3⟩=>⟨Rl,h1,h2.r,h3⟩
theorem c66 {a b:Option Addr} {f g:Nat->Rat} {n ca cb:Nat} (hn:n<=1048576) (hf : ∀ i,i<n->dg 40000000 (f i)) (hg' : ∀ i,i<n->dg 40000000 (g i)) (hd : ∀ k,k<=n->dg 90000000 (sumN k fun i=>f i*g i)) (w:World) (ha:QS w a f n) (hb:QS w b g n) (hg:Gl w) :
  Ret prog 66 #[.slice a n ca,.slice b n cb] w fun v w'=>v=qv (sumN n fun i=>f i*g i)/\Ext w w':=by
 have z1:=(Ext.refl w).alloc (.cells zq.toArray 88)
 have y1:=Box.new w zq 88
 have z2:=(Ext.refl (w.alloc (.cells zq.toArray 88))).alloc (.cells zq.toArray 88)
 have y2:=Box.new (w.alloc (.cells zq.toArray 88)) zq 88
 refine run66 _ _ _ _ _ _ _ _ ⟨fun vals w1=>∃ k:Nat,vals=[.int .i64 k]/\k<=n/\Box w1 w.heap.size 88 zq/\Box w1 (w.alloc (.cells zq.toArray 88)).heap.size 88 (qc (sumN k fun i=>f i*g i))/\Ext w w1,mu1 n,⟨0,rfl,Nat.zero_le _,y1.ext z2,by rw [zAG,zEp];exact y2,z1.trans z2⟩,?_⟩
 have hs:(w.alloc (.cells zq.toArray 88)).heap.size=w.heap.size+1:=size_alloc ..
 have hs2:(w.alloc (.cells #[Value.int .i64 0,.int .i64 0,.string { data:=#[] }] 88)).heap.size=w.heap.size+1:=size_alloc ..
 rintro m w1 ⟨k,hv,hk,k1,k2,hx⟩
 cases hv
 refine zAd (fun hlt=>?_) (fun hge=>?_)
 ·have hkn:k<n:=by omega
  intro K hK
  have hxd:=hx.drew
  have k2d:=k2.ext (Ext.refl _).drew
  obtain⟨b1,o1,ha1,hv1⟩:=(ha.ext hxd).get hkn
  obtain⟨b2,o2,ha2,hv2⟩:=(hb.ext hxd).get hkn
  refine⟨_,_,_,k2d.blk.all,_,ha1,⟨by omega,hlt⟩,_,_,_,hv1,_,ha2,⟨by omega,hlt⟩,_,_,_,hv2,Called.of (c113 ((hf k hkn).mono (by decide)) ((hg' k hkn).mono (by decide)) _ (hg.ext hxd)) ?_⟩
  rintro r w3 ⟨rfl,he3⟩
  refine⟨_,_,_,rfl,he3,Called.of (c112 (hd k hk) (((hf k hkn).mul (hg' k hkn)).mono (by decide)) w3 (hg.ext (hxd.trans he3))) ?_⟩
  rintro r w4 ⟨rfl,he4⟩
  have k24:=(k2d.ext he3).ext he4
  refine⟨_,_,_,rfl,k24.blk.writable (Nat.le_refl 3),hK _ ?_⟩
  rw [zAh (by omega)]
  refine⟨⟨k+1,rfl,hkn,(((k1.ext (Ext.refl _).drew).ext he3).ext he4).away zAb (by omega),k24.put _ (by rfl),((hxd.trans he3).trans he4).put (by omega) _ _⟩,by simp only [mu1,Int.toNat_natCast];omega⟩
 ·have ek:k=n:=by omega
  subst ek
  have p1:=k1.put (qc (sumN k fun i=>f i*g i)) (by rfl)
  exact⟨_,_,_,k2.blk.all,k1.blk.writable (by decide),_,_,_,p1.blk.all,rfl,hx.put (Nat.le_refl _) _ _⟩
theorem c31 {a:Option Addr} {s:Nat->ByteArray} {n:Int} {m c:Nat} (hm:m<=1048576) (w:World) (hs:SS w a s m) (hz : ∀ i,i<m->(s i).size<=500000000) :
  Ret prog 31 #[.int .i64 n,.slice a m c] w fun v w'=>(∃ b,v = .bool b/\(b=true↔(m:Int)=n/\∀ i,i<m->okQ (bs (s i))=true))/\Ext w w':=by
 refine run31 _ _ _ _ _ _ (zAa (fun h1=>⟨⟨false,rfl,?_⟩,Ext.refl _⟩) (fun h1=>?_))
 ·have h1:(m:Int)≠n:=by simpa using h1
  simp only [Bool.false_eq_true,false_iff]
  exact fun h=>h1 h.1
 ·have h1:(m:Int)=n:=by simpa using h1
  refine⟨fun vals w1=>∃ i:Nat,vals=[.int .i64 i]/\i<=m/\(∀ k,k<i->okQ (bs (s k))=true)/\Ext w w1,mu1 m,⟨0,rfl,Nat.zero_le _,fun k hk=>by omega,Ext.refl _⟩,?_⟩
  rintro m1 w1 ⟨i,hv,hi,hall,he⟩
  cases hv
  refine zAd (fun hlt=>?_) (fun hge=>⟨⟨true,rfl,by simp only [true_iff];exact⟨h1,fun k hk=>hall k (by omega)⟩⟩,he⟩)
  have hin:i<m:=by omega
  obtain⟨ad,ha,hc⟩:=(hs.ext he).get hin
  refine⟨ad,ha,⟨by omega,hlt⟩,_,hc,Called.of (c77 (s i) (Nat.le_trans (hz i hin) (by decide)) w1) ?_⟩
  rintro v w2 ⟨rfl,he2⟩
  refine⟨_,rfl,zAa (fun hb=>⟨⟨false,rfl,?_⟩,he.trans he2⟩) (fun hb=>?_)⟩
  ·have hb:okQ (bs (s i))=false:=by simpa using hb
   simp only [Bool.false_eq_true,false_iff]
   intro h;rw [h.2 i hin] at hb;cases hb
  ·have hb:okQ (bs (s i))=true:=by simpa using hb
   rw [zAh (by omega)]
   refine⟨⟨i+1,rfl,hin,fun k hk=>?_,he.trans he2⟩,by simp only [mu1,Int.toNat_natCast];omega⟩
   by_cases e:k=i
   ·rw [e];exact hb
   ·exact hall k (by omega)
set_option maxHeartbeats 1000000 in
theorem c39 {X:TX} {A:TA} {n:Int} {i:Nat} (hX:Tame X) (hi:i<X.m) (w:World) (hs:SS w (A.cA i) (X.C i) (X.n i)) :
  Ret prog 39 #[.int .i64 n,.agg #[.slice (A.cA i) (X.n i) (A.cC i),.int .i64 (X.rel i),.string (X.K i)]] w fun v w'=>(∃ b,v = .bool b/\(b=true↔okRow X n i))/\Ext w w':=by
 have hx1:=(Ext.refl w).alloc (.cells (rtc X A i).toArray 49)
 have hB:=Box.new w (rtc X A i) 49
 have hn:=hX.n i hi
 refine run39 _ _ _ _ _ _ _ _ fun K hK=>?_
 have no : ∀ w1,Ext w w1->¬ okRow X n i->K [.bool false] w1:=fun w1 h1 h=>hK false w1 ⟨⟨false,rfl,by simp [h]⟩,h1⟩
 refine⟨_,_,_,hB.blk.cell (j:=0) rfl,Called.of (c31 hn _ (hs.ext hx1) fun j hj=>Nat.le_trans (hX.c i hi j hj) (by decide)) ?_⟩
 rintro v w2 ⟨⟨b1,rfl,hb1⟩,he2⟩
 have hx2:=hx1.trans he2
 refine⟨_,rfl,zAa (fun h1=>?_) (fun h1=>no _ hx2 fun h=>?_)⟩
 ·obtain⟨h1a,h1b⟩:=hb1.1 h1
  refine⟨_,(hB.ext he2).blk.cell (j:=2) rfl,Called.of (c77 _ (Nat.le_trans (hX.k i hi) (by decide)) w2) ?_⟩
  rintro v w3 ⟨rfl,he3⟩
  have hx3:=hx2.trans he3
  refine⟨_,rfl,zAa (fun h2=>?_) (fun h2=>no _ hx3 fun h=>?_)⟩
  ·refine⟨_,((hB.ext he2).ext he3).blk.cell (j:=1) rfl,zAd (fun h3=>?_) (fun h3=>no _ hx3 fun h=>h3 h.2.1)⟩
   refine⟨_,((hB.ext he2).ext he3).blk.cell (j:=1) rfl,hK _ _ ⟨⟨_,rfl,?_⟩,hx3⟩⟩
   rw [decide_eq_true_iff]
   exact⟨fun h=>⟨h1a,h3,h,h1b,h2⟩,fun h=>h.2.2.1⟩
  ·rw [h.2.2.2.2] at h2;cases h2
 ·rw [hb1.2 ⟨h.1,h.2.2.2.1⟩] at h1;cases h1
set_option maxHeartbeats 1000000 in
theorem c29 {X:TX} {A:TA} {n:Int} {a:Option Addr} {c:Nat} (hX:Tame X) (w:World) (hR:RowsT w a X A) :
  Ret prog 29 #[.int .i64 n,.slice a X.m c] w fun v w'=>(∃ b,v = .bool b/\(b=true↔okRows X n))/\Ext w w':=by
 refine run29 _ _ _ _ _ _ fun K hK=>?_
 have no : ¬ (0<=n/\n<=40/\X.m<=200)->K [.bool true] w:=fun h=>hK true ⟨⟨false,rfl,by simp only [Bool.false_eq_true,false_iff];exact fun h2=>h ⟨h2.1,h2.2.1,h2.2.2.1⟩⟩,Ext.refl _⟩
 refine zAa (fun h1=>no fun h=>?_) (fun h1=>?_)
 ·simp only [Bool.or_eq_true,decide_eq_true_iff] at h1;omega
 ·have h1:0<=n/\n<=40:=by simp only [Bool.or_eq_false_iff,decide_eq_false_iff_not] at h1;omega
  by_cases hm:X.m<=200
  ·rw [show decide ((X.m:Int)>200)=false from decide_eq_false (by omega)]
   refine hK false ?_
   rw [cond_false]
   refine⟨fun vals w1=>∃ i:Nat,vals=[.int .i64 i]/\i<=X.m/\(∀ k,k<i->okRow X n k)/\Ext w w1,mu1 X.m,⟨0,rfl,Nat.zero_le _,fun k hk=>by omega,Ext.refl _⟩,?_⟩
   rintro m w1 ⟨i,hv,hi,hall,he⟩
   cases hv
   refine zAd (fun hlt=>?_) (fun hge=>⟨⟨true,rfl,by simp only [true_iff];exact⟨h1.1,h1.2,hm,fun k hk=>hall k (by omega)⟩⟩,he⟩)
   have hin:i<X.m:=by omega
   obtain⟨ad,ha,hc⟩:=(hR.ext he).get hin
   refine⟨ad,ha,⟨by omega,hlt⟩,_,_,_,_,_,hc,Called.of (c39 hX hin _ ((hR.ext he).2 i hin)) ?_⟩
   rintro v w2 ⟨⟨b,rfl,hb⟩,he2⟩
   refine⟨_,rfl,zAa (fun h=>⟨⟨false,rfl,?_⟩,he.trans he2⟩) (fun h=>?_)⟩
   ·simp only [Bool.false_eq_true,false_iff]
    intro h2
    rw [hb.2 (h2.2.2.2 i hin)] at h;cases h
   ·have h:b=true:=by simpa using h
    rw [zAh (by omega)]
    refine⟨⟨i+1,rfl,hin,fun k hk=>?_,he.trans he2⟩,by simp only [mu1,Int.toNat_natCast];omega⟩
    by_cases e:k=i
    ·rw [e];exact hb.1 h
    ·exact hall k (by omega)
  ·rw [show decide ((X.m:Int)>200)=true from decide_eq_true (by omega)]
   exact no fun h=>hm h.2.2
theorem zCz {k:Nat} {q:Rat} {u:ByteArray} (h:dg k q) (hu:bs u=txtQ q):u.size<=2*k+2:=by
 rw [zAg,hu];exact dg_txt h
theorem zBA:txtQ 0=[48]:=by
 rw [zA0,if_neg (by decide),if_pos (show (0:Rat).den=1 from rfl)];exact congrArg (· ++ []) zBc
theorem c36 {a b:Option Addr} {s t:Nat->ByteArray} {f g:Nat->Rat} {n ca cb nb:Nat} (hn:n<=1048576) (hnb:n<=nb) (hs : ∀ i,i<n->bs (s i)=txtQ (f i)) (ht : ∀ i,i<n->bs (t i)=txtQ (g i)) (hsz : ∀ i,i<n->(s i).size<=200000000/\(t i).size<=200000000)
  (hfg : ∀ i,i<n->dg 84001000 (f i*g i)) (hd : ∀ k,k<=n->dg 84001000 (sumN k fun i=>f i*g i)) (w:World) (ha:SS w a s n) (hb:SS w b t nb) :
  Ret prog 36 #[.slice a n ca,.slice b nb cb] w fun v w'=>(∃ u,v = .string u/\bs u=txtQ (sumN n fun i=>f i*g i))/\Ext w w':=by
 refine run36 _ _ _ _ _ _ _ _ ⟨fun vals w1=>∃ (k:Nat) (u:ByteArray),vals=[.int .i64 k,.string u]/\k<=n/\bs u=txtQ (sumN k fun i=>f i*g i)/\Ext w w1,mu1 n,⟨0,_,rfl,Nat.zero_le _,by rw [zAG,zBA];rfl,Ext.refl _⟩,?_⟩
 rintro m u w1 ⟨k,u',hv,hk,hu,hx⟩
 cases hv
 refine zAd (fun hlt=>?_) (fun hge=>?_)
 ·have hkn:k<n:=by omega
  intro K hK
  have hxd:=hx.drew
  obtain⟨a1,ha1,hc1⟩:=(ha.ext hxd).get hkn
  obtain⟨a2,ha2,hc2⟩:=(hb.ext hxd).get (i:=k) (by omega)
  have hz:=hsz k hkn
  refine⟨a1,ha1,⟨by omega,hlt⟩,_,hc1,a2,ha2,⟨by omega,by omega⟩,_,hc2,Called.of (c44 (hs k hkn) (ht k hkn) ⟨by omega,by omega⟩ _) ?_⟩
  rintro v w3 ⟨⟨x,rfl,hxq⟩,he3⟩
  have z1:=zCz (hfg k hkn) hxq
  have z2:=zCz (hd k hk) hu
  refine⟨_,rfl,Called.of (c58 hu hxq ⟨by omega,by omega⟩ _) ?_⟩
  rintro v w4 ⟨⟨y,rfl,hyq⟩,he4⟩
  refine⟨_,rfl,hK _ _ ?_⟩
  rw [zAh (by omega)]
  exact⟨⟨k+1,y,rfl,hkn,hyq,(hxd.trans he3).trans he4⟩,by simp only [mu1,Int.toNat_natCast];omega⟩
 ·have ek:k=n:=by omega
  subst ek
  exact⟨⟨u,rfl,hu⟩,hx⟩
theorem sgn_eq (q:Rat):sgnQ q=Tb.sgnQ q:=by
 unfold sgnQ Tb.sgnQ
 by_cases h:q<0
 ·rw [if_pos h]
  exact Int.sign_eq_neg_one_of_neg (Int.not_le.1 fun h2=>Rat.not_lt.2 (Rat.num_nonneg.1 h2) h)
 ·rw [if_neg h]
  by_cases h0:q=0
  ·rw [if_pos h0,h0];rfl
  ·rw [if_neg h0]
   have:0<q:=by grind
   have h2:0<=q.num:=Rat.num_nonneg.2 (Rat.not_lt.1 h)
   have h3:q.num≠0:=fun e=>h0 (Rat.num_eq_zero.1 e)
   exact Int.sign_eq_one_of_pos (by omega)
def meets (S:Tb.Sys) (x:Nat->Rat) (i:Nat):Prop:=lhs S x i<=S.K i/\(S.rel i=2->lhs S x i<S.K i)/\(S.rel i=3->lhs S x i=S.K i)
set_option maxHeartbeats 1000000 in
theorem c42 {X:TX} {A:TA} {S:Tb.Sys} {i nx cx:Nat} {xa:Option Addr} {t:Nat->ByteArray} {x:Nat->Rat} (hf:Few S) (hX:Tame X) (hS:Reads X S) (hi:i<X.m) (hnx:nx=S.n) (ht : ∀ j,j<S.n->bs (t j)=txtQ (x j)) (hts : ∀ j,j<S.n->(t j).size<=150000000)
  (hfg : ∀ j,j<S.n->dg 84001000 (S.C i j*x j)) (hd : ∀ k,k<=S.n->dg 84001000 (sumN k fun j=>S.C i j*x j)) (w:World) (hs:SS w (A.cA i) (X.C i) (X.n i)) (hx:SS w xa t nx) :
  Ret prog 42 #[.agg #[.slice (A.cA i) (X.n i) (A.cC i),.int .i64 (X.rel i),.string (X.K i)],.slice xa nx cx] w fun v w'=>(∃ b,v = .bool b/\(b=true↔meets S x i))/\Ext w w':=by
 have hf':=hf
 unfold Few at hf'
 have hx1:=((Ext.refl w).alloc (.cells (rtc X A i).toArray 49)).drew
 have hB:=(Box.new w (rtc X A i) 49).ext (Ext.refl _).drew
 have hn:=hS.n i hi
 obtain⟨r1,r2,r3⟩:=hS.rel i hi
 have hk:=hX.k i hi
 refine run42 _ _ _ _ _ _ _ _ _ _ fun K hK=>⟨_,_,_,hB.blk.cell (j:=0) rfl,_,hB.blk.cell (j:=2) rfl,?_⟩
 subst hnx
 refine Called.of (c36 (n:=X.n i) (f:=S.C i) (g:=x) (by omega) (by omega) (fun j hj=>hS.C i hi j (by omega)) (fun j hj=>ht j (by omega)) (fun j hj=>⟨Nat.le_trans (hX.c i hi j hj) (by decide),Nat.le_trans (hts j (by omega)) (by decide)⟩) (fun j hj=>hfg j (by omega)) (fun k hk=>hd k (by omega)) _ (hs.ext hx1) (hx.ext hx1)) ?_
 rintro v w2 ⟨⟨u,rfl,hu⟩,he2⟩
 have hz:=zCz (hd (X.n i) (by omega)) hu
 refine⟨_,rfl,he2,Called.of (c37 hu (hS.K i hi) (by omega) w2) ?_⟩
 rintro v w3 ⟨rfl,he3⟩
 have hx3:=(hx1.trans he2).trans he3
 have e:(sumN (X.n i) fun j=>S.C i j*x j)=lhs S x i:=by rw [hn];rfl
 rw [e,sgn_eq]
 refine⟨_,rfl,hK _ _ ⟨_,((hB.ext he2).ext he3).blk.cell (j:=1) rfl,?_⟩⟩
 have c1:cmpQ (lhs S x i) (S.K i)=Tb.sgnQ (lhs S x i - S.K i):=rfl
 rw [<- c1]
 refine zAa (fun h1=>?_) (fun h1=>zAa (fun h2=>?_) (fun h2=>?_))
 ·have h1:X.rel i=1:=by simpa using h1
  refine⟨⟨_,rfl,?_⟩,hx3⟩
  rw [decide_eq_true_iff]
  have:cmpQ (lhs S x i) (S.K i)<=0↔lhs S x i<=S.K i:=by
   rw [<- Int.not_lt,zE0,Rat.not_lt]
  rw [this]
  exact⟨fun h=>⟨h,fun h2=>by omega,fun h3=>by omega⟩,fun h=>h.1⟩
 ·have h2:X.rel i=2:=by simpa using h2
  refine⟨⟨_,rfl,?_⟩,hx3⟩
  rw [decide_eq_true_iff,zCT]
  exact⟨fun h=>⟨Rat.le_of_lt h,fun _=>h,fun h3=>by omega⟩,fun h=>h.2.1 (by omega)⟩
 ·have h1 : ¬ X.rel i=1:=by simpa using h1
  have h2 : ¬ X.rel i=2:=by simpa using h2
  refine⟨⟨_,rfl,?_⟩,hx3⟩
  rw [beq_iff_eq,zE1]
  exact⟨fun h=>⟨by rw [h];exact Rat.le_refl,fun h3=>by omega,fun _=>h⟩,fun h=>h.2.2 (by omega)⟩
def PtReads (t:Nat->ByteArray) (n:Nat) (x:Nat->Rat):Prop:=∀ j,j<n->bs (t j)=txtQ (x j)
theorem PtReads.of {t:Nat->ByteArray} {n:Nat} (h : ∀ j,j<n->okQ (bs (t j))=true) : ∃ x,PtReads t n x:=by
 classical
 refine⟨fun j=>if h : ∃ q,bs (t j)=txtQ q then Classical.choose h else 0,fun j hj=>?_⟩
 have he:=zB5.1 (h j hj)
 show _=txtQ (dite _ _ _)
 rw [dif_pos he]
 exact Classical.choose_spec he
def Dots (S:Tb.Sys) (x:Nat->Rat) (d:Nat):Prop:=∀ i,i<S.m->(∀ j,j<S.n->dg d (S.C i j*x j))/\∀ k,k<=S.n->dg d (sumN k fun j=>S.C i j*x j)
def zFZ (X:TX) (nx:Nat) (t:Nat->ByteArray):Prop:=(∀ j,j<nx->okQ (bs (t j))=true)/\(∀ i,i<X.m->okRow X nx i)/\∀ S x,Reads X S->S.n=nx->PtReads t nx x->∀ i,i<X.m->meets S x i
set_option maxHeartbeats 1000000 in
theorem c24 {X:TX} {A:TA} {nx ca cx:Nat} {a xa:Option Addr} {t:Nat->ByteArray} (hX:Tame X) (hf:nx+X.m<=1048576) (hts : ∀ j,j<nx->(t j).size<=150000000)
  (hdot : ∀ S x,Reads X S->S.n=nx->PtReads t nx x->Dots S x 84001000) (w:World) (hR:RowsT w a X A) (hx:SS w xa t nx) :
  Ret prog 24 #[.slice a X.m ca,.slice xa nx cx] w fun v w'=>(∃ b,v = .bool b/\(b=true↔zFZ X nx t))/\Ext w w':=by
 refine run24 _ _ _ _ _ _ _ _ (Called.of (c31 (by omega) w hx (fun j hj=>Nat.le_trans (hts j hj) (by decide))) ?_)
 rintro v w1 ⟨⟨b,rfl,hb⟩,he1⟩
 refine⟨_,rfl,zAa (fun h1=>⟨⟨false,rfl,?_⟩,he1⟩) (fun h1=>?_)⟩
 ·simp only [Bool.false_eq_true,false_iff]
  intro h
  rw [hb.2 ⟨rfl,h.1⟩] at h1;cases h1
 have h1:b=true:=by simpa using h1
 have hpt:=(hb.1 h1).2
 refine⟨fun vals w2=>∃ i:Nat,vals=[.int .i64 i]/\i<=X.m/\(∀ k,k<i->okRow X nx k)/\Ext w w2,mu1 X.m,⟨0,rfl,Nat.zero_le _,fun k hk=>by omega,he1⟩,?_⟩
 rintro m w2 ⟨i,hv,hi,hall,he⟩
 cases hv
 refine zAd (fun hlt=>?_) (fun hge=>?_)
 ·have hin:i<X.m:=by omega
  obtain⟨ad,ha,hc⟩:=(hR.ext he).get hin
  refine⟨ad,ha,⟨by omega,hlt⟩,_,_,_,_,_,hc,Called.of (c39 hX hin _ ((hR.ext he).2 i hin)) ?_⟩
  rintro v w3 ⟨⟨b,rfl,hb⟩,he3⟩
  refine⟨_,rfl,zAa (fun h=>⟨⟨false,rfl,?_⟩,he.trans he3⟩) (fun h=>?_)⟩
  ·simp only [Bool.false_eq_true,false_iff]
   intro h2
   rw [hb.2 (h2.2.1 i hin)] at h;cases h
  ·have h:b=true:=by simpa using h
   rw [zAh (by omega)]
   refine⟨⟨i+1,rfl,hin,fun k hk=>?_,he.trans he3⟩,by simp only [mu1,Int.toNat_natCast];omega⟩
   by_cases e:k=i
   ·rw [e];exact hb.1 h
   ·exact hall k (by omega)
 have ei:i=X.m:=by omega
 subst ei
 obtain⟨S,hS,hSn⟩:=Reads.of hall
 obtain⟨x,hxr⟩:=PtReads.of hpt
 have hD:=hdot S x hS hSn hxr
 have hfew:Few S:=by unfold Few;rw [hSn,hS.m];exact hf
 refine⟨fun vals w4=>∃ i:Nat,vals=[.int .i64 i]/\i<=X.m/\(∀ k,k<i->meets S x k)/\Ext w w4,mu1 X.m,⟨0,rfl,Nat.zero_le _,fun k hk=>by omega,he⟩,?_⟩
 clear hge he
 have same:(∀ k,k<X.m->meets S x k)↔zFZ X nx t:=by
  constructor
  ·intro h
   refine⟨hpt,hall,fun S' x' hS' hn' hx' k hk=>?_⟩
   have hl:lhs S' x' k=lhs S x k:=by
    unfold lhs
    rw [hn',hSn]
    refine zAi fun j hj=>?_
    have e1:S'.C k j=S.C k j:=zA1 ((hS'.C k hk j (by omega)).symm.trans (hS.C k hk j (by omega)))
    have e2:x' j=x j:=zA1 ((hx' j hj).symm.trans (hxr j hj))
    rw [e1,e2]
   have hK:S'.K k=S.K k:=zA1 ((hS'.K k hk).symm.trans (hS.K k hk))
   have hr:S'.rel k=S.rel k:=by
    have h1:=(hS'.rel k hk).1
    have h2:=(hS.rel k hk).1
    omega
   unfold meets
   rw [hl,hK,hr]
   exact h k hk
  ·intro h k hk
   exact h.2.2 S x hS hSn hxr k hk
 rintro m w4 ⟨i,hv,hi,hm,he⟩
 cases hv
 refine zAd (fun hlt=>?_) (fun hge=>⟨⟨true,rfl,by simp only [true_iff];exact same.1 fun k hk=>hm k (by omega)⟩,he⟩)
 have hin:i<X.m:=by omega
 obtain⟨ad,ha,hc⟩:=(hR.ext he).get hin
 have hDi:=hD i (by rw [hS.m];exact hin)
 refine⟨ad,ha,⟨by omega,hlt⟩,_,_,_,_,_,hc,Called.of (c42 hfew hX hS hin hSn.symm (fun j hj=>hxr j (by omega)) (fun j hj=>hts j (by omega)) hDi.1 hDi.2 _ ((hR.ext he).2 i hin) (hx.ext he)) ?_⟩
 rintro v w5 ⟨⟨b,rfl,hb⟩,he5⟩
 refine⟨_,rfl,zAa (fun h=>⟨⟨false,rfl,?_⟩,he.trans he5⟩) (fun h=>?_)⟩
 ·simp only [Bool.false_eq_true,false_iff]
  intro h2
  rw [hb.2 (same.2 h2 i hin)] at h;cases h
 ·have h:b=true:=by simpa using h
  rw [zAh (by omega)]
  refine⟨⟨i+1,rfl,hin,fun k hk=>?_,he.trans he5⟩,by simp only [mu1,Int.toNat_natCast];omega⟩
  by_cases e:k=i
  ·rw [e];exact hb.1 h
  ·exact hm k (by omega)
theorem holds_same {X:TX} {nx:Nat} {t:Nat->ByteArray} {S:Tb.Sys} {x:Nat->Rat} (hall : ∀ k,k<X.m->okRow X nx k) (hpt : ∀ j,j<nx->okQ (bs (t j))=true) (hS:Reads X S) (hSn:S.n=nx) (hxr:PtReads t nx x):(∀ k,k<X.m->meets S x k)↔zFZ X nx t:=by
 constructor
 ·intro h
  refine⟨hpt,hall,fun S' x' hS' hn' hx' k hk=>?_⟩
  have hl:lhs S' x' k=lhs S x k:=by
   unfold lhs
   rw [hn',hSn]
   refine zAi fun j hj=>?_
   have e1:S'.C k j=S.C k j:=zA1 ((hS'.C k hk j (by omega)).symm.trans (hS.C k hk j (by omega)))
   have e2:x' j=x j:=zA1 ((hx' j hj).symm.trans (hxr j hj))
   rw [e1,e2]
  have hK:S'.K k=S.K k:=zA1 ((hS'.K k hk).symm.trans (hS.K k hk))
  have hr:S'.rel k=S.rel k:=by
   have h1:=(hS'.rel k hk).1
   have h2:=(hS.rel k hk).1
   omega
  unfold meets
  rw [hl,hK,hr]
  exact h k hk
 ·intro h k hk
  exact h.2.2 S x hS hSn hxr k hk
set_option maxHeartbeats 1000000 in
theorem c23 {X:TX} {A:TA} {nx ca cx:Nat} {a xa:Option Addr} {t:Nat->ByteArray} (hX:Tame X) (hf:nx+X.m<=1048576) (hts : ∀ j,j<nx->(t j).size<=70000000)
  (hdot : ∀ S x,Reads X S->S.n=nx->PtReads t nx x->Dots S x 84001000/\(∀ i,i<S.m->dg 84001000 (S.K i))/\(∀ j,j<nx->dg 40000000 (x j))/\∀ i,i<S.m->∀ j,j<nx->dg 40000000 (S.C i j)) (w:World) (hR:RowsT w a X A) (hx:SS w xa t nx) (hg:Gl w) :
  Ret prog 23 #[.slice a X.m ca,.slice xa nx cx] w fun v w'=>(∃ b,v = .bool b/\(b=true↔zFZ X nx t))/\Ext w w':=by
 refine run23 _ _ _ _ _ _ _ _ (Called.of (c62 (by omega) w hx (fun j hj=>Nat.le_trans (hts j hj) (by decide)) hg) ?_)
 rintro v w1 ⟨⟨b,rfl,hb⟩,he1⟩
 refine⟨_,rfl,zAa (fun h1=>⟨⟨false,rfl,?_⟩,he1⟩) (fun h1=>?_)⟩
 ·simp only [Bool.false_eq_true,false_iff]
  intro h
  rw [hb.2 h.1] at h1;cases h1
 have h1:b=true:=by simpa using h1
 have hpt:=hb.1 h1
 refine⟨fun vals w2=>∃ i:Nat,vals=[.int .i64 i]/\i<=X.m/\(∀ k,k<i->okRow X nx k)/\Ext w w2,mu1 X.m,⟨0,rfl,Nat.zero_le _,fun k hk=>by omega,he1⟩,?_⟩
 rintro m w2 ⟨i,hv,hi,hall,he⟩
 cases hv
 refine zAd (fun hlt=>?_) (fun hge=>?_)
 ·have hin:i<X.m:=by omega
  obtain⟨ad,ha,hc⟩:=(hR.ext he).get hin
  have hN:=Box.new w2 [Value.slice none 0 0,.int .i64 0,.string { data:=#[] }] 49
  have hxx:Ext w (setCells (w2.alloc (.cells [Value.slice none 0 0,.int .i64 0,.string { data:=#[] }].toArray 49)) ⟨w2.heap.size,0,none⟩ 0 (rtc X A i)):=(he.alloc _).put he.size _ _
  have hP:=hN.put (rtc X A i) (by rfl)
  refine⟨ad,ha,⟨by omega,hlt⟩,_,_,_,_,_,hc,hN.blk.writable (by decide),_,_,_,_,_,hP.blk.all,Called.of (c63 hX hin _ ((hR.ext hxx).2 i hin) (hg.ext hxx)) ?_⟩
  rintro v w3 ⟨⟨b,rfl,hb⟩,he3⟩
  refine⟨_,rfl,zAa (fun h=>⟨⟨false,rfl,?_⟩,hxx.trans he3⟩) (fun h=>?_)⟩
  ·simp only [Bool.false_eq_true,false_iff]
   intro h2
   rw [hb.2 (h2.2.1 i hin)] at h;cases h
  ·have h:b=true:=by simpa using h
   rw [zAh (by omega)]
   refine⟨⟨i+1,rfl,hin,fun k hk=>?_,hxx.trans he3⟩,by simp only [mu1,Int.toNat_natCast];omega⟩
   by_cases e:k=i
   ·rw [e];exact hb.1 h
   ·exact hall k (by omega)
 have ei:i=X.m:=by omega
 subst ei
 obtain⟨S,hS,hSn⟩:=Reads.of hall
 obtain⟨x,hxr⟩:=PtReads.of hpt
 obtain⟨hD,hDK,hDx,hDC⟩:=hdot S x hS hSn hxr
 have hfew:Few S:=by unfold Few;rw [hSn,hS.m];exact hf
 have same:=holds_same hall hpt hS hSn hxr
 refine Called.of (c64 (f:=x) (by omega) w2 (hx.ext he) (fun j hj=>Nat.le_trans (hts j hj) (by decide)) hxr (hg.ext he)) ?_
 rintro v w4 ⟨rfl,hL,he4⟩
 have hx4:=he.trans he4
 refine⟨_,_,_,rfl,Called.of (c65 hfew hX hS w4 (hR.ext hx4) (hg.ext hx4)) ?_⟩
 rintro v w5 ⟨Rl,rfl,hRl,he5⟩
 have hx5:=hx4.trans he5
 have hm:=hS.m
 refine⟨_,_,_,rfl,fun vals w6=>∃ i:Nat,vals=[.int .i64 i]/\i<=S.m/\(∀ k,k<i->meets S x k)/\Ext w5 w6,mu1 S.m,⟨0,rfl,Nat.zero_le _,fun k hk=>by omega,Ext.refl _⟩,?_⟩
 rintro m w6 ⟨i,hv,hi,hmt,he6⟩
 cases hv
 have hx6:=hx5.trans he6
 refine zAd (fun hlt=>?_) (fun hge=>⟨⟨true,rfl,by simp only [true_iff];exact same.1 fun k hk=>hmt k (by omega)⟩,hx6⟩)
 have hin:i<S.m:=by omega
 obtain⟨ad,ha,hc,_⟩:=(hRl.ext he6).get hin
 have hN:=Box.new w6 zr 90
 have hxp:Ext w6 (setCells (w6.alloc (.cells zr.toArray 90)) ⟨w6.heap.size,0,none⟩ 0 (rowc S Rl i)):=((Ext.refl w6).alloc _).put (Nat.le_refl _) _ _
 have hP:=(hN.put (rowc S Rl i) (by rfl)).ext (Ext.refl _).drew
 have hxd:=hxp.drew
 have hPK:vcells (setCells (w6.alloc (.cells zr.toArray 90)) ⟨w6.heap.size,0,none⟩ 0 (rowc S Rl i)).drew ⟨w6.heap.size,2,none⟩ 0 (qc (S.K i)):=hP.blk.vcells fun j hj=>by
  have:j<3:=hj
  match j,this with
  | 0,_=>rfl
  | 1,_=>rfl
  | 2,_=>rfl
 have hxw:=hx6.trans hxd
 have hQ:=(hRl.2 i hin).ext (he6.trans hxd)
 have hLx:=((hL.ext he5).ext he6).ext hxd
 refine⟨ad,ha,⟨by omega,hlt⟩,_,_,_,_,_,_,_,hc,hN.blk.writable (by decide),fun K hK=>⟨_,_,_,hP.blk.cell (j:=0) rfl,_,_,_,hPK,?_⟩⟩
 have hDi:=hD i hin
 have hqx:QS (setCells (w6.alloc (.cells zr.toArray 90)) ⟨w6.heap.size,0,none⟩ 0 (rowc S Rl i)).drew (some ⟨w2.heap.size,0,none⟩) x S.n:=by rw [hSn];exact hLx.qs
 have hc66:=c66 (f:=S.C i) (g:=x) (n:=S.n) (ca:=Rl.cC i) (cb:=nx) (by omega) (fun j hj=>hDC i hin j (by omega)) (fun j hj=>hDx j (by omega)) (fun k hk=>(hDi.2 k hk).mono (by decide)) _ hQ hqx (hg.ext hxw)
 rw [<- hSn]
 rw [<- hSn] at hc66
 refine Called.of hc66 ?_
 rintro v w8 ⟨rfl,he8⟩
 refine⟨_,_,_,rfl,he8,Called.of (c67 ((hDi.2 S.n (Nat.le_refl _)).mono (by decide)) ((hDK i hin).mono (by decide)) w8 (hg.ext (hxw.trans he8))) ?_⟩
 rintro v w9 ⟨rfl,he9⟩
 have hx9:=(hxw.trans he8).trans he9
 have hP9:=(hP.ext he8).ext he9
 have hrel:=hS.rel i (by omega)
 have hcell:=hP9.blk.cell (j:=1) rfl
 have e:(sumN S.n fun j=>S.C i j*x j)=lhs S x i:=rfl
 rw [e]
 refine⟨_,rfl,hK _ _ fun K1 hK1=>?_⟩
 have no : ¬ meets S x i->K1 [.bool true] w9:=fun h=>hK1 true ⟨⟨false,rfl,by simp only [Bool.false_eq_true,false_iff];exact fun h2=>h (same.2 h2 i (by omega))⟩,hx9⟩
 have yes:meets S x i->K1 [.bool false] w9:=fun h=>hK1 false (by
  rw [cond_false,zAh (by unfold Few at hfew;omega)]
  refine⟨⟨i+1,rfl,hin,fun k hk=>?_,((he6.trans hxd).trans he8).trans he9⟩,by simp only [mu1,Int.toNat_natCast];omega⟩
  by_cases e:k=i
  ·rw [e];exact h
  ·exact hmt k (by omega))
 have dec2 : ∀ b:Bool,(b=true↔¬ meets S x i)->K1 [.bool b] w9:=fun b hb=>by
  cases b
  ·exact yes (Classical.byContradiction fun h=>by have:=hb.2 h;cases this)
  ·exact no (hb.1 rfl)
 refine zAd (fun h1=>no fun h=>?_) (fun h1=>zAd (fun h2=>?_) (fun h2=>?_))
 ·exact Rat.not_le.2 (zE0.1 h1) h.1
 ·have hl:=zCT.1 h2
  refine⟨_,hcell,zAa (fun h3=>no fun h=>?_) (fun h3=>?_)⟩
  ·have h3:(S.rel i:Int)=3:=by simpa using h3
   have:=h.2.2 (by omega)
   rw [this] at hl
   exact Rat.lt_irrefl hl
  ·have h3 : ¬ (S.rel i:Int)=3:=by simpa using h3
   refine zAa (fun h4=>?_) (fun _=>yes ⟨Rat.le_of_lt hl,fun _=>hl,fun h=>by omega⟩)
   have h4:cmpQ (lhs S x i) (S.K i)=0:=by simpa using h4
   omega
 ·have h0:cmpQ (lhs S x i) (S.K i)=0:=by omega
  have hq:=zE1.1 h0
  refine zAa (fun _=>⟨_,hcell,dec2 _ ?_⟩) (fun h4=>?_)
  ·rw [beq_iff_eq]
   constructor
   ·intro h h5
    have:=h5.2.1 (by omega)
    rw [hq] at this
    exact Rat.lt_irrefl this
   ·intro h
    refine Decidable.byContradiction fun h5=>h ⟨by rw [hq];exact Rat.le_refl,fun h6=>absurd (by omega) h5,fun _=>hq⟩
  ·rw [h0] at h4;simp at h4
theorem refF_dg {S:Tb.Sys} {s:Dy} {i d:Nat} (h0:0<d) (ha : ∀ j,j<S.n->dg d (s.a i j)) : ∀ k x,k<=S.n->dg d (refF S s i k x):=by
 intro k
 induction k with
 | zero =>
  intro x _
  unfold refF upd
  split
  ·exact zCQ h0
  ·exact zCy h0
 | succ k ih =>
  intro x hk
  rw [refF]
  split
  ·unfold upd
   split
   ·exact (ha k (by omega)).neg
   ·exact ih x (by omega)
  ·exact ih x (by omega)
theorem refv_dg {S:Tb.Sys} {s:Dy} {i d:Nat} {up:Bool} (h0:0<d) (ha : ∀ j,j<S.n->dg d (s.a i j)) (x:Nat):dg d (refv S s i up x):=by
 unfold refv
 split
 ·exact (refF_dg h0 ha S.n x (Nat.le_refl _)).neg
 ·exact refF_dg h0 ha S.n x (Nat.le_refl _)
theorem zG0 {S:Tb.Sys} {s:Dy} (hF:Fits S) (hI:Inv S s) {eps:Rat} (he:dg 9000000 eps) : ∀ v,v<S.n+S.m->dg 14000000 (zB0 s eps v):=fun v hv=>by
 have h:=hF.val s hI v hv
 exact (h.1.add (h.2.mul he)).mono (by decide)
def zBG (w:World) (b:Nat) (f:Nat->Rat) (n:Nat):Prop:=Box w b 9 (SL (fun i=>mk (txtQ (f i))) n)
def LpV (X:TX) (n:Int) (w0 w:World) (v:Value):Prop :=
  (¬ okRows X n/\v = .tuple #[.agg #[.int .i64 0,.slice none 0 0,.slice none 0 0],.int .i64 1]) \/
  (okRows X n/\∃ (S:Tb.Sys) (b:Nat),Reads X S/\(S.n:Int)=n/\w0.heap.size<=b /\
    ((∃ pt,v = .tuple #[.agg #[.int .i64 1,.slice (some ⟨b,0,none⟩) S.n S.n,.slice none 0 0],.int .i64 0]/\zBG w b pt S.n/\Sat S pt/\∀ j,j<S.n->dg 14000000 (pt j)) \/
     (∃ y,v = .tuple #[.agg #[.int .i64 2,.slice none 0 0,.slice (some ⟨b,0,none⟩) S.m S.m],.int .i64 0]/\zBG w b y S.m/\zAQ S y/\∀ k,dg 2000000 (y k))))
set_option maxHeartbeats 1000000 in
theorem c28 {X:TX} {A:TA} {n:Int} {a:Option Addr} {c:Nat} (hX:Tame X) (hF : ∀ S,Reads X S->(S.n:Int)=n->Fits S) (w:World) (hR:RowsT w a X A) (hg:Gl w) :
  Ret prog 28 #[.int .i64 n,.slice a X.m c] w fun v w'=>LpV X n w w' v/\Ext w w':=by
 have z1:=(Ext.refl w).alloc (.cells [Value.int .i64 0,.slice none 0 0,.slice none 0 0].toArray 31)
 have y1:=Box.new w [Value.int .i64 0,.slice none 0 0,.slice none 0 0] 31
 refine run28 _ _ _ _ _ _ (Called.of (c68 hX _ (hR.ext z1) (hg.ext z1)) ?_)
 rintro v w1 ⟨⟨b,rfl,hb⟩,he1⟩
 have hx1:=z1.trans he1
 have hB1:=y1.ext he1
 refine⟨_,rfl,zAa (fun h1=>?_) (fun h1=>?_)⟩
 ·have h1:b=false:=by simpa using h1
  have p:=hB1.put [Value.int .i64 0,.slice none 0 0,.slice none 0 0] (by rfl)
  refine⟨hB1.blk.writable (by decide),_,_,_,_,_,_,_,p.blk.all,.inl ⟨fun h=>?_,rfl⟩,hx1.put (Nat.le_refl _) _ _⟩
  rw [hb.2 h] at h1;cases h1
 have h1:b=true:=by simpa using h1
 have hok:=hb.1 h1
 obtain⟨S,hS,hSn⟩:=Reads.of (n:=n.toNat) (fun i hi=>by rw [show ((n.toNat:Nat):Int)=n from Int.toNat_of_nonneg hok.1];exact hok.2.2.2 i hi)
 have hSn:(S.n:Int)=n:=by have:=hok.1;omega
 have hFS:=hF S hS hSn
 have hf':=hFS.few
 unfold Few at hf'
 refine Called.of (c65 hFS.few hX hS w1 (hR.ext hx1) (hg.ext hx1)) ?_
 rintro v w2 ⟨Rl,rfl,hRl,he2⟩
 have hx2:=hx1.trans he2
 refine⟨_,_,_,rfl,?_⟩
 subst hSn
 refine Called.of (c70 (rc:=S.m) hFS.few w2 hRl (hg.ext hx2)) ?_
 rintro v w3 ⟨T,rfl,_,_,hT,he3⟩
 have hx3:=hx2.trans he3
 refine⟨_,rfl,Called.of (c71 hFS (zDj S) w3 hT) ?_⟩
 rintro v w4 ⟨f,s',r,hso,hI,hV,hT4,hbl⟩
 have hx4:Ext w w4:=Below.trans hx3 (Below.mono hbl hx2.size)
 have hB4:Box w4 w.heap.size 31 [Value.int .i64 0,.slice none 0 0,.slice none 0 0]:=((hB1.ext he2).ext he3).same (hbl.block _ (hB1.ext he2).lt)
 obtain⟨_,hs1,hs2⟩:=zDa f (zDj S) hso
 cases r with
 | none =>
  cases hV
  refine⟨_,_,_,_,rfl,?_⟩
  rw [show (!true)=false from rfl,cond_false]
  refine Called.of (c73 (rel:=false) hFS.few hFS.short (hFS.val s' hI) w4 hT4) ?_
  rintro v w6 ⟨b,rfl,hb6,hP,he6⟩
  have hx6:=hx4.trans he6
  have hpd:=zG0 hFS hI (zEx hFS.short (hFS.val s' hI) S.m (Nat.le_refl _))
  refine⟨_,_,_,rfl,Called.of (c72 (by omega) w6 hP.qs (fun j hj=>(hpd j (by omega)).mono (by decide)) (hg.ext hx6)) ?_⟩
  rintro v w7 ⟨rfl,hTx,he7⟩
  have hx7:=hx6.trans he7
  have hB7:=(hB4.ext he6).ext he7
  have p:=hB7.put [Value.int .i64 1,.slice (some ⟨w6.heap.size,0,none⟩) S.n S.n,.slice none 0 0] (by rfl)
  have hlt:=(hB4.ext he6).lt
  refine⟨_,_,_,rfl,hB7.blk.writable (by decide),_,_,_,_,_,_,_,p.blk.all,.inr ⟨hok,S,w6.heap.size,hS,rfl,by omega,.inl ⟨_,rfl,hTx.away zAb (by omega),zDQ hI (feas_of hI (hs1 rfl)),fun j hj=>hpd j (by omega)⟩⟩,hx7.put (Nat.le_refl _) _ _⟩
 | some q =>
  obtain⟨i,up⟩:=q
  obtain⟨b,rfl,hb4,hM⟩:=hV
  obtain⟨bd,hvi,hen⟩:=hs2 i up rfl
  have hi:=(zB9 hI.dict.perm hvi).1
  refine⟨_,_,_,_,rfl,?_⟩
  rw [show (!false)=true from rfl,cond_true]
  have hyd : ∀ k,dg 2000000 (refv S s' i up k):=refv_dg (by decide) (hFS.a s' hI i hi)
  refine Called.of (c72 (by omega) w4 hM.qs (fun j hj=>(hyd j).mono (by decide)) (hg.ext hx4)) ?_
  rintro v w5 ⟨rfl,hTx,he5⟩
  have hx5:=hx4.trans he5
  have hB5:=hB4.ext he5
  have p:=hB5.put [Value.int .i64 2,.slice none 0 0,.slice (some ⟨w4.heap.size,0,none⟩) S.m S.m] (by rfl)
  have hlt:=hB4.lt
  refine⟨_,_,_,rfl,hB5.blk.writable (by decide),_,_,_,_,_,_,_,p.blk.all,.inr ⟨hok,S,w4.heap.size,hS,rfl,by omega,.inr ⟨_,rfl,hTx.away zAb (by omega),zFm hI hvi hen,hyd⟩⟩,hx5.put (Nat.le_refl _) _ _⟩
structure CbAt (w0 w:World) (b0 sb b1 b2 n:Nat) (g:Nat->Rat) (q:Rat) (st:Bool):Prop where
 x0:Box w b0 83 [.slice (some ⟨sb,0,none⟩) n n]
 xs:Box w sb 88 (QL g n)
 x1:Box w b1 88 (qc q)
 x2:Box w b2 4 [.bool st]
 g0:w0.heap.size<=b0
 gs:w0.heap.size<=sb
 g1:w0.heap.size<=b1
 g2:w0.heap.size<=b2
 ne:sb≠b1
 hx:Ext w0 w
theorem CbAt.ext {w0 w w' : World} {b0 sb b1 b2 n:Nat} {g:Nat->Rat} {q:Rat} {st:Bool} (h:CbAt w0 w b0 sb b1 b2 n g q st) (he:Ext w w'):CbAt w0 w' b0 sb b1 b2 n g q st :=
 { h with x0:=h.x0.ext he,xs:=h.xs.ext he,x1:=h.x1.ext he,x2:=h.x2.ext he,hx:=h.hx.trans he }
set_option maxHeartbeats 1000000 in
theorem c115 {S:Tb.Sys} {Rl:RowL} {i:Nat} {f:Rat} {b0 sb b1 b2:Nat} {g:Nat->Rat} {q:Rat} {st:Bool} (hf:Few S) (hC : ∀ j,j<S.n->dg 20000000 (S.C i j)) (hK:dg 20000000 (S.K i)) (hfd:dg 20000000 f) (hgd : ∀ j,j<S.n->dg 80000000 (g j)) (hqd:dg 80000000 q) (w0 w:World) (hc:QS w (Rl.cA i) (S.C i) S.n)
  (hA:CbAt w0 w b0 sb b1 b2 S.n g q st) (hQ : ∀ w',Ext w0 w'->QS w' (Rl.cA i) (S.C i) S.n) (hg:Gl w0) :
  Ret prog 115 #[.agg #[.slice (Rl.cA i) S.n (Rl.cC i),.int .i64 (S.rel i:Int),.int .i64 (qn (S.K i)),.int .i64 (ql (S.K i)),.string (qb (S.K i))],qv f,.pointer (some ⟨b0,0,none⟩),.pointer (some ⟨b1,0,none⟩),.pointer (some ⟨b2,0,none⟩)] w fun r w' =>
   r = .tuple #[]/\CbAt w0 w' b0 sb b1 b2 S.n (fun j=>g j+S.C i j*f) (q+S.K i*f) (st||(decide (S.rel i=2)&&decide (0<f)))/\∀ k,k<w.heap.size->k≠sb->k≠b1->k≠b2->w'.heap[k]? = w.heap[k]?:=by
 have hf':=hf
 unfold Few at hf'
 have y1:=Box.new w (rowc S Rl i) 90
 have z1:=(Ext.refl w).alloc (.cells (rowc S Rl i).toArray 90)
 have y2:=Box.new (w.alloc (.cells (rowc S Rl i).toArray 90)) (qc f) 88
 have z2:=(Ext.refl (w.alloc (.cells (rowc S Rl i).toArray 90))).alloc (.cells (qc f).toArray 88)
 have y1':=y1.ext z2
 have zz:=z1.trans z2
 have hA2:=hA.ext zz
 have hs:(w.alloc (.cells (rowc S Rl i).toArray 90)).heap.size=w.heap.size+1:=size_alloc ..
 have ls:=hA.xs.lt
 have l1:=hA.x1.lt
 have l2:=hA.x2.lt
 have l0:=hA.x0.lt
 have hs0:(w.alloc (.cells #[.slice (Rl.cA i) S.n (Rl.cC i),.int .i64 (S.rel i:Int),.int .i64 (qn (S.K i)),.int .i64 (ql (S.K i)),.string (qb (S.K i))] 90)).heap.size=w.heap.size+1:=size_alloc ..
 have n1:=boxNe hA.xs.blk hA.x0.blk (by decide)
 have n2:=boxNe hA.xs.blk hA.x2.blk (by decide)
 have n3:=boxNe hA.x1.blk hA.x0.blk (by decide)
 have n4:=boxNe hA.x1.blk hA.x2.blk (by decide)
 have n5:=boxNe hA.x0.blk hA.x2.blk (by decide)
 refine run115 _ _ _ _ _ _ _ _ _ _ _ _ _ _ _ ⟨_,_,_,hA2.x0.blk.cell (j:=0) rfl,fun vals w1=>∃ k:Nat,vals=[.int .i64 k]/\k<=S.n/\CbAt w0 w1 b0 sb b1 b2 S.n (part (fun j=>g j+S.C i j*f) g k) q st/\Box w1 w.heap.size 90 (rowc S Rl i)/\Box w1 (w.heap.size+1) 88 (qc f)/\∀ k,k<w.heap.size->k≠sb->k≠b1->k≠b2->w1.heap[k]? = w.heap[k]?,mu1 S.n,⟨0,rfl,Nat.zero_le _,by rw [zBu];exact hA2,y1',by rw [<- hs];exact y2,fun k hk _ _ _=>zz.block k hk⟩,?_⟩
 rintro m w1 ⟨k,hv,hk,hB,r1,r2,hfr⟩
 cases hv
 refine zAd (fun hlt=>?_) (fun hge=>?_)
 ·have hkn:k<S.n:=by omega
  intro K hK
  have hBd:=hB.ext (Ext.refl _).drew
  have hq:=hBd.xs.qget hkn
  simp only [zEq] at hq
  obtain⟨bb,oo,ha,hcv⟩:=(hQ _ hBd.hx).get hkn
  have r1d:=r1.ext (Ext.refl _).drew
  have r2d:=r2.ext (Ext.refl _).drew
  rw [hs0]
  refine⟨_,_,_,hBd.x0.blk.cell (j:=0) rfl,_,_,_,hBd.x0.blk.cell (j:=0) rfl,_,rfl,⟨by omega,hlt⟩,_,_,_,hq,_,_,_,r1d.blk.cell (j:=0) rfl,_,ha,⟨by omega,hlt⟩,_,_,_,hcv,_,_,_,r2d.blk.all,Called.of (c113 ((hC k hkn).mono (by decide)) (hfd.mono (by decide)) _ (hg.ext hBd.hx)) ?_⟩
  rintro v w3 ⟨rfl,he3⟩
  refine⟨_,_,_,rfl,he3,Called.of (c112 ((hgd k hkn).mono (by decide)) (((hC k hkn).mul hfd).mono (by decide)) w3 (hg.ext (hBd.hx.trans he3))) ?_⟩
  rintro v w4 ⟨rfl,he4⟩
  have hB4:=(hBd.ext he3).ext he4
  refine⟨_,_,_,rfl,he3.trans he4,_,rfl,⟨by omega,hlt⟩,hB4.xs.qwr hkn,hK _ ?_⟩
  rw [zAh (by omega)]
  have hset:=hB4.xs.qset hkn (g k+S.C i k*f)
  rw [zBf (fun j=>g j+S.C i j*f)] at hset
  rw [zAk] at hset ⊢
  refine⟨⟨k+1,rfl,hkn,{ hB4 with x0:=hB4.x0.away zAb n1.symm,xs:=hset,x1:=hB4.x1.away zAb hA.ne.symm,x2:=hB4.x2.away zAb n2.symm,hx:=hB4.hx.put hA.gs _ _ },((r1d.ext he3).ext he4).away zAb (by omega),((r2d.ext he3).ext he4).away zAb (by omega),fun x hx h1 h2 h3=>?_⟩,by simp only [mu1,Int.toNat_natCast];omega⟩
  have l5:=r1.lt
  exact (zAx h1 _ _).trans (((he3.trans he4).block x (by show x<w1.heap.size;omega)).trans (hfr x hx h1 h2 h3))
 have ek:k=S.n:=by omega
 subst ek
 intro K1 hK1
 have hBd:=hB.ext (Ext.refl _).drew
 have r1d:=r1.ext (Ext.refl _).drew
 have r2d:=r2.ext (Ext.refl _).drew
 have hPK:vcells w1.drew ⟨w.heap.size,2,none⟩ 0 (qc (S.K i)):=r1d.blk.vcells fun j hj=>by
  have:j<3:=hj
  match j,this with
  | 0,_=>rfl
  | 1,_=>rfl
  | 2,_=>rfl
 rw [hs0]
 refine⟨_,_,_,hBd.x1.blk.all,_,_,_,hPK,_,_,_,r2d.blk.all,Called.of (c113 (hK.mono (by decide)) (hfd.mono (by decide)) _ (hg.ext hBd.hx)) ?_⟩
 rintro v w8 ⟨rfl,he8⟩
 refine⟨_,_,_,rfl,he8,Called.of (c112 (hqd.mono (by decide)) ((hK.mul hfd).mono (by decide)) w8 (hg.ext (hBd.hx.trans he8))) ?_⟩
 rintro v w9 ⟨rfl,he9⟩
 have hB9:=(hBd.ext he8).ext he9
 have l5:=r1.lt
 refine⟨_,_,_,rfl,hB9.x1.blk.writable (Nat.le_refl 3),hK1 _ ?_⟩
 have hB10:CbAt w0 (setCells w9 ⟨b1,0,none⟩ 0 (qc (q+S.K i*f))) b0 sb b1 b2 S.n (fun j=>g j+S.C i j*f) (q+S.K i*f) st:={
  x0:=hB9.x0.away zAb n3.symm
  xs:=by
   have:=hB9.xs.away (zAb (b:=b1) (o:=0) (L:=qc (q+S.K i*f)) (i:=0)) hA.ne
   rw [zAT (g:=fun j=>g j+S.C i j*f) fun x hx=>zCC hx] at this
   exact this
  x1:=hB9.x1.put _ (by rfl)
  x2:=hB9.x2.away zAb n4.symm
  g0:=hA.g0,gs:=hA.gs,g1:=hA.g1,g2:=hA.g2,ne:=hA.ne
  hx:=hB9.hx.put hA.g1 _ _ }
 have r1e:Box (setCells w9 ⟨b1,0,none⟩ 0 (qc (q+S.K i*f))) w.heap.size 90 (rowc S Rl i):=((r1d.ext he8).ext he9).away zAb (by omega)
 have r2e:Box (setCells w9 ⟨b1,0,none⟩ 0 (qc (q+S.K i*f))) (w.heap.size+1) 88 (qc f):=((r2d.ext he8).ext he9).away zAb (by omega)
 have hfr10 : ∀ x,x<w.heap.size->x≠sb->x≠b1->x≠b2->(setCells w9 ⟨b1,0,none⟩ 0 (qc (q+S.K i*f))).heap[x]? = w.heap[x]?:=fun x hx h1 h2 h3 =>
  (zAx h2 _ _).trans (((he8.trans he9).block x (by show x<w1.heap.size;omega)).trans (hfr x hx h1 h2 h3))
 intro K2 hK2
 have fin : ∀ (u:World) (b:Bool),CbAt w0 u b0 sb b1 b2 S.n (fun j=>g j+S.C i j*f) (q+S.K i*f) st->(∀ x,x<w.heap.size->x≠sb->x≠b1->x≠b2->u.heap[x]? = w.heap[x]?)->b=(st||(decide (S.rel i=2)&&decide (0<f))) ->
   ((∃ v,u.cell? ⟨b2,0,none⟩=some v)/\u.frozen? ⟨b2,0,none⟩=false)/\K2 [] (u.setCell ⟨b2,0,none⟩ (.bool b)):=fun u b hu hfu hbe=>by
  refine⟨⟨⟨_,hu.x2.blk.cell (j:=0) rfl⟩,hu.x2.blk.free⟩,hK2 _ ⟨rfl,?_,fun x hx h1 h2 h3=>(zAs h3).trans (hfu x hx h1 h2 h3)⟩⟩
  rw [<- hbe]
  exact { hu with x0:=hu.x0.away zAe n5,xs:=hu.xs.away zAe n2,x1:=hu.x1.away zAe n4,x2:=hu.x2.set 0 (.bool b),hx:=hu.hx.setCell hu.g2 _ }
 refine⟨_,hB10.x2.blk.cell (j:=0) rfl,zAa (fun h=>fin _ true hB10 hfr10 (by rw [h,Bool.true_or])) (fun h=>⟨_,r1e.blk.cell (j:=1) rfl,zAa (fun h2=>?_) (fun h2=>fin _ false hB10 hfr10 ?_)⟩)⟩
 ·have h2:(S.rel i:Int)=2:=by simpa using h2
  rw [hs0]
  refine⟨_,_,_,r2e.blk.all,Called.of (c75 (hfd.mono (by decide)) _ (hg.ext hB10.hx)) ?_⟩
  rintro v w7 ⟨rfl,he7⟩
  refine⟨_,rfl,fin w7 _ (hB10.ext he7) (fun x hx h1 h2 h3=>(he7.block x ?_).trans (hfr10 x hx h1 h2 h3)) ?_⟩
  ·exact Nat.lt_trans hx r1e.lt
  ·rw [h,zGw,Bool.false_or,show decide (S.rel i=2)=true from decide_eq_true (by omega),Bool.true_and]
 ·have h2 : ¬ (S.rel i:Int)=2:=by simpa using h2
  rw [h,Bool.false_or,show decide (S.rel i=2)=false from decide_eq_false (by omega),Bool.false_and]
end Go.Proofs.Si
