/- Part of the proof: SiW9, SiY1, SiY2, SiY3, SiY4, SiY5, SiY6, SiY7, SiY8, SiS1, SiS2, SiS3, SiS4, SiS5, SiS6, SiS7, SiS8, SiS9, SiS10, SiS11, SiS12, SiS13, SiS14. -/
import Derived.Test.YtoaiappkhcjagaaGreatDoorMSiW2
import Derived.Test.YtoaiappkhcjagaaGreatDoorSiV6
import Derived.Test.YtoaiappkhcjagaaGreatDoorMTbD
import Derived.Test.YtoaiappkhcjagaaGreatDoorSiV7
set_option linter.unusedVariables false
set_option linter.unusedSimpArgs false
namespace Go.Proofs.Si
open Go Go.V Go.Proofs Go.RowKit Go.Num Go.Tb Go.Proofs.Tryz
open Go.IntKind (i64 u64 u32 u8)
set_option maxRecDepth 100000
set_option maxHeartbeats 1000000 in
theorem c70 {S:Tb.Sys} {ra:OA} {rc:Nat} {Rl:RowL} (hf:Few S) (w0:World) (hR:RowsR w0 ra S Rl) (hg:Gl w0) :
  Ret prog 70 #[.int .i64 S.n,.slice ra S.m rc] w0 fun r w'=>∃ T:Lay,r = .pointer (some ⟨T.bt,0,none⟩)/\T.ra=ra/\T.R=Rl/\TabAt S w0.heap.size w' T (init S)/\Ext w0 w':=by
 have e7:=hf
 unfold Few at e7
 have ew:i64.wrap ((S.n:Int)+(S.m:Int))=((S.n+S.m:Nat):Int):=by rw [zAd (by omega) (by omega)];omega
 refine run70 _ _ _ _ _ _ fun K hK=>?_
 have e0:madeCells (Value.agg #[Value.int .i64 0,.int .i64 0,.string { data:=#[] },Value.int .i64 0,.int .i64 0,.string { data:=#[] }]).cells ((S.n+S.m)*6)=(VL (fun _=>zero2) (S.n+S.m)).toArray:=VL_made _
 have pre : ∀ (w1:World) (bt la va:Nat),Box w1 bt 140 [.int .i64 (S.n:Int),.slice ra S.m rc,.slice none 0 0,.slice none 0 0,.slice (some ⟨la,0,none⟩) (S.n+S.m) (S.n+S.m),.slice none 0 0,.slice (some ⟨va,0,none⟩) (S.n+S.m) (S.n+S.m)] ->
   Box w1 la 3 (lLine (fun _=>0) (S.n+S.m))->Box w1 va 101 (VL (fun _=>zero2) (S.n+S.m))->w0.heap.size<=bt->w0.heap.size<=la->w0.heap.size<=va->Ext w0 w1->K [.pointer (some ⟨bt,0,none⟩)] w1:=by
  intro w1 bt la va h1 h2 h3 b1 b2 b3 d6
  refine hK _ _ ?_
  have d1:NewAt S w0.heap.size { bt:=bt,ra:=ra,rc:=rc,R:=Rl,ba:=none,bc:=0,ca:=none,cc:=0,la:=la,aa:=none,ac:=0,va:=va,rowA:=fun _=>none,rowC:=fun _=>0,xb:=0,xl:=[],yb:=0,yl:=[] } (lineA S 0) w1 0 0 0:={
   box:=h1,bt:=b1,line:=h2,la:=b2,val:=h3,va:=b3
   basic:=World.ownsRow_nil _ _ _ _
   cols:=World.ownsRow_nil _ _ _ _
   a:=World.ownsRow_nil _ _ _ _
   row:=fun y hy=>by omega
   nc:=fun e=>by cases e
   nb:=fun e=>by cases e
   ncb:=fun b e=>by cases e
   rr:=fun y z hy=>by omega }
  refine⟨fun vals w2=>∃ (T:Lay) (j:Nat),vals=[.int .i64 j]/\j<=S.n/\T.bt=bt/\T.ra=ra/\T.R=Rl/\NewAt S w0.heap.size T (lineA S j) w2 j 0 0/\Ext w0 w2,mu1 S.n,⟨_,0,rfl,Nat.zero_le _,rfl,rfl,rfl,d1,d6⟩,?_⟩
  clear d1 d6 h1 h2 h3
  rintro m w2 ⟨T,j,f8,hj,rfl,rfl,rfl,hN,he⟩
  cases f8
  refine zAe (fun d3=>?_) (fun e8=>?_)
  ·have e9:j<S.n:=by omega
   refine⟨_,_,_,hN.box.blk.cell (j:=3) rfl,_,_,_,AppOk.one (L:=[.int .i64 (j:Int)]) hN.cols rfl rfl (by unfold maxLen;omega) (by omega) he.size,?_⟩
   intro p1 k3 w3 r
   have x:=hN.col r (-1)
   have b5:(w2.alloc (.cells #[.int .i64 (j:Int)] 3)).heap.size=w2.heap.size+1:=size_alloc ..
   have hx:=(yE w2).alloc (.cells #[.int .i64 (j:Int)] 3)
   have b9:=he.trans hx
   have f9:Ext w0 w3:=r.below (zAm hN.cols hx) b9 (by rw [b5];have:=he.size;omega) yL
   have g3 : ∀ k,k<w2.heap.size->(Value.slice T.ca j T.cc).ownBlock≠some k->w3.heap[k]? = w2.heap[k]?:=fun k hk b4 =>
    (r.grown.block k (by omega) (Ne.symm b4)).trans (hx.block k hk)
   have l:Box w3 T.bt 140 _:=hN.box.same (g3 _ hN.box.lt (zA2 hN.cols hN.box (by decide)))
   have a6:=l.set 3 (.slice p1 (j+1) k3)
   have a9:Box w3 T.la 3 _:=hN.line.same (g3 _ hN.line.lt hN.nc)
   have u:=a9.away (zAg (o:=3) (v := .slice p1 (j+1) k3)) (boxNe hN.line.blk hN.box.blk (by decide))
   refine⟨⟨⟨_,l.blk.cell (j:=3) rfl⟩,l.blk.free⟩,_,_,_,a6.blk.cell (j:=4) rfl,_,rfl,⟨by omega,by omega⟩,?_⟩
   simp only [zAi,Nat.zero_add,Nat.mul_one,yT]
   refine⟨⟨⟨_,u.blk.cell (zAX (by omega))⟩,u.blk.free⟩,?_⟩
   rw [lineA_succ] at x
   rw [zAf (by omega)]
   exact⟨⟨{ T with ca:=p1,cc:=k3 },j+1,rfl,e9,rfl,rfl,rfl,x,(f9.setCell hN.bt _).setCell hN.la _⟩,by simp only [mu1,yT];omega⟩
  have ej:j=S.n:=by omega
  subst ej
  rw [lineB_zero] at hN
  refine⟨fun vals w4=>∃ (T' : Lay) (i:Nat),vals=[.int .i64 i]/\i<=S.m/\T'.bt=T.bt/\T'.ra=T.ra/\T'.R=T.R/\NewAt S w0.heap.size T' (lineB S i) w4 S.n i i/\Ext w0 w4,mu1 S.m,⟨T,0,rfl,Nat.zero_le _,rfl,rfl,rfl,hN,he⟩,?_⟩
  clear hN he
  rintro m w4 ⟨T',i,f7,hi,d5,b6,b7,hN,he⟩
  cases f7
  refine zAe (fun d3=>?_) (fun e8=>?_)
  ·have a8:i<S.m:=by omega
   have e6:=hR.ext he
   obtain⟨ad,ha,hc,b0,o0,g6⟩:=e6.get a8
   have a4:=yN w4 [Value.slice none 0 0,.int .i64 0,.int .i64 0,.int .i64 0,.string { data:=#[] }] 90
   have d7:Ext w4 (setCells (w4.alloc (.cells [Value.slice none 0 0,.int .i64 0,.int .i64 0,.int .i64 0,.string { data:=#[] }].toArray 90)) ⟨w4.heap.size,0,none⟩ 0 (rowc S T.R i)):=((yE w4).alloc _).put yL _ _
   have hP:=a4.put (rowc S T.R i) (by rfl)
   have d:=hN.ext d7
   have a7:=he.trans d7
   rw [d5.symm]
   refine⟨ad,ha,⟨by omega,d3⟩,_,_,_,_,_,_,_,hc,a4.blk.writable (by decide),_,_,_,d.box.blk.cell (j:=2) rfl,?_⟩
   have ewi:i64.wrap ((S.n:Int)+(i:Int))=((S.n+i:Nat):Int):=by rw [zAd (by omega) (by omega)];omega
   rw [ewi]
   refine⟨_,_,_,AppOk.one (L:=[.int .i64 ((S.n+i:Nat):Int)]) d.basic rfl rfl (by unfold maxLen;omega) (by omega) a7.size,?_⟩
   intro p5 f w5 r
   replace r:AppRes ((setCells (w4.alloc (.cells [Value.slice none 0 0,.int .i64 0,.int .i64 0,.int .i64 0,.string { data:=#[] }].toArray 90)) ⟨w4.heap.size,0,none⟩ 0 (rowc S T.R i)).alloc (.cells #[.int .i64 ((S.n+i:Nat):Int)] 3)) w5 w0.heap.size 3 1 T'.ba i T'.bc (lInt (fun i=>S.n+i) i) 1 [.int .i64 ((S.n+i:Nat):Int)] p5 f:=r
   have x:=d.bas r (S.n+i) (i:Int)
   rw [lineB_succ] at x
   have b5:((setCells (w4.alloc (.cells [Value.slice none 0 0,.int .i64 0,.int .i64 0,.int .i64 0,.string { data:=#[] }].toArray 90)) ⟨w4.heap.size,0,none⟩ 0 (rowc S T.R i)).alloc (.cells #[.int .i64 ((S.n+i:Nat):Int)] 3)).heap.size=(setCells (w4.alloc (.cells [Value.slice none 0 0,.int .i64 0,.int .i64 0,.int .i64 0,.string { data:=#[] }].toArray 90)) ⟨w4.heap.size,0,none⟩ 0 (rowc S T.R i)).heap.size+1:=size_alloc ..
   have hx:=(yE (setCells (w4.alloc (.cells [Value.slice none 0 0,.int .i64 0,.int .i64 0,.int .i64 0,.string { data:=#[] }].toArray 90)) ⟨w4.heap.size,0,none⟩ 0 (rowc S T.R i))).alloc (.cells #[.int .i64 ((S.n+i:Nat):Int)] 3)
   have b9:=a7.trans hx
   have g0:Ext w0 w5:=r.below (zAm d.basic hx) b9 (by rw [b5];have:=a7.size;omega) yL
   have g3 : ∀ k,k<(setCells (w4.alloc (.cells [Value.slice none 0 0,.int .i64 0,.int .i64 0,.int .i64 0,.string { data:=#[] }].toArray 90)) ⟨w4.heap.size,0,none⟩ 0 (rowc S T.R i)).heap.size->(Value.slice T'.ba i T'.bc).ownBlock≠some k->w5.heap[k]? = (setCells (w4.alloc (.cells [Value.slice none 0 0,.int .i64 0,.int .i64 0,.int .i64 0,.string { data:=#[] }].toArray 90)) ⟨w4.heap.size,0,none⟩ 0 (rowc S T.R i)).heap[k]?:=fun k hk b4 =>
    (r.grown.block k (by omega) (Ne.symm b4)).trans (hx.block k hk)
   have l:Box w5 T'.bt 140 _:=d.box.same (g3 _ d.box.lt (zA2 d.basic d.box (by decide)))
   have a6:=l.set 2 (.slice p5 (i+1) f)
   have a9:Box w5 T'.la 3 _:=d.line.same (g3 _ d.line.lt d.nb)
   have u:=a9.away (zAg (o:=2) (v := .slice p5 (i+1) f)) (boxNe d.line.blk d.box.blk (by decide))
   have e4:Box w5 w4.heap.size 90 _:=hP.same (g3 _ hP.lt (zA2 d.basic hP (by decide)))
   have e5:=((e4.away (zAg (o:=2) (v := .slice p5 (i+1) f)) (boxNe hP.blk d.box.blk (by decide))).away (zAg (o:=S.n+i) (v := .int .i64 (i:Int))) (fun (e:w4.heap.size=T'.la)=>by have:=hN.line.lt;omega)).ext (yE _).drew
   have g1:Ext w0 ((w5.setCell ⟨T'.bt,2,none⟩ (.slice p5 (i+1) f)).setCell ⟨T'.la,S.n+i,none⟩ (.int .i64 (i:Int))):=(g0.setCell hN.bt _).setCell hN.la _
   have s:=g1.drew
   have p:=x.ext (yE _).drew
   refine⟨⟨⟨_,l.blk.cell (j:=2) rfl⟩,l.blk.free⟩,_,_,_,a6.blk.cell (j:=4) rfl,_,rfl,⟨by omega,by omega⟩,?_⟩
   simp only [zAi,Nat.zero_add,Nat.mul_one,yT]
   refine⟨⟨⟨_,u.blk.cell (zAX (by omega))⟩,u.blk.free⟩,?_⟩
   intro K1 d9
   have d8:=hR.2 i a8
   refine⟨_,_,_,p.box.blk.cell (j:=5) rfl,_,_,_,e5.blk.cell (j:=0) rfl,((w5.setCell ⟨T'.bt,2,none⟩ (.slice p5 (i+1) f)).setCell ⟨T'.la,S.n+i,none⟩ (.int .i64 (i:Int))).drew.heap.size,[],QL (S.C i) S.n,?_,?_⟩
   ·exact {
     own := .inl (World.ownsRow_nil _ _ _ _)
     len:=(zAL _ _).trans (Nat.mul_comm _ _)
     src:=by
      rcases (d8.ext s) with e | ⟨ad,e1,e2,e3⟩
      ·left
       have:=congrArg List.length e
       rw [zAL] at this
       simp only [List.length_nil] at this
       omega
      ·exact .inr ⟨ad,e1,zBD.2 e3⟩
     plain:=plain_QL _ _
     max:=by unfold maxLen;omega
     bytes:=by omega
     base:=yL }
   intro p9 d0 w7 r7
   have a0:Ext ((w5.setCell ⟨T'.bt,2,none⟩ (.slice p5 (i+1) f)).setCell ⟨T'.la,S.n+i,none⟩ (.int .i64 (i:Int))).drew w7:=r7.below (B:=(((w5.setCell ⟨T'.bt,2,none⟩ (.slice p5 (i+1) f)).setCell ⟨T'.la,S.n+i,none⟩ (.int .i64 (i:Int))).drew).heap.size) (World.ownsRow_nil _ (((w5.setCell ⟨T'.bt,2,none⟩ (.slice p5 (i+1) f)).setCell ⟨T'.la,S.n+i,none⟩ (.int .i64 (i:Int))).drew).heap.size 88 3) (yE _) yL yL
   have b8:=a0.trans ((yE w7).alloc (.cells #[.slice p9 S.n d0] 83))
   have g:=p.ext b8
   have a5:=s.trans b8
   refine⟨a0,b8,_,_,_,AppOk.one (L:=[.slice p9 S.n d0]) (zAm p.a a0) rfl rfl (by unfold maxLen;omega) (by omega) (s.trans a0).size,?_⟩
   intro g5 g4 w8 r8
   have d4:=p.line2 s.size yL r7 r8
   have d2:Box w8 T'.bt 140 _:=g.box.same (r8.grown.block _ g.box.lt (Ne.symm (zA2 g.a g.box (by decide))))
   refine⟨⟨⟨_,d2.blk.cell (j:=5) rfl⟩,d2.blk.free⟩,d9 _ ?_⟩
   have g2:Ext w0 w8:=r8.below g.a a5 a5.size yL
   rw [zAf (by omega)]
   exact⟨⟨{ T' with ba:=p5,bc:=f,aa:=g5,ac:=g4,rowA:=upd T'.rowA i p9,rowC:=upd T'.rowC i d0 },i+1,rfl,a8,rfl,b6,b7,d4,g2.setCell hN.bt _⟩,by simp only [mu1,yT];omega⟩
  ·have ei:i=S.m:=by omega
   subst ei
   refine⟨{ T' with xb:=0,xl:=[],yb:=0,yl:=[] },by rw [d5],b6,b7,hN.tab (fun v hv=>?_) he (by rw [b6,b7];exact hR) hg,he⟩
   show lineB S S.m v=if v<S.n then -1 else ((v - S.n:Nat):Int)
   unfold lineB
   by_cases h:v<S.n
   ·rw [if_pos h,if_pos h]
   ·rw [if_neg h,if_neg h,if_pos (by omega)]
 rw [ew]
 simp only [yT,size3,size101,made_int,e0]
 have hd:=(yE w0).drew
 have a1:=(yE w0.drew).alloc (.cells (lLine (fun _=>0) (S.n+S.m)).toArray 3)
 have a2:=(yE (w0.drew.alloc (.cells (lLine (fun _=>0) (S.n+S.m)).toArray 3))).alloc (.cells (VL (fun _=>zero2) (S.n+S.m)).toArray 101)
 have b1:=(yE w0.drew).alloc (.cells (VL (fun _=>zero2) (S.n+S.m)).toArray 101)
 have b2:=(yE (w0.drew.alloc (.cells (VL (fun _=>zero2) (S.n+S.m)).toArray 101))).alloc (.cells (lLine (fun _=>0) (S.n+S.m)).toArray 3)
 refine⟨⟨⟨by omega,by omega,by omega,by omega⟩,⟨by omega,by omega,by omega,by omega⟩,?_⟩,⟨by omega,by omega,by omega,by omega⟩,⟨by omega,by omega,by omega,by omega⟩,?_⟩
 ·have a3:=(yE ((w0.drew.alloc (.cells (lLine (fun _=>0) (S.n+S.m)).toArray 3)).alloc (.cells (VL (fun _=>zero2) (S.n+S.m)).toArray 101))).alloc (.cells [Value.int .i64 (S.n:Int),.slice ra S.m rc,.slice none 0 0,.slice none 0 0,.slice (some ⟨w0.drew.heap.size,0,none⟩) (S.n+S.m) (S.n+S.m),.slice none 0 0,.slice (some ⟨(w0.drew.alloc (.cells (lLine (fun _=>0) (S.n+S.m)).toArray 3)).heap.size,0,none⟩) (S.n+S.m) (S.n+S.m)].toArray 140)
  exact pre _ _ _ _ (yN _ _ 140) (((yN _ _ 3).ext a2).ext a3) ((yN _ _ 101).ext a3) (hd.trans (a1.trans a2)).size hd.size (hd.trans a1).size (hd.trans ((a1.trans a2).trans a3))
 ·have a3:=(yE ((w0.drew.alloc (.cells (VL (fun _=>zero2) (S.n+S.m)).toArray 101)).alloc (.cells (lLine (fun _=>0) (S.n+S.m)).toArray 3))).alloc (.cells [Value.int .i64 (S.n:Int),.slice ra S.m rc,.slice none 0 0,.slice none 0 0,.slice (some ⟨(w0.drew.alloc (.cells (VL (fun _=>zero2) (S.n+S.m)).toArray 101)).heap.size,0,none⟩) (S.n+S.m) (S.n+S.m),.slice none 0 0,.slice (some ⟨w0.drew.heap.size,0,none⟩) (S.n+S.m) (S.n+S.m)].toArray 140)
  exact pre _ _ _ _ (yN _ _ 140) ((yN _ _ 3).ext a3) (((yN _ _ 101).ext b2).ext a3) (hd.trans (b1.trans b2)).size (hd.trans b1).size hd.size (hd.trans ((b1.trans b2).trans a3))
end Go.Proofs.Si
namespace Go.Proofs.Si
open Go Go.V Go.Proofs Go.RowKit Go.Num Go.Tb Go.Proofs.Tryz
set_option maxRecDepth 100000
theorem zGj {a b:V2} {eps:Rat} (ha:dg2 2000000 a) (hb:dg2 2000000 b) (he:dg 9000000 eps):dg 9000000 (below eps a b):=by
 unfold below
 split
 ·split
  ·exact (((hb.1.sub ha.1).mul (ha.2.sub hb.2).inv)).mono (by decide)
  ·exact he
 ·exact he
set_option maxHeartbeats 2000000 in
theorem c165 {a b:V2} {eps:Rat} {eb:Nat} (ha:dg2 2000000 a) (hb:dg2 2000000 b) (he:dg 9000000 eps) (w:World) (hE:Box w eb 88 (qc eps)) (hg:Gl w) (hgb : ∀ w',Below eb w w'->Gl w') :
  Ret prog 165 #[vv a,vv b,.pointer (some ⟨eb,0,none⟩)] w fun r w'=>r = .tuple #[]/\Box w' eb 88 (qc (below eps a b))/\Below eb w w':=by
 have b7:=(yE w).alloc (.cells (vc2 a).toArray 101)
 have b4:=(yE (w.alloc (.cells (vc2 a).toArray 101))).alloc (.cells (vc2 b).toArray 101)
 have hA:=(yN w (vc2 a) 101).ext b4
 have v:=yN (w.alloc (.cells (vc2 a).toArray 101)) (vc2 b) 101
 have a2:=b7.trans b4
 have b1:=hE.lt
 refine run165 _ _ _ _ _ _ _ _ _ _ _ _ _ _ _ fun K hK=>?_
 refine⟨_,_,_,hA.r,_,_,_,v.r,yC (c67 (ha.1.mono (by decide)) (hb.1.mono (by decide)) _ (hg.ext a2)) ?_⟩
 rintro r d6 ⟨rfl,d⟩
 have p:=a2.trans d
 have no : ∀ w1,Ext w w1->¬ (a.1<b.1/\b.2<a.2)->K [.bool false] w1:=by
  intro w1 h1 hn
  refine hK false w1 ?_
  rw [cond_false]
  refine⟨rfl,?_,Below.mono h1 (Nat.le_of_lt b1)⟩
  rw [below,if_neg hn]
  exact hE.ext h1
 refine⟨_,rfl,zAe (fun b2=>?_) (fun b0=>?_)⟩
 ·refine⟨_,_,_,(hA.ext d).e,_,_,_,(v.ext d).e,yC (c67 (ha.2.mono (by decide)) (hb.2.mono (by decide)) _ ((hg.ext a2).ext d)) ?_⟩
  rintro r b5 ⟨rfl,i⟩
  have s:=p.trans i
  refine⟨_,rfl,?_⟩
  by_cases hgt:cmpQ a.2 b.2>0
  ·rw [decide_eq_true hgt]
   have hc:a.1<b.1/\b.2<a.2:=⟨zDs.1 b2,zFi.1 hgt⟩
   refine hK true b5 ?_
   rw [cond_true]
   intro K1 b6
   have l:=s.drew
   have a3:=((hA.ext d).ext i).ext (yE _).drew
   have a4:=((v.ext d).ext i).ext (yE _).drew
   have d1:=hb.1.sub ha.1
   have d2:=ha.2.sub hb.2
   have h0:a.2 - b.2≠0:=by have:=hc.2;grind
   have d3:dg 9000000 ((b.1 - a.1)*(a.2 - b.2)⁻¹):=(d1.mul d2.inv).mono (by decide)
   have cont : ∀ c w2,w.heap.size<=c->Box w2 c 88 (qc ((b.1 - a.1)*(a.2 - b.2)⁻¹))->Ext w w2->K1 [.pointer (some ⟨c,0,none⟩)] w2:=by
    intro c w2 b9 hC h2
    refine b6 _ w2 ⟨_,_,_,hC.blk.all,_,_,_,(hE.ext h2).blk.all,yC (c67 (d3.mono (by decide)) (he.mono (by decide)) _ (hg.ext h2)) ?_⟩
    rintro r w3 ⟨rfl,a6⟩
    have h3:=h2.trans a6
    have x:=hE.ext h3
    have a5:=Below.mono h3 (Nat.le_of_lt b1)
    refine⟨_,rfl,zAe (fun hl=>?_) (fun hl=>?_)⟩
    ·refine⟨_,_,_,(hC.ext a6).blk.all,x.blk.writable (Nat.le_refl 3),rfl,?_,Below.trans a5 (zAx yL _ _)⟩
     rw [below,if_pos hc,if_pos (zDs.1 hl)]
     exact x.put _ (by rfl)
    ·refine⟨rfl,?_,a5⟩
     rw [below,if_pos hc,if_neg (fun h=>hl (zDs.2 h))]
     exact x
   have put : ∀ {w2 w3:World},Ext w w2->Box w3 w2.heap.size 88 zq->Ext w2 w3->writable w3 ⟨w2.heap.size,0,none⟩ 3/\K1 [.pointer (some ⟨w2.heap.size,0,none⟩)] (setCells w3 ⟨w2.heap.size,0,none⟩ 0 (qc ((b.1 - a.1)*(a.2 - b.2)⁻¹))):=by
    intro w2 w3 h2 hN h3
    exact⟨hN.blk.writable (by decide),cont _ _ h2.size (hN.put _ (by rfl)) ((h2.trans h3).put h2.size _ _)⟩
   have hz:=fun (u:World)=>(yE u).alloc (.cells zq.toArray 88)
   refine⟨_,_,_,a4.r,_,_,_,a3.r,_,_,_,a3.e,_,_,_,a4.e,?_,hz _,?_⟩
   ·refine yC (c114 (hb.1.mono (by decide)) (ha.1.mono (by decide)) _ (hg.ext l)) ?_
    rintro r w4 ⟨rfl,j⟩
    have k:=l.trans j
    refine⟨_,_,_,rfl,j,?_,j.trans (hz _),?_⟩
    ·refine yC (c114 (ha.2.mono (by decide)) (hb.2.mono (by decide)) _ (hg.ext k)) ?_
     rintro r w5 ⟨rfl,a0⟩
     have m:=k.trans a0
     refine⟨_,_,_,rfl,?_,(j.trans a0).trans (hz _),?_⟩
     ·refine yC (c146 (d1.mono (by decide)) (d2.mono (by decide)) h0 _ (hg.ext m)) ?_
      rintro r w6 ⟨rfl,a7⟩
      exact⟨_,_,_,rfl,((j.trans a0).trans a7).trans (hz _),put (m.trans a7) (yN w6 zq 88) (hz _)⟩
     ·refine yC (c146 (d1.mono (by decide)) (d2.mono (by decide)) h0 _ (hg.ext (m.trans (hz _)))) ?_
      rintro r w7 ⟨rfl,a8⟩
      exact⟨_,_,_,rfl,put m ((yN w5 zq 88).ext a8) ((hz _).trans a8)⟩
    ·refine yC (c114 (ha.2.mono (by decide)) (hb.2.mono (by decide)) _ (hg.ext (k.trans (hz _)))) ?_
     rintro r w8 ⟨rfl,a1⟩
     have b8:=(k.trans (hz _)).trans a1
     refine⟨_,_,_,rfl,yC (c146 (d1.mono (by decide)) (d2.mono (by decide)) h0 _ (hg.ext b8)) ?_⟩
     rintro r w9 ⟨rfl,a9⟩
     exact⟨_,_,_,rfl,put k (((yN w4 zq 88).ext a1).ext a9) (((hz _).trans a1).trans a9)⟩
   ·refine yC (c114 (hb.1.mono (by decide)) (ha.1.mono (by decide)) _ (hg.ext (l.trans (hz _)))) ?_
    rintro r d0 ⟨rfl,f⟩
    have o:=(l.trans (hz _)).trans f
    refine⟨_,_,_,rfl,(hz _).trans f,yC (c114 (ha.2.mono (by decide)) (hb.2.mono (by decide)) _ (hg.ext o)) ?_⟩
    rintro r d4 ⟨rfl,g⟩
    have b3:=o.trans g
    refine⟨_,_,_,rfl,yC (c146 (d1.mono (by decide)) (d2.mono (by decide)) h0 _ (hg.ext b3)) ?_⟩
    rintro r d5 ⟨rfl,n⟩
    exact⟨_,_,_,rfl,put l ((((yN b5.drew zq 88).ext f).ext g).ext n) ((((hz _).trans f).trans g).trans n)⟩
  ·rw [decide_eq_false hgt]
   exact no _ s (fun h=>hgt (zFi.2 h.2))
 ·exact no _ p (fun h=>b0 (zDs.2 h.1))
end Go.Proofs.Si
namespace Go.Proofs.Si
open Go Go.V Go.Proofs Go.RowKit Go.Num Go.Tb Go.Proofs.Tryz
open Go.IntKind (i64 u64 u32 u8)
set_option maxRecDepth 100000
theorem v1 {w:World} {ad:Addr} {v:V2} (h:vcells w ad 0 (vc2 v)):vcells w ad 0 (qc v.1):=by
 rw [zAD] at h ⊢
 intro j x hj
 have b:j<3:=(List.getElem?_eq_some_iff.1 hj).1
 exact h j x (by
  match j,b with
  | 0,_=>exact hj
  | 1,_=>exact hj
  | 2,_=>exact hj)
theorem v2 {w:World} {b o k:Nat} {v:V2} (h:vcells w ((⟨b,o,none⟩:Addr).add k) 0 (vc2 v)):vcells w (((⟨b,o,none⟩:Addr).add k).add 3) 0 (qc v.2):=by
 rw [zAi] at h ⊢
 rw [zAD] at h ⊢
 intro j x hj
 have d:j<3:=(List.getElem?_eq_some_iff.1 hj).1
 have:=h (3+j) x (by
  match j,d with
  | 0,_=>exact hj
  | 1,_=>exact hj
  | 2,_=>exact hj)
 rw [<- this,zAi,zAi,zAi,show o+k+3+(0+j)=o+k+(0+(3+j)) by omega]
theorem zGi {S:Tb.Sys} {s:Dy} (hS:Short S 2000000) (hv : ∀ v,v<S.n+S.m->dg2 2000000 (s.val v)) : ∀ k,k<=S.m->dg 9000000 (epsF S s k)
 | 0,_=>dg_one (by decide)
 | k+1,hk=>by
  have ih:=zGi hS hv k (by omega)
  have hvl:S.n+k<S.n+S.m:=by omega
  rw [epsF,zBU]
  have h1:dg 9000000 (match upper S (S.n+k) with | some u=>below (epsF S s k) (s.val (S.n+k)) u | none=>epsF S s k):=by
   cases hu:upper S (S.n+k) with
   | none=>exact ih
   | some u=>exact zGj (hv _ hvl) (upper_dg hS hvl hu) ih
  cases hl:lower S (S.n+k) with
  | none=>exact h1
  | some l=>exact zGj (zEy hS hvl hl) (hv _ hvl) h1
set_option maxHeartbeats 4000000 in
theorem c124 {S:Tb.Sys} {B:Nat} {T:Lay} {s:Dy} (hf:Few S) (hS:Short S 2000000) (hv : ∀ v,v<S.n+S.m->dg2 2000000 (s.val v)) (w:World) (hT:TabAt S B w T s) :
  Ret prog 124 #[.pointer (some ⟨T.bt,0,none⟩)] w fun r w'=>r=qv (zBj S s)/\Ext w w':=by
 have hB:=hT.hB
 have d3:=hf
 unfold Few at d3
 have a8:=(yE w).alloc (.cells zq.toArray 88)
 have o:=yN w zq 88
 refine run124 _ _ _ (yC (c130 1 (by decide) _ (hT.ext a8 hB).gg) ?_)
 rintro r w1 ⟨rfl,h⟩
 have a9:=a8.trans h
 have a2:=yN w1 zq 88
 have b1:Ext w (setCells (w1.alloc (.cells zq.toArray 88)) ⟨w1.heap.size,0,none⟩ 0 (qc ((1:Int):Rat))):=(a9.alloc _).put a9.size _ _
 have b2:=a2.put (qc ((1:Int):Rat)) (by rfl)
 have b4:Box (setCells (w1.alloc (.cells zq.toArray 88)) ⟨w1.heap.size,0,none⟩ 0 (qc ((1:Int):Rat))) w.heap.size 88 zq:=((o.ext h).ext ((yE w1).alloc _)).away zAh (by have:=(o.ext h).lt;omega)
 have a6:w.heap.size<w1.heap.size:=(o.ext h).lt
 refine⟨_,_,_,rfl,a2.blk.writable (by decide),_,(hT.ext b1 hB).f0,fun vals w2=>∃ k:Nat,vals=[.int .i64 ((S.n+k:Nat):Int)]/\k<=S.m/\Box w2 w1.heap.size 88 (qc (epsF S s k))/\Box w2 w.heap.size 88 zq/\Ext w w2,mu1 (S.n+S.m),⟨0,rfl,Nat.zero_le _,b2,b4,b1⟩,?_⟩
 clear b2 b4 b1 a2 a9 h o a8
 rintro m w2 ⟨k,d4,hk,hE,hN,a5⟩
 cases d4
 have d:=hT.ext a5 hB
 have d1:B<=w1.heap.size:=by omega
 have glb : ∀ {w3:World},Ext w w3->∀ w4,Below w1.heap.size w3 w4->Gl w4:=fun h3 w4 h4=>(hT.ext h3 hB).gl w4 (Below.mono h4 d1)
 have u : ∀ {w3 w4:World},Ext w w3->Below w1.heap.size w3 w4->Ext w w4:=fun h3 h4=>Below.trans h3 (Below.mono h4 (Nat.le_of_lt a6))
 refine⟨_,_,_,d.f6,zAe (fun d6=>?_) (fun d5=>?_)⟩
 ·have b8:k<S.m:=by omega
  have b:S.n+k<S.n+S.m:=by omega
  have a7:upper S (S.n+k)=some (ub S (S.n+k)):=by rw [upper,if_neg (by omega)]
  intro K hK
  refine yC (c159 hf b w2 d d.hB d.gg) ?_
  rintro r w6 ⟨rfl,b7⟩
  rw [ov_eq,a7]
  have p:Ext w2 (setCells (w6.alloc (.cells zv.toArray 101)) ⟨w6.heap.size,0,none⟩ 0 (vc2 (ub S (S.n+k)))).drew:=((b7.alloc _).put b7.size _ _).drew
  have hU:=((yN w6 zv 101).put (vc2 (ub S (S.n+k))) (by rfl)).ext (yE _).drew
  have a3:=d.ext p d.hB
  have a1:=a5.trans p
  refine⟨_,_,_,_,_,_,_,rfl,(yN w6 zv 101).blk.writable (by decide),?_⟩
  have d0:=ub_dg hS (Nat.le_add_right S.n k) b
  have ih:=zGi hS hv k hk
  refine⟨_,_,_,a3.f6,_,rfl,⟨by omega,by omega⟩,_,_,_,_,_,_,a3.valAt (v:=S.n+k) b,_,_,_,_,_,_,hU.blk.all,yC (c165 (hv _ b) d0 ih _ (hE.ext p) a3.gg (glb a1)) ?_⟩
  rintro r w7 ⟨rfl,b3,a0⟩
  have b0:=u a1 a0
  have b5:Box w7 w.heap.size 88 zq:=(hN.ext p).same (a0.block _ a6)
  have a4:=hT.ext b0 hB
  refine⟨rfl,hK _ ?_⟩
  have d7:=zGj (hv _ b) d0 ih
  refine yC (c161 hf b w7 a4 a4.hB a4.gg) ?_
  rintro r w4 ⟨rfl,b6⟩
  rw [ov_eq]
  have f:Ext w7 (setCells (w4.alloc (.cells zv.toArray 101)) ⟨w4.heap.size,0,none⟩ 0 (vc2 ((lower S (S.n+k)).getD zero2))):=(b6.alloc _).put b6.size _ _
  have hL:=((yN w4 zv 101).put (vc2 ((lower S (S.n+k)).getD zero2)) (by rfl))
  refine⟨_,_,_,_,_,_,_,rfl,(yN w4 zv 101).blk.writable (by decide),?_⟩
  have hw:i64.wrap (((S.n+k:Nat):Int)+1)=((S.n+(k+1):Nat):Int):=by rw [zAf (by omega)];rfl
  rw [hw]
  have b9 : ∀ w5,mu1 (S.n+S.m) [.int .i64 ((S.n+(k+1):Nat):Int)] w5<mu1 (S.n+S.m) [.int .i64 ((S.n+k:Nat):Int)] w2:=fun _=>by simp only [mu1,yT];omega
  cases hlo:lower S (S.n+k) with
  | none =>
   rw [hlo] at f
   refine⟨⟨k+1,rfl,b8,?_,b5.ext f,b0.trans f⟩,b9 _⟩
   rw [epsF,zBU,a7,hlo]
   exact b3.ext f
  | some l =>
   rw [hlo] at f hL
   have j:=f.drew
   have i:=b0.trans j
   have g:=hT.ext i hB
   refine⟨_,_,_,_,_,_,(hL.ext (yE _).drew).blk.all,_,_,_,g.f6,_,rfl,⟨by omega,by omega⟩,_,_,_,_,_,_,g.valAt (v:=S.n+k) b,yC (c165 (zEy hS b hlo) (hv _ b) d7 _ (b3.ext j) g.gg (glb i)) ?_⟩
   rintro r w5 ⟨rfl,d2,x⟩
   refine⟨rfl,⟨k+1,rfl,b8,?_,?_,u i x⟩,b9 _⟩
   ·rw [epsF,zBU,a7,hlo]
    exact d2
   ·exact (b5.ext j).same (x.block _ a6)
 ·have ek:k=S.m:=by omega
  subst ek
  obtain⟨p1,p2,p3⟩:=qput (epsF S s S.m) hN a5 yL
  exact⟨_,_,_,hE.blk.all,p1,_,_,_,p2,rfl,p3⟩
set_option maxHeartbeats 4000000 in
theorem c73 {S:Tb.Sys} {B:Nat} {T:Lay} {s:Dy} {rel:Bool} (hf:Few S) (hS:Short S 2000000) (hv : ∀ v,v<S.n+S.m->dg2 2000000 (s.val v)) (w:World) (hT:TabAt S B w T s) :
  Ret prog 73 #[.pointer (some ⟨T.bt,0,none⟩),.bool rel] w fun r w'=>∃ b,r = .slice (some ⟨b,0,none⟩) S.n S.n/\w.heap.size<=b/\Box w' b 88 (QL (zB4 s (if rel then 0 else zBj S s)) S.n)/\Ext w w':=by
 have hB:=hT.hB
 have b2:=hf
 unfold Few at b2
 have p:=(yE w).alloc (.cells zq.toArray 88)
 have a1:=yN w zq 88
 have b1:=zGi hS hv S.m yL
 refine run73 _ _ _ _ fun K hK=>?_
 have main : ∀ (eps:Rat) w1,dg 9000000 eps->eps=(if rel then 0 else zBj S s)->Box w1 w.heap.size 88 (qc eps)->Ext w w1->K [] w1:=by
  intro eps w1 hd a6 hE i
  refine hK w1 ?_
  have a3:=hT.ext i hB
  refine⟨_,a3.f0,⟨by omega,by omega,by omega,by omega⟩,?_⟩
  simp only [yT,zFx]
  have e0:madeCells (Value.agg #[Value.int .i64 0,.int .i64 0,.string { data:=#[] }]).cells (S.n*3)=(QL (fun _=>0) S.n).toArray:=zEd S.n
  rw [e0]
  have b4:=hE.lt
  refine⟨fun vals w2=>∃ k:Nat,vals=[.int .i64 k]/\k<=S.n/\Box w2 w1.heap.size 88 (QL (part (zB4 s eps) (fun _=>0) k) S.n)/\Box w2 w.heap.size 88 (qc eps)/\Ext w w2,mu1 S.n,⟨0,rfl,Nat.zero_le _,by rw [zCC];exact yN w1 _ 88,hE.ext ((yE w1).alloc _),i.alloc _⟩,?_⟩
  clear a3 hE
  rintro m w2 ⟨k,b3,hk,hM,hE,a4⟩
  cases b3
  refine zAe (fun b6=>?_) (fun b5=>?_)
  ·have o:k<S.n:=by omega
   have h:k<S.n+S.m:=by omega
   intro K1 a8
   have a7:=a4.drew
   have d:=hT.ext a7 hB
   have a9:=hM.ext (yE _).drew
   have u:=hE.ext (yE _).drew
   have j:=d.valAt (v:=k) h
   refine⟨_,_,_,d.f6,_,rfl,⟨by omega,by omega⟩,_,_,_,v1 j,_,_,_,d.f6,_,rfl,⟨by omega,by omega⟩,_,_,_,v2 j,_,_,_,u.blk.all,yC (c113 ((hv k h).2.mono (by decide)) (hd.mono (by decide)) _ d.gg) ?_⟩
   rintro r w4 ⟨rfl,f⟩
   have b0:=d.ext f d.hB
   refine⟨_,_,_,rfl,f,yC (c112 ((hv k h).1.mono (by decide)) (((hv k h).2.mul hd).mono (by decide)) _ b0.gg) ?_⟩
   rintro r w5 ⟨rfl,l⟩
   have a0:=(a9.ext f).ext l
   refine⟨_,_,_,rfl,_,rfl,⟨by omega,by omega⟩,a0.qwr o,a8 _ ?_⟩
   rw [zAf (by omega)]
   refine⟨⟨k+1,rfl,o,?_,?_,?_⟩,by simp only [mu1,yT];omega⟩
   ·have:=a0.qset o (zB4 s eps k)
    rw [zCb] at this
    exact this
   ·rw [zAi];exact ((u.ext f).ext l).away zAh (by omega)
   ·rw [zAi];exact ((a7.trans f).trans l).put i.size _ _
  ·have ek:k=S.n:=by omega
   subst ek
   refine⟨w1.heap.size,rfl,i.size,?_,a4⟩
   rw [zAR (g:=zB4 s (if rel then 0 else zBj S s)) fun x hx=>by rw [zFZ hx,a6]] at hM
   exact hM
 cases rel
 ·refine yC (c124 hf hS hv _ (hT.ext p hB)) ?_
  rintro r w6 ⟨rfl,a5⟩
  have a2:=a1.ext a5
  refine⟨_,_,_,rfl,a2.blk.writable (by decide),main (zBj S s) _ b1 rfl (a2.put _ (by rfl)) ((p.trans a5).put yL _ _)⟩
 ·refine main 0 _ (zBs (by decide)) rfl ?_ p
  rw [qc_zero];exact a1
end Go.Proofs.Si
namespace Go.Proofs.Si
open Go Go.V Go.Proofs Go.RowKit Go.Num Go.Tb Go.Proofs.Tryz
set_option maxRecDepth 100000
def zvF (s:Dy) (c:Nat->Rat):Nat->V2
 | 0=>zero2
 | k+1=>add2 (zvF s c k) (zAA (s.val k) (c k))
structure FitsC (S:Tb.Sys) (c:Nat->Rat):Prop where
 sh : ∀ v,v<S.n->dg 1000000 (c v)
 cost : ∀ s,Inv S s->∀ k,k<=S.n->∀ j,j<S.n->dg 40000000 (costF S s c k j)
 zv : ∀ s,Inv S s->∀ k,k<=S.n->dg2 60000000 (zvF s c k)
def accL:Option (Int × V2)->Int
 | none => -1
 | some (l,_)=>l
def accV:Option (Int × V2)->V2
 | none=>zero2
 | some (_,x)=>x
structure AccAt (w0 w:World) (t b0 b1 b2 b3:Nat) (acc:Option (Int × V2)):Prop where
 x0:Box w b0 94 [.pointer (some ⟨t,0,none⟩)]
 x1:Box w b1 4 [.bool acc.isSome]
 x2:Box w b2 101 (vc2 (accV acc))
 x3:Box w b3 3 [.int .i64 (accL acc)]
 g0:w0.heap.size<=b0
 g1:w0.heap.size<=b1
 g2:w0.heap.size<=b2
 g3:w0.heap.size<=b3
 hx:Ext w0 w
structure TX where
 m:Nat
 n:Nat->Nat
 C:Nat->Nat->BA
 rel:Nat->Int
 K:Nat->BA
structure TA where
 cA:Nat->Option Addr
 cC:Nat->Nat
def rtc (X:TX) (A:TA) (i:Nat):List Value:=[.slice (A.cA i) (X.n i) (A.cC i),.int .i64 (X.rel i),.string (X.K i)]
def RowsT (w:World) (a:OA) (X:TX) (A:TA):Prop:=SlAt w a (GL (rtc X A) X.m)/\∀ i,i<X.m->SS w (A.cA i) (X.C i) (X.n i)
theorem RowsT.ext {w w' : World} {a:OA} {X:TX} {A:TA} (h:RowsT w a X A) (he:Ext w w'):RowsT w' a X A:=⟨SlAt.ext h.1 he,fun i hi=>(h.2 i hi).ext he⟩
theorem RowsT.get {w:World} {a:OA} {X:TX} {A:TA} (h:RowsT w a X A) {i:Nat} (hi:i<X.m) : ∃ ad,a=some ad/\vcells w (ad.add (i*3)) 0 (rtc X A i):=by
 obtain⟨b,o,ha,hv⟩:=SlAt.gget (m:=3) (by omega) (fun _=>rfl) h.1 hi
 exact⟨_,ha,hv⟩
def okRow (X:TX) (n:Int) (i:Nat):Prop:=(X.n i:Int)=n/\1<=X.rel i/\X.rel i<=3/\(∀ j,j<X.n i->okQ (bs (X.C i j))=true)/\okQ (bs (X.K i))=true
structure Tame (X:TX):Prop where
 n : ∀ i,i<X.m->X.n i<=1048576
 c : ∀ i,i<X.m->∀ j,j<X.n i->(X.C i j).size<=1000000
 k : ∀ i,i<X.m->(X.K i).size<=1000000
def okRows (X:TX) (n:Int):Prop:=0<=n/\n<=40/\X.m<=200/\∀ i,i<X.m->okRow X n i
structure Reads (X:TX) (S:Tb.Sys):Prop where
 m:S.m=X.m
 n : ∀ i,i<X.m->X.n i=S.n
 C : ∀ i,i<X.m->∀ j,j<S.n->bs (X.C i j)=txtQ (S.C i j)
 rel : ∀ i,i<X.m->X.rel i=(S.rel i:Int)/\1<=S.rel i/\S.rel i<=3
 K : ∀ i,i<X.m->bs (X.K i)=txtQ (S.K i)
theorem Reads.of {X:TX} {n:Nat} (h : ∀ i,i<X.m->okRow X n i) : ∃ S:Tb.Sys,Reads X S/\S.n=n:=by
 classical
 let val:List UInt8->Rat:=fun l=>if h : ∃ q,l=txtQ q then Classical.choose h else 0
 have b : ∀ l,okQ l=true->l=txtQ (val l):=fun l hl=>by
  have he:=zBv.1 hl
  show l=txtQ (dite _ _ _)
  rw [dif_pos he]
  exact Classical.choose_spec he
 refine⟨⟨n,X.m,fun i j=>val (bs (X.C i j)),fun i=>(X.rel i).toNat,fun i=>val (bs (X.K i))⟩,⟨rfl,fun i hi=>?_,fun i hi j hj=>?_,fun i hi=>?_,fun i hi=>?_⟩,rfl⟩
 ·have:=(h i hi).1;show X.n i=n;omega
 ·have h1:=(h i hi).1
  exact b _ ((h i hi).2.2.2.1 j (by replace hj:j<n:=hj;omega))
 ·have h1:=(h i hi).2.1
  have h2:=(h i hi).2.2.1
  refine⟨?_,?_,?_⟩
  ·show X.rel i=((X.rel i).toNat:Int);omega
  ·show 1<=(X.rel i).toNat;omega
  ·show (X.rel i).toNat<=3;omega
 ·exact b _ (h i hi).2.2.2.2
abbrev zr:List Value:=[.slice none 0 0,.int .i64 0,.int .i64 0,.int .i64 0,.string { data:=#[] }]
theorem ZR_made (n:Nat):madeCells zr.toArray (n*5)=(GL (fun _=>zr) n).toArray:=by
 apply Array.ext'
 show _=GL _ n
 apply GL_ext (m:=5) (by omega) (fun _=>rfl)
 ·simp [madeCells];omega
 ·intro i hi j hj
  simp only [madeCells]
  have:(5*i+j)<n*5:=by omega
  have h3:(5*i+j) % 5=j:=by omega
  match j,hj with
  | 0,_=>simp [show 5*i<n*5 by omega]
  | 1,_=>simp [this,h3]
  | 2,_=>simp [this,h3]
  | 3,_=>simp [this,h3]
  | 4,_=>simp [this,h3]
theorem size90 (n:Nat):n*siE.P.types[90].size=n*5:=rfl
theorem c31 {a:OA} {s:Nat->BA} {n:Int} {m c:Nat} (hm:m<=1048576) (w:World) (hs:SS w a s m) (hz : ∀ i,i<m->(s i).size<=500000000) :
  Ret prog 31 #[.int .i64 n,.slice a m c] w fun v w'=>(∃ b,v = .bool b/\(b=true↔(m:Int)=n/\∀ i,i<m->okQ (bs (s i))=true))/\Ext w w':=by
 refine run31 _ _ _ _ _ _ (zAb (fun h1=>⟨⟨false,rfl,?_⟩,yE _⟩) (fun h1=>?_))
 ·have h1:(m:Int)≠n:=by simpa using h1
  simp only [Bool.false_eq_true,false_iff]
  exact fun h=>h1 h.1
 ·have h1:(m:Int)=n:=by simpa using h1
  refine⟨fun vals w1=>∃ i:Nat,vals=[.int .i64 i]/\i<=m/\(∀ k,k<i->okQ (bs (s k))=true)/\Ext w w1,mu1 m,⟨0,rfl,Nat.zero_le _,fun k hk=>by omega,yE _⟩,?_⟩
  rintro m1 w1 ⟨i,hv,hi,f,he⟩
  cases hv
  refine zAe (fun j=>?_) (fun l=>⟨⟨true,rfl,by simp only [true_iff];exact⟨h1,fun k hk=>f k (by omega)⟩⟩,he⟩)
  have d:i<m:=by omega
  obtain⟨ad,ha,hc⟩:=(hs.ext he).get d
  refine⟨ad,ha,⟨by omega,j⟩,_,hc,yC (c77 (s i) (Nat.le_trans (hz i d) (by decide)) w1) ?_⟩
  rintro v w2 ⟨rfl,g⟩
  refine⟨_,rfl,zAb (fun hb=>⟨⟨false,rfl,?_⟩,he.trans g⟩) (fun hb=>?_)⟩
  ·have hb:okQ (bs (s i))=false:=by simpa using hb
   simp only [Bool.false_eq_true,false_iff]
   intro h;rw [h.2 i d] at hb;cases hb
  ·have hb:okQ (bs (s i))=true:=by simpa using hb
   rw [zAf (by omega)]
   refine⟨⟨i+1,rfl,d,fun k hk=>?_,he.trans g⟩,by simp only [mu1,yT];omega⟩
   by_cases e:k=i
   ·rw [e];exact hb
   ·exact f k (by omega)
set_option maxHeartbeats 1000000 in
theorem c39 {X:TX} {A:TA} {n:Int} {i:Nat} (hX:Tame X) (hi:i<X.m) (w:World) (hs:SS w (A.cA i) (X.C i) (X.n i)) :
  Ret prog 39 #[.int .i64 n,.agg #[.slice (A.cA i) (X.n i) (A.cC i),.int .i64 (X.rel i),.string (X.K i)]] w fun v w'=>(∃ b,v = .bool b/\(b=true↔okRow X n i))/\Ext w w':=by
 have o:=(yE w).alloc (.cells (rtc X A i).toArray 49)
 have hB:=yN w (rtc X A i) 49
 have hn:=hX.n i hi
 refine run39 _ _ _ _ _ _ _ _ fun K hK=>?_
 have no : ∀ w1,Ext w w1->¬ okRow X n i->K [.bool false] w1:=fun w1 h1 h=>hK false w1 ⟨⟨false,rfl,by simp [h]⟩,h1⟩
 refine⟨_,_,_,hB.blk.cell (j:=0) rfl,yC (c31 hn _ (hs.ext o) fun j hj=>Nat.le_trans (hX.c i hi j hj) (by decide)) ?_⟩
 rintro v w2 ⟨⟨b1,rfl,l⟩,d⟩
 have p:=o.trans d
 refine⟨_,rfl,zAb (fun h1=>?_) (fun h1=>no _ p fun h=>?_)⟩
 ·obtain⟨s,u⟩:=l.1 h1
  refine⟨_,(hB.ext d).blk.cell (j:=2) rfl,yC (c77 _ (Nat.le_trans (hX.k i hi) (by decide)) w2) ?_⟩
  rintro v w3 ⟨rfl,f⟩
  have g:=p.trans f
  refine⟨_,rfl,zAb (fun h2=>?_) (fun h2=>no _ g fun h=>?_)⟩
  ·refine⟨_,((hB.ext d).ext f).blk.cell (j:=1) rfl,zAe (fun h3=>?_) (fun h3=>no _ g fun h=>h3 h.2.1)⟩
   refine⟨_,((hB.ext d).ext f).blk.cell (j:=1) rfl,hK _ _ ⟨⟨_,rfl,?_⟩,g⟩⟩
   rw [decide_eq_true_iff]
   exact⟨fun h=>⟨s,h3,h,u,h2⟩,fun h=>h.2.2.1⟩
  ·rw [h.2.2.2.2] at h2;cases h2
 ·rw [l.2 ⟨h.1,h.2.2.2.1⟩] at h1;cases h1
set_option maxHeartbeats 1000000 in
theorem c29 {X:TX} {A:TA} {n:Int} {a:OA} {c:Nat} (hX:Tame X) (w:World) (hR:RowsT w a X A) :
  Ret prog 29 #[.int .i64 n,.slice a X.m c] w fun v w'=>(∃ b,v = .bool b/\(b=true↔okRows X n))/\Ext w w':=by
 refine run29 _ _ _ _ _ _ fun K hK=>?_
 have no : ¬ (0<=n/\n<=40/\X.m<=200)->K [.bool true] w:=fun h=>hK true ⟨⟨false,rfl,by simp only [Bool.false_eq_true,false_iff];exact fun h2=>h ⟨h2.1,h2.2.1,h2.2.2.1⟩⟩,yE _⟩
 refine zAb (fun h1=>no fun h=>?_) (fun h1=>?_)
 ·simp only [Bool.or_eq_true,decide_eq_true_iff] at h1;omega
 ·have h1:0<=n/\n<=40:=by simp only [Bool.or_eq_false_iff,decide_eq_false_iff_not] at h1;omega
  by_cases hm:X.m<=200
  ·rw [show decide ((X.m:Int)>200)=false from decide_eq_false (by omega)]
   refine hK false ?_
   rw [cond_false]
   refine⟨fun vals w1=>∃ i:Nat,vals=[.int .i64 i]/\i<=X.m/\(∀ k,k<i->okRow X n k)/\Ext w w1,mu1 X.m,⟨0,rfl,Nat.zero_le _,fun k hk=>by omega,yE _⟩,?_⟩
   rintro m w1 ⟨i,hv,hi,f,he⟩
   cases hv
   refine zAe (fun j=>?_) (fun l=>⟨⟨true,rfl,by simp only [true_iff];exact⟨h1.1,h1.2,hm,fun k hk=>f k (by omega)⟩⟩,he⟩)
   have d:i<X.m:=by omega
   obtain⟨ad,ha,hc⟩:=(hR.ext he).get d
   refine⟨ad,ha,⟨by omega,j⟩,_,_,_,_,_,hc,yC (c39 hX d _ ((hR.ext he).2 i d)) ?_⟩
   rintro v w2 ⟨⟨b,rfl,hb⟩,g⟩
   refine⟨_,rfl,zAb (fun h=>⟨⟨false,rfl,?_⟩,he.trans g⟩) (fun h=>?_)⟩
   ·simp only [Bool.false_eq_true,false_iff]
    intro h2
    rw [hb.2 (h2.2.2.2 i d)] at h;cases h
   ·have h:b=true:=by simpa using h
    rw [zAf (by omega)]
    refine⟨⟨i+1,rfl,d,fun k hk=>?_,he.trans g⟩,by simp only [mu1,yT];omega⟩
    by_cases e:k=i
    ·rw [e];exact hb.1 h
    ·exact f k (by omega)
  ·rw [show decide ((X.m:Int)>200)=true from decide_eq_true (by omega)]
   exact no fun h=>hm h.2.2
theorem zBV {k:Nat} {q:Rat} {u:BA} (h:dg k q) (hu:bs u=txtQ q):u.size<=2*k+2:=by
 rw [zAc,hu];exact dg_txt h
theorem txtQ_zero:txtQ 0=[48]:=by
 rw [zA3,if_neg (by decide),if_pos (show (0:Rat).den=1 from rfl)];exact congrArg (· ++ []) zAQ
theorem c36 {a b:OA} {s t:Nat->BA} {f g:Nat->Rat} {n ca cb nb:Nat} (hn:n<=1048576) (hnb:n<=nb) (hs : ∀ i,i<n->bs (s i)=txtQ (f i)) (ht : ∀ i,i<n->bs (t i)=txtQ (g i)) (hsz : ∀ i,i<n->(s i).size<=200000000/\(t i).size<=200000000)
  (hfg : ∀ i,i<n->dg 84001000 (f i*g i)) (hd : ∀ k,k<=n->dg 84001000 (sumN k fun i=>f i*g i)) (w:World) (ha:SS w a s n) (hb:SS w b t nb) :
  Ret prog 36 #[.slice a n ca,.slice b nb cb] w fun v w'=>(∃ u,v = .string u/\bs u=txtQ (sumN n fun i=>f i*g i))/\Ext w w':=by
 refine run36 _ _ _ _ _ _ _ _ ⟨fun vals w1=>∃ (k:Nat) (u:BA),vals=[.int .i64 k,.string u]/\k<=n/\bs u=txtQ (sumN k fun i=>f i*g i)/\Ext w w1,mu1 n,⟨0,_,rfl,Nat.zero_le _,by rw [zB2,txtQ_zero];rfl,yE _⟩,?_⟩
 rintro m u w1 ⟨k,u',hv,hk,hu,hx⟩
 cases hv
 refine zAe (fun a5=>?_) (fun a7=>?_)
 ·have d:k<n:=by omega
  intro K hK
  have h:=hx.drew
  obtain⟨a1,l,p⟩:=(ha.ext h).get d
  obtain⟨a2,o,a0⟩:=(hb.ext h).get (i:=k) (by omega)
  have hz:=hsz k d
  refine⟨a1,l,⟨by omega,a5⟩,_,p,a2,o,⟨by omega,by omega⟩,_,a0,yC (c44 (hs k d) (ht k d) ⟨by omega,by omega⟩ _) ?_⟩
  rintro v w3 ⟨⟨x,rfl,j⟩,a3⟩
  have z1:=zBV (hfg k d) j
  have z2:=zBV (hd k hk) hu
  refine⟨_,rfl,yC (c58 hu j ⟨by omega,by omega⟩ _) ?_⟩
  rintro v w4 ⟨⟨y,rfl,a6⟩,a4⟩
  refine⟨_,rfl,hK _ _ ?_⟩
  rw [zAf (by omega)]
  exact⟨⟨k+1,y,rfl,d,a6,(h.trans a3).trans a4⟩,by simp only [mu1,yT];omega⟩
 ·have ek:k=n:=by omega
  subst ek
  exact⟨⟨u,rfl,hu⟩,hx⟩
theorem sgn_eq (q:Rat):sgnQ q=Tb.sgnQ q:=by
 unfold sgnQ Tb.sgnQ
 by_cases h:q<0
 ·rw [if_pos h]
  exact Int.sign_eq_neg_one_of_neg (Int.not_le.1 fun h2=>Rat.not_lt.2 (Rat.num_nonneg.1 h2) h)
 ·rw [if_neg h]
  by_cases h0:q=0
  ·rw [if_pos h0,h0];rfl
  ·rw [if_neg h0]
   have:0<q:=by grind
   have h2:0<=q.num:=Rat.num_nonneg.2 (Rat.not_lt.1 h)
   have h3:q.num≠0:=fun e=>h0 (Rat.num_eq_zero.1 e)
   exact Int.sign_eq_one_of_pos (by omega)
def meets (S:Tb.Sys) (x:Nat->Rat) (i:Nat):Prop:=lhs S x i<=S.K i/\(S.rel i=2->lhs S x i<S.K i)/\(S.rel i=3->lhs S x i=S.K i)
set_option maxHeartbeats 1000000 in
theorem c42 {X:TX} {A:TA} {S:Tb.Sys} {i nx cx:Nat} {xa:OA} {t:Nat->BA} {x:Nat->Rat} (hf:Few S) (hX:Tame X) (hS:Reads X S) (hi:i<X.m) (hnx:nx=S.n) (ht : ∀ j,j<S.n->bs (t j)=txtQ (x j)) (hts : ∀ j,j<S.n->(t j).size<=150000000)
  (hfg : ∀ j,j<S.n->dg 84001000 (S.C i j*x j)) (hd : ∀ k,k<=S.n->dg 84001000 (sumN k fun j=>S.C i j*x j)) (w:World) (hs:SS w (A.cA i) (X.C i) (X.n i)) (hx:SS w xa t nx) :
  Ret prog 42 #[.agg #[.slice (A.cA i) (X.n i) (A.cC i),.int .i64 (X.rel i),.string (X.K i)],.slice xa nx cx] w fun v w'=>(∃ b,v = .bool b/\(b=true↔meets S x i))/\Ext w w':=by
 have s:=hf
 unfold Few at s
 have l:=((yE w).alloc (.cells (rtc X A i).toArray 49)).drew
 have hB:=(yN w (rtc X A i) 49).ext (yE _).drew
 have hn:=hS.n i hi
 obtain⟨r1,r2,r3⟩:=hS.rel i hi
 have hk:=hX.k i hi
 refine run42 _ _ _ _ _ _ _ _ _ _ fun K hK=>⟨_,_,_,hB.blk.cell (j:=0) rfl,_,hB.blk.cell (j:=2) rfl,?_⟩
 subst hnx
 refine yC (c36 (n:=X.n i) (f:=S.C i) (g:=x) (by omega) (by omega) (fun j hj=>hS.C i hi j (by omega)) (fun j hj=>ht j (by omega)) (fun j hj=>⟨Nat.le_trans (hX.c i hi j hj) (by decide),Nat.le_trans (hts j (by omega)) (by decide)⟩) (fun j hj=>hfg j (by omega)) (fun k hk=>hd k (by omega)) _ (hs.ext l) (hx.ext l)) ?_
 rintro v w2 ⟨⟨u,rfl,hu⟩,d⟩
 have hz:=zBV (hd (X.n i) (by omega)) hu
 refine⟨_,rfl,d,yC (c37 hu (hS.K i hi) (by omega) w2) ?_⟩
 rintro v w3 ⟨rfl,p⟩
 have o:=(l.trans d).trans p
 have e:(sumN (X.n i) fun j=>S.C i j*x j)=lhs S x i:=by rw [hn];rfl
 rw [e,sgn_eq]
 refine⟨_,rfl,hK _ _ ⟨_,((hB.ext d).ext p).blk.cell (j:=1) rfl,?_⟩⟩
 have c1:cmpQ (lhs S x i) (S.K i)=Tb.sgnQ (lhs S x i - S.K i):=rfl
 rw [<- c1]
 refine zAb (fun h1=>?_) (fun h1=>zAb (fun h2=>?_) (fun h2=>?_))
 ·have h1:X.rel i=1:=by simpa using h1
  refine⟨⟨_,rfl,?_⟩,o⟩
  rw [decide_eq_true_iff]
  have:cmpQ (lhs S x i) (S.K i)<=0↔lhs S x i<=S.K i:=by
   rw [<- Int.not_lt,zFi,Rat.not_lt]
  rw [this]
  exact⟨fun h=>⟨h,fun h2=>by omega,fun h3=>by omega⟩,fun h=>h.1⟩
 ·have h2:X.rel i=2:=by simpa using h2
  refine⟨⟨_,rfl,?_⟩,o⟩
  rw [decide_eq_true_iff,zDs]
  exact⟨fun h=>⟨Rat.le_of_lt h,fun _=>h,fun h3=>by omega⟩,fun h=>h.2.1 (by omega)⟩
 ·have h1 : ¬ X.rel i=1:=by simpa using h1
  have h2 : ¬ X.rel i=2:=by simpa using h2
  refine⟨⟨_,rfl,?_⟩,o⟩
  rw [beq_iff_eq,zFj]
  exact⟨fun h=>⟨by rw [h];exact Rat.le_refl,fun h3=>by omega,fun _=>h⟩,fun h=>h.2.2 (by omega)⟩
def PtReads (t:Nat->BA) (n:Nat) (x:Nat->Rat):Prop:=∀ j,j<n->bs (t j)=txtQ (x j)
theorem PtReads.of {t:Nat->BA} {n:Nat} (h : ∀ j,j<n->okQ (bs (t j))=true) : ∃ x,PtReads t n x:=by
 classical
 refine⟨fun j=>if h : ∃ q,bs (t j)=txtQ q then Classical.choose h else 0,fun j hj=>?_⟩
 have he:=zBv.1 (h j hj)
 show _=txtQ (dite _ _ _)
 rw [dif_pos he]
 exact Classical.choose_spec he
def Dots (S:Tb.Sys) (x:Nat->Rat) (d:Nat):Prop:=∀ i,i<S.m->(∀ j,j<S.n->dg d (S.C i j*x j))/\∀ k,k<=S.n->dg d (sumN k fun j=>S.C i j*x j)
def holdsP (X:TX) (nx:Nat) (t:Nat->BA):Prop:=(∀ j,j<nx->okQ (bs (t j))=true)/\(∀ i,i<X.m->okRow X nx i)/\∀ S x,Reads X S->S.n=nx->PtReads t nx x->∀ i,i<X.m->meets S x i
set_option maxHeartbeats 1000000 in
theorem c24 {X:TX} {A:TA} {nx ca cx:Nat} {a xa:OA} {t:Nat->BA} (hX:Tame X) (hf:nx+X.m<=1048576) (hts : ∀ j,j<nx->(t j).size<=150000000)
  (hdot : ∀ S x,Reads X S->S.n=nx->PtReads t nx x->Dots S x 84001000) (w:World) (hR:RowsT w a X A) (hx:SS w xa t nx) :
  Ret prog 24 #[.slice a X.m ca,.slice xa nx cx] w fun v w'=>(∃ b,v = .bool b/\(b=true↔holdsP X nx t))/\Ext w w':=by
 refine run24 _ _ _ _ _ _ _ _ (yC (c31 (by omega) w hx (fun j hj=>Nat.le_trans (hts j hj) (by decide))) ?_)
 rintro v w1 ⟨⟨b,rfl,hb⟩,u⟩
 refine⟨_,rfl,zAb (fun h1=>⟨⟨false,rfl,?_⟩,u⟩) (fun h1=>?_)⟩
 ·simp only [Bool.false_eq_true,false_iff]
  intro h
  rw [hb.2 ⟨rfl,h.1⟩] at h1;cases h1
 have h1:b=true:=by simpa using h1
 have a4:=(hb.1 h1).2
 refine⟨fun vals w2=>∃ i:Nat,vals=[.int .i64 i]/\i<=X.m/\(∀ k,k<i->okRow X nx k)/\Ext w w2,mu1 X.m,⟨0,rfl,Nat.zero_le _,fun k hk=>by omega,u⟩,?_⟩
 rintro m w2 ⟨i,hv,hi,g,he⟩
 cases hv
 refine zAe (fun p=>?_) (fun a3=>?_)
 ·have d:i<X.m:=by omega
  obtain⟨ad,ha,hc⟩:=(hR.ext he).get d
  refine⟨ad,ha,⟨by omega,p⟩,_,_,_,_,_,hc,yC (c39 hX d _ ((hR.ext he).2 i d)) ?_⟩
  rintro v w3 ⟨⟨b,rfl,hb⟩,a0⟩
  refine⟨_,rfl,zAb (fun h=>⟨⟨false,rfl,?_⟩,he.trans a0⟩) (fun h=>?_)⟩
  ·simp only [Bool.false_eq_true,false_iff]
   intro h2
   rw [hb.2 (h2.2.1 i d)] at h;cases h
  ·have h:b=true:=by simpa using h
   rw [zAf (by omega)]
   refine⟨⟨i+1,rfl,d,fun k hk=>?_,he.trans a0⟩,by simp only [mu1,yT];omega⟩
   by_cases e:k=i
   ·rw [e];exact hb.1 h
   ·exact g k (by omega)
 have ei:i=X.m:=by omega
 subst ei
 obtain⟨S,hS,f⟩:=Reads.of g
 obtain⟨x,l⟩:=PtReads.of a4
 have hD:=hdot S x hS f l
 have a2:Few S:=by unfold Few;rw [f,hS.m];exact hf
 refine⟨fun vals w4=>∃ i:Nat,vals=[.int .i64 i]/\i<=X.m/\(∀ k,k<i->meets S x k)/\Ext w w4,mu1 X.m,⟨0,rfl,Nat.zero_le _,fun k hk=>by omega,he⟩,?_⟩
 clear a3 he
 have same:(∀ k,k<X.m->meets S x k)↔holdsP X nx t:=by
  constructor
  ·intro h
   refine⟨a4,g,fun S' x' o a5 a6 k hk=>?_⟩
   have hl:lhs S' x' k=lhs S x k:=by
    unfold lhs
    rw [a5,f]
    refine zAn fun j hj=>?_
    have e1:S'.C k j=S.C k j:=zA0 ((o.C k hk j (by omega)).symm.trans (hS.C k hk j (by omega)))
    have e2:x' j=x j:=zA0 ((a6 j hj).symm.trans (l j hj))
    rw [e1,e2]
   have hK:S'.K k=S.K k:=zA0 ((o.K k hk).symm.trans (hS.K k hk))
   have hr:S'.rel k=S.rel k:=by
    have h1:=(o.rel k hk).1
    have h2:=(hS.rel k hk).1
    omega
   unfold meets
   rw [hl,hK,hr]
   exact h k hk
  ·intro h k hk
   exact h.2.2 S x hS f l k hk
 rintro m w4 ⟨i,hv,hi,hm,he⟩
 cases hv
 refine zAe (fun p=>?_) (fun a3=>⟨⟨true,rfl,by simp only [true_iff];exact same.1 fun k hk=>hm k (by omega)⟩,he⟩)
 have d:i<X.m:=by omega
 obtain⟨ad,ha,hc⟩:=(hR.ext he).get d
 have s:=hD i (by rw [hS.m];exact d)
 refine⟨ad,ha,⟨by omega,p⟩,_,_,_,_,_,hc,yC (c42 a2 hX hS d f.symm (fun j hj=>l j (by omega)) (fun j hj=>hts j (by omega)) s.1 s.2 _ ((hR.ext he).2 i d) (hx.ext he)) ?_⟩
 rintro v w5 ⟨⟨b,rfl,hb⟩,a1⟩
 refine⟨_,rfl,zAb (fun h=>⟨⟨false,rfl,?_⟩,he.trans a1⟩) (fun h=>?_)⟩
 ·simp only [Bool.false_eq_true,false_iff]
  intro h2
  rw [hb.2 (same.2 h2 i d)] at h;cases h
 ·have h:b=true:=by simpa using h
  rw [zAf (by omega)]
  refine⟨⟨i+1,rfl,d,fun k hk=>?_,he.trans a1⟩,by simp only [mu1,yT];omega⟩
  by_cases e:k=i
  ·rw [e];exact hb.1 h
  ·exact hm k (by omega)
theorem refF_dg {S:Tb.Sys} {s:Dy} {i d:Nat} (h0:0<d) (ha : ∀ j,j<S.n->dg d (s.a i j)) : ∀ k x,k<=S.n->dg d (refF S s i k x):=by
 intro k
 induction k with
 | zero =>
  intro x _
  unfold refF upd
  split
  ·exact dg_one h0
  ·exact zBs h0
 | succ k ih =>
  intro x hk
  rw [refF]
  split
  ·unfold upd
   split
   ·exact (ha k (by omega)).neg
   ·exact ih x (by omega)
  ·exact ih x (by omega)
theorem refv_dg {S:Tb.Sys} {s:Dy} {i d:Nat} {up:Bool} (h0:0<d) (ha : ∀ j,j<S.n->dg d (s.a i j)) (x:Nat):dg d (refv S s i up x):=by
 unfold refv
 split
 ·exact (refF_dg h0 ha S.n x yL).neg
 ·exact refF_dg h0 ha S.n x yL
theorem point_dg {S:Tb.Sys} {s:Dy} (hF:Fits S) (hI:Inv S s) {eps:Rat} (he:dg 9000000 eps) : ∀ v,v<S.n+S.m->dg 14000000 (zB4 s eps v):=fun v hv=>by
 have h:=hF.val s hI v hv
 exact (h.1.add (h.2.mul he)).mono (by decide)
def TxtsAt (w:World) (b:Nat) (f:Nat->Rat) (n:Nat):Prop:=Box w b 9 (SL (fun i=>mk (txtQ (f i))) n)
structure CbAt (w0 w:World) (b0 sb b1 b2 n:Nat) (g:Nat->Rat) (q:Rat) (st:Bool):Prop where
 x0:Box w b0 83 [.slice (some ⟨sb,0,none⟩) n n]
 xs:Box w sb 88 (QL g n)
 x1:Box w b1 88 (qc q)
 x2:Box w b2 4 [.bool st]
 g0:w0.heap.size<=b0
 gs:w0.heap.size<=sb
 g1:w0.heap.size<=b1
 g2:w0.heap.size<=b2
 ne:sb≠b1
 hx:Ext w0 w
noncomputable def rd (s:BA):Rat:=open Classical in if h : ∃ q,bs s=txtQ q then Classical.choose h else 0
theorem rd_of {s:BA} {q:Rat} (h:bs s=txtQ q):rd s=q:=by
 unfold rd
 rw [dif_pos ⟨q,h⟩]
 exact zA0 ((Classical.choose_spec (⟨q,h⟩ : ∃ q,bs s=txtQ q)).symm.trans h)
theorem rd_ok {s:BA} (h:okQ (bs s)=true):bs s=txtQ (rd s):=by
 obtain⟨q,hq⟩:=zBv.1 h
 rw [rd_of hq,hq]
theorem ok_of {s:BA} {q:Rat} (h:bs s=txtQ q):okQ (bs s)=true:=zBv.2 ⟨q,h⟩
theorem rd_mk (q:Rat):rd (mk (txtQ q))=q:=rd_of (bs_mk _)
theorem rd_dg {s:BA} {k:Nat} (h:okQ (bs s)=true) (hs:s.size<=k):dg (k+1) (rd s):=dg_of_txt (by rw [<- rd_ok h,<- zAc];exact hs)
noncomputable def sysX (X:TX) (n:Nat):Tb.Sys:={ n:=n,m:=X.m,C:=fun i j=>rd (X.C i j),rel:=fun i=>(X.rel i).toNat,K:=fun i=>rd (X.K i) }
theorem zCX {X:TX} {n:Nat} (h : ∀ i,i<X.m->okRow X n i):Reads X (sysX X n) where
 m:=rfl
 n:=fun i hi=>by have:=(h i hi).1;show X.n i=n;omega
 C:=fun i hi j hj=>rd_ok ((h i hi).2.2.2.1 j (by have:=(h i hi).1;replace hj:j<n:=hj;omega))
 rel:=fun i hi=>by
  have h1:=(h i hi).2.1
  have h2:=(h i hi).2.2.1
  show X.rel i=((X.rel i).toNat:Int)/\1<=(X.rel i).toNat/\(X.rel i).toNat<=3
  omega
 K:=fun i hi=>rd_ok (h i hi).2.2.2.2
structure Agree (S S' : Tb.Sys):Prop where
 n:S.n=S'.n
 m:S.m=S'.m
 C : ∀ i,i<S.m->∀ j,j<S.n->S.C i j=S'.C i j
 rel : ∀ i,i<S.m->S.rel i=S'.rel i
 K : ∀ i,i<S.m->S.K i=S'.K i
theorem Reads.agree {X:TX} {S S' : Tb.Sys} (h:Reads X S) (h' : Reads X S') (hn:S.n=S'.n):Agree S S' where
 n:=hn
 m:=h.m.trans h'.m.symm
 C:=fun i hi j hj=>zA0 ((h.C i (by rw [<- h.m];exact hi) j hj).symm.trans (h'.C i (by rw [<- h.m];exact hi) j (by rw [<- hn];exact hj)))
 rel:=fun i hi=>by
  have h1:=(h.rel i (by rw [<- h.m];exact hi)).1
  have h2:=(h'.rel i (by rw [<- h.m];exact hi)).1
  omega
 K:=fun i hi=>zA0 ((h.K i (by rw [<- h.m];exact hi)).symm.trans (h'.K i (by rw [<- h.m];exact hi)))
theorem Agree.lhs {S S' : Tb.Sys} (h:Agree S S') {x x' : Nat->Rat} (hx : ∀ j,j<S.n->x j=x' j) {i:Nat} (hi:i<S.m):Tb.lhs S x i=Tb.lhs S' x' i:=by
 unfold Tb.lhs
 rw [<- h.n]
 exact zAn fun j hj=>by rw [h.C i hi j hj,hx j hj]
theorem Agree.meets {S S' : Tb.Sys} (h:Agree S S') {x x' : Nat->Rat} (hx : ∀ j,j<S.n->x j=x' j) {i:Nat} (hi:i<S.m):meets S x i↔meets S' x' i:=by
 unfold Si.meets
 rw [h.lhs hx hi,h.K i hi,h.rel i hi]
theorem PtReads.rd {t:Nat->BA} {n:Nat} {x:Nat->Rat} (h:PtReads t n x) : ∀ j,j<n->x j=rd (t j):=fun j hj=>(rd_of (h j hj)).symm
theorem ptReads_rd {t:Nat->BA} {n:Nat} (h : ∀ j,j<n->okQ (bs (t j))=true):PtReads t n fun j=>rd (t j):=fun j hj=>rd_ok (h j hj)
def holdsX (X:TX) (nx:Nat) (t:Nat->BA):Prop:=(∀ j,j<nx->okQ (bs (t j))=true)/\(∀ i,i<X.m->okRow X nx i)/\Sat (sysX X nx) fun j=>rd (t j)
theorem holdsP_iff {X:TX} {nx:Nat} {t:Nat->BA} : holdsP X nx t↔holdsX X nx t:=by
 constructor
 ·rintro⟨h1,h2,h3⟩
  exact⟨h1,h2,fun i hi=>h3 _ _ (zCX h2) rfl (ptReads_rd h1) i hi⟩
 ·rintro⟨h1,h2,h3⟩
  refine⟨h1,h2,fun S x hS hn hx i hi=>?_⟩
  have ha:=(zCX (n:=nx) h2).agree hS hn.symm
  exact (ha.meets (fun j hj=>(hx.rd j hj).symm) hi).1 (h3 i hi)
structure DotsY (S:Tb.Sys) (y:Nat->Rat) (d:Nat):Prop where
 c : ∀ i,i<=S.m->∀ j,j<S.n->dg d (sumN i fun k=>S.C k j*y k)
 k : ∀ i,i<=S.m->dg d (sumN i fun k=>S.K k*y k)
def checkX (X:TX) (n:Int) (mf:Nat) (t:Nat->BA):Prop:=okRows X n/\mf=X.m/\(∀ j,j<mf->okQ (bs (t j))=true)/\zBg (sysX X n.toNat) fun k=>rd (t k)
theorem okRows.nat {X:TX} {n:Int} (h:okRows X n) : ∀ i,i<X.m->okRow X (n.toNat:Nat) i:=fun i hi=>by rw [Int.toNat_of_nonneg h.1];exact h.2.2.2 i hi
structure BestX (S:Tb.Sys) (c pt y:Nat->Rat) (att:Bool):Prop where
 adm:Adm S y
 cb : ∀ j,j<S.n->comb S y j=c j
 rel : ∀ k,k<S.m->lhs S pt k<=S.K k/\(S.rel k=3->lhs S pt k=S.K k)
 val:(sumN S.n fun v=>c v*pt v)=combK S y
 sat:att=true->Sat S pt
 strict:att=false->Strict S y
abbrev nsl:Value := .slice none 0 0
abbrev zrow:List Value:=[.slice none 0 0,.int .i64 0,.string { data:=#[] }]
theorem zGk (s:Nat->BA) (n:Nat):SL s (n+1)=SL s n++[.string (s n)]:=zC7 _ n
theorem zET {w:World} {b e size n:Nat} {L:List Value} (h:Box w b e L) (hs:L.length=n*size) (hm:n<=maxLen):w.ownsRow b e size (.slice (some ⟨b,0,none⟩) n n) n L:=by
 refine⟨hs,.inr ⟨b,n,L.toArray,rfl,yL,h,yL,hm,by simpa using hs,?_⟩⟩
 simp [<- hs]
theorem plain_app : ∀ (a b:List Value),zAr a=true->zAr b=true->zAr (a++b)=true:=by
 intro a
 induction a with
 | nil=>intro b _ h;exact h
 | cons x a ih =>
  intro b h1 h2
  rw [List.cons_append]
  rw [zAr] at h1 ⊢
  cases hx:V.plainCell x with
  | false=>rw [hx] at h1;cases h1
  | true =>
   rw [hx,cond_true] at h1
   rw [cond_true]
   exact ih b h1 h2
theorem plain_GL {g:Nat->List Value} (hg : ∀ i,zAr (g i)=true) : ∀ n,zAr (GL g n)=true
 | 0=>rfl
 | n+1=>plain_app _ _ (plain_GL hg n) (hg n)
end Go.Proofs.Si
