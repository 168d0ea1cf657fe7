/- Part of the proof: SiZI, SiZJ, SiZK. -/
import Derived.Test.YtoaiappkhcjagaaGreatDoorMSiZC
set_option linter.unusedVariables false
set_option linter.unusedSimpArgs false
namespace Go.Proofs.Si
open Go Go.V Go.Proofs Go.RowKit Go.Num Go.Tb Go.Proofs.Tryz
set_option maxRecDepth 100000
theorem gX_rows {w:World} {b1 b2 rb:Nat} {c k:BA} (h1:SS w (some ⟨b1,0,none⟩) (fun _=>t2) 1) (h2:Box w b2 9 [.string c]) (hr:Box w rb 49 [.slice (some ⟨b1,0,none⟩) 1 1,.int .i64 1,.string t5,.slice (some ⟨b2,0,none⟩) 1 1,.int .i64 1,.string k]) :
  RowsT w (some ⟨rb,0,none⟩) (gX c k) ⟨fun i=>if i=0 then some ⟨b1,0,none⟩ else some ⟨b2,0,none⟩,fun _=>1⟩:=by
 refine⟨hr.blk.sl,fun i hi=>?_⟩
 show SS w (if i=0 then _ else _) (fun _=>if i=0 then t2 else c) 1
 by_cases e:i=0
 ·rw [if_pos e,if_pos e];exact h1
 ·rw [if_neg e,if_neg e];exact h2.blk.sl
abbrev ip0:List Value:=[.int .i64 0,.slice none 0 0,.slice none 0 0]
def lfY (y:Nat->Rat):PX:={ m:=1,leaf:=fun _=>true,cN:=fun _=>0,C:=fun _ _=>t0,K:=fun _=>{ data:=#[] },fN:=fun _=>2,F:=fun _ k=>mk (txtQ (y k)) }
theorem lf_ok {S:Tb.Sys} {y:Nat->Rat} (hm:S.m=2) (h:zBg S y):zCE S (lfY y) 0:=by
 refine⟨hm.symm,fun k _=>ok_of (bs_mk _),?_⟩
 have e:(fun k=>rd (mk (txtQ (y k))))=y:=funext fun k=>rd_mk _
 show zBg S fun k=>rd (mk (txtQ (y k)))
 rw [e];exact h
theorem lf_sm {S:Tb.Sys} {y:Nat->Rat} (hS:SmP S) (hm:S.m=2) (hy : ∀ k,dg 2000000 (y k)):lfSm S (lfY y) 0:=by
 refine⟨by show 2<=1000;decide,fun j _=>Nat.le_trans (mk_size (hy j)) (by decide),fun _ _=>?_⟩
 have e:(fun k=>rd (mk (txtQ (y k))))=y:=funext fun k=>rd_mk _
 show (∀ k,k<S.m->dg 60000000 (rd (mk (txtQ (y k)))))/\DotsZ S (fun k=>rd (mk (txtQ (y k)))) 60000000
 rw [e]
 refine⟨fun k _=>by rw [rd_mk];exact (hy k).mono (by decide),?_⟩
 exact {
  p:=fun k hk j hj=>((hy k).mul (hS.C k hk j hj)).mono (by decide)
  c:=fun i hi j hj=>(sum_dg (h:=2001000) fun k hk=>((hy k).mul (hS.C k (by omega) j hj)).mono (by decide)).mono (by omega)
  pk:=fun k hk=>((hy k).mul (hS.K k hk)).mono (by decide)
  k:=fun i hi=>(sum_dg (h:=2001000) fun k hk=>((hy k).mul (hS.K k (by omega))).mono (by decide)).mono (by omega) }
theorem lf_mem {w:World} {b b' : Nat} {y:Nat->Rat} (h:Box w b 115 (ltc b' 2)) (h' : Box w b' 9 (SL (fun i=>mk (txtQ (y i))) 2)):CutsT w (some ⟨b,0,none⟩) (lfY y) ⟨fun _=>none,fun _=>0,fun _=>some ⟨b',0,none⟩,fun _=>2⟩ :=
 ⟨h.blk.sl,fun i hi=>⟨.inl rfl,h'.blk.sl⟩⟩
theorem RowsO.kpt {b0 B b:Nat} {w:World} {S:Tb.Sys} {R:RowL} (h:RowsO B w b S R) (hb:b0<B):Kpt b0 w fun w=>RowsR w (some ⟨b,0,none⟩) S R:=fun w' ho =>
 RowsO.rows (B:=B) ⟨h.1,h.2.1.same (ho.block _ (by have:=h.1;omega) h.2.1.lt),fun i hi=>zAZ (h.2.2 i hi) fun k hk=>by
  have:=World.ownsRow.lt (h.2.2 i hi) k hk
  exact ho.block k (by omega) this.2⟩
set_option maxHeartbeats 2000000 in
theorem c47 (w:World) (hg:Gl w):Ret prog 47 #[] w fun v w'=>v = .bool true/\Ext w w':=by
 refine run47 _ _ ?_
 unfold vc47
 rw [show (Obj.cells #[Value.string { data:=#[50] }] 9) = .cells [Value.string t2].toArray 9 from rfl,show (Obj.cells #[Value.string { data:=#[45,50] }] 9) = .cells [Value.string tm2].toArray 9 from rfl]
 have z1:=(yE w).alloc (.cells [Value.string t2].toArray 9)
 have b1:=yN w [Value.string t2] 9
 generalize w.alloc (.cells [Value.string t2].toArray 9)=W1 at z1 b1 ⊢
 have z2:=(yE W1).alloc (.cells [Value.string tm2].toArray 9)
 have b2:=yN W1 [Value.string tm2] 9
 have b6:=b1.ext z2
 generalize W1.alloc (.cells [Value.string tm2].toArray 9)=W2 at z2 b2 b6 ⊢
 have z3:=(yE W2).alloc (.cells [Value.slice (some ⟨w.heap.size,0,none⟩) 1 1,.int .i64 1,.string t5,.slice (some ⟨W1.heap.size,0,none⟩) 1 1,.int .i64 1,.string tm5].toArray 49)
 have b3:=yN W2 [Value.slice (some ⟨w.heap.size,0,none⟩) 1 1,.int .i64 1,.string t5,.slice (some ⟨W1.heap.size,0,none⟩) 1 1,.int .i64 1,.string tm5] 49
 rw [show (Obj.cells #[Value.slice (some ⟨w.heap.size,0,none⟩) 1 1,.int .i64 1,.string { data:=#[53] },.slice (some ⟨W1.heap.size,0,none⟩) 1 1,.int .i64 1,.string { data:=#[45,53] }] 49) = .cells [Value.slice (some ⟨w.heap.size,0,none⟩) 1 1,.int .i64 1,.string t5,.slice (some ⟨W1.heap.size,0,none⟩) 1 1,.int .i64 1,.string tm5].toArray 49 from rfl]
 have g:=b6.ext z3
 have a0:=b2.ext z3
 have a8:=(z1.trans z2).trans z3
 generalize W2.alloc (.cells [Value.slice (some ⟨w.heap.size,0,none⟩) 1 1,.int .i64 1,.string t5,.slice (some ⟨W1.heap.size,0,none⟩) 1 1,.int .i64 1,.string tm5].toArray 49)=W3 at z3 b3 g a0 a8 ⊢
 have rL:=gX_rows (c:=tm2) (k:=tm5) g.blk.sl a0 b3
 have l:=hg.ext a8
 have okL:=gX_ok (c:=tm2) (k:=tm5) bs_tm2 bs_tm5
 have o:=gX_ok (c:=tm1) (k:=t0) bs_tm1 bs_t0
 have d:=gX_small (c:=tm2) (k:=tm5) (by decide) (by decide)
 have a9:=gX_small (c:=tm1) (k:=t0) (by decide) (by decide)
 have hb:vcells W3 ⟨W2.heap.size,0,none⟩ 0 (rtc (gX tm2 tm5) ⟨fun i=>if i=0 then some ⟨w.heap.size,0,none⟩ else some ⟨W1.heap.size,0,none⟩,fun _=>1⟩ 0):=by
  obtain⟨ad,h1,h2⟩:=rL.get (i:=0) (by show 0<2;decide)
  cases h1
  exact h2
 refine⟨_,rfl,⟨by decide,by decide⟩,_,_,_,_,_,hb,yC (c51 (X:=gX tm2 tm5) (A:=⟨fun i=>if i=0 then some ⟨w.heap.size,0,none⟩ else some ⟨W1.heap.size,0,none⟩,fun _=>1⟩) (i:=0) ⟨(d.2 0 (by show 0<2;decide)).1,by show 1<=60;decide,(d.2 0 (by show 0<2;decide)).2.2⟩ W3 (rL.2 0 (by show 0<2;decide)) l) ?_⟩
 rintro v w1 ⟨hT,d8⟩
 have ot:=zEU (C:=rC (gX tm2 tm5) 0) (z:=2) (K:=rK (gX tm2 tm5) 0) (rd_of bs_t2) (by rw [show rC (gX tm2 tm5) 0 0=2 from rd_of bs_t2];decide)
 have g0:=zDq (c:=tm2) (k:=tm5)
 have eC:tC 1 (rC (gX tm2 tm5) 0) 0=1:=by rw [<- g0.1];exact (congrFun (if_pos ot.1) 0).symm
 have eK:tK 1 (rC (gX tm2 tm5) 0) 1 (rK (gX tm2 tm5) 0)=2:=by rw [<- g0.2.2];exact (if_pos ot.1).symm
 rcases hT with ⟨h,_⟩ | ⟨_,⟨h,_⟩ | ⟨_,p,cc,sK,rfl,a7,hown⟩⟩
 ·exact absurd ⟨by show 1<=40;decide,okL.2.2.2 0 (by show 0<2;decide)⟩ h
 ·exact absurd ot.1 h
 have a7:bs sK=txtQ (tK 1 (rC (gX tm2 tm5) 0) 1 (rK (gX tm2 tm5) 0)):=a7
 have d3:sK=t2:=zDF (by rw [a7,eK,bs_t2])
 subst d3
 have d5:SS w1 p (fun _=>t1) 1:=by
  have h:=zAJ hown
  have e:SL (fun j=>mk (txtQ (tC ((gX tm2 tm5).n 0) (rC (gX tm2 tm5) 0) j))) ((gX tm2 tm5).n 0)=SL (fun _=>t1) 1:=by
   show [Value.string (mk (txtQ (tC 1 (rC (gX tm2 tm5) 0) 0)))]=[.string t1]
   rw [eC,<- bs_t1,mk_bs]
  rw [e] at h
  exact h
 rw [show ((tRel ((gX tm2 tm5).n 0) (rC (gX tm2 tm5) 0) (rR (gX tm2 tm5) 0):Nat):Int)=1 from congrArg _ ot.2.1,show (gX tm2 tm5).n 0=1 from rfl]
 have n1:=yN w1 zrow 49
 have p1:=n1.put [.slice p 1 cc,.int .i64 1,.string t2] (by rfl)
 have e1:Ext w1 (setCells (w1.alloc (.cells zrow.toArray 49)) ⟨w1.heap.size,0,none⟩ 0 [.slice p 1 cc,.int .i64 1,.string t2]):=((yE w1).alloc _).put yL _ _
 refine⟨_,_,_,_,_,_,_,rfl,n1.blk.writable (by decide),?_⟩
 have b9:SS _ p (fun _=>t1) 1:=d5.ext e1
 generalize setCells (w1.alloc (.cells zrow.toArray 49)) ⟨w1.heap.size,0,none⟩ 0 [.slice p 1 cc,.int .i64 1,.string t2]=V1 at p1 e1 b9 ⊢
 have x4:=d8.trans e1
 have a5:vcells V1 ⟨W2.heap.size,0,none⟩ 0 [.slice (some ⟨w.heap.size,0,none⟩) 1 1,.int .i64 1,.string t5]:=by
  obtain⟨ad,h1,h2⟩:=(rL.ext x4).get (i:=0) (by show 0<2;decide)
  cases h1
  exact h2
 refine⟨_,rfl,⟨by decide,by decide⟩,_,_,_,_,_,a5,?_⟩
 have y1:=(yE V1).alloc (.cells [Value.string tm1].toArray 9)
 have c1:=yN V1 [Value.string tm1] 9
 rw [show (Obj.cells #[Value.string { data:=#[45,49] }] 9) = .cells [Value.string tm1].toArray 9 from rfl]
 generalize V1.alloc (.cells [Value.string tm1].toArray 9)=V2 at y1 c1 ⊢
 have y2:=(yE V2).alloc (.cells [Value.slice (some ⟨w.heap.size,0,none⟩) 1 1,.int .i64 1,.string t5,.slice (some ⟨V1.heap.size,0,none⟩) 1 1,.int .i64 1,.string t0].toArray 49)
 have c2:=yN V2 [Value.slice (some ⟨w.heap.size,0,none⟩) 1 1,.int .i64 1,.string t5,.slice (some ⟨V1.heap.size,0,none⟩) 1 1,.int .i64 1,.string t0] 49
 rw [show (Obj.cells #[Value.slice (some ⟨w.heap.size,0,none⟩) 1 1,.int .i64 1,.string { data:=#[53] },.slice (some ⟨V1.heap.size,0,none⟩) 1 1,.int .i64 1,.string { data:=#[48] }] 49) = .cells [Value.slice (some ⟨w.heap.size,0,none⟩) 1 1,.int .i64 1,.string t5,.slice (some ⟨V1.heap.size,0,none⟩) 1 1,.int .i64 1,.string t0].toArray 49 from rfl]
 generalize V2.alloc (.cells [Value.slice (some ⟨w.heap.size,0,none⟩) 1 1,.int .i64 1,.string t5,.slice (some ⟨V1.heap.size,0,none⟩) 1 1,.int .i64 1,.string t0].toArray 49)=V3 at y2 c2 ⊢
 have y3:=y1.trans y2
 have x5:=x4.trans y3
 have rO:=gX_rows (w:=V3) (c:=tm1) (k:=t0) (g.ext x5).blk.sl (c1.ext y2) c2
 refine yC (c49r (X:=gX tm1 t0) (n:=1) (bud:=10) (c:=2) a9 (by decide) (fun _ f s' h j hj=>o_H f s' h j hj) V3 rO (l.ext x5)) ?_
 rintro v w2 ⟨hI,d9⟩
 rcases hI with ⟨h,_⟩ | ⟨_,⟨y,_,_,_,_,_,href,_⟩ | ⟨bp,pt,rfl,hTp,hsat,hint,hptd⟩⟩
 ·exact absurd ⟨o,by decide,by decide⟩ h
 ·exact (farkas href o_sat).elim
 have n2:=yN w2 ip0 65
 have p2:=n2.put [.int .i64 1,.slice (some ⟨bp,0,none⟩) 1 1,nsl] (by rfl)
 have e2:Ext w2 (setCells (w2.alloc (.cells ip0.toArray 65)) ⟨w2.heap.size,0,none⟩ 0 [.int .i64 1,.slice (some ⟨bp,0,none⟩) 1 1,nsl]):=((yE w2).alloc _).put yL _ _
 refine⟨_,_,_,_,_,_,_,_,rfl,n2.blk.writable (by decide),?_⟩
 rw [show ((1:Int).toNat)=1 from rfl]
 have a3:TxtsAt _ bp pt 1:=Box.ext hTp e2
 generalize setCells (w2.alloc (.cells ip0.toArray 65)) ⟨w2.heap.size,0,none⟩ 0 [.int .i64 1,.slice (some ⟨bp,0,none⟩) 1 1,nsl]=V4 at p2 e2 a3 ⊢
 have y4:=d9.trans e2
 have x6:=x5.trans y4
 refine yC (c49r (X:=gX tm2 tm5) (n:=1) (bud:=10) (c:=2) d (by decide) (fun _ f s' h=>(l_unsat _ (zFp h)).elim) V4 (rL.ext x6) (l.ext x6)) ?_
 rintro v w3 ⟨hI,e0⟩
 rcases hI with ⟨h,_⟩ | ⟨_,⟨y,b,b',rfl,hBl,hBy,href,hyd⟩ | ⟨_,x,_,_,h,_⟩⟩
 rotate_right
 ·exact absurd h (l_unsat x)
 ·exact absurd ⟨okL,by decide,by decide⟩ h
 have n3:=yN w3 ip0 65
 have p3:=n3.put [.int .i64 2,nsl,.slice (some ⟨b,0,none⟩) 1 1] (by rfl)
 have e3:Ext w3 (setCells (w3.alloc (.cells ip0.toArray 65)) ⟨w3.heap.size,0,none⟩ 0 [.int .i64 2,nsl,.slice (some ⟨b,0,none⟩) 1 1]):=((yE w3).alloc _).put yL _ _
 refine⟨_,_,_,_,_,_,_,_,rfl,n3.blk.writable (by decide),?_⟩
 have a1:=hBl.ext e3
 have a2:=hBy.ext e3
 generalize setCells (w3.alloc (.cells ip0.toArray 65)) ⟨w3.heap.size,0,none⟩ 0 [.int .i64 2,nsl,.slice (some ⟨b,0,none⟩) 1 1]=V5 at p3 e3 a1 a2 ⊢
 have y5:=e0.trans e3
 have x7:=x6.trans y5
 intro K hK
 rw [show (((0:Int)==0)&&true)=true from rfl,cond_true]
 have m1:=(yE V5).alloc (.cells [Value.string t1].toArray 9)
 have d1:=yN V5 [Value.string t1] 9
 have d2:Ext V1 V5:=(y3.trans y4).trans y5
 refine⟨_,_,_,_,_,(p1.ext d2).blk.all,yC (c52 (X:={ m:=1,n:=fun _=>1,C:=fun _ _=>t1,rel:=fun _=>1,K:=fun _=>t2 }) (Y:={ m:=1,n:=fun _=>1,C:=fun _ _=>t1,rel:=fun _=>1,K:=fun _=>t2 }) (A:=⟨fun _=>p,fun _=>cc⟩) (B:=⟨fun _=>some ⟨V5.heap.size,0,none⟩,fun _=>1⟩) (i:=0) (k:=0) (by show 1<=1048576;decide) _ ((b9.ext d2).ext m1) d1.blk.sl) ?_⟩
 rintro v w5 ⟨⟨x,rfl,hx⟩,e4⟩
 obtain rfl:x=true:=hx.2 ⟨rfl,rfl,rfl,fun _ _=>rfl⟩
 have y6:=m1.trans e4
 have x8:=x7.trans y6
 have u:=y5.trans y6
 refine⟨_,rfl,?_⟩
 rw [show (true&&((0:Int)==0))=true from rfl,cond_true]
 refine⟨_,(p2.ext u).blk.cell (j:=0) rfl,?_⟩
 rw [show ((1:Int)==1)=true from rfl,cond_true]
 refine⟨_,_,_,(p2.ext u).blk.cell (j:=1) rfl,?_⟩
 have e6:Sm6 (sysX (gX tm1 t0) 1):=smallX.sm (X:=gX tm1 t0) (n:=1) ⟨by decide,a9.2⟩ (by decide) o.nat
 refine yC (c24 (X:=gX tm1 t0) (nx:=1) (ca:=2) (cx:=1) (t:=fun j=>mk (txtQ (pt j))) (a9.tame (by decide)) (by decide) (fun j hj=>Nat.le_trans (mk_size (hptd j hj)) (by decide)) (fun S x hS hn hx=>(dots_pt e6 hptd o.nat S x hS hn hx).1) w5 (rO.ext (y4.trans u)) (Box.ext a3 u).blk.sl) ?_
 rintro v w6 ⟨⟨b3,rfl,d6⟩,b8⟩
 obtain rfl:b3=true:=d6.2 (holdsP_iff.2 (holdsX_of o.nat (tSat_back o hsat).1))
 refine⟨_,rfl,?_⟩
 rw [show (true&&((0:Int)==0))=true from rfl,cond_true]
 have s:=y6.trans b8
 have x9:=x8.trans b8
 refine⟨_,(p3.ext s).blk.cell (j:=0) rfl,?_⟩
 rw [show ((2:Int)==2)=true from rfl,cond_true]
 refine⟨_,_,_,(p3.ext s).blk.cell (j:=2) rfl,?_⟩
 have d0:=d.tame (by decide)
 have sP:=tSys_smP d (n:=1) (by decide) okL
 have lok:zCE (tSys (gX tm2 tm5) 1) (lfY y) 0:=lf_ok rfl href
 have lsm:lfSm (tSys (gX tm2 tm5) 1) (lfY y) 0:=lf_sm sP rfl hyd
 have a4:=lf_mem (a1.ext s) (a2.ext s)
 refine yC (c54 (X:=gX tm2 tm5) (Y:=lfY y) (n:=1) (rc:=2) (pc:=1) (some 1) d d0 w6 (rL.ext x9) a4 fun _ _ w2 p c' A' he hR=>?_) ?_
 ·refine (c105leaf (S:=tSys (gX tm2 tm5) 1) (i:=0) (rc:=c') (pc:=1) sP (show 1<=60 by decide) lsm (show 0<1 by decide) rfl w2 hR (a4.ext he)).mono ?_
  rintro v w' ⟨rfl,h2⟩
  refine⟨?_,h2⟩
  rw [if_pos lok]
 rintro v w7 ⟨⟨b4,rfl,a5⟩,a6⟩
 obtain rfl:b4=true:=a5.2 ⟨okL,show 0<1 by decide,rfl⟩
 refine⟨_,rfl,?_⟩
 rw [cond_true]
 have e7:=s.trans a6
 have xa:=x9.trans a6
 have b7:=a4.ext a6
 refine⟨_,_,_,(p3.ext e7).blk.cell (j:=2) rfl,?_⟩
 refine yC (c53 (X:=gX tm2 tm5) (Y:=lfY y) (n:=1) (rc:=2) (pc:=1) (some 1) d d0 w7 (rL.ext xa) b7 (l.ext xa) fun _ w2 b0 rb Rl he e8 bA bP bN bF d4=>?_) ?_
 ·have kx : ∀ w',But b0 w2 w'->Ext w7 w':=fun w' ho=>Below.trans he (ho.below (B:=w7.heap.size) (by omega) he.size)
  have h:=c100leaf (S:=tSys (gX tm2 tm5) 1) (Y:=lfY y) (i:=0) (pc:=2) (b3:=b0+1) sP (show 1<=60 by decide) (fun _=>lsm) (fun _=>rfl) w2 bA bP bN (by omega) (by omega) (fun w' ho=>b7.ext (kx w' ho)) (d4.kpt (by omega)) (fun w' ho=>(l.ext xa).ext (kx w' ho))
  rw [if_pos ⟨show 0<1 by decide,lok⟩] at h
  exact h
 rintro v w8 ⟨⟨b5,rfl,d7⟩,e5⟩
 obtain rfl:b5=true:=d7.2 ⟨okL,rfl⟩
 exact⟨_,rfl,hK _ _ ⟨rfl,a8.trans (xa.trans e5)⟩⟩
open Classical in
open Classical in
open Classical in
open Classical in
open Classical in
open Classical in
def conX (n:Nat) (C:Nat->BA) (rel:Int) (K:BA):TX:={ m:=1,n:=fun _=>n,C:=fun _=>C,rel:=fun _=>rel,K:=fun _=>K }
theorem t_dg {n rel:Nat} {C:Nat->Rat} {K:Rat} (hn:n<=10) (hC : ∀ j,j<n->dg 61 (C j)) (hK:dg 61 K):(∀ j,j<n->dg 2000 (tC n C j))/\dg 4000 (tK n C rel K):=by
 have g:dg 700 ((lcmD C n:Nat):Rat):=zCF (by
  have h1:=zDA (C:=C) (d:=61) (n:=n) fun j hj=>hC j hj
  omega)
 have f : ∀ j,j<n->dg 1000 (C j*((lcmD C n:Nat):Rat)):=fun j hj=>((hC j hj).mul g).mono (by omega)
 have hg:dg 1000 ((gcdD C (lcmD C n) n:Nat):Rat):=zCF (zDE (by decide) fun j hj=>f j (by omega))
 have b:dg 3000 (K*facT n C):=by
  unfold facT
  rw [<- Rat.mul_assoc]
  exact ((hK.mul g).mul hg.inv).mono (by decide)
 have d1:dg 1 ((1:Int):Rat):=zCR (by rw [show (1:Int).natAbs=1 from rfl,zBx];decide)
 constructor
 ·intro j hj
  obtain⟨z,e,hz⟩:=tC_int (C:=C) hj
  rw [e]
  exact zCR (Nat.le_trans (zAu hz) (Nat.le_trans (f j hj).1 (by decide)))
 ·unfold tK
  split
  ·exact zBs (by decide)
  ·split
   ·exact b.mono (by decide)
   ·split
    ·have dfl:dg 3000 ((flo (-(K*facT n C)):Int):Rat):=zCR (Nat.le_trans (zAu (zCP _)) b.neg.1)
     rw [Rat.intCast_sub,Rat.intCast_neg]
     exact (dfl.neg.sub d1).mono (by decide)
    ·exact (zCR (Nat.le_trans (zAu (zCP _)) b.1)).mono (by decide)
def rowS (n:Nat) (C:Nat->Rat) (rel:Nat) (K:Rat):Tb.Sys:={ n:=n,m:=1,C:=fun _=>C,rel:=fun _=>rel,K:=fun _=>K }
theorem c42s {X:TX} {A:TA} {n rel nx cx:Nat} {C:Nat->Rat} {K:Rat} {xa:OA} {t:Nat->BA} {x:Nat->Rat} (hn:n<=10) (hnX:X.n 0=n) (hX:Tame X) (hm:X.m=1) (hr:1<=rel/\rel<=3) (hR:X.rel 0=(rel:Int)) (hC : ∀ j,j<n->bs (X.C 0 j)=txtQ (C j)) (hK:bs (X.K 0)=txtQ K) (hnx:nx=n) (ht : ∀ j,j<n->bs (t j)=txtQ (x j)) (hts : ∀ j,j<n->(t j).size<=60)
  (hCd : ∀ j,j<n->dg 2000 (C j)) (hxd : ∀ j,j<n->dg 61 (x j)) (w:World) (hs:SS w (A.cA 0) (X.C 0) (X.n 0)) (hx:SS w xa t nx) :
  Ret prog 42 #[.agg #[.slice (A.cA 0) (X.n 0) (A.cC 0),.int .i64 (X.rel 0),.string (X.K 0)],.slice xa nx cx] w fun v w'=>(∃ b,v = .bool b/\(b=true↔meetsR rel (sumN n fun j=>C j*x j) K))/\Ext w w':=by
 have hp : ∀ j,j<n->dg 2062 (C j*x j):=fun j hj=>(hCd j hj).mul (hxd j hj)
 have z : ∀ i,i<X.m->i=0:=fun i hi=>by omega
 have d:Reads X (rowS n C rel K):=⟨hm.symm,fun i hi=>by rw [z i hi];exact hnX,fun i hi j hj=>by rw [z i hi];exact hC j hj,fun i hi=>by rw [z i hi];exact⟨hR,hr⟩,fun i hi=>by rw [z i hi];exact hK⟩
 exact c42 (S:=rowS n C rel K) (by unfold Few;show n+1<=1048576;omega) hX d (by omega) hnx ht (fun j hj=>Nat.le_trans (hts j hj) (by decide)) (fun j hj=>(hp j hj).mono (by decide)) (fun k hk=>(sum_dg (h:=2062) fun j hj=>hp j (by have:k<=n:=hk;omega)).mono (by have:k<=n:=hk;omega)) w hs hx
set_option maxHeartbeats 4000000 in
theorem c13 {X:TX} {B:TA} {t:Nat->BA} {pa:OA} {pn pc:Nat} (hm:X.m=1) (w:World) (q:SS w (B.cA 0) (X.C 0) (X.n 0)) (q1:SS w pa t pn) (hg:Gl w) :
  Ret prog 13 #[.agg #[.slice (B.cA 0) (X.n 0) (B.cC 0),.int .i64 (X.rel 0),.string (X.K 0)],.slice pa pn pc] w fun v w'=>v = .bool true/\Ext w w':=by
 refine run13 _ _ _ _ _ _ _ _ _ _ fun K hK=>?_
 have z1:=(yE w).alloc (.cells (rtc X B 0).toArray 49)
 have bR:=yN w (rtc X B 0) 49
 rw [show (Obj.cells #[Value.slice (B.cA 0) (X.n 0) (B.cC 0),.int .i64 (X.rel 0),.string (X.K 0)] 49) = .cells (rtc X B 0).toArray 49 from rfl]
 generalize w.alloc (.cells (rtc X B 0).toArray 49)=W1 at z1 bR ⊢
 have yes : ∀ w1,Ext w w1->K [.bool true] w1:=by
  intro w1 h1
  refine hK true w1 ?_
  rw [cond_true]
  refine yC (c47 w1 (hg.ext h1)) ?_
  rintro v w2 ⟨rfl,he⟩
  exact⟨_,rfl,rfl,h1.trans he⟩
 refine⟨_,_,_,bR.blk.cell (j:=0) rfl,yC (c46 (most:=10) (by decide) W1 (q.ext z1)) ?_⟩
 rintro v a8 ⟨⟨b8,rfl,e4⟩,rfl⟩
 refine⟨_,rfl,?_⟩
 cases b8 with
 | true=>rw [cond_true];exact yes _ z1
 | false =>
 obtain⟨hn,hc⟩:=e4 rfl
 rw [cond_false]
 refine⟨_,bR.blk.cell (j:=2) rfl,?_⟩
 by_cases hk:(((X.K 0).size:Nat):Int)>60
 ·rw [decide_eq_true hk];exact yes _ z1
 rw [decide_eq_false hk,cond_false]
 refine yC (c46 (most:=10) (by decide) a8 (q1.ext z1)) ?_
 rintro v d5 ⟨⟨b9,rfl,e5⟩,rfl⟩
 refine⟨_,rfl,?_⟩
 cases b9 with
 | true=>rw [cond_true];exact yes _ z1
 | false =>
 obtain⟨g2,d⟩:=e5 rfl
 rw [cond_false]
 have t1:Tame (oneX X 0):={ n:=fun _ _=>by show X.n 0<=1048576;omega,c:=fun _ _ j hj=>Nat.le_trans (hc j hj) (by decide),k:=fun _ _=>by show (X.K 0).size<=_;omega }
 refine⟨_,_,_,bR.blk.cell (j:=0) rfl,_,_,_,_,_,bR.blk.all,yC (c39 (X:=oneX X 0) (A:=oneA B 0) (i:=0) (n:=((X.n 0:Nat):Int)) t1 Nat.one_pos d5 (q.ext z1)) ?_⟩
 rintro v g0 ⟨⟨d6,rfl,b3⟩,b⟩
 refine⟨_,rfl,?_⟩
 cases d6 with
 | false=>rw [Bool.not_false,cond_true];exact yes _ (z1.trans b)
 | true =>
 rw [Bool.not_true,cond_false]
 have a3:okRow X (X.n 0:Nat) 0:=b3.1 rfl
 have a9:=bR.ext b
 have x2:=z1.trans b
 refine⟨_,_,_,a9.blk.cell (j:=0) rfl,yC (c50 (n:=((X.n 0:Nat):Int)) (by omega) (fun j hj=>Nat.le_trans (d j hj) (by decide)) g0 (q1.ext x2)) ?_⟩
 rintro v g1 ⟨⟨d7,rfl,b5⟩,a2⟩
 refine⟨_,rfl,?_⟩
 have x3:=x2.trans a2
 cases d7 with
 | false=>exact yes _ x3
 | true =>
 obtain⟨o,f7⟩:=b5.1 rfl
 have o:pn=X.n 0:=by omega
 refine hK _ _ ?_
 rw [Bool.not_true,cond_false]
 have f:=a9.ext a2
 have f9:sm60 X 0:=⟨by omega,by omega,hc⟩
 refine⟨_,_,_,_,_,f.blk.all,yC (c51 (X:=oneX X 0) (A:=oneA B 0) (i:=0) f9 g1 (q.ext x3) (hg.ext x3)) ?_⟩
 rintro v w3 ⟨hT,g⟩
 have hT:TigX X 0 w3 v:=hT
 have x4:=x3.trans g
 have d4:okT X 0:=⟨by omega,a3⟩
 obtain⟨_,g3,g4,u,a0⟩:=a3
 have s:1<=rR X 0/\rR X 0<=3:=by unfold rR;omega
 have a1:X.rel 0=(rR X 0:Nat):=by unfold rR;omega
 have b0 : ∀ j,j<X.n 0->bs (X.C 0 j)=txtQ (rC X 0 j):=fun j hj=>rd_ok (u j hj)
 have b1:bs (X.K 0)=txtQ (rK X 0):=rd_ok a0
 have a4 : ∀ j,j<X.n 0->dg 61 (rC X 0 j):=fun j hj=>rd_dg (u j hj) (hc j hj)
 have e0:dg 61 (rK X 0):=rd_dg a0 (by omega)
 obtain⟨d1,e7⟩:=t_dg (rel:=rR X 0) (by omega) a4 e0
 have hx : ∀ j,j<X.n 0->bs (t j)=txtQ (rd (t j))/\∃ z:Int,rd (t j)=(z:Rat):=fun j hj=>by
  obtain⟨z,hz⟩:=f7 j (by omega)
  have:rd (t j)=(z:Rat):=rd_of hz
  exact⟨by rw [this,hz],z,this⟩
 have a7 : ∀ j,j<X.n 0->dg 61 (rd (t j)):=fun j hj=>rd_dg (ok_of (hx j hj).1) (d j (by omega))
 have fwd:=tight_fwd (K:=rK X 0) (C:=rC X 0) s fun j hj=>(hx j hj).2
 have bk := @tight_back (X.n 0) (rR X 0) (rC X 0) (rK X 0) (fun j=>rd (t j)) s
 have n1:=yN w3 zrow 49
 rcases hT with ⟨h,_⟩ | ⟨_,⟨hno,rfl⟩ | ⟨hyes,p,cc,sK,rfl,hsK,hown⟩⟩
 ·exact absurd d4 h
 ·have p1:=n1.put zrow rfl
  have e1:Ext w3 (setCells (w3.alloc (.cells zrow.toArray 49)) ⟨w3.heap.size,0,none⟩ 0 zrow):=((yE w3).alloc _).put yL _ _
  refine⟨_,_,_,_,_,_,_,rfl,n1.blk.writable (by decide),?_⟩
  rw [show ((0:Int) != 0)=false from rfl,cond_false,Bool.not_false,cond_true]
  intro K1 d8
  refine⟨_,_,_,_,_,(f.ext (g.trans e1)).blk.all,?_⟩
  change Called _ 42 _ (setCells (w3.alloc (.cells zrow.toArray 49)) ⟨w3.heap.size,0,none⟩ 0 zrow) _
  generalize setCells (w3.alloc (.cells zrow.toArray 49)) ⟨w3.heap.size,0,none⟩ 0 zrow=V1 at p1 e1 ⊢
  have x5:=x4.trans e1
  refine yC (c42s (n:=X.n 0) (X:=oneX X 0) (A:=oneA B 0) (C:=rC X 0) (K:=rK X 0) (x:=fun j=>rd (t j)) (by omega) rfl t1 rfl s a1 b0 b1 o (fun j hj=>(hx j hj).1) (fun j hj=>d j (by omega)) (fun j hj=>(a4 j hj).mono (by decide)) a7 V1 (q.ext x5) (q1.ext x5)) ?_
  rintro v w5 ⟨⟨b4,rfl,e2⟩,e8⟩
  refine⟨_,rfl,?_⟩
  cases b4 with
  | true=>exact absurd (fwd (e2.1 rfl)).1 hno
  | false =>
   rw [Bool.not_false,cond_true]
   have x6:=x5.trans e8
   refine yC (c47 w5 (hg.ext x6)) ?_
   rintro v w6 ⟨rfl,e9⟩
   exact⟨_,rfl,d8 _ _ ⟨rfl,x6.trans e9⟩⟩
 ·obtain rfl:sK=mk (txtQ (tK (X.n 0) (rC X 0) (rR X 0) (rK X 0))):=zDF (by rw [bs_mk,hsK])
  obtain⟨T,a5⟩ : ∃ T:TX,T=conX (X.n 0) (fun j=>mk (txtQ (tC (X.n 0) (rC X 0) j))) (tRel (X.n 0) (rC X 0) (rR X 0):Nat) (mk (txtQ (tK (X.n 0) (rC X 0) (rR X 0) (rK X 0)))):=⟨_,rfl⟩
  have p1:=n1.put [.slice p (X.n 0) cc,.int .i64 (tRel (X.n 0) (rC X 0) (rR X 0):Nat),.string (mk (txtQ (tK (X.n 0) (rC X 0) (rR X 0) (rK X 0))))] rfl
  have e1:Ext w3 (setCells (w3.alloc (.cells zrow.toArray 49)) ⟨w3.heap.size,0,none⟩ 0 [.slice p (X.n 0) cc,.int .i64 (tRel (X.n 0) (rC X 0) (rR X 0):Nat),.string (mk (txtQ (tK (X.n 0) (rC X 0) (rR X 0) (rK X 0))))]):=((yE w3).alloc _).put yL _ _
  refine⟨_,_,_,_,_,_,_,rfl,n1.blk.writable (by decide),?_⟩
  rw [show ((0:Int) != 0)=false from rfl,cond_false,Bool.not_true,cond_false]
  generalize setCells (w3.alloc (.cells zrow.toArray 49)) ⟨w3.heap.size,0,none⟩ 0 [.slice p (X.n 0) cc,.int .i64 (tRel (X.n 0) (rC X 0) (rR X 0):Nat),.string (mk (txtQ (tK (X.n 0) (rC X 0) (rR X 0) (rK X 0))))]=V1 at p1 e1 ⊢
  intro K2 d9
  have ed:=(yE V1).drew
  have x5:=x4.trans (e1.trans ed)
  have b2:SS V1.drew p (fun j=>mk (txtQ (tC (X.n 0) (rC X 0) j))) (X.n 0):=(zAJ hown).ext (e1.trans ed)
  have f8:1<=tRel (X.n 0) (rC X 0) (rR X 0)/\tRel (X.n 0) (rC X 0) (rR X 0)<=3:=by
   unfold tRel
   split <;> (try split) <;> omega
  have tT:Tame T:=by
   subst a5
   have tc : ∀ j,j<X.n 0->(mk (txtQ (tC (X.n 0) (rC X 0) j))).size<=1000000:=fun j hj=>by
    rw [zAc,bs_mk]
    exact Nat.le_trans (dg_len (d1 j hj)) (by decide)
   have tk:(mk (txtQ (tK (X.n 0) (rC X 0) (rR X 0) (rK X 0)))).size<=1000000:=by
    rw [zAc,bs_mk]
    exact Nat.le_trans (dg_len e7) (by decide)
   exact { n:=fun _ _=>by show X.n 0<=1048576;omega,c:=fun _ _ j hj=>tc j hj,k:=fun _ _=>tk }
  have okt:okRow T (X.n 0:Nat) 0:=by
   subst a5
   exact⟨rfl,by show (1:Int)<=((tRel (X.n 0) (rC X 0) (rR X 0):Nat):Int);omega,by show ((tRel (X.n 0) (rC X 0) (rR X 0):Nat):Int)<=3;omega,fun j hj=>ok_of (bs_mk _),ok_of (bs_mk _)⟩
  subst a5
  refine⟨_,_,_,(f.ext (g.trans (e1.trans ed))).blk.cell (j:=0) rfl,_,_,_,_,_,(p1.ext ed).blk.all,yC (c39 (X:=conX (X.n 0) (fun j=>mk (txtQ (tC (X.n 0) (rC X 0) j))) (tRel (X.n 0) (rC X 0) (rR X 0):Nat) (mk (txtQ (tK (X.n 0) (rC X 0) (rR X 0) (rK X 0))))) (A:=⟨fun _=>p,fun _=>cc⟩) (i:=0) (n:=((X.n 0:Nat):Int)) tT Nat.one_pos V1.drew b2) ?_⟩
  rintro v w8 ⟨⟨b7,rfl,e3⟩,l⟩
  obtain rfl:b7=true:=e3.2 okt
  refine⟨_,rfl,l,?_⟩
  rw [cond_true]
  have x6:=x5.trans l
  refine⟨_,_,_,_,_,(f.ext (g.trans (e1.trans ed))).blk.all,_,_,_,_,_,(p1.ext ed).blk.all,yC (c42s (n:=X.n 0) (X:=oneX X 0) (A:=oneA B 0) (C:=rC X 0) (K:=rK X 0) (x:=fun j=>rd (t j)) (by omega) rfl t1 rfl s a1 b0 b1 o (fun j hj=>(hx j hj).1) (fun j hj=>d j (by omega)) (fun j hj=>(a4 j hj).mono (by decide)) a7 w8 (q.ext x6) (q1.ext x6)) ?_⟩
  rintro v w9 ⟨⟨b8,rfl,b6⟩,a6⟩
  refine⟨_,rfl,l.trans a6,?_⟩
  have x7:=x6.trans a6
  refine yC (c42s (n:=X.n 0) (X:=conX (X.n 0) (fun j=>mk (txtQ (tC (X.n 0) (rC X 0) j))) (tRel (X.n 0) (rC X 0) (rR X 0):Nat) (mk (txtQ (tK (X.n 0) (rC X 0) (rR X 0) (rK X 0))))) (A:=⟨fun _=>p,fun _=>cc⟩) (C:=tC (X.n 0) (rC X 0)) (K:=tK (X.n 0) (rC X 0) (rR X 0) (rK X 0)) (x:=fun j=>rd (t j)) (by omega) rfl tT rfl f8 rfl (fun j hj=>bs_mk _) (bs_mk _) o (fun j hj=>(hx j hj).1) (fun j hj=>d j (by omega)) d1 a7 w9 (b2.ext (l.trans a6)) (q1.ext x7)) ?_
  rintro v a8 ⟨⟨b9,rfl,d0⟩,d2⟩
  refine⟨_,rfl,?_⟩
  have e6:b8=b9:=by
   rw [Bool.eq_iff_iff,b6,d0]
   exact⟨fun h=>(fwd h).2,fun h=>bk hyes h⟩
  subst e6
  rw [beq_self_eq_true,cond_true]
  have x8:=x7.trans d2
  refine yC (c47 a8 (hg.ext x8)) ?_
  rintro v d5 ⟨rfl,d3⟩
  exact⟨_,rfl,d9 _ _ ⟨rfl,x8.trans d3⟩⟩
end Go.Proofs.Si
