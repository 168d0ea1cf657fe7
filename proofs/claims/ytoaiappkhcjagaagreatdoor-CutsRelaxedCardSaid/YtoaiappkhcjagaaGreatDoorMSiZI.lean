/- Part of the proof: SiZI, SiZJ, SiZL. -/
import Derived.Test.YtoaiappkhcjagaaGreatDoorMSiZC
set_option linter.unusedVariables false
set_option linter.unusedSimpArgs false
namespace Go.Proofs.Si
open Go Go.V Go.Proofs Go.RowKit Go.Num Go.Tb Go.Proofs.Tryz
set_option maxRecDepth 100000
theorem gX_rows {w:World} {b1 b2 rb:Nat} {c k:BA} (h1:SS w (some ⟨b1,0,none⟩) (fun _=>t2) 1) (h2:Box w b2 9 [.string c]) (hr:Box w rb 49 [.slice (some ⟨b1,0,none⟩) 1 1,.int .i64 1,.string t5,.slice (some ⟨b2,0,none⟩) 1 1,.int .i64 1,.string k]) :
  RowsT w (some ⟨rb,0,none⟩) (gX c k) ⟨fun i=>if i=0 then some ⟨b1,0,none⟩ else some ⟨b2,0,none⟩,fun _=>1⟩:=by
 refine⟨hr.blk.sl,fun i hi=>?_⟩
 show SS w (if i=0 then _ else _) (fun _=>if i=0 then t2 else c) 1
 by_cases e:i=0
 ·rw [if_pos e,if_pos e];exact h1
 ·rw [if_neg e,if_neg e];exact h2.blk.sl
abbrev ip0:List Value:=[.int .i64 0,.slice none 0 0,.slice none 0 0]
def lfY (y:Nat->Rat):PX:={ m:=1,leaf:=fun _=>true,cN:=fun _=>0,C:=fun _ _=>t0,K:=fun _=>{ data:=#[] },fN:=fun _=>2,F:=fun _ k=>mk (txtQ (y k)) }
theorem lf_ok {S:Tb.Sys} {y:Nat->Rat} (hm:S.m=2) (h:zBg S y):zCE S (lfY y) 0:=by
 refine⟨hm.symm,fun k _=>ok_of (bs_mk _),?_⟩
 have e:(fun k=>rd (mk (txtQ (y k))))=y:=funext fun k=>rd_mk _
 show zBg S fun k=>rd (mk (txtQ (y k)))
 rw [e];exact h
theorem lf_sm {S:Tb.Sys} {y:Nat->Rat} (hS:SmP S) (hm:S.m=2) (hy : ∀ k,dg 2000000 (y k)):lfSm S (lfY y) 0:=by
 refine⟨by show 2<=1000;decide,fun j _=>Nat.le_trans (mk_size (hy j)) (by decide),fun _ _=>?_⟩
 have e:(fun k=>rd (mk (txtQ (y k))))=y:=funext fun k=>rd_mk _
 show (∀ k,k<S.m->dg 60000000 (rd (mk (txtQ (y k)))))/\DotsZ S (fun k=>rd (mk (txtQ (y k)))) 60000000
 rw [e]
 refine⟨fun k _=>by rw [rd_mk];exact (hy k).mono (by decide),?_⟩
 exact {
  p:=fun k hk j hj=>((hy k).mul (hS.C k hk j hj)).mono (by decide)
  c:=fun i hi j hj=>(sum_dg (h:=2001000) fun k hk=>((hy k).mul (hS.C k (by omega) j hj)).mono (by decide)).mono (by omega)
  pk:=fun k hk=>((hy k).mul (hS.K k hk)).mono (by decide)
  k:=fun i hi=>(sum_dg (h:=2001000) fun k hk=>((hy k).mul (hS.K k (by omega))).mono (by decide)).mono (by omega) }
theorem lf_mem {w:World} {b b' : Nat} {y:Nat->Rat} (h:Box w b 115 (ltc b' 2)) (h' : Box w b' 9 (SL (fun i=>mk (txtQ (y i))) 2)):CutsT w (some ⟨b,0,none⟩) (lfY y) ⟨fun _=>none,fun _=>0,fun _=>some ⟨b',0,none⟩,fun _=>2⟩ :=
 ⟨h.blk.sl,fun i hi=>⟨.inl rfl,h'.blk.sl⟩⟩
theorem RowsO.kpt {b0 B b:Nat} {w:World} {S:Tb.Sys} {R:RowL} (h:RowsO B w b S R) (hb:b0<B):Kpt b0 w fun w=>RowsR w (some ⟨b,0,none⟩) S R:=fun w' ho =>
 RowsO.rows (B:=B) ⟨h.1,h.2.1.same (ho.block _ (by have:=h.1;omega) h.2.1.lt),fun i hi=>zAZ (h.2.2 i hi) fun k hk=>by
  have:=World.ownsRow.lt (h.2.2 i hi) k hk
  exact ho.block k (by omega) this.2⟩
set_option maxHeartbeats 2000000 in
theorem c47 (w:World) (hg:Gl w):Ret prog 47 #[] w fun v w'=>v = .bool true/\Ext w w':=by
 refine run47 _ _ ?_
 unfold vc47
 rw [show (Obj.cells #[Value.string { data:=#[50] }] 9) = .cells [Value.string t2].toArray 9 from rfl,show (Obj.cells #[Value.string { data:=#[45,50] }] 9) = .cells [Value.string tm2].toArray 9 from rfl]
 have z1:=(yE w).alloc (.cells [Value.string t2].toArray 9)
 have b1:=yN w [Value.string t2] 9
 generalize w.alloc (.cells [Value.string t2].toArray 9)=W1 at z1 b1 ⊢
 have z2:=(yE W1).alloc (.cells [Value.string tm2].toArray 9)
 have b2:=yN W1 [Value.string tm2] 9
 have b6:=b1.ext z2
 generalize W1.alloc (.cells [Value.string tm2].toArray 9)=W2 at z2 b2 b6 ⊢
 have z3:=(yE W2).alloc (.cells [Value.slice (some ⟨w.heap.size,0,none⟩) 1 1,.int .i64 1,.string t5,.slice (some ⟨W1.heap.size,0,none⟩) 1 1,.int .i64 1,.string tm5].toArray 49)
 have b3:=yN W2 [Value.slice (some ⟨w.heap.size,0,none⟩) 1 1,.int .i64 1,.string t5,.slice (some ⟨W1.heap.size,0,none⟩) 1 1,.int .i64 1,.string tm5] 49
 rw [show (Obj.cells #[Value.slice (some ⟨w.heap.size,0,none⟩) 1 1,.int .i64 1,.string { data:=#[53] },.slice (some ⟨W1.heap.size,0,none⟩) 1 1,.int .i64 1,.string { data:=#[45,53] }] 49) = .cells [Value.slice (some ⟨w.heap.size,0,none⟩) 1 1,.int .i64 1,.string t5,.slice (some ⟨W1.heap.size,0,none⟩) 1 1,.int .i64 1,.string tm5].toArray 49 from rfl]
 have g:=b6.ext z3
 have a0:=b2.ext z3
 have a8:=(z1.trans z2).trans z3
 generalize W2.alloc (.cells [Value.slice (some ⟨w.heap.size,0,none⟩) 1 1,.int .i64 1,.string t5,.slice (some ⟨W1.heap.size,0,none⟩) 1 1,.int .i64 1,.string tm5].toArray 49)=W3 at z3 b3 g a0 a8 ⊢
 have rL:=gX_rows (c:=tm2) (k:=tm5) g.blk.sl a0 b3
 have l:=hg.ext a8
 have okL:=gX_ok (c:=tm2) (k:=tm5) bs_tm2 bs_tm5
 have o:=gX_ok (c:=tm1) (k:=t0) bs_tm1 bs_t0
 have d:=gX_small (c:=tm2) (k:=tm5) (by decide) (by decide)
 have a9:=gX_small (c:=tm1) (k:=t0) (by decide) (by decide)
 have hb:vcells W3 ⟨W2.heap.size,0,none⟩ 0 (rtc (gX tm2 tm5) ⟨fun i=>if i=0 then some ⟨w.heap.size,0,none⟩ else some ⟨W1.heap.size,0,none⟩,fun _=>1⟩ 0):=by
  obtain⟨ad,h1,h2⟩:=rL.get (i:=0) (by show 0<2;decide)
  cases h1
  exact h2
 refine⟨_,rfl,⟨by decide,by decide⟩,_,_,_,_,_,hb,yC (c51 (X:=gX tm2 tm5) (A:=⟨fun i=>if i=0 then some ⟨w.heap.size,0,none⟩ else some ⟨W1.heap.size,0,none⟩,fun _=>1⟩) (i:=0) ⟨(d.2 0 (by show 0<2;decide)).1,by show 1<=60;decide,(d.2 0 (by show 0<2;decide)).2.2⟩ W3 (rL.2 0 (by show 0<2;decide)) l) ?_⟩
 rintro v w1 ⟨hT,d8⟩
 have ot:=zEU (C:=rC (gX tm2 tm5) 0) (z:=2) (K:=rK (gX tm2 tm5) 0) (rd_of bs_t2) (by rw [show rC (gX tm2 tm5) 0 0=2 from rd_of bs_t2];decide)
 have g0:=zDq (c:=tm2) (k:=tm5)
 have eC:tC 1 (rC (gX tm2 tm5) 0) 0=1:=by rw [<- g0.1];exact (congrFun (if_pos ot.1) 0).symm
 have eK:tK 1 (rC (gX tm2 tm5) 0) 1 (rK (gX tm2 tm5) 0)=2:=by rw [<- g0.2.2];exact (if_pos ot.1).symm
 rcases hT with ⟨h,_⟩ | ⟨_,⟨h,_⟩ | ⟨_,p,cc,sK,rfl,a7,hown⟩⟩
 ·exact absurd ⟨by show 1<=40;decide,okL.2.2.2 0 (by show 0<2;decide)⟩ h
 ·exact absurd ot.1 h
 have a7:bs sK=txtQ (tK 1 (rC (gX tm2 tm5) 0) 1 (rK (gX tm2 tm5) 0)):=a7
 have d3:sK=t2:=zDF (by rw [a7,eK,bs_t2])
 subst d3
 have d5:SS w1 p (fun _=>t1) 1:=by
  have h:=zAJ hown
  have e:SL (fun j=>mk (txtQ (tC ((gX tm2 tm5).n 0) (rC (gX tm2 tm5) 0) j))) ((gX tm2 tm5).n 0)=SL (fun _=>t1) 1:=by
   show [Value.string (mk (txtQ (tC 1 (rC (gX tm2 tm5) 0) 0)))]=[.string t1]
   rw [eC,<- bs_t1,mk_bs]
  rw [e] at h
  exact h
 rw [show ((tRel ((gX tm2 tm5).n 0) (rC (gX tm2 tm5) 0) (rR (gX tm2 tm5) 0):Nat):Int)=1 from congrArg _ ot.2.1,show (gX tm2 tm5).n 0=1 from rfl]
 have n1:=yN w1 zrow 49
 have p1:=n1.put [.slice p 1 cc,.int .i64 1,.string t2] (by rfl)
 have e1:Ext w1 (setCells (w1.alloc (.cells zrow.toArray 49)) ⟨w1.heap.size,0,none⟩ 0 [.slice p 1 cc,.int .i64 1,.string t2]):=((yE w1).alloc _).put yL _ _
 refine⟨_,_,_,_,_,_,_,rfl,n1.blk.writable (by decide),?_⟩
 have b9:SS _ p (fun _=>t1) 1:=d5.ext e1
 generalize setCells (w1.alloc (.cells zrow.toArray 49)) ⟨w1.heap.size,0,none⟩ 0 [.slice p 1 cc,.int .i64 1,.string t2]=V1 at p1 e1 b9 ⊢
 have x4:=d8.trans e1
 have a5:vcells V1 ⟨W2.heap.size,0,none⟩ 0 [.slice (some ⟨w.heap.size,0,none⟩) 1 1,.int .i64 1,.string t5]:=by
  obtain⟨ad,h1,h2⟩:=(rL.ext x4).get (i:=0) (by show 0<2;decide)
  cases h1
  exact h2
 refine⟨_,rfl,⟨by decide,by decide⟩,_,_,_,_,_,a5,?_⟩
 have y1:=(yE V1).alloc (.cells [Value.string tm1].toArray 9)
 have c1:=yN V1 [Value.string tm1] 9
 rw [show (Obj.cells #[Value.string { data:=#[45,49] }] 9) = .cells [Value.string tm1].toArray 9 from rfl]
 generalize V1.alloc (.cells [Value.string tm1].toArray 9)=V2 at y1 c1 ⊢
 have y2:=(yE V2).alloc (.cells [Value.slice (some ⟨w.heap.size,0,none⟩) 1 1,.int .i64 1,.string t5,.slice (some ⟨V1.heap.size,0,none⟩) 1 1,.int .i64 1,.string t0].toArray 49)
 have c2:=yN V2 [Value.slice (some ⟨w.heap.size,0,none⟩) 1 1,.int .i64 1,.string t5,.slice (some ⟨V1.heap.size,0,none⟩) 1 1,.int .i64 1,.string t0] 49
 rw [show (Obj.cells #[Value.slice (some ⟨w.heap.size,0,none⟩) 1 1,.int .i64 1,.string { data:=#[53] },.slice (some ⟨V1.heap.size,0,none⟩) 1 1,.int .i64 1,.string { data:=#[48] }] 49) = .cells [Value.slice (some ⟨w.heap.size,0,none⟩) 1 1,.int .i64 1,.string t5,.slice (some ⟨V1.heap.size,0,none⟩) 1 1,.int .i64 1,.string t0].toArray 49 from rfl]
 generalize V2.alloc (.cells [Value.slice (some ⟨w.heap.size,0,none⟩) 1 1,.int .i64 1,.string t5,.slice (some ⟨V1.heap.size,0,none⟩) 1 1,.int .i64 1,.string t0].toArray 49)=V3 at y2 c2 ⊢
 have y3:=y1.trans y2
 have x5:=x4.trans y3
 have rO:=gX_rows (w:=V3) (c:=tm1) (k:=t0) (g.ext x5).blk.sl (c1.ext y2) c2
 refine yC (c49r (X:=gX tm1 t0) (n:=1) (bud:=10) (c:=2) a9 (by decide) (fun _ f s' h j hj=>o_H f s' h j hj) V3 rO (l.ext x5)) ?_
 rintro v w2 ⟨hI,d9⟩
 rcases hI with ⟨h,_⟩ | ⟨_,⟨y,_,_,_,_,_,href,_⟩ | ⟨bp,pt,rfl,hTp,hsat,hint,hptd⟩⟩
 ·exact absurd ⟨o,by decide,by decide⟩ h
 ·exact (farkas href o_sat).elim
 have n2:=yN w2 ip0 65
 have p2:=n2.put [.int .i64 1,.slice (some ⟨bp,0,none⟩) 1 1,nsl] (by rfl)
 have e2:Ext w2 (setCells (w2.alloc (.cells ip0.toArray 65)) ⟨w2.heap.size,0,none⟩ 0 [.int .i64 1,.slice (some ⟨bp,0,none⟩) 1 1,nsl]):=((yE w2).alloc _).put yL _ _
 refine⟨_,_,_,_,_,_,_,_,rfl,n2.blk.writable (by decide),?_⟩
 rw [show ((1:Int).toNat)=1 from rfl]
 have a3:TxtsAt _ bp pt 1:=Box.ext hTp e2
 generalize setCells (w2.alloc (.cells ip0.toArray 65)) ⟨w2.heap.size,0,none⟩ 0 [.int .i64 1,.slice (some ⟨bp,0,none⟩) 1 1,nsl]=V4 at p2 e2 a3 ⊢
 have y4:=d9.trans e2
 have x6:=x5.trans y4
 refine yC (c49r (X:=gX tm2 tm5) (n:=1) (bud:=10) (c:=2) d (by decide) (fun _ f s' h=>(l_unsat _ (zFp h)).elim) V4 (rL.ext x6) (l.ext x6)) ?_
 rintro v w3 ⟨hI,e0⟩
 rcases hI with ⟨h,_⟩ | ⟨_,⟨y,b,b',rfl,hBl,hBy,href,hyd⟩ | ⟨_,x,_,_,h,_⟩⟩
 rotate_right
 ·exact absurd h (l_unsat x)
 ·exact absurd ⟨okL,by decide,by decide⟩ h
 have n3:=yN w3 ip0 65
 have p3:=n3.put [.int .i64 2,nsl,.slice (some ⟨b,0,none⟩) 1 1] (by rfl)
 have e3:Ext w3 (setCells (w3.alloc (.cells ip0.toArray 65)) ⟨w3.heap.size,0,none⟩ 0 [.int .i64 2,nsl,.slice (some ⟨b,0,none⟩) 1 1]):=((yE w3).alloc _).put yL _ _
 refine⟨_,_,_,_,_,_,_,_,rfl,n3.blk.writable (by decide),?_⟩
 have a1:=hBl.ext e3
 have a2:=hBy.ext e3
 generalize setCells (w3.alloc (.cells ip0.toArray 65)) ⟨w3.heap.size,0,none⟩ 0 [.int .i64 2,nsl,.slice (some ⟨b,0,none⟩) 1 1]=V5 at p3 e3 a1 a2 ⊢
 have y5:=e0.trans e3
 have x7:=x6.trans y5
 intro K hK
 rw [show (((0:Int)==0)&&true)=true from rfl,cond_true]
 have m1:=(yE V5).alloc (.cells [Value.string t1].toArray 9)
 have d1:=yN V5 [Value.string t1] 9
 have d2:Ext V1 V5:=(y3.trans y4).trans y5
 refine⟨_,_,_,_,_,(p1.ext d2).blk.all,yC (c52 (X:={ m:=1,n:=fun _=>1,C:=fun _ _=>t1,rel:=fun _=>1,K:=fun _=>t2 }) (Y:={ m:=1,n:=fun _=>1,C:=fun _ _=>t1,rel:=fun _=>1,K:=fun _=>t2 }) (A:=⟨fun _=>p,fun _=>cc⟩) (B:=⟨fun _=>some ⟨V5.heap.size,0,none⟩,fun _=>1⟩) (i:=0) (k:=0) (by show 1<=1048576;decide) _ ((b9.ext d2).ext m1) d1.blk.sl) ?_⟩
 rintro v w5 ⟨⟨x,rfl,hx⟩,e4⟩
 obtain rfl:x=true:=hx.2 ⟨rfl,rfl,rfl,fun _ _=>rfl⟩
 have y6:=m1.trans e4
 have x8:=x7.trans y6
 have u:=y5.trans y6
 refine⟨_,rfl,?_⟩
 rw [show (true&&((0:Int)==0))=true from rfl,cond_true]
 refine⟨_,(p2.ext u).blk.cell (j:=0) rfl,?_⟩
 rw [show ((1:Int)==1)=true from rfl,cond_true]
 refine⟨_,_,_,(p2.ext u).blk.cell (j:=1) rfl,?_⟩
 have e6:Sm6 (sysX (gX tm1 t0) 1):=smallX.sm (X:=gX tm1 t0) (n:=1) ⟨by decide,a9.2⟩ (by decide) o.nat
 refine yC (c24 (X:=gX tm1 t0) (nx:=1) (ca:=2) (cx:=1) (t:=fun j=>mk (txtQ (pt j))) (a9.tame (by decide)) (by decide) (fun j hj=>Nat.le_trans (mk_size (hptd j hj)) (by decide)) (fun S x hS hn hx=>(dots_pt e6 hptd o.nat S x hS hn hx).1) w5 (rO.ext (y4.trans u)) (Box.ext a3 u).blk.sl) ?_
 rintro v w6 ⟨⟨b3,rfl,d6⟩,b8⟩
 obtain rfl:b3=true:=d6.2 (holdsP_iff.2 (holdsX_of o.nat (tSat_back o hsat).1))
 refine⟨_,rfl,?_⟩
 rw [show (true&&((0:Int)==0))=true from rfl,cond_true]
 have s:=y6.trans b8
 have x9:=x8.trans b8
 refine⟨_,(p3.ext s).blk.cell (j:=0) rfl,?_⟩
 rw [show ((2:Int)==2)=true from rfl,cond_true]
 refine⟨_,_,_,(p3.ext s).blk.cell (j:=2) rfl,?_⟩
 have d0:=d.tame (by decide)
 have sP:=tSys_smP d (n:=1) (by decide) okL
 have lok:zCE (tSys (gX tm2 tm5) 1) (lfY y) 0:=lf_ok rfl href
 have lsm:lfSm (tSys (gX tm2 tm5) 1) (lfY y) 0:=lf_sm sP rfl hyd
 have a4:=lf_mem (a1.ext s) (a2.ext s)
 refine yC (c54 (X:=gX tm2 tm5) (Y:=lfY y) (n:=1) (rc:=2) (pc:=1) (some 1) d d0 w6 (rL.ext x9) a4 fun _ _ w2 p c' A' he hR=>?_) ?_
 ·refine (c105leaf (S:=tSys (gX tm2 tm5) 1) (i:=0) (rc:=c') (pc:=1) sP (show 1<=60 by decide) lsm (show 0<1 by decide) rfl w2 hR (a4.ext he)).mono ?_
  rintro v w' ⟨rfl,h2⟩
  refine⟨?_,h2⟩
  rw [if_pos lok]
 rintro v w7 ⟨⟨b4,rfl,a5⟩,a6⟩
 obtain rfl:b4=true:=a5.2 ⟨okL,show 0<1 by decide,rfl⟩
 refine⟨_,rfl,?_⟩
 rw [cond_true]
 have e7:=s.trans a6
 have xa:=x9.trans a6
 have b7:=a4.ext a6
 refine⟨_,_,_,(p3.ext e7).blk.cell (j:=2) rfl,?_⟩
 refine yC (c53 (X:=gX tm2 tm5) (Y:=lfY y) (n:=1) (rc:=2) (pc:=1) (some 1) d d0 w7 (rL.ext xa) b7 (l.ext xa) fun _ w2 b0 rb Rl he e8 bA bP bN bF d4=>?_) ?_
 ·have kx : ∀ w',But b0 w2 w'->Ext w7 w':=fun w' ho=>Below.trans he (ho.below (B:=w7.heap.size) (by omega) he.size)
  have h:=c100leaf (S:=tSys (gX tm2 tm5) 1) (Y:=lfY y) (i:=0) (pc:=2) (b3:=b0+1) sP (show 1<=60 by decide) (fun _=>lsm) (fun _=>rfl) w2 bA bP bN (by omega) (by omega) (fun w' ho=>b7.ext (kx w' ho)) (d4.kpt (by omega)) (fun w' ho=>(l.ext xa).ext (kx w' ho))
  rw [if_pos ⟨show 0<1 by decide,lok⟩] at h
  exact h
 rintro v w8 ⟨⟨b5,rfl,d7⟩,e5⟩
 obtain rfl:b5=true:=d7.2 ⟨okL,rfl⟩
 exact⟨_,rfl,hK _ _ ⟨rfl,a8.trans (xa.trans e5)⟩⟩
open Classical in
noncomputable def tigN (X:TX) (i:Nat):Nat:=if okT X i/\tOk (X.n i) (rC X i) (rR X i) (rK X i) then X.n i else 0
open Classical in
noncomputable def tigR (X:TX) (i:Nat):Int:=if okT X i/\tOk (X.n i) (rC X i) (rR X i) (rK X i) then (tRel (X.n i) (rC X i) (rR X i):Nat) else 0
open Classical in
noncomputable def tigK (X:TX) (i:Nat):BA:=if okT X i/\tOk (X.n i) (rC X i) (rR X i) (rK X i) then mk (txtQ (tK (X.n i) (rC X i) (rR X i) (rK X i))) else { data:=#[] }
noncomputable def tigC (X:TX) (i:Nat):Nat->BA:=fun j=>mk (txtQ (tC (X.n i) (rC X i) j))
open Classical in
noncomputable def tigB (X:TX) (i:Nat):Bool:=decide (okT X i/\tOk (X.n i) (rC X i) (rR X i) (rK X i))
open Classical in
noncomputable def tigE (X:TX) (i:Nat):Int:=if okT X i then 0 else 1
open Classical in
theorem TigX.row {X:TX} {i:Nat} {w:World} {v:Value} (h:TigX X i w v) : ∃ p c,v = .tuple #[.agg #[.slice p (tigN X i) c,.int .i64 (tigR X i),.string (tigK X i)],.bool (tigB X i),.int .i64 (tigE X i)]/\SS w p (tigC X i) (tigN X i):=by
 unfold tigN tigR tigK tigB tigE
 rcases h with ⟨h,rfl⟩ | ⟨h,⟨h2,rfl⟩ | ⟨h2,p,c,sK,rfl,hs,ho⟩⟩
 ·rw [if_neg (fun hh=>h hh.1),if_neg (fun hh=>h hh.1),if_neg (fun hh=>h hh.1),if_neg h,decide_eq_false (fun hh=>h hh.1)]
  exact⟨none,0,rfl,.inl rfl⟩
 ·rw [if_neg (fun hh=>h2 hh.2),if_neg (fun hh=>h2 hh.2),if_neg (fun hh=>h2 hh.2),if_pos h,decide_eq_false (fun hh=>h2 hh.2)]
  exact⟨none,0,rfl,.inl rfl⟩
 ·rw [if_pos ⟨h,h2⟩,if_pos ⟨h,h2⟩,if_pos ⟨h,h2⟩,if_pos h,decide_eq_true ⟨h,h2⟩]
  obtain rfl:sK=mk (txtQ (tK (X.n i) (rC X i) (rR X i) (rK X i))):=zDF (by rw [bs_mk,hs])
  exact⟨p,c,rfl,zAJ ho⟩
set_option maxHeartbeats 1000000 in
theorem c45 {X:TX} {A:TA} {Y:PX} {B:PA} {n:Int} {a pa:OA} {c pc:Nat} (w:World) (ha:RowsT w a X A) (hY:CutsT w pa Y B) :
  Ret prog 45 #[.int .i64 n,.slice a X.m c,.slice pa Y.m pc] w fun v w'=>(∃ b,v = .bool b/\(b=false->n<=5/\smallX X 12 60/\smallY Y))/\w' = w:=by
 refine run45 _ _ _ _ _ _ _ _ _ fun K hK=>?_
 have no:K [.bool true] w:=hK true w (by rw [cond_true];exact⟨⟨true,rfl,fun h=>by cases h⟩,rfl⟩)
 refine zAe (fun _=>no) (fun hn=>?_)
 refine yC (c61 (most:=12) (by decide) w ha) ?_
 rintro v w4 ⟨⟨b,rfl,hb⟩,rfl⟩
 refine⟨_,rfl,?_⟩
 cases b with
 | true=>rw [cond_true];exact no
 | false =>
 have hs:=hb rfl
 rw [cond_false]
 by_cases hp:((Y.m:Nat):Int)>60
 ·rw [decide_eq_true hp];exact no
 rw [decide_eq_false hp]
 refine hK false _ ?_
 rw [cond_false]
 clear no hK
 refine⟨fun vals w1=>∃ i:Nat,vals=[.int .i64 i]/\i<=Y.m/\(∀ k,k<i->Y.cN k<=10/\(∀ j,j<Y.cN k->(Y.C k j).size<=60)/\(Y.K k).size<=60/\Y.fN k<=80/\∀ j,j<Y.fN k->(Y.F k j).size<=60)/\w1=w4,mu1 Y.m,⟨0,rfl,Nat.zero_le _,fun k hk=>by omega,rfl⟩,?_⟩
 rintro m1 w1 ⟨i,hv,hi,f,rfl⟩
 cases hv
 refine zAe (fun g=>?_) (fun a0=>?_)
 ·have d:i<Y.m:=by omega
  obtain⟨ad,l,x⟩:=hY.get d
  have hc:=vcells_all x
  intro K1 p
  have o:K1 [.bool true] w1:=p true w1 (by rw [cond_true];exact⟨⟨true,rfl,fun h=>by cases h⟩,rfl⟩)
  refine⟨ad,l,⟨by omega,g⟩,_,_,_,hc 1 _ rfl,yC (c46 (most:=10) (by decide) w1 (hY.2 i d).1) ?_⟩
  rintro v w4 ⟨⟨b2,rfl,s⟩,rfl⟩
  refine⟨_,rfl,?_⟩
  cases b2 with
  | true=>rw [cond_true];exact o
  | false =>
  rw [cond_false]
  refine⟨ad,l,⟨by omega,g⟩,_,_,_,hc 3 _ rfl,yC (c46 (most:=80) (by decide) w4 (hY.2 i d).2) ?_⟩
  rintro v w5 ⟨⟨b3,rfl,u⟩,rfl⟩
  refine⟨_,rfl,?_⟩
  cases b3 with
  | true=>rw [cond_true];exact o
  | false =>
  rw [cond_false]
  refine⟨ad,l,⟨by omega,g⟩,_,hc 2 _ rfl,?_⟩
  by_cases hk:(((Y.K i).size:Nat):Int)>60
  ·rw [decide_eq_true hk];exact o
  rw [decide_eq_false hk]
  refine p false _ ?_
  rw [cond_false,zAf (by omega)]
  obtain⟨g1,g2⟩:=s rfl
  obtain⟨g3,g4⟩:=u rfl
  refine⟨⟨i+1,rfl,d,fun k a1=>?_,rfl⟩,by simp only [mu1,yT];omega⟩
  by_cases e:k=i
  ·rw [e];exact⟨by omega,g2,by omega,by omega,g4⟩
  ·exact f k (by omega)
 ·have:i=Y.m:=by omega
  subst this
  exact⟨⟨false,rfl,fun _=>⟨by omega,hs,by omega,f⟩⟩,rfl⟩
open Classical in
theorem tigB_iff {X:TX} {i:Nat} : tigB X i=true↔okT X i/\tOk (X.n i) (rC X i) (rR X i) (rK X i):=by
 unfold tigB
 exact decide_eq_true_iff
def noY:PX:={ m:=0,leaf:=fun _=>false,cN:=fun _=>0,C:=fun _ _=>t0,K:=fun _=>t0,fN:=fun _=>0,F:=fun _ _=>t0 }
def noB:PA:=⟨fun _=>none,fun _=>0,fun _=>none,fun _=>0⟩
theorem noY_mem (w:World):CutsT w none noY noB:=⟨.inl rfl,fun i hi=>by cases hi⟩
set_option maxHeartbeats 2000000 in
theorem c12 {X:TX} {A:TA} {n bud:Int} {a fa:OA} {c fn fc:Nat} {t:Nat->BA} (w:World) (hR:RowsT w a X A) (hF:SS w fa t fn) (hg:Gl w) :
  Ret prog 12 #[.int .i64 n,.slice a X.m c,.slice fa fn fc,.int .i64 bud] w fun v w'=>v = .bool true/\Ext w w':=by
 refine run12 _ _ _ _ _ _ _ _ _ _ fun K hK=>?_
 have yes : ∀ w1,Ext w w1->K [.bool true] w1:=by
  intro w1 h1
  refine hK true w1 ?_
  rw [cond_true]
  refine yC (c47 w1 (hg.ext h1)) ?_
  rintro v w2 ⟨rfl,he⟩
  exact⟨_,rfl,rfl,h1.trans he⟩
 refine yC (c45 (Y:=noY) (B:=noB) (n:=n) (pc:=0) w hR (noY_mem w)) ?_
 rintro v w1 ⟨⟨b,rfl,hb⟩,rfl⟩
 refine⟨_,rfl,?_⟩
 cases b with
 | true=>rw [cond_true];exact yes _ (yE _)
 | false =>
 obtain⟨b9,d,_⟩:=hb rfl
 rw [cond_false]
 refine yC (c46 (most:=20) (by decide) w1 hF) ?_
 rintro v w2 ⟨⟨b,rfl,a7⟩,rfl⟩
 refine⟨_,rfl,?_⟩
 by_cases hbad:(b||decide (bud<0)||decide (bud>60))=true
 ·rw [hbad,cond_true];exact yes _ (yE _)
 rw [Bool.not_eq_true] at hbad
 rw [hbad,cond_false]
 simp only [Bool.or_eq_false_iff,decide_eq_false_iff_not] at hbad
 obtain⟨⟨rfl,a9⟩,b1⟩:=hbad
 obtain⟨d1,a1⟩:=a7 rfl
 have a5:=d.tame (by decide)
 refine yC (c29 a5 w2 hR) ?_
 rintro v w3 ⟨⟨b,rfl,a8⟩,o⟩
 refine⟨_,rfl,?_⟩
 cases b with
 | false=>exact yes _ o
 | true =>
 have l:=a8.1 rfl
 refine hK _ _ ?_
 rw [Bool.not_true,cond_false]
 clear yes hK
 have d4:=l.1
 obtain⟨nn,rfl⟩ : ∃ nn:Nat,n=nn:=⟨n.toNat,by omega⟩
 have a2 : ∀ j,j<fn->(t j).size<=200000000:=fun j hj=>Nat.le_trans (a1 j hj) (by decide)
 have sm:=smallX.sm (n:=nn) ⟨by have:=d.1;omega,d.2⟩ (by omega) l.nat
 refine yC (c27 (n:=(nn:Int)) a5 (by omega) a2 (fun _ d3 s=>sm.dotsZ fun k hk=>(rd_dg (s k (by have:k<X.m:=hk;omega)) (a1 k (by have:k<X.m:=hk;omega))).mono (by decide)) w3 (hR.ext o) (hF.ext o)) ?_
 rintro v w4 ⟨⟨b2,rfl,u⟩,b3⟩
 have d0:=o.trans b3
 refine⟨_,rfl,fun vals w1=>∃ (i:Nat) (b:Bool),vals=[.int .i64 i,.bool b]/\i<=X.m/\(b=true↔b2=true\/∃ k,k<i/\¬ tOk nn (rC X k) (rR X k) (rK X k))/\Ext w2 w1,mu1 X.m,⟨0,b2,rfl,Nat.zero_le _,by simp,d0⟩,?_⟩
 rintro m1 b0 w1 ⟨i,b,hv,hi,a0,he⟩
 cases hv
 have hm:=d.1
 refine zAe (fun b8=>?_) (fun d2=>?_)
 ·have g:i<X.m:=by omega
  obtain⟨ad,ha,hc⟩:=(hR.ext he).get g
  obtain⟨q1,q2,q3,q4,q5⟩:=l.2.2.2 i g
  have a3:X.n i=nn:=by omega
  refine⟨ad,ha,⟨by omega,b8⟩,_,_,_,_,_,hc,yC (c48 (A:=A) ⟨(d.2 i g).1,(d.2 i g).2.1,(d.2 i g).2.2⟩ w1 ((hR.ext he).2 i g)) ?_⟩
  rintro v w5 ⟨hT,b4⟩
  obtain⟨p,cc,rfl,_⟩:=hT.row
  have n1:=yN w5 zrow 49
  refine⟨_,_,_,_,_,_,_,rfl,n1.blk.writable (by decide),?_⟩
  have e1:Ext w5 (setCells (w5.alloc (.cells zrow.toArray 49)) ⟨w5.heap.size,0,none⟩ 0 [.slice p (tigN X i) cc,.int .i64 (tigR X i),.string (tigK X i)]):=((yE w5).alloc _).put yL _ _
  rw [zAf (by omega)]
  refine⟨⟨i+1,_,rfl,g,?_,(he.trans b4).trans e1⟩,by simp only [mu1,yT];omega⟩
  have a4:okT X i:=⟨by omega,by rw [a3];exact⟨by omega,q2,q3,q4,q5⟩⟩
  have hB:tigB X i=true↔tOk nn (rC X i) (rR X i) (rK X i):=by
   rw [tigB_iff,a3]
   exact⟨fun h=>h.2,fun h=>⟨a4,h⟩⟩
  rw [Bool.or_eq_true,a0,Bool.not_eq_true',<- Bool.not_eq_true,hB]
  constructor
  ·rintro ((h | ⟨k,hk,h⟩) | h)
   ·exact .inl h
   ·exact .inr ⟨k,by omega,h⟩
   ·exact .inr ⟨i,by omega,h⟩
  ·rintro (h | ⟨k,hk,h⟩)
   ·exact .inl (.inl h)
   ·by_cases e:k=i
    ·subst e;exact .inr h
    ·exact .inl (.inr ⟨k,by omega,h⟩)
 ·have ei:i=X.m:=by omega
  subst ei
  cases b0 with
  | false =>
   rw [Bool.not_false,cond_true]
   refine yC (c47 w1 (hg.ext he)) ?_
   rintro v w6 ⟨rfl,b5⟩
   exact⟨_,rfl,rfl,he.trans b5⟩
  | true =>
   rw [Bool.not_true,cond_false]
   have uns : ∀ x,¬ Sat (tSys X nn) x:=by
    intro x hx
    obtain⟨h1,h2⟩:=tSat_back l hx
    rcases a0.1 rfl with h | ⟨k,hk,h⟩
    ·exact farkas (u.1 h).2.2.2 h1
    ·exact h (h2 k hk)
   refine yC (c49r (n:=(nn:Int)) (bud:=bud) d b9 (fun _ f s' h=>(uns _ (zFp h)).elim) w1 (hR.ext he) (hg.ext he)) ?_
   rintro v w7 ⟨hI,b6⟩
   rcases hI with ⟨h,_⟩ | ⟨_,⟨y,b,b',rfl,_⟩ | ⟨_,x,_,_,h,_⟩⟩
   rotate_right
   ·exact absurd h (uns x)
   ·exact absurd ⟨l,by omega,by omega⟩ h
   have n3:=yN w7 ip0 65
   have p3:=n3.put [.int .i64 2,nsl,.slice (some ⟨b,0,none⟩) 1 1] (by rfl)
   have e3:Ext w7 (setCells (w7.alloc (.cells ip0.toArray 65)) ⟨w7.heap.size,0,none⟩ 0 [.int .i64 2,nsl,.slice (some ⟨b,0,none⟩) 1 1]):=((yE w7).alloc _).put yL _ _
   refine⟨_,_,_,_,_,_,_,_,rfl,n3.blk.writable (by decide),fun K1 a6=>?_⟩
   rw [show ((0:Int)==0)=true from rfl,cond_true]
   refine⟨_,p3.blk.cell (j:=0) rfl,?_⟩
   rw [show ((2:Int)==2)=true from rfl,cond_true]
   have xa:=he.trans (b6.trans e3)
   change Called _ 47 _ (setCells (w7.alloc (.cells ip0.toArray 65)) ⟨w7.heap.size,0,none⟩ 0 [.int .i64 2,nsl,.slice (some ⟨b,0,none⟩) 1 1]) _
   refine yC (c47 _ (hg.ext xa)) ?_
   rintro v w9 ⟨rfl,b7⟩
   exact⟨_,rfl,a6 _ _ ⟨rfl,xa.trans b7⟩⟩
end Go.Proofs.Si
