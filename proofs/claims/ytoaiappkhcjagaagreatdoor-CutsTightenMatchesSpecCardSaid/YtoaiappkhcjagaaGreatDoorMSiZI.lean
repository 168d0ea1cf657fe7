/- Part of the proof: SiZI, SiZJ. -/
import Derived.Test.YtoaiappkhcjagaaGreatDoorMSiZC
set_option linter.unusedVariables false
set_option linter.unusedSimpArgs false
namespace Go.Proofs.Si
open Go Go.V Go.Proofs Go.RowKit Go.Num Go.Tb Go.Proofs.Tryz
set_option maxRecDepth 100000
theorem gX_rows {w:World} {b1 b2 rb:Nat} {c k:BA} (h1:SS w (some ⟨b1,0,none⟩) (fun _=>t2) 1) (h2:Box w b2 9 [.string c]) (hr:Box w rb 49 [.slice (some ⟨b1,0,none⟩) 1 1,.int .i64 1,.string t5,.slice (some ⟨b2,0,none⟩) 1 1,.int .i64 1,.string k]) :
  RowsT w (some ⟨rb,0,none⟩) (gX c k) ⟨fun i=>if i=0 then some ⟨b1,0,none⟩ else some ⟨b2,0,none⟩,fun _=>1⟩:=by
 refine⟨hr.blk.sl,fun i hi=>?_⟩
 show SS w (if i=0 then _ else _) (fun _=>if i=0 then t2 else c) 1
 by_cases e:i=0
 ·rw [if_pos e,if_pos e];exact h1
 ·rw [if_neg e,if_neg e];exact h2.blk.sl
abbrev ip0:List Value:=[.int .i64 0,.slice none 0 0,.slice none 0 0]
def lfY (y:Nat->Rat):PX:={ m:=1,leaf:=fun _=>true,cN:=fun _=>0,C:=fun _ _=>t0,K:=fun _=>{ data:=#[] },fN:=fun _=>2,F:=fun _ k=>mk (txtQ (y k)) }
theorem lf_ok {S:Tb.Sys} {y:Nat->Rat} (hm:S.m=2) (h:zBg S y):zCE S (lfY y) 0:=by
 refine⟨hm.symm,fun k _=>ok_of (bs_mk _),?_⟩
 have e:(fun k=>rd (mk (txtQ (y k))))=y:=funext fun k=>rd_mk _
 show zBg S fun k=>rd (mk (txtQ (y k)))
 rw [e];exact h
theorem lf_sm {S:Tb.Sys} {y:Nat->Rat} (hS:SmP S) (hm:S.m=2) (hy : ∀ k,dg 2000000 (y k)):lfSm S (lfY y) 0:=by
 refine⟨by show 2<=1000;decide,fun j _=>Nat.le_trans (mk_size (hy j)) (by decide),fun _ _=>?_⟩
 have e:(fun k=>rd (mk (txtQ (y k))))=y:=funext fun k=>rd_mk _
 show (∀ k,k<S.m->dg 60000000 (rd (mk (txtQ (y k)))))/\DotsZ S (fun k=>rd (mk (txtQ (y k)))) 60000000
 rw [e]
 refine⟨fun k _=>by rw [rd_mk];exact (hy k).mono (by decide),?_⟩
 exact {
  p:=fun k hk j hj=>((hy k).mul (hS.C k hk j hj)).mono (by decide)
  c:=fun i hi j hj=>(sum_dg (h:=2001000) fun k hk=>((hy k).mul (hS.C k (by omega) j hj)).mono (by decide)).mono (by omega)
  pk:=fun k hk=>((hy k).mul (hS.K k hk)).mono (by decide)
  k:=fun i hi=>(sum_dg (h:=2001000) fun k hk=>((hy k).mul (hS.K k (by omega))).mono (by decide)).mono (by omega) }
theorem lf_mem {w:World} {b b' : Nat} {y:Nat->Rat} (h:Box w b 115 (ltc b' 2)) (h' : Box w b' 9 (SL (fun i=>mk (txtQ (y i))) 2)):CutsT w (some ⟨b,0,none⟩) (lfY y) ⟨fun _=>none,fun _=>0,fun _=>some ⟨b',0,none⟩,fun _=>2⟩ :=
 ⟨h.blk.sl,fun i hi=>⟨.inl rfl,h'.blk.sl⟩⟩
theorem RowsO.kpt {b0 B b:Nat} {w:World} {S:Tb.Sys} {R:RowL} (h:RowsO B w b S R) (hb:b0<B):Kpt b0 w fun w=>RowsR w (some ⟨b,0,none⟩) S R:=fun w' ho =>
 RowsO.rows (B:=B) ⟨h.1,h.2.1.same (ho.block _ (by have:=h.1;omega) h.2.1.lt),fun i hi=>zAZ (h.2.2 i hi) fun k hk=>by
  have:=World.ownsRow.lt (h.2.2 i hi) k hk
  exact ho.block k (by omega) this.2⟩
set_option maxHeartbeats 2000000 in
theorem c47 (w:World) (hg:Gl w):Ret prog 47 #[] w fun v w'=>v = .bool true/\Ext w w':=by
 refine run47 _ _ ?_
 unfold vc47
 rw [show (Obj.cells #[Value.string { data:=#[50] }] 9) = .cells [Value.string t2].toArray 9 from rfl,show (Obj.cells #[Value.string { data:=#[45,50] }] 9) = .cells [Value.string tm2].toArray 9 from rfl]
 have z1:=(yE w).alloc (.cells [Value.string t2].toArray 9)
 have b1:=yN w [Value.string t2] 9
 generalize w.alloc (.cells [Value.string t2].toArray 9)=W1 at z1 b1 ⊢
 have z2:=(yE W1).alloc (.cells [Value.string tm2].toArray 9)
 have b2:=yN W1 [Value.string tm2] 9
 have b6:=b1.ext z2
 generalize W1.alloc (.cells [Value.string tm2].toArray 9)=W2 at z2 b2 b6 ⊢
 have z3:=(yE W2).alloc (.cells [Value.slice (some ⟨w.heap.size,0,none⟩) 1 1,.int .i64 1,.string t5,.slice (some ⟨W1.heap.size,0,none⟩) 1 1,.int .i64 1,.string tm5].toArray 49)
 have b3:=yN W2 [Value.slice (some ⟨w.heap.size,0,none⟩) 1 1,.int .i64 1,.string t5,.slice (some ⟨W1.heap.size,0,none⟩) 1 1,.int .i64 1,.string tm5] 49
 rw [show (Obj.cells #[Value.slice (some ⟨w.heap.size,0,none⟩) 1 1,.int .i64 1,.string { data:=#[53] },.slice (some ⟨W1.heap.size,0,none⟩) 1 1,.int .i64 1,.string { data:=#[45,53] }] 49) = .cells [Value.slice (some ⟨w.heap.size,0,none⟩) 1 1,.int .i64 1,.string t5,.slice (some ⟨W1.heap.size,0,none⟩) 1 1,.int .i64 1,.string tm5].toArray 49 from rfl]
 have g:=b6.ext z3
 have a0:=b2.ext z3
 have a8:=(z1.trans z2).trans z3
 generalize W2.alloc (.cells [Value.slice (some ⟨w.heap.size,0,none⟩) 1 1,.int .i64 1,.string t5,.slice (some ⟨W1.heap.size,0,none⟩) 1 1,.int .i64 1,.string tm5].toArray 49)=W3 at z3 b3 g a0 a8 ⊢
 have rL:=gX_rows (c:=tm2) (k:=tm5) g.blk.sl a0 b3
 have l:=hg.ext a8
 have okL:=gX_ok (c:=tm2) (k:=tm5) bs_tm2 bs_tm5
 have o:=gX_ok (c:=tm1) (k:=t0) bs_tm1 bs_t0
 have d:=gX_small (c:=tm2) (k:=tm5) (by decide) (by decide)
 have a6:=gX_small (c:=tm1) (k:=t0) (by decide) (by decide)
 have hb:vcells W3 ⟨W2.heap.size,0,none⟩ 0 (rtc (gX tm2 tm5) ⟨fun i=>if i=0 then some ⟨w.heap.size,0,none⟩ else some ⟨W1.heap.size,0,none⟩,fun _=>1⟩ 0):=by
  obtain⟨ad,h1,h2⟩:=rL.get (i:=0) (by show 0<2;decide)
  cases h1
  exact h2
 refine⟨_,rfl,⟨by decide,by decide⟩,_,_,_,_,_,hb,yC (c51 (X:=gX tm2 tm5) (A:=⟨fun i=>if i=0 then some ⟨w.heap.size,0,none⟩ else some ⟨W1.heap.size,0,none⟩,fun _=>1⟩) (i:=0) ⟨(d.2 0 (by show 0<2;decide)).1,by show 1<=60;decide,(d.2 0 (by show 0<2;decide)).2.2⟩ W3 (rL.2 0 (by show 0<2;decide)) l) ?_⟩
 rintro v w1 ⟨hT,e6⟩
 have ot:=zEU (C:=rC (gX tm2 tm5) 0) (z:=2) (K:=rK (gX tm2 tm5) 0) (rd_of bs_t2) (by rw [show rC (gX tm2 tm5) 0 0=2 from rd_of bs_t2];decide)
 have g0:=zDq (c:=tm2) (k:=tm5)
 have eC:tC 1 (rC (gX tm2 tm5) 0) 0=1:=by rw [<- g0.1];exact (congrFun (if_pos ot.1) 0).symm
 have eK:tK 1 (rC (gX tm2 tm5) 0) 1 (rK (gX tm2 tm5) 0)=2:=by rw [<- g0.2.2];exact (if_pos ot.1).symm
 rcases hT with ⟨h,_⟩ | ⟨_,⟨h,_⟩ | ⟨_,p,cc,sK,rfl,a7,hown⟩⟩
 ·exact absurd ⟨by show 1<=40;decide,okL.2.2.2 0 (by show 0<2;decide)⟩ h
 ·exact absurd ot.1 h
 have a7:bs sK=txtQ (tK 1 (rC (gX tm2 tm5) 0) 1 (rK (gX tm2 tm5) 0)):=a7
 have d6:sK=t2:=zDF (by rw [a7,eK,bs_t2])
 subst d6
 have d8:SS w1 p (fun _=>t1) 1:=by
  have h:=zAJ hown
  have e:SL (fun j=>mk (txtQ (tC ((gX tm2 tm5).n 0) (rC (gX tm2 tm5) 0) j))) ((gX tm2 tm5).n 0)=SL (fun _=>t1) 1:=by
   show [Value.string (mk (txtQ (tC 1 (rC (gX tm2 tm5) 0) 0)))]=[.string t1]
   rw [eC,<- bs_t1,mk_bs]
  rw [e] at h
  exact h
 rw [show ((tRel ((gX tm2 tm5).n 0) (rC (gX tm2 tm5) 0) (rR (gX tm2 tm5) 0):Nat):Int)=1 from congrArg _ ot.2.1,show (gX tm2 tm5).n 0=1 from rfl]
 have n1:=yN w1 zrow 49
 have p1:=n1.put [.slice p 1 cc,.int .i64 1,.string t2] (by rfl)
 have e1:Ext w1 (setCells (w1.alloc (.cells zrow.toArray 49)) ⟨w1.heap.size,0,none⟩ 0 [.slice p 1 cc,.int .i64 1,.string t2]):=((yE w1).alloc _).put yL _ _
 refine⟨_,_,_,_,_,_,_,rfl,n1.blk.writable (by decide),?_⟩
 have d2:SS _ p (fun _=>t1) 1:=d8.ext e1
 generalize setCells (w1.alloc (.cells zrow.toArray 49)) ⟨w1.heap.size,0,none⟩ 0 [.slice p 1 cc,.int .i64 1,.string t2]=V1 at p1 e1 d2 ⊢
 have x4:=e6.trans e1
 have a9:vcells V1 ⟨W2.heap.size,0,none⟩ 0 [.slice (some ⟨w.heap.size,0,none⟩) 1 1,.int .i64 1,.string t5]:=by
  obtain⟨ad,h1,h2⟩:=(rL.ext x4).get (i:=0) (by show 0<2;decide)
  cases h1
  exact h2
 refine⟨_,rfl,⟨by decide,by decide⟩,_,_,_,_,_,a9,?_⟩
 have y1:=(yE V1).alloc (.cells [Value.string tm1].toArray 9)
 have c1:=yN V1 [Value.string tm1] 9
 rw [show (Obj.cells #[Value.string { data:=#[45,49] }] 9) = .cells [Value.string tm1].toArray 9 from rfl]
 generalize V1.alloc (.cells [Value.string tm1].toArray 9)=V2 at y1 c1 ⊢
 have y2:=(yE V2).alloc (.cells [Value.slice (some ⟨w.heap.size,0,none⟩) 1 1,.int .i64 1,.string t5,.slice (some ⟨V1.heap.size,0,none⟩) 1 1,.int .i64 1,.string t0].toArray 49)
 have c2:=yN V2 [Value.slice (some ⟨w.heap.size,0,none⟩) 1 1,.int .i64 1,.string t5,.slice (some ⟨V1.heap.size,0,none⟩) 1 1,.int .i64 1,.string t0] 49
 rw [show (Obj.cells #[Value.slice (some ⟨w.heap.size,0,none⟩) 1 1,.int .i64 1,.string { data:=#[53] },.slice (some ⟨V1.heap.size,0,none⟩) 1 1,.int .i64 1,.string { data:=#[48] }] 49) = .cells [Value.slice (some ⟨w.heap.size,0,none⟩) 1 1,.int .i64 1,.string t5,.slice (some ⟨V1.heap.size,0,none⟩) 1 1,.int .i64 1,.string t0].toArray 49 from rfl]
 generalize V2.alloc (.cells [Value.slice (some ⟨w.heap.size,0,none⟩) 1 1,.int .i64 1,.string t5,.slice (some ⟨V1.heap.size,0,none⟩) 1 1,.int .i64 1,.string t0].toArray 49)=V3 at y2 c2 ⊢
 have y3:=y1.trans y2
 have x5:=x4.trans y3
 have rO:=gX_rows (w:=V3) (c:=tm1) (k:=t0) (g.ext x5).blk.sl (c1.ext y2) c2
 refine yC (c49r (X:=gX tm1 t0) (n:=1) (bud:=10) (c:=2) a6 (by decide) (fun _ f s' h j hj=>o_H f s' h j hj) V3 rO (l.ext x5)) ?_
 rintro v w2 ⟨hI,e0⟩
 rcases hI with ⟨h,_⟩ | ⟨_,⟨y,_,_,_,_,_,href,_⟩ | ⟨bp,pt,rfl,hTp,hsat,hint,hptd⟩⟩
 ·exact absurd ⟨o,by decide,by decide⟩ h
 ·exact (farkas href o_sat).elim
 have n2:=yN w2 ip0 65
 have p2:=n2.put [.int .i64 1,.slice (some ⟨bp,0,none⟩) 1 1,nsl] (by rfl)
 have e2:Ext w2 (setCells (w2.alloc (.cells ip0.toArray 65)) ⟨w2.heap.size,0,none⟩ 0 [.int .i64 1,.slice (some ⟨bp,0,none⟩) 1 1,nsl]):=((yE w2).alloc _).put yL _ _
 refine⟨_,_,_,_,_,_,_,_,rfl,n2.blk.writable (by decide),?_⟩
 rw [show ((1:Int).toNat)=1 from rfl]
 have a2:TxtsAt _ bp pt 1:=Box.ext hTp e2
 generalize setCells (w2.alloc (.cells ip0.toArray 65)) ⟨w2.heap.size,0,none⟩ 0 [.int .i64 1,.slice (some ⟨bp,0,none⟩) 1 1,nsl]=V4 at p2 e2 a2 ⊢
 have y4:=e0.trans e2
 have x6:=x5.trans y4
 refine yC (c49r (X:=gX tm2 tm5) (n:=1) (bud:=10) (c:=2) d (by decide) (fun _ f s' h=>(l_unsat _ (zFp h)).elim) V4 (rL.ext x6) (l.ext x6)) ?_
 rintro v w3 ⟨hI,d5⟩
 rcases hI with ⟨h,_⟩ | ⟨_,⟨y,b,b',rfl,hBl,hBy,href,hyd⟩ | ⟨_,x,_,_,h,_⟩⟩
 rotate_right
 ·exact absurd h (l_unsat x)
 ·exact absurd ⟨okL,by decide,by decide⟩ h
 have n3:=yN w3 ip0 65
 have p3:=n3.put [.int .i64 2,nsl,.slice (some ⟨b,0,none⟩) 1 1] (by rfl)
 have e3:Ext w3 (setCells (w3.alloc (.cells ip0.toArray 65)) ⟨w3.heap.size,0,none⟩ 0 [.int .i64 2,nsl,.slice (some ⟨b,0,none⟩) 1 1]):=((yE w3).alloc _).put yL _ _
 refine⟨_,_,_,_,_,_,_,_,rfl,n3.blk.writable (by decide),?_⟩
 have a1:=hBl.ext e3
 have a3:=hBy.ext e3
 generalize setCells (w3.alloc (.cells ip0.toArray 65)) ⟨w3.heap.size,0,none⟩ 0 [.int .i64 2,nsl,.slice (some ⟨b,0,none⟩) 1 1]=V5 at p3 e3 a1 a3 ⊢
 have y5:=d5.trans e3
 have x7:=x6.trans y5
 intro K hK
 rw [show (((0:Int)==0)&&true)=true from rfl,cond_true]
 have m1:=(yE V5).alloc (.cells [Value.string t1].toArray 9)
 have d1:=yN V5 [Value.string t1] 9
 have d0:Ext V1 V5:=(y3.trans y4).trans y5
 refine⟨_,_,_,_,_,(p1.ext d0).blk.all,yC (c52 (X:={ m:=1,n:=fun _=>1,C:=fun _ _=>t1,rel:=fun _=>1,K:=fun _=>t2 }) (Y:={ m:=1,n:=fun _=>1,C:=fun _ _=>t1,rel:=fun _=>1,K:=fun _=>t2 }) (A:=⟨fun _=>p,fun _=>cc⟩) (B:=⟨fun _=>some ⟨V5.heap.size,0,none⟩,fun _=>1⟩) (i:=0) (k:=0) (by show 1<=1048576;decide) _ ((d2.ext d0).ext m1) d1.blk.sl) ?_⟩
 rintro v w5 ⟨⟨x,rfl,hx⟩,e5⟩
 obtain rfl:x=true:=hx.2 ⟨rfl,rfl,rfl,fun _ _=>rfl⟩
 have y6:=m1.trans e5
 have x8:=x7.trans y6
 have u:=y5.trans y6
 refine⟨_,rfl,?_⟩
 rw [show (true&&((0:Int)==0))=true from rfl,cond_true]
 refine⟨_,(p2.ext u).blk.cell (j:=0) rfl,?_⟩
 rw [show ((1:Int)==1)=true from rfl,cond_true]
 refine⟨_,_,_,(p2.ext u).blk.cell (j:=1) rfl,?_⟩
 have e7:Sm6 (sysX (gX tm1 t0) 1):=smallX.sm (X:=gX tm1 t0) (n:=1) ⟨by decide,a6.2⟩ (by decide) o.nat
 refine yC (c24 (X:=gX tm1 t0) (nx:=1) (ca:=2) (cx:=1) (t:=fun j=>mk (txtQ (pt j))) (a6.tame (by decide)) (by decide) (fun j hj=>Nat.le_trans (mk_size (hptd j hj)) (by decide)) (fun S x hS hn hx=>(dots_pt e7 hptd o.nat S x hS hn hx).1) w5 (rO.ext (y4.trans u)) (Box.ext a2 u).blk.sl) ?_
 rintro v w6 ⟨⟨b3,rfl,d9⟩,b8⟩
 obtain rfl:b3=true:=d9.2 (holdsP_iff.2 (holdsX_of o.nat (tSat_back o hsat).1))
 refine⟨_,rfl,?_⟩
 rw [show (true&&((0:Int)==0))=true from rfl,cond_true]
 have s:=y6.trans b8
 have x9:=x8.trans b8
 refine⟨_,(p3.ext s).blk.cell (j:=0) rfl,?_⟩
 rw [show ((2:Int)==2)=true from rfl,cond_true]
 refine⟨_,_,_,(p3.ext s).blk.cell (j:=2) rfl,?_⟩
 have b7:=d.tame (by decide)
 have sP:=tSys_smP d (n:=1) (by decide) okL
 have lok:zCE (tSys (gX tm2 tm5) 1) (lfY y) 0:=lf_ok rfl href
 have lsm:lfSm (tSys (gX tm2 tm5) 1) (lfY y) 0:=lf_sm sP rfl hyd
 have a5:=lf_mem (a1.ext s) (a3.ext s)
 refine yC (c54 (X:=gX tm2 tm5) (Y:=lfY y) (n:=1) (rc:=2) (pc:=1) (some 1) d b7 w6 (rL.ext x9) a5 fun _ _ w2 p c' A' he hR=>?_) ?_
 ·refine (c105leaf (S:=tSys (gX tm2 tm5) 1) (i:=0) (rc:=c') (pc:=1) sP (show 1<=60 by decide) lsm (show 0<1 by decide) rfl w2 hR (a5.ext he)).mono ?_
  rintro v w' ⟨rfl,h2⟩
  refine⟨?_,h2⟩
  rw [if_pos lok]
 rintro v w7 ⟨⟨b4,rfl,a9⟩,a4⟩
 obtain rfl:b4=true:=a9.2 ⟨okL,show 0<1 by decide,rfl⟩
 refine⟨_,rfl,?_⟩
 rw [cond_true]
 have d4:=s.trans a4
 have xa:=x9.trans a4
 have b9:=a5.ext a4
 refine⟨_,_,_,(p3.ext d4).blk.cell (j:=2) rfl,?_⟩
 refine yC (c53 (X:=gX tm2 tm5) (Y:=lfY y) (n:=1) (rc:=2) (pc:=1) (some 1) d b7 w7 (rL.ext xa) b9 (l.ext xa) fun _ w2 b0 rb Rl he e8 bA bP bN bF d7=>?_) ?_
 ·have kx : ∀ w',But b0 w2 w'->Ext w7 w':=fun w' ho=>Below.trans he (ho.below (B:=w7.heap.size) (by omega) he.size)
  have h:=c100leaf (S:=tSys (gX tm2 tm5) 1) (Y:=lfY y) (i:=0) (pc:=2) (b3:=b0+1) sP (show 1<=60 by decide) (fun _=>lsm) (fun _=>rfl) w2 bA bP bN (by omega) (by omega) (fun w' ho=>b9.ext (kx w' ho)) (d7.kpt (by omega)) (fun w' ho=>(l.ext xa).ext (kx w' ho))
  rw [if_pos ⟨show 0<1 by decide,lok⟩] at h
  exact h
 rintro v w8 ⟨⟨b5,rfl,e4⟩,d3⟩
 obtain rfl:b5=true:=e4.2 ⟨okL,rfl⟩
 exact⟨_,rfl,hK _ _ ⟨rfl,a8.trans (xa.trans d3)⟩⟩
open Classical in
noncomputable def tigN (X:TX) (i:Nat):Nat:=if okT X i/\tOk (X.n i) (rC X i) (rR X i) (rK X i) then X.n i else 0
open Classical in
noncomputable def tigR (X:TX) (i:Nat):Int:=if okT X i/\tOk (X.n i) (rC X i) (rR X i) (rK X i) then (tRel (X.n i) (rC X i) (rR X i):Nat) else 0
open Classical in
noncomputable def tigK (X:TX) (i:Nat):BA:=if okT X i/\tOk (X.n i) (rC X i) (rR X i) (rK X i) then mk (txtQ (tK (X.n i) (rC X i) (rR X i) (rK X i))) else { data:=#[] }
noncomputable def tigC (X:TX) (i:Nat):Nat->BA:=fun j=>mk (txtQ (tC (X.n i) (rC X i) j))
open Classical in
noncomputable def tigB (X:TX) (i:Nat):Bool:=decide (okT X i/\tOk (X.n i) (rC X i) (rR X i) (rK X i))
open Classical in
noncomputable def tigE (X:TX) (i:Nat):Int:=if okT X i then 0 else 1
open Classical in
theorem TigX.row {X:TX} {i:Nat} {w:World} {v:Value} (h:TigX X i w v) : ∃ p c,v = .tuple #[.agg #[.slice p (tigN X i) c,.int .i64 (tigR X i),.string (tigK X i)],.bool (tigB X i),.int .i64 (tigE X i)]/\SS w p (tigC X i) (tigN X i):=by
 unfold tigN tigR tigK tigB tigE
 rcases h with ⟨h,rfl⟩ | ⟨h,⟨h2,rfl⟩ | ⟨h2,p,c,sK,rfl,hs,ho⟩⟩
 ·rw [if_neg (fun hh=>h hh.1),if_neg (fun hh=>h hh.1),if_neg (fun hh=>h hh.1),if_neg h,decide_eq_false (fun hh=>h hh.1)]
  exact⟨none,0,rfl,.inl rfl⟩
 ·rw [if_neg (fun hh=>h2 hh.2),if_neg (fun hh=>h2 hh.2),if_neg (fun hh=>h2 hh.2),if_pos h,decide_eq_false (fun hh=>h2 hh.2)]
  exact⟨none,0,rfl,.inl rfl⟩
 ·rw [if_pos ⟨h,h2⟩,if_pos ⟨h,h2⟩,if_pos ⟨h,h2⟩,if_pos h,decide_eq_true ⟨h,h2⟩]
  obtain rfl:sK=mk (txtQ (tK (X.n i) (rC X i) (rR X i) (rK X i))):=zDF (by rw [bs_mk,hs])
  exact⟨p,c,rfl,zAJ ho⟩
def conX (n:Nat) (C:Nat->BA) (rel:Int) (K:BA):TX:={ m:=1,n:=fun _=>n,C:=fun _=>C,rel:=fun _=>rel,K:=fun _=>K }
theorem one_row {w:World} {X:TX} {B:TA} {i:Nat} (hs:SS w (B.cA i) (X.C i) (X.n i)):RowsT (w.alloc (.cells (rtc X B i).toArray 49)) (some ⟨w.heap.size,0,none⟩) (oneX X i) (oneA B i) :=
 ⟨(yN w (rtc X B i) 49).blk.sl,fun _ _=>hs.ext ((yE w).alloc _)⟩
set_option maxHeartbeats 2000000 in
theorem c14 {X:TX} {B:TA} (hm:X.m=1) (w:World) (q:SS w (B.cA 0) (X.C 0) (X.n 0)) (hg:Gl w) :
  Ret prog 14 #[.agg #[.slice (B.cA 0) (X.n 0) (B.cC 0),.int .i64 (X.rel 0),.string (X.K 0)]] w fun v w'=>v = .bool true/\Ext w w':=by
 refine run14 _ _ _ _ _ _ _ fun K hK=>?_
 have z1:=(yE w).alloc (.cells (rtc X B 0).toArray 49)
 have bR:=yN w (rtc X B 0) 49
 rw [show (Obj.cells #[Value.slice (B.cA 0) (X.n 0) (B.cC 0),.int .i64 (X.rel 0),.string (X.K 0)] 49) = .cells (rtc X B 0).toArray 49 from rfl]
 generalize w.alloc (.cells (rtc X B 0).toArray 49)=W1 at z1 bR ⊢
 have yes:K [.bool true] W1:=by
  refine hK true W1 ?_
  rw [cond_true]
  refine yC (c47 W1 (hg.ext z1)) ?_
  rintro v w2 ⟨rfl,he⟩
  exact⟨_,rfl,rfl,z1.trans he⟩
 have q1:=q.ext z1
 refine⟨_,_,_,bR.blk.cell (j:=0) rfl,yC (c46 (most:=60) (by decide) W1 q1) ?_⟩
 rintro v s ⟨⟨b8,rfl,l⟩,rfl⟩
 refine⟨_,rfl,?_⟩
 cases b8 with
 | true=>rw [cond_true];exact yes
 | false =>
 obtain⟨hn,hc⟩:=l rfl
 rw [cond_false]
 refine⟨_,bR.blk.cell (j:=2) rfl,?_⟩
 by_cases hk:(((X.K 0).size:Nat):Int)>60
 ·rw [decide_eq_true hk];exact yes
 rw [decide_eq_false hk]
 refine hK false _ ?_
 rw [cond_false]
 clear yes hK l
 have h:sm60 X 0:=⟨by omega,by omega,hc⟩
 refine⟨_,_,_,_,_,bR.blk.all,?_⟩
 have r1:=one_row (i:=0) q1
 have z2:=(yE s).alloc (.cells (rtc X B 0).toArray 49)
 rw [show (Obj.cells #[Value.slice (B.cA 0) (X.n 0) (B.cC 0),.int .i64 (X.rel 0),.string (X.K 0)] 49) = .cells (rtc X B 0).toArray 49 from rfl]
 generalize s.alloc (.cells (rtc X B 0).toArray 49)=W2 at z2 r1 ⊢
 refine yC (c22 (X:=oneX X 0) (by show 1<=1000000;decide) (fun i _=>by show X.n 0<=1000000;omega) W2 r1) ?_
 rintro v w3 ⟨p,c',A',rfl,hO,a1⟩
 obtain⟨ad,rfl,o⟩:=hO.t.get (i:=0) (show 0<1 by decide)
 rw [show ad.add (0*3)=ad by simp [Addr.add]] at o
 have x3:=z2.trans a1
 have n1:=yN w3 zrow 49
 have p1:=n1.put (rtc (oneX X 0) A' 0) rfl
 have e1:Ext w3 (setCells (w3.alloc (.cells zrow.toArray 49)) ⟨w3.heap.size,0,none⟩ 0 (rtc (oneX X 0) A' 0)):=((yE w3).alloc _).put yL _ _
 refine⟨_,_,_,rfl,ad,rfl,⟨by decide,by show (0:Int)<((1:Nat):Int);decide⟩,_,_,_,_,_,o,n1.blk.writable (by decide),_,_,_,_,_,p1.blk.all,?_⟩
 change Called _ 51 _ (setCells (w3.alloc (.cells zrow.toArray 49)) ⟨w3.heap.size,0,none⟩ 0 (rtc (oneX X 0) A' 0)) _
 generalize setCells (w3.alloc (.cells zrow.toArray 49)) ⟨w3.heap.size,0,none⟩ 0 (rtc (oneX X 0) A' 0)=V1 at p1 e1 ⊢
 have x4:=x3.trans e1
 have g:=hO.t
 refine yC (c51 (X:=oneX X 0) (A:=A') (i:=0) h V1 ((g.ext e1).2 0 (show 0<1 by decide)) (hg.ext (z1.trans x4))) ?_
 rintro v w4 ⟨hT,d⟩
 have hT:TigX X 0 w4 v:=hT
 obtain⟨p4,c4,rfl,a3⟩:=hT.row
 have x5:=x4.trans d
 have n2:=yN w4 zrow 49
 have p2:=n2.put [.slice p4 (tigN X 0) c4,.int .i64 (tigR X 0),.string (tigK X 0)] rfl
 have e2:Ext w4 (setCells (w4.alloc (.cells zrow.toArray 49)) ⟨w4.heap.size,0,none⟩ 0 [.slice p4 (tigN X 0) c4,.int .i64 (tigR X 0),.string (tigK X 0)]):=((yE w4).alloc _).put yL _ _
 refine⟨_,_,_,_,_,_,_,rfl,n2.blk.writable (by decide),_,_,_,_,_,(bR.ext (x5.trans e2)).blk.all,?_⟩
 change Called _ 48 _ (setCells (w4.alloc (.cells zrow.toArray 49)) ⟨w4.heap.size,0,none⟩ 0 [.slice p4 (tigN X 0) c4,.int .i64 (tigR X 0),.string (tigK X 0)]) _
 generalize setCells (w4.alloc (.cells zrow.toArray 49)) ⟨w4.heap.size,0,none⟩ 0 [.slice p4 (tigN X 0) c4,.int .i64 (tigR X 0),.string (tigK X 0)]=V2 at p2 e2 ⊢
 have x6:=x5.trans e2
 refine yC (c48 (X:=X) (A:=B) (i:=0) h V2 (q1.ext x6)) ?_
 rintro v w5 ⟨x,f⟩
 obtain⟨p5,c5,rfl,a8⟩:=x.row
 have x7:=x6.trans f
 have n3:=yN w5 zrow 49
 have p3:=n3.put [.slice p5 (tigN X 0) c5,.int .i64 (tigR X 0),.string (tigK X 0)] rfl
 have e3:Ext w5 (setCells (w5.alloc (.cells zrow.toArray 49)) ⟨w5.heap.size,0,none⟩ 0 [.slice p5 (tigN X 0) c5,.int .i64 (tigR X 0),.string (tigK X 0)]):=((yE w5).alloc _).put yL _ _
 refine⟨_,_,_,_,_,_,_,rfl,n3.blk.writable (by decide),fun K1 a2=>?_⟩
 generalize setCells (w5.alloc (.cells zrow.toArray 49)) ⟨w5.heap.size,0,none⟩ 0 [.slice p5 (tigN X 0) c5,.int .i64 (tigR X 0),.string (tigK X 0)]=V3 at p3 e3 ⊢
 have y5:=(e2.trans f).trans e3
 have x8:=x7.trans e3
 have a7:tigN X 0<=1048576:=by unfold tigN;split <;> omega
 refine⟨_,_,_,_,_,(p2.ext (f.trans e3)).blk.all,_,_,_,_,_,p3.blk.all,yC (c52 (X:=conX (tigN X 0) (tigC X 0) (tigR X 0) (tigK X 0)) (Y:=conX (tigN X 0) (tigC X 0) (tigR X 0) (tigK X 0)) (A:=⟨fun _=>p4,fun _=>c4⟩) (B:=⟨fun _=>p5,fun _=>c5⟩) (i:=0) (k:=0) a7 V3 (a3.ext y5) (a8.ext e3)) ?_⟩
 rintro v w7 ⟨⟨b5,rfl,a6⟩,b⟩
 obtain rfl:b5=true:=a6.2 ⟨rfl,rfl,rfl,fun _ _=>rfl⟩
 refine⟨_,rfl,?_⟩
 rw [cond_true,show ((tigB X 0==tigB X 0)&&(tigE X 0==tigE X 0))=true by simp,cond_true]
 have x9:=x8.trans b
 have y7:=(((e1.trans d).trans y5).trans b)
 have a5:=((d.trans y5).trans b)
 refine⟨_,_,_,_,_,(p1.ext a5).blk.all,_,_,_,_,_,(bR.ext x9).blk.all,yC (c52 (X:=oneX X 0) (Y:=X) (A:=A') (B:=B) (i:=0) (k:=0) (by show X.n 0<=1048576;omega) w7 ((g.ext y7).2 0 (show 0<1 by decide)) (q1.ext x9)) ?_⟩
 rintro v w8 ⟨⟨b6,rfl,a0⟩,u⟩
 obtain rfl:b6=true:=a0.2 ⟨rfl,rfl,rfl,fun _ _=>rfl⟩
 refine⟨_,rfl,?_⟩
 rw [cond_true]
 have xa:=z1.trans (x9.trans u)
 refine yC (c47 w8 (hg.ext xa)) ?_
 rintro v w9 ⟨rfl,a4⟩
 exact⟨_,rfl,a2 _ _ ⟨rfl,xa.trans a4⟩⟩
end Go.Proofs.Si
