/- Part of the proof: SiZI, SiZJ, SiZL, SiZM, SiZN, SiZO, SiZP, SiZQ, SiZR. -/
import Derived.Test.YtoaiappkhcjagaaGreatDoorMSiZC
import Derived.Test.YtoaiappkhcjagaaGreatDoorMSiZA
import Derived.Test.YtoaiappkhcjagaaGreatDoorSiV14
set_option linter.unusedVariables false
set_option linter.unusedSimpArgs false
namespace Go.Proofs.Si
open Go Go.V Go.Proofs Go.RowKit Go.Num Go.Tb Go.Proofs.Tryz
set_option maxRecDepth 100000
theorem gX_rows{w}{b1 b2 rb:Nat}{c k:BA}(h1:SS w (some ⟨b1,0,none⟩) (fun _=>t2) 1)(h2:Box w b2 9 [Sv c])(hr:Box w rb 49 [Lv (some ⟨b1,0,none⟩) 1 1,Iv 1,Sv t5,Lv (some ⟨b2,0,none⟩) 1 1,Iv 1,Sv k]) :
  RowsT w (some ⟨rb,0,none⟩) (gX c k) ⟨fun i=>if i=0 then some ⟨b1,0,none⟩ else some ⟨b2,0,none⟩,fun _=>1⟩:=by
 refine⟨hr.blk.sl,fun i hi=>?_⟩;show SS w (if i=0 then _ else _) (fun _=>if i=0 then t2 else c) 1
 by_cases e:i=0
 ·rw [if_pos e,if_pos e];exact h1
 ·rw [if_neg e,if_neg e];exact h2.blk.sl
abbrev ip0:List Value:=[Iv 0,N0,N0]
def lfY(y:Nat->Rat):PX:={ m:=1,leaf:=fun _=>true,cN:=fun _=>0,C:=fun _ _=>t0,K:=fun _=>{ data:=#[] },fN:=fun _=>2,F:=fun _ k=>mk (txtQ (y k)) }
theorem lf_ok{S:Tb.Sys}{y:Nat->Rat}(hm:S.m=2)(h:zBp S y):zCd S (lfY y) 0:=by
 refine⟨hm.symm,fun k _=>ok_of (bs_mk _),?_⟩;have e:(fun k=>rd (mk (txtQ (y k))))=y:=funext fun k=>rd_mk _;show zBp S fun k=>rd (mk (txtQ (y k)));rw [e];exact h
theorem lf_sm{S:Tb.Sys}{y:Nat->Rat}(hS:SmP S)(hm:S.m=2)(hy : ∀ k,dg 2000000 (y k)):lfSm S (lfY y) 0:=by
 refine⟨by show 2<=1000;decide,fun j _=>Nat.le_trans (mk_size (hy j)) (by decide),fun _ _=>?_⟩;have e:(fun k=>rd (mk (txtQ (y k))))=y:=funext fun k=>rd_mk _;show (∀ k,k<S.m->dg 60000000 (rd (mk (txtQ (y k)))))/\DotsZ S (fun k=>rd (mk (txtQ (y k)))) 60000000;rw [e];refine⟨fun k _=>by rw [rd_mk];exact (hy k).mono (by decide),?_⟩
 exact {
  p:=fun k hk j hj=>((hy k).mul (hS.C k hk j hj)).mono (by decide)
  c:=fun i hi j hj=>(zFe (h:=2001000) fun k hk=>((hy k).mul (hS.C k (by omega) j hj)).mono (by decide)).mono (by omega)
  pk:=fun k hk=>((hy k).mul (hS.K k hk)).mono (by decide)
  k:=fun i hi=>(zFe (h:=2001000) fun k hk=>((hy k).mul (hS.K k (by omega))).mono (by decide)).mono (by omega) }
theorem lf_mem{w:World}{b b' : Nat}{y:Nat->Rat}(h:Box w b 115 (ltc b' 2))(h' : Box w b' 9 (SL (fun i=>mk (txtQ (y i))) 2)):CutsT w (some ⟨b,0,none⟩) (lfY y) ⟨fun _=>none,fun _=>0,fun _=>some ⟨b',0,none⟩,fun _=>2⟩ :=
 ⟨h.blk.sl,fun i hi=>⟨.inl rfl,h'.blk.sl⟩⟩
theorem RowsO.kpt{b0 B b:Nat}{w S R}(h:RowsO B w b S R)(hb:b0<B):Kpt b0 w fun w=>RowsR w (some ⟨b,0,none⟩) S R:=fun w' ho =>
 RowsO.rows (B:=B) ⟨h.1,h.2.1.same (ho.block _ (by have:=h.1;omega) h.2.1.lt),fun i hi=>zAV (h.2.2 i hi) fun k hk=>by
  have:=World.ownsRow.lt (h.2.2 i hi) k hk
  exact ho.block k (by omega) this.2⟩
set_option maxHeartbeats 2000000 in
theorem c47(w:World)(hg:Gl w):Ret prog 47 #[] w fun v w'=>v = .bool true/\Ext w w':=by
 refine run47 _ _ ?_
 unfold vc47
 rw [show (Obj.cells #[Value.string { data:=#[50] }] 9) = .cells [Value.string t2].toArray 9 from rfl,show (Obj.cells #[Value.string { data:=#[45,50] }] 9) = .cells [Value.string tm2].toArray 9 from rfl]
 have z1:=(yE w).alloc (.cells [Value.string t2].toArray 9)
 have b1:=yN w [Value.string t2] 9
 generalize w.alloc (.cells [Value.string t2].toArray 9)=W1 at z1 b1 ⊢
 have z2:=(yE W1).alloc (.cells [Value.string tm2].toArray 9)
 have b2:=yN W1 [Value.string tm2] 9
 have b6:=b1.ext z2
 generalize W1.alloc (.cells [Value.string tm2].toArray 9)=W2 at z2 b2 b6 ⊢
 have z3:=(yE W2).alloc (.cells [Value.slice (some ⟨w.heap.size,0,none⟩) 1 1,.int .i64 1,.string t5,.slice (some ⟨W1.heap.size,0,none⟩) 1 1,.int .i64 1,.string tm5].toArray 49)
 have b3:=yN W2 [Value.slice (some ⟨w.heap.size,0,none⟩) 1 1,.int .i64 1,.string t5,.slice (some ⟨W1.heap.size,0,none⟩) 1 1,.int .i64 1,.string tm5] 49
 rw [show (Obj.cells #[Value.slice (some ⟨w.heap.size,0,none⟩) 1 1,.int .i64 1,.string { data:=#[53] },.slice (some ⟨W1.heap.size,0,none⟩) 1 1,.int .i64 1,.string { data:=#[45,53] }] 49) = .cells [Value.slice (some ⟨w.heap.size,0,none⟩) 1 1,.int .i64 1,.string t5,.slice (some ⟨W1.heap.size,0,none⟩) 1 1,.int .i64 1,.string tm5].toArray 49 from rfl]
 have g:=b6.ext z3
 have a0:=b2.ext z3
 have a8:=(z1.trans z2).trans z3
 generalize W2.alloc (.cells [Value.slice (some ⟨w.heap.size,0,none⟩) 1 1,.int .i64 1,.string t5,.slice (some ⟨W1.heap.size,0,none⟩) 1 1,.int .i64 1,.string tm5].toArray 49)=W3 at z3 b3 g a0 a8 ⊢
 have rL:=gX_rows (c:=tm2) (k:=tm5) g.blk.sl a0 b3
 have l:=hg.ext a8
 have okL:=gX_ok (c:=tm2) (k:=tm5) bs_tm2 bs_tm5
 have o:=gX_ok (c:=tm1) (k:=t0) bs_tm1 bs_t0
 have d:=gX_small (c:=tm2) (k:=tm5) (by decide) (by decide)
 have a9:=gX_small (c:=tm1) (k:=t0) (by decide) (by decide)
 have hb:vcells W3 ⟨W2.heap.size,0,none⟩ 0 (rtc (gX tm2 tm5) ⟨fun i=>if i=0 then some ⟨w.heap.size,0,none⟩ else some ⟨W1.heap.size,0,none⟩,fun _=>1⟩ 0):=by
  obtain⟨ad,h1,h2⟩:=rL.get (i:=0) (by show 0<2;decide)
  cases h1
  exact h2
 refine⟨_,rfl,⟨by decide,by decide⟩,_,_,_,_,_,hb,yC (c51 (X:=gX tm2 tm5) (A:=⟨fun i=>if i=0 then some ⟨w.heap.size,0,none⟩ else some ⟨W1.heap.size,0,none⟩,fun _=>1⟩) (i:=0) ⟨(d.2 0 (by show 0<2;decide)).1,by show 1<=60;decide,(d.2 0 (by show 0<2;decide)).2.2⟩ W3 (rL.2 0 (by show 0<2;decide)) l) ?_⟩
 rintro v w1 ⟨hT,d8⟩
 have ot:=zFs (C:=rC (gX tm2 tm5) 0) (z:=2) (K:=rK (gX tm2 tm5) 0) (rd_of bs_t2) (by rw [show rC (gX tm2 tm5) 0 0=2 from rd_of bs_t2];decide)
 have g0:=zDB (c:=tm2) (k:=tm5)
 have eC:tC 1 (rC (gX tm2 tm5) 0) 0=1:=by rw [<- g0.1];exact (congrFun (if_pos ot.1) 0).symm
 have eK:tK 1 (rC (gX tm2 tm5) 0) 1 (rK (gX tm2 tm5) 0)=2:=by rw [<- g0.2.2];exact (if_pos ot.1).symm
 rcases hT with ⟨h,_⟩ | ⟨_,⟨h,_⟩ | ⟨_,p,cc,sK,rfl,a7,hown⟩⟩
 ·exact absurd ⟨by show 1<=40;decide,okL.2.2.2 0 (by show 0<2;decide)⟩ h
 ·exact absurd ot.1 h
 have a7:bs sK=txtQ (tK 1 (rC (gX tm2 tm5) 0) 1 (rK (gX tm2 tm5) 0)):=a7
 have d3:sK=t2:=zDn (by rw [a7,eK,bs_t2])
 subst d3
 have d5:SS w1 p (fun _=>t1) 1:=by
  have h:=zAG hown
  have e:SL (fun j=>mk (txtQ (tC ((gX tm2 tm5).n 0) (rC (gX tm2 tm5) 0) j))) ((gX tm2 tm5).n 0)=SL (fun _=>t1) 1:=by
   show [Value.string (mk (txtQ (tC 1 (rC (gX tm2 tm5) 0) 0)))]=[.string t1]
   rw [eC,<- bs_t1,mk_bs]
  rw [e] at h
  exact h
 rw [show ((tRel ((gX tm2 tm5).n 0) (rC (gX tm2 tm5) 0) (rR (gX tm2 tm5) 0):Nat):Int)=1 from congrArg _ ot.2.1,show (gX tm2 tm5).n 0=1 from rfl]
 have n1:=yN w1 zrow 49
 have p1:=n1.put [.slice p 1 cc,.int .i64 1,.string t2] (by rfl)
 have e1:Ext w1 (setCells (w1.alloc (.cells zrow.toArray 49)) ⟨w1.heap.size,0,none⟩ 0 [.slice p 1 cc,.int .i64 1,.string t2]):=((yE w1).alloc _).put yL _ _
 refine⟨_,_,_,_,_,_,_,rfl,n1.blk.writable (by decide),?_⟩
 have b9:SS _ p (fun _=>t1) 1:=d5.ext e1
 generalize setCells (w1.alloc (.cells zrow.toArray 49)) ⟨w1.heap.size,0,none⟩ 0 [.slice p 1 cc,.int .i64 1,.string t2]=V1 at p1 e1 b9 ⊢
 have x4:=d8.trans e1
 have a5:vcells V1 ⟨W2.heap.size,0,none⟩ 0 [.slice (some ⟨w.heap.size,0,none⟩) 1 1,.int .i64 1,.string t5]:=by
  obtain⟨ad,h1,h2⟩:=(rL.ext x4).get (i:=0) (by show 0<2;decide)
  cases h1
  exact h2
 refine⟨_,rfl,⟨by decide,by decide⟩,_,_,_,_,_,a5,?_⟩
 have y1:=(yE V1).alloc (.cells [Value.string tm1].toArray 9)
 have c1:=yN V1 [Value.string tm1] 9
 rw [show (Obj.cells #[Value.string { data:=#[45,49] }] 9) = .cells [Value.string tm1].toArray 9 from rfl]
 generalize V1.alloc (.cells [Value.string tm1].toArray 9)=V2 at y1 c1 ⊢
 have y2:=(yE V2).alloc (.cells [Value.slice (some ⟨w.heap.size,0,none⟩) 1 1,.int .i64 1,.string t5,.slice (some ⟨V1.heap.size,0,none⟩) 1 1,.int .i64 1,.string t0].toArray 49)
 have c2:=yN V2 [Value.slice (some ⟨w.heap.size,0,none⟩) 1 1,.int .i64 1,.string t5,.slice (some ⟨V1.heap.size,0,none⟩) 1 1,.int .i64 1,.string t0] 49
 rw [show (Obj.cells #[Value.slice (some ⟨w.heap.size,0,none⟩) 1 1,.int .i64 1,.string { data:=#[53] },.slice (some ⟨V1.heap.size,0,none⟩) 1 1,.int .i64 1,.string { data:=#[48] }] 49) = .cells [Value.slice (some ⟨w.heap.size,0,none⟩) 1 1,.int .i64 1,.string t5,.slice (some ⟨V1.heap.size,0,none⟩) 1 1,.int .i64 1,.string t0].toArray 49 from rfl]
 generalize V2.alloc (.cells [Value.slice (some ⟨w.heap.size,0,none⟩) 1 1,.int .i64 1,.string t5,.slice (some ⟨V1.heap.size,0,none⟩) 1 1,.int .i64 1,.string t0].toArray 49)=V3 at y2 c2 ⊢
 have y3:=y1.trans y2
 have x5:=x4.trans y3
 have rO:=gX_rows (w:=V3) (c:=tm1) (k:=t0) (g.ext x5).blk.sl (c1.ext y2) c2
 refine yC (c49r (X:=gX tm1 t0) (n:=1) (bud:=10) (c:=2) a9 (by decide) (fun _ f s' h j hj=>o_H f s' h j hj) V3 rO (l.ext x5)) ?_
 rintro v w2 ⟨hI,d9⟩
 rcases hI with ⟨h,_⟩ | ⟨_,⟨y,_,_,_,_,_,href,_⟩ | ⟨bp,pt,rfl,hTp,hsat,hint,hptd⟩⟩
 ·exact absurd ⟨o,by decide,by decide⟩ h
 ·exact (farkas href o_sat).elim
 have n2:=yN w2 ip0 65
 have p2:=n2.put [.int .i64 1,.slice (some ⟨bp,0,none⟩) 1 1,nsl] (by rfl)
 have e2:Ext w2 (setCells (w2.alloc (.cells ip0.toArray 65)) ⟨w2.heap.size,0,none⟩ 0 [.int .i64 1,.slice (some ⟨bp,0,none⟩) 1 1,nsl]):=((yE w2).alloc _).put yL _ _
 refine⟨_,_,_,_,_,_,_,_,rfl,n2.blk.writable (by decide),?_⟩
 rw [show ((1:Int).toNat)=1 from rfl]
 have a3:TxtsAt _ bp pt 1:=Box.ext hTp e2
 generalize setCells (w2.alloc (.cells ip0.toArray 65)) ⟨w2.heap.size,0,none⟩ 0 [.int .i64 1,.slice (some ⟨bp,0,none⟩) 1 1,nsl]=V4 at p2 e2 a3 ⊢
 have y4:=d9.trans e2
 have x6:=x5.trans y4
 refine yC (c49r (X:=gX tm2 tm5) (n:=1) (bud:=10) (c:=2) d (by decide) (fun _ f s' h=>(l_unsat _ (zFG h)).elim) V4 (rL.ext x6) (l.ext x6)) ?_
 rintro v w3 ⟨hI,e0⟩
 rcases hI with ⟨h,_⟩ | ⟨_,⟨y,b,b',rfl,hBl,hBy,href,hyd⟩ | ⟨_,x,_,_,h,_⟩⟩
 rotate_right
 ·exact absurd h (l_unsat x)
 ·exact absurd ⟨okL,by decide,by decide⟩ h
 have n3:=yN w3 ip0 65
 have p3:=n3.put [.int .i64 2,nsl,.slice (some ⟨b,0,none⟩) 1 1] (by rfl)
 have e3:Ext w3 (setCells (w3.alloc (.cells ip0.toArray 65)) ⟨w3.heap.size,0,none⟩ 0 [.int .i64 2,nsl,.slice (some ⟨b,0,none⟩) 1 1]):=((yE w3).alloc _).put yL _ _
 refine⟨_,_,_,_,_,_,_,_,rfl,n3.blk.writable (by decide),?_⟩
 have a1:=hBl.ext e3
 have a2:=hBy.ext e3
 generalize setCells (w3.alloc (.cells ip0.toArray 65)) ⟨w3.heap.size,0,none⟩ 0 [.int .i64 2,nsl,.slice (some ⟨b,0,none⟩) 1 1]=V5 at p3 e3 a1 a2 ⊢
 have y5:=e0.trans e3
 have x7:=x6.trans y5
 intro K hK
 rw [show (((0:Int)==0)&&true)=true from rfl,cond_true]
 have m1:=(yE V5).alloc (.cells [Value.string t1].toArray 9)
 have d1:=yN V5 [Value.string t1] 9
 have d2:Ext V1 V5:=(y3.trans y4).trans y5
 refine⟨_,_,_,_,_,(p1.ext d2).blk.all,yC (c52 (X:={ m:=1,n:=fun _=>1,C:=fun _ _=>t1,rel:=fun _=>1,K:=fun _=>t2 }) (Y:={ m:=1,n:=fun _=>1,C:=fun _ _=>t1,rel:=fun _=>1,K:=fun _=>t2 }) (A:=⟨fun _=>p,fun _=>cc⟩) (B:=⟨fun _=>some ⟨V5.heap.size,0,none⟩,fun _=>1⟩) (i:=0) (k:=0) (by show 1<=1048576;decide) _ ((b9.ext d2).ext m1) d1.blk.sl) ?_⟩
 rintro v w5 ⟨⟨x,rfl,hx⟩,e4⟩
 obtain rfl:x=true:=hx.2 ⟨rfl,rfl,rfl,fun _ _=>rfl⟩
 have y6:=m1.trans e4
 have x8:=x7.trans y6
 have u:=y5.trans y6
 refine⟨_,rfl,?_⟩
 rw [show (true&&((0:Int)==0))=true from rfl,cond_true]
 refine⟨_,(p2.ext u).blk.cell (j:=0) rfl,?_⟩
 rw [show ((1:Int)==1)=true from rfl,cond_true]
 refine⟨_,_,_,(p2.ext u).blk.cell (j:=1) rfl,?_⟩
 have e6:Sm6 (sysX (gX tm1 t0) 1):=smallX.sm (X:=gX tm1 t0) (n:=1) ⟨by decide,a9.2⟩ (by decide) o.nat
 refine yC (c24 (X:=gX tm1 t0) (nx:=1) (ca:=2) (cx:=1) (t:=fun j=>mk (txtQ (pt j))) (a9.tame (by decide)) (by decide) (fun j hj=>Nat.le_trans (mk_size (hptd j hj)) (by decide)) (fun S x hS hn hx=>(dots_pt e6 hptd o.nat S x hS hn hx).1) w5 (rO.ext (y4.trans u)) (Box.ext a3 u).blk.sl) ?_
 rintro v w6 ⟨⟨b3,rfl,d6⟩,b8⟩
 obtain rfl:b3=true:=d6.2 (holdsP_iff.2 (holdsX_of o.nat (tSat_back o hsat).1))
 refine⟨_,rfl,?_⟩
 rw [show (true&&((0:Int)==0))=true from rfl,cond_true]
 have s:=y6.trans b8
 have x9:=x8.trans b8
 refine⟨_,(p3.ext s).blk.cell (j:=0) rfl,?_⟩
 rw [show ((2:Int)==2)=true from rfl,cond_true]
 refine⟨_,_,_,(p3.ext s).blk.cell (j:=2) rfl,?_⟩
 have d0:=d.tame (by decide)
 have sP:=zGx d (n:=1) (by decide) okL
 have lok:zCd (tSys (gX tm2 tm5) 1) (lfY y) 0:=lf_ok rfl href
 have lsm:lfSm (tSys (gX tm2 tm5) 1) (lfY y) 0:=lf_sm sP rfl hyd
 have a4:=lf_mem (a1.ext s) (a2.ext s)
 refine yC (c54 (X:=gX tm2 tm5) (Y:=lfY y) (n:=1) (rc:=2) (pc:=1) (some 1) d d0 w6 (rL.ext x9) a4 fun _ _ w2 p c' A' he hR=>?_) ?_
 ·refine (c105leaf (S:=tSys (gX tm2 tm5) 1) (i:=0) (rc:=c') (pc:=1) sP (show 1<=60 by decide) lsm (show 0<1 by decide) rfl w2 hR (a4.ext he)).mono ?_
  rintro v w' ⟨rfl,h2⟩
  refine⟨?_,h2⟩
  rw [if_pos lok]
 rintro v w7 ⟨⟨b4,rfl,a5⟩,a6⟩
 obtain rfl:b4=true:=a5.2 ⟨okL,show 0<1 by decide,rfl⟩
 refine⟨_,rfl,?_⟩
 rw [cond_true]
 have e7:=s.trans a6
 have xa:=x9.trans a6
 have b7:=a4.ext a6
 refine⟨_,_,_,(p3.ext e7).blk.cell (j:=2) rfl,?_⟩
 refine yC (c53 (X:=gX tm2 tm5) (Y:=lfY y) (n:=1) (rc:=2) (pc:=1) (some 1) d d0 w7 (rL.ext xa) b7 (l.ext xa) fun _ w2 b0 rb Rl he e8 bA bP bN bF d4=>?_) ?_
 ·have kx : ∀ w',But b0 w2 w'->Ext w7 w':=fun w' ho=>Below.trans he (ho.below (B:=w7.heap.size) (by omega) he.size)
  have h:=c100leaf (S:=tSys (gX tm2 tm5) 1) (Y:=lfY y) (i:=0) (pc:=2) (b3:=b0+1) sP (show 1<=60 by decide) (fun _=>lsm) (fun _=>rfl) w2 bA bP bN (by omega) (by omega) (fun w' ho=>b7.ext (kx w' ho)) (d4.kpt (by omega)) (fun w' ho=>(l.ext xa).ext (kx w' ho))
  rw [if_pos ⟨show 0<1 by decide,lok⟩] at h
  exact h
 rintro v w8 ⟨⟨b5,rfl,d7⟩,e5⟩
 obtain rfl:b5=true:=d7.2 ⟨okL,rfl⟩
 exact⟨_,rfl,hK _ _ ⟨rfl,a8.trans (xa.trans e5)⟩⟩
open Classical in
open Classical in
open Classical in
open Classical in
open Classical in
open Classical in
set_option maxHeartbeats 1000000 in
theorem c45{X A Y B}{n:Int}{a pa}{c pc:Nat}(w)(ha:RowsT w a X A)(hY:CutsT w pa Y B) :
  Ret prog 45 #[Iv n,Lv a X.m c,Lv pa Y.m pc] w fun v w'=>(∃ b,v=Bv b/\(b=false->n<=5/\smallX X 12 60/\smallY Y))/\w' = w:=by
 refine run45 _ _ _ _ _ _ _ _ _ fun K hK=>?_;have no:K [Bv true] w:=hK true w (by rw [cond_true];exact⟨⟨true,rfl,fun h=>by cases h⟩,rfl⟩);refine zAd (fun _=>no) (fun hn=>?_);refine yC (c61 (most:=12) (by decide) w ha) ?_;rintro v w4 ⟨⟨b,rfl,hb⟩,rfl⟩;refine⟨_,rfl,?_⟩
 cases b with
 | true=>rw [cond_true];exact no
 | false =>
 have hs:=hb rfl;rw [cond_false]
 by_cases hp:((Y.m:Nat):Int)>60
 ·rw [decide_eq_true hp];exact no
 rw [decide_eq_false hp];refine hK false _ ?_;rw [cond_false];clear no hK;refine⟨fun vals w1=>∃ i:Nat,vals=[Iv i]/\i<=Y.m/\(∀ k,k<i->Y.cN k<=10/\(∀ j,j<Y.cN k->(Y.C k j).size<=60)/\(Y.K k).size<=60/\Y.fN k<=80/\∀ j,j<Y.fN k->(Y.F k j).size<=60)/\w1=w4,mu1 Y.m,⟨0,rfl,Nat.zero_le _,fun k hk=>by omega,rfl⟩,?_⟩;rintro m1 w1 ⟨i,hv,hi,f,rfl⟩;cases hv;refine zAd (fun g=>?_) (fun a0=>?_)
 ·have d:i<Y.m:=by omega
  obtain⟨ad,l,x⟩:=hY.get d;have hc:=zFN x;intro K1 p;have o:K1 [Bv true] w1:=p true w1 (by rw [cond_true];exact⟨⟨true,rfl,fun h=>by cases h⟩,rfl⟩);refine⟨ad,l,⟨by omega,g⟩,_,_,_,hc 1 _ rfl,yC (c46 (most:=10) (by decide) w1 (hY.2 i d).1) ?_⟩;rintro v w4 ⟨⟨b2,rfl,s⟩,rfl⟩;refine⟨_,rfl,?_⟩
  cases b2 with
  | true=>rw [cond_true];exact o
  | false =>
  rw [cond_false];refine⟨ad,l,⟨by omega,g⟩,_,_,_,hc 3 _ rfl,yC (c46 (most:=80) (by decide) w4 (hY.2 i d).2) ?_⟩;rintro v w5 ⟨⟨b3,rfl,u⟩,rfl⟩;refine⟨_,rfl,?_⟩
  cases b3 with
  | true=>rw [cond_true];exact o
  | false =>
  rw [cond_false];refine⟨ad,l,⟨by omega,g⟩,_,hc 2 _ rfl,?_⟩
  by_cases hk:(((Y.K i).size:Nat):Int)>60
  ·rw [decide_eq_true hk];exact o
  rw [decide_eq_false hk];refine p false _ ?_;rw [cond_false,zAg (by omega)];obtain⟨g1,g2⟩:=s rfl;obtain⟨g3,g4⟩:=u rfl;refine⟨⟨i+1,rfl,d,fun k a1=>?_,rfl⟩,by simp only [mu1,yT];omega⟩
  by_cases e:k=i
  ·rw [e];exact⟨by omega,g2,by omega,by omega,g4⟩
  ·exact f k (by omega)
 ·have:i=Y.m:=by omega
  subst this;exact⟨⟨false,rfl,fun _=>⟨by omega,hs,by omega,f⟩⟩,rfl⟩
open Classical in
set_option maxHeartbeats 1000000 in
theorem c102{a}{s:Nat->BA}{n c:Nat}(hn:n<=1048576)(w)(hs:SS w a s n)(hz : ∀ i,i<n->(s i).size<=60)(hg:Gl w) :
  Ret prog 102 #[Lv a n c] w fun v w'=>(∃ b,v=Bv b/\(b=true↔∀ i,i<n->isZ (bs (s i))))/\Ext w w':=by
 refine run102 _ _ _ _ _ (yC (c62 (by omega) w hs (fun j hj=>Nat.le_trans (hz j hj) (by decide)) hg) ?_);rintro v w1 ⟨⟨b,rfl,hb⟩,g⟩;refine⟨b,rfl,?_⟩
 cases b with
 | false =>
  rw [Bool.not_false,cond_true];refine⟨⟨false,rfl,?_⟩,g⟩;simp only [Bool.false_eq_true,false_iff];intro h
  have:=hb.2 fun i hi=>by obtain⟨z,hz⟩:=h i hi;exact ok_of hz
  cases this
 | true =>
 have o:=hb.1 rfl;rw [Bool.not_true,cond_false];refine yC (c64 (f:=fun k=>rd (s k)) (by omega) w1 (hs.ext g) (fun j hj=>Nat.le_trans (hz j hj) (by decide)) (fun j hj=>rd_ok (o j hj)) (hg.ext g)) ?_;rintro v w2 ⟨rfl,hM,a1⟩;have u:=g.trans a1;refine⟨_,_,_,rfl,fun vals w3=>∃ i:Nat,vals=[Iv i]/\i<=n/\(∀ k,k<i->isZ (bs (s k)))/\Ext w2 w3,mu1 n,⟨0,rfl,Nat.zero_le _,fun k hk=>by omega,yE _⟩,?_⟩;rintro m w3 ⟨i,hv,hi,l,he⟩;cases hv;refine zAd (fun a2=>?_) (fun a3=>⟨⟨true,rfl,by simp only [true_iff];exact fun k hk=>l k (by omega)⟩,u.trans he⟩)
 have d:i<n:=by omega
 obtain⟨b2,o2,x,a0⟩:=((hM.ext he).qs).get d;cases x;have bN:=yN w3 zq 88;have eN:Ext w3 (setCells (w3.alloc (.cells zq.toArray 88)) ⟨w3.heap.size,0,none⟩ 0 (qc (rd (s i)))):=((yE w3).alloc _).put yL _ _;have bP:=bN.put (qc (rd (s i))) rfl;refine⟨_,rfl,⟨by omega,a2⟩,_,_,_,a0,bN.blk.writable (by decide),_,_,_,bP.blk.all,yC (c147 (q:=rd (s i)) ((rd_dg (o i d) (hz i d)).mono (by decide)) _) ?_⟩;rintro v w4 ⟨rfl,p⟩;refine⟨_,rfl,?_⟩
 have hZ:isZ (bs (s i))↔(rd (s i)).den=1:=by
  rw [isZ_iff];constructor
  ·rintro⟨q,hq,hd⟩
   rw [rd_of hq];exact hd
  ·intro hd
   exact⟨_,rd_ok (o i d),hd⟩
 by_cases hd:(rd (s i)).den=1
 ·rw [decide_eq_true hd,Bool.not_true,cond_false,zAg (by omega)]
  refine⟨⟨i+1,rfl,d,fun k hk=>?_,he.trans (eN.trans p)⟩,by simp only [mu1,yT];omega⟩
  by_cases e:k=i
  ·rw [e];exact hZ.2 hd
  ·exact l k (by omega)
 ·rw [decide_eq_false hd,Bool.not_false,cond_true]
  refine⟨⟨false,rfl,?_⟩,u.trans (he.trans (eN.trans p))⟩;simp only [Bool.false_eq_true,false_iff];exact fun h=>hd (hZ.1 (h i d))
set_option maxHeartbeats 2000000 in
theorem c103{a}{C:Nat->Rat}{K:Rat}{n c:Nat}(hn:n<=1048576)(hC : ∀ j,j<n->dg 61 (C j))(hK:dg 61 K)(w)(hs:QS w a C n)(hg:Gl w) :
  Ret prog 103 #[Lv a n c,qv K] w fun v w'=>∃ b,v = .tuple #[v90 a n c 1 K,v90 (some ⟨b,0,none⟩) n n 1 (-K - 1)]/\w.heap.size<=b/\Box w' b 88 (QL (fun j => -C j) n)/\Ext w w':=by
 have z1:=(yE w).alloc (.cells (qc K).toArray 88);have b1:=yN w (qc K) 88;refine run103 _ _ _ _ _ _ _ _ ⟨⟨by omega,by omega,by omega,by omega⟩,?_⟩;simp only [yT,zFh];have e0:madeCells (Value.agg #[Iv 0,Iv 0,S0]).cells (n*3)=(QL (fun _=>0) n).toArray:=zDF n;rw [e0,show (Obj.cells #[Iv (qn K),Iv (ql K),Sv (qb K)] 88) = .cells (qc K).toArray 88 from rfl];generalize w.alloc (.cells (qc K).toArray 88)=W1 at z1 b1 ⊢;have z2:=(yE W1).alloc (.cells z90.toArray 90);have b2:=yN W1 z90 90;have l1:=b1.lt;rw [show (Obj.cells #[N0,Iv 0,Iv 0,Iv 0,S0] 90) = .cells z90.toArray 90 from rfl];have s:=b1.ext z2;generalize W1.alloc (.cells z90.toArray 90)=W2 at z2 b2 s ⊢;have z3:=(yE W2).alloc (.cells z90.toArray 90);have b3:=yN W2 z90 90;have l2:=b2.lt;have u:=s.ext z3;have a0:=b2.ext z3;generalize W2.alloc (.cells z90.toArray 90)=W3 at z3 b3 u a0 ⊢;have z4:=(yE W3).alloc (.cells (QL (fun _=>0) n).toArray 88);have b4:=yN W3 (QL (fun _=>0) n) 88;have l3:=b3.lt;have x:=u.ext z4;have a1:=a0.ext z4;have a2:=b3.ext z4;have x3:=(z1.trans z2).trans z3;generalize W3.alloc (.cells (QL (fun _=>0) n).toArray 88)=W4 at z4 b4 x a1 a2 ⊢;have l4:=b4.lt;have x4:=x3.trans z4;have s1:=z1.size;have s2:=z2.size;have s3:=z3.size;refine⟨fun vals w1=>∃ i:Nat,vals=[Iv i]/\i<=n/\Box w1 W3.heap.size 88 (QL (fun j=>if j<i then -C j else 0) n)/\Box w1 w.heap.size 88 (qc K)/\Box w1 W1.heap.size 90 z90/\Box w1 W2.heap.size 90 z90/\Ext w w1,mu1 n,⟨0,rfl,Nat.zero_le _,?_,x,a1,a2,x4⟩,?_⟩
 ·rw [zAS (g:=fun _=>0) fun j _=>if_neg (by omega)];exact b4
 rintro m w1 ⟨i,hv,hi,hB,hk,hl,hr,he⟩;cases hv;refine zAd (fun a9=>?_) (fun d2=>?_)
 ·have f:i<n:=by omega
  obtain⟨b,o,rfl,hc⟩:=(hs.ext he).get f;have bN:=yN w1 zq 88;have eN:Ext w1 (setCells (w1.alloc (.cells zq.toArray 88)) ⟨w1.heap.size,0,none⟩ 0 (qc (C i))):=((yE w1).alloc _).put yL _ _;have bP:=bN.put (qc (C i)) rfl;have lB:=hB.lt;refine⟨_,rfl,⟨by omega,a9⟩,_,_,_,hc,bN.blk.writable (by decide),_,_,_,bP.blk.all,yC (c133 (q:=C i) ((hC i f).mono (by decide)) _ (hg.ext (he.trans eN))) ?_⟩;rintro v w2 ⟨rfl,b8⟩;have d:=eN.trans b8;have a3:=hB.ext d;refine⟨_,_,_,rfl,_,rfl,⟨by omega,a9⟩,?_,?_⟩
  ·rw [zAi]
   exact a3.blk.writable (by rw [zAM,yT];omega)
  rw [zAg (by omega),zAi,yT];have h1:=a3.setCells (o:=0+i*3) (qc (-C i)) 0;rw [show 0+i*3+0=3*i by omega,QL_set f] at h1;rw [zAS (g:=fun j=>if j<i+1 then -C j else 0) fun j hj=>?_] at h1
  ·exact⟨⟨i+1,rfl,f,h1,(hk.ext d).away zAf (by omega),(hl.ext d).away zAf (by omega),(hr.ext d).away zAf (by omega),(he.trans d).put (by omega) _ _⟩,by simp only [mu1,yT];omega⟩
  ·unfold upd
   by_cases e:j=i
   ·subst e;simp
   ·by_cases h:j<i
    ·simp [e,h,Nat.lt_succ_of_lt h]
    ·have h' : ¬ j<i+1:=by omega
     simp [e,h,h']
 ·have ei:i=n:=by omega
  subst ei;rw [zAS (g:=fun j => -C j) fun j hj=>if_pos hj] at hB;intro K1 b7;have ed:=(yE w1).drew;have a7:=hk.ext ed;refine⟨_,_,_,a7.blk.all,_,_,_,a7.blk.all,yC (c133 (q:=K) (hK.mono (by decide)) w1.drew (hg.ext (he.trans ed))) ?_⟩;rintro v w4 ⟨rfl,k⟩;have b0:=(he.trans ed).trans k;refine⟨_,_,_,rfl,k,yC (c130 1 (by decide) w4 (hg.ext b0)) ?_⟩;rintro v w5 ⟨rfl,a5⟩;have e5:=k.trans a5;have d0:=b0.trans a5;refine⟨_,_,_,rfl,e5,yC (c114 (p := -K) (q:=((1:Int):Rat)) (hK.neg.mono (by decide)) (zCN (by rw [show (1:Int).natAbs=1 from rfl,zB9];decide)) w5 (hg.ext d0)) ?_⟩;rintro v w6 ⟨rfl,a6⟩;have e6:=(ed.trans e5).trans a6;have a8:=hl.ext e6;have b9:=hr.ext e6;have b5:=hB.ext e6;have p1:=a8.put [Lv a i c,Iv 1,Iv (qn K),Iv (ql K),Sv (qb K)] rfl;have l:=b9.away (zAf (b:=W1.heap.size) (o:=0) (i:=0) (L:=[Lv a i c,Iv 1,Iv (qn K),Iv (ql K),Sv (qb K)])) (by omega);have a4:=b5.away (zAf (b:=W1.heap.size) (o:=0) (i:=0) (L:=[Lv a i c,Iv 1,Iv (qn K),Iv (ql K),Sv (qb K)])) (by omega);have x7:Ext w (setCells w6 ⟨W1.heap.size,0,none⟩ 0 [Lv a i c,Iv 1,Iv (qn K),Iv (ql K),Sv (qb K)]):=(he.trans e6).put (by omega) _ _;refine⟨_,_,_,rfl,e5.trans a6,a8.blk.writable (by decide),l.blk.writable (by decide),b7 _ ?_⟩;rw [show ((1:Int):Rat)=1 from rfl];generalize setCells w6 ⟨W1.heap.size,0,none⟩ 0 [Lv a i c,Iv 1,Iv (qn K),Iv (ql K),Sv (qb K)]=V1 at p1 l a4 x7 ⊢;have p2:=l.put [Lv (some ⟨W3.heap.size,0,none⟩) i i,Iv 1,Iv (qn (-K - 1)),Iv (ql (-K - 1)),Sv (qb (-K - 1))] rfl;have d1:=p1.away (zAf (b:=W2.heap.size) (o:=0) (i:=0) (L:=[Lv (some ⟨W3.heap.size,0,none⟩) i i,Iv 1,Iv (qn (-K - 1)),Iv (ql (-K - 1)),Sv (qb (-K - 1))])) (by omega);have b6:=a4.away (zAf (b:=W2.heap.size) (o:=0) (i:=0) (L:=[Lv (some ⟨W3.heap.size,0,none⟩) i i,Iv 1,Iv (qn (-K - 1)),Iv (ql (-K - 1)),Sv (qb (-K - 1))])) (by omega);exact⟨_,_,_,_,_,_,_,d1.blk.all,_,_,_,_,_,_,_,p2.blk.all,W3.heap.size,rfl,by omega,b6,x7.put (by omega) _ _⟩
def o900 : Oper := { dst := some 67, op := Op.fieldAddr 115 (Operand.tmp 6) 1, type := 0, pos := "cuts.go:127", after := #[], guard := none }
def o901 : Oper := { dst := some 68, op := Op.load 23 (Operand.tmp 67), type := 23, pos := "cuts.go:127", after := #[{ on := 0, ground := Ground.data }], guard := none }
def o902 : Oper := { dst := some 69, op := Op.call { callee := Callee.value (Operand.func 64), args := #[Operand.tmp 68], argTypes := #[23] }, type := 83, pos := "cuts.go:127", after := #[{ on := 1, ground := Ground.data }], guard := none }
def o903 : Oper := { dst := some 70, op := Op.fieldAddr 115 (Operand.tmp 6) 2, type := 0, pos := "cuts.go:127", after := #[], guard := none }
def o904 : Oper := { dst := some 71, op := Op.load 9 (Operand.tmp 70), type := 9, pos := "cuts.go:127", after := #[{ on := 3, ground := Ground.data }], guard := none }
def o905 : Oper := { dst := some 72, op := Op.call { callee := Callee.value (Operand.func 104), args := #[Operand.tmp 71], argTypes := #[9] }, type := 88, pos := "cuts.go:127", after := #[{ on := 4, ground := Ground.data }, { on := 2, ground := Ground.chain }], guard := none }
def o906 : Oper := { dst := some 73, op := Op.call { callee := Callee.value (Operand.func 103), args := #[Operand.tmp 69, Operand.tmp 72], argTypes := #[83, 88] }, type := 128, pos := "cuts.go:127", after := #[{ on := 2, ground := Ground.data }, { on := 5, ground := Ground.data }, { on := 5, ground := Ground.chain }], guard := none }
def o907 : Oper := { dst := some 66, op := Op.move (Operand.tmp 73), type := 128, pos := "cuts.go:127", after := #[{ on := 6, ground := Ground.data }], guard := none }
def o908 : Oper := { dst := some 74, op := Op.extract (Operand.tmp 66) 0, type := 90, pos := "cuts.go:127", after := #[{ on := 7, ground := Ground.data }], guard := none }
def o909 : Oper := { dst := some 75, op := Op.extract (Operand.tmp 66) 1, type := 90, pos := "cuts.go:127", after := #[{ on := 7, ground := Ground.data }, { on := 12, ground := Ground.gcOnly Departure.lateStores }], guard := none }
def o910 : Oper := { dst := some 7, op := Op.alloc 90, type := 0, pos := "cuts.go:127", after := #[], guard := none }
def o911 : Oper := { dst := some 8, op := Op.alloc 90, type := 0, pos := "cuts.go:127", after := #[], guard := none }
def o912 : Oper := { dst := none, op := Op.store 90 (Operand.tmp 7) (Operand.tmp 74), type := 0, pos := "cuts.go:127", after := #[{ on := 10, ground := Ground.data }, { on := 8, ground := Ground.data }, { on := 6, ground := Ground.chain }, { on := 0, ground := Ground.phase }, { on := 1, ground := Ground.phase }, { on := 2, ground := Ground.phase }, { on := 3, ground := Ground.phase }, { on := 4, ground := Ground.phase }, { on := 5, ground := Ground.phase }, { on := 6, ground := Ground.phase }, { on := 7, ground := Ground.phase }, { on := 8, ground := Ground.phase }, { on := 9, ground := Ground.textOnly Departure.lateStores }, { on := 10, ground := Ground.phase }, { on := 11, ground := Ground.phase }], guard := none }
def o913 : Oper := { dst := none, op := Op.store 90 (Operand.tmp 8) (Operand.tmp 75), type := 0, pos := "cuts.go:127", after := #[{ on := 11, ground := Ground.data }, { on := 9, ground := Ground.data }, { on := 12, ground := Ground.chain }, { on := 0, ground := Ground.phase }, { on := 1, ground := Ground.phase }, { on := 2, ground := Ground.phase }, { on := 3, ground := Ground.phase }, { on := 4, ground := Ground.phase }, { on := 5, ground := Ground.phase }, { on := 6, ground := Ground.phase }, { on := 7, ground := Ground.phase }, { on := 8, ground := Ground.phase }, { on := 9, ground := Ground.phase }, { on := 10, ground := Ground.phase }, { on := 11, ground := Ground.phase }, { on := 12, ground := Ground.phase }], guard := none }
def ops9:Array Oper:=#[o900,o901,o902,o903,o904,o905,o906,o907,o908,o909,o910,o911,o912,o913]
theorem q9_eq:q9 = .region 9 ops9 true:=by kernel_rfl
theorem p9:zBQ 0 ops9.toList=true:=by kernel_rfl
theorem u23 : ∃ d,prog.underlying 23=some d/\aggD d=false:=⟨_,rfl,by kernel_rfl⟩
theorem u9 : ∃ d,prog.underlying 9=some d/\aggD d=false:=⟨_,rfl,by kernel_rfl⟩
theorem i90 : ∃ i,prog.info? 90=some i/\i.size=5:=⟨_,rfl,by kernel_rfl⟩
theorem al90(w:World):(Instr.alloc 90 true (.tuple #[])).run prog w = .ok (.pointer (some ⟨w.heap.size,0,none⟩)) (w.alloc (.cells #[N0,Iv 0,Iv 0,Iv 0,Sv ⟨#[]⟩] 90)):=by kernel_rfl
theorem ex_fld{ρ:Operand->Value}{w:World}{o:Oper}{f b:Nat}(ho:o.op = .fieldAddr 115 (.tmp 6) f)(hf:f=1\/f=2)(h:ρ (.tmp 6) = .pointer (some ⟨b,0,none⟩)):(execOp ρ o).run prog w = .ok (.value (.pointer (some ⟨b,f,none⟩))) w:=by
 have e : ∀ f,f=1\/f=2->(Instr.fieldAt 115 (.pointer (some ⟨b,0,none⟩)) f).run prog w = .ok (.pointer (some ⟨b,f,none⟩)) w:=by
  rintro f (rfl | rfl) <;> kernel_rfl
 unfold execOp;simp [ho,h,e f hf]
theorem ex902{ρ:Operand->Value}{w:World}{v:Value}(h0:ρ (.func 64) = .func (.func 64) #[] #[])(h:ρ (.tmp 68)=v):(execOp ρ o902).run prog w = .ok (.enter 64 #[v]) w:=by
 simp [o902,go_sem,h0,h]
theorem ex905{ρ:Operand->Value}{w:World}{v:Value}(h0:ρ (.func 104) = .func (.func 104) #[] #[])(h:ρ (.tmp 71)=v):(execOp ρ o905).run prog w = .ok (.enter 104 #[v]) w:=by
 simp [o905,go_sem,h0,h]
theorem ex906{ρ:Operand->Value}{w:World}{u v:Value}(h0:ρ (.func 103) = .func (.func 103) #[] #[])(h:ρ (.tmp 69)=u)(h2:ρ (.tmp 72)=v):(execOp ρ o906).run prog w = .ok (.enter 103 #[u,v]) w:=by
 simp [o906,go_sem,h0,h,h2]
theorem ex907{ρ:Operand->Value}{w:World}{v:Value}(h:ρ (.tmp 73)=v):(execOp ρ o907).run prog w = .ok (.value v) w:=by
 unfold execOp;simp [o907,h]
theorem ex908{ρ:Operand->Value}{w:World}{u v:Value}(h:ρ (.tmp 66) = .tuple #[u,v]):(execOp ρ o908).run prog w = .ok (.value u) w:=by
 unfold execOp;simp [o908,h,go_sem]
theorem ex909{ρ:Operand->Value}{w:World}{u v:Value}(h:ρ (.tmp 66) = .tuple #[u,v]):(execOp ρ o909).run prog w = .ok (.value v) w:=by
 unfold execOp;simp [o909,h,go_sem]
theorem ex_store5{ρ:Operand->Value}{o:Oper}{w:World}{x y:Operand}{ad:Addr}{cs:Array Value}(ho:o.op = .store 90 x y)(hx:ρ x = .pointer (some ad))(hy:ρ y = .agg cs)(hl:cs.toList.length=5)(hp:zAp cs.toList=true)(hw:writable w ad 5):(execOp ρ o).run prog w = .ok .skip (setCells w ad 0 cs.toList):=by
 obtain⟨i,hi,hs⟩:=i90
 obtain⟨w',hr,rfl⟩:=zCT (P:=prog) (t:=90) (a:=ad) (v := .agg cs) (w:=w) (K:=fun w'=>w' = setCells w ad 0 cs.toList) (by
  unfold vstore;rw [hi];show cond (Nat.beq cs.toList.length i.size) _ _;rw [hs,hl,hp]
  exact⟨hw,rfl⟩)
 unfold execOp;simp [ho,Instr.storeAt,Instr.sureAddr,hx,hy,hr]
end Go.Proofs.Si
namespace Go.Proofs.Si
open Go Go.V Go.Proofs Go.RowKit Go.Num Go.Tb
set_option maxRecDepth 100000
def sl9:Nat->Nat
 | 0=>67
 | 1=>68
 | 2=>69
 | 3=>70
 | 4=>71
 | 5=>72
 | 6=>73
 | 7=>66
 | 8=>74
 | 9=>75
 | 10=>7
 | 11=>8
 | 12=>7
 | _=>8
structure D9 where
 pa:OA
 n:Nat
 c:Nat
 C:Nat->Rat
 K:Rat
 kt:BA
 cb:Nat
 base:Nat
def le9(D:D9)(b:Nat):List Value:=[Lv (some ⟨b,0,none⟩) D.n D.n,Iv 1,Iv (qn D.K),Iv (ql D.K),Sv (qb D.K)]
def ge9(D:D9)(b:Nat):List Value:=[Lv (some ⟨b,0,none⟩) D.n D.n,Iv 1,Iv (qn (-D.K - 1)),Iv (ql (-D.K - 1)),Sv (qb (-D.K - 1))]
def inC(D:D9)(w:World)(b:Nat):Prop:=D.base<=b/\Box w b 88 (QL D.C D.n)
def inG(D:D9)(w:World)(b:Nat):Prop:=D.base<=b/\Box w b 88 (QL (fun j => -D.C j) D.n)
def V9(D:D9):Nat->Value->World->Prop
 | 0,v,_=>v = .pointer (some ⟨D.cb,1,none⟩)
 | 1,v,_=>v=Lv D.pa D.n D.c
 | 2,v,w=>∃ b,v=Lv (some ⟨b,0,none⟩) D.n D.n/\inC D w b
 | 3,v,_=>v = .pointer (some ⟨D.cb,2,none⟩)
 | 4,v,_=>v=Sv D.kt
 | 5,v,_=>v=qv D.K
 | 6,v,w=>∃ b b',v = .tuple #[.agg (le9 D b).toArray,.agg (ge9 D b').toArray]/\inC D w b/\inG D w b'
 | 7,v,w=>∃ b b',v = .tuple #[.agg (le9 D b).toArray,.agg (ge9 D b').toArray]/\inC D w b/\inG D w b'
 | 8,v,w=>∃ b,v = .agg (le9 D b).toArray/\inC D w b
 | 9,v,w=>∃ b,v = .agg (ge9 D b).toArray/\inG D w b
 | 10,v,w=>∃ b L,v = .pointer (some ⟨b,0,none⟩)/\D.base<=b/\L.length=5/\Box w b 90 L
 | 11,v,w=>∃ b L,v = .pointer (some ⟨b,0,none⟩)/\D.base<=b/\L.length=5/\Box w b 90 L
 | 12,v,w=>∃ b b',v = .pointer (some ⟨b,0,none⟩)/\D.base<=b/\Box w b 90 (le9 D b')/\inC D w b'
 | 13,v,w=>∃ b b',v = .pointer (some ⟨b,0,none⟩)/\D.base<=b/\Box w b 90 (ge9 D b')/\inG D w b'
 | _,_,_=>False
theorem inC.ext{D:D9}{w w'}{b:Nat}(h:inC D w b)(he:Ext w w'):inC D w' b:=⟨h.1,h.2.ext he⟩
theorem inG.ext{D:D9}{w w'}{b:Nat}(h:inG D w b)(he:Ext w w'):inG D w' b:=⟨h.1,h.2.ext he⟩
theorem V9.ext{D:D9}{j:Nat}{v:Value}{w w'}(h:V9 D j v w)(he:Ext w w'):V9 D j v w':=by
 match j,h with
 | 0,h | 1,h | 3,h | 4,h | 5,h=>exact h
 | 2,⟨b,e,h⟩ | 8,⟨b,e,h⟩=>exact⟨b,e,h.ext he⟩
 | 9,⟨b,e,h⟩=>exact⟨b,e,h.ext he⟩
 | 6,⟨b,b',e,h,h'⟩ | 7,⟨b,b',e,h,h'⟩=>exact⟨b,b',e,h.ext he,h'.ext he⟩
 | 10,⟨b,L,e,hb,hl,h⟩ | 11,⟨b,L,e,hb,hl,h⟩=>exact⟨b,L,e,hb,hl,h.ext he⟩
 | 12,⟨b,b',e,hb,h,h'⟩=>exact⟨b,b',e,hb,h.ext he,h'.ext he⟩
 | 13,⟨b,b',e,hb,h,h'⟩=>exact⟨b,b',e,hb,h.ext he,h'.ext he⟩
theorem inC.store{D:D9}{w:World}{b b' : Nat}{L L' : List Value}(h:inC D w b)(hb:Box w b' 90 L):inC D (setCells w ⟨b',0,none⟩ 0 L') b:=⟨h.1,h.2.away zAf (boxNe h.2.blk hb.blk (by decide))⟩
theorem inG.store{D:D9}{w:World}{b b' : Nat}{L L' : List Value}(h:inG D w b)(hb:Box w b' 90 L):inG D (setCells w ⟨b',0,none⟩ 0 L') b:=⟨h.1,h.2.away zAf (boxNe h.2.blk hb.blk (by decide))⟩
theorem V9.store{D:D9}{j:Nat}{v:Value}{w:World}{b' : Nat}{L L' : List Value}(h:V9 D j v w)(hb' : Box w b' 90 L)(hl' : L'.length=5)(hL:L.length=5)(hne:j=12\/j=13->v ≠ .pointer (some ⟨b',0,none⟩)):V9 D j v (setCells w ⟨b',0,none⟩ 0 L'):=by
 have key : ∀ {b:Nat} {K:List Value},K.length=5->Box w b 90 K->∃ K',K'.length=5/\Box (setCells w ⟨b',0,none⟩ 0 L') b 90 K':=by
  intro b K hK hb
  by_cases e:b=b'
  ·subst e
   exact⟨L',hl',hb'.put L' (hl'.trans hL.symm)⟩
  ·exact⟨K,hK,hb.away zAf e⟩
 match j,h with
 | 0,h | 1,h | 3,h | 4,h | 5,h=>exact h
 | 2,⟨b,e,h⟩ | 8,⟨b,e,h⟩=>exact⟨b,e,h.store hb'⟩
 | 9,⟨b,e,h⟩=>exact⟨b,e,h.store hb'⟩
 | 6,⟨b,b1,e,h,h'⟩ | 7,⟨b,b1,e,h,h'⟩=>exact⟨b,b1,e,h.store hb',h'.store hb'⟩
 | 10,⟨b,K,e,hb,hl,h⟩ | 11,⟨b,K,e,hb,hl,h⟩ =>
  obtain⟨K',h1,h2⟩:=key hl h;exact⟨b,K',e,hb,h1,h2⟩
 | 12,⟨b,b1,e,hb,h,h'⟩=>exact⟨b,b1,e,hb,h.away zAf (fun hh=>hne (.inl rfl) (by rw [e,hh])),h'.store hb'⟩
 | 13,⟨b,b1,e,hb,h,h'⟩=>exact⟨b,b1,e,hb,h.away zAf (fun hh=>hne (.inr rfl) (by rw [e,hh])),h'.store hb'⟩
structure J9 (D:D9) (l:List Value) (w0:World) (listed:Array Bool) (a:Act) (w:World):Prop where
 regs:Regs a l
 ext:Ext w0 w
 cl:zCP ops9 listed
 sz:listed.size=14
 v : ∀ j,j<14->listed.getD j false=true->∃ v,a.tmps[sl9 j]? = some v/\V9 D j v w
 ne:listed.getD 10 false=true->listed.getD 11 false=true->a.tmps[7]?≠a.tmps[8]?
theorem zG1{a:Act}{l:List Value}{d:Option Nat}{v:Value}(h:Regs a l)(hd : ∀ t,d=some t->l.length<=t):Regs (a.put d v) l:=by
 refine⟨by rw [put_defers];exact h.d,by rw [put_size];exact h.n,fun t u hu=>?_⟩;have ht:=(List.getElem?_eq_some_iff.1 hu).1
 cases d with
 | none=>exact h.v t u hu
 | some d =>
  have:=hd d rfl;show (a.tmps.setIfInBounds d v)[t]? = _;rw [Array.getElem?_setIfInBounds_ne (by omega)];exact h.v t u hu
theorem zAW{l:Array Bool}{i j:Nat}(h:i≠j):(l.setIfInBounds i true).getD j false=l.getD j false:=by
 rw [Array.getD_eq_getD_getElem?,Array.getElem?_setIfInBounds_ne h,<- Array.getD_eq_getD_getElem?]
theorem sl9_inj(i:Nat)(hi:i<12)(j:Nat)(hj:j<14)(hne:i≠j)(h:sl9 i=sl9 j):(i=10/\j=12)\/(i=11/\j=13):=by
 have hd:((List.range 12).all fun i=>(List.range 14).all fun j=>i==j||sl9 i != sl9 j||(i==10&&j==12)||(i==11&&j==13))=true:=by decide
 have h1:=List.all_eq_true.1 (List.all_eq_true.1 hd i (List.mem_range.2 hi)) j (List.mem_range.2 hj);simp only [Bool.or_eq_true,Bool.and_eq_true,beq_iff_eq,bne_iff_ne] at h1;omega
theorem sl9_lt : ∀ i,i<14->sl9 i<98/\7<=sl9 i:=by decide
theorem sl9_78 : ∀ i,i<12->i≠10->i≠11->sl9 i≠7/\sl9 i≠8:=by decide
theorem e1210:memN 10 (zAU ops9 12)=true:=by kernel_rfl
theorem e1311:memN 11 (zAU ops9 13)=true:=by kernel_rfl
theorem e1312:memN 12 (zAU ops9 13)=true:=by kernel_rfl
section
variable {D:D9} {l:List Value} {w0:World} {listed:Array Bool} {a:Act} {w w' : World} {i:Nat}
theorem J9.new(h:J9 D l w0 listed a w)(hi:i∈Region.ready .any ops9 listed):listed.getD i false=true->False:=by
 intro hl;have h1:=(mem_ready.1 hi).1
 have:i<listed.size:=by
  by_cases e:i<listed.size
  ·exact e
  ·rw [Array.getD_eq_getD_getElem?,Array.getElem?_eq_none (by omega)] at h1;cases h1
 rw [zB6 this false true,h1] at hl;cases hl
theorem J9.put{v:Value}(h:J9 D l w0 listed a w)(hll:l.length<=7)(hi:i∈Region.ready .any ops9 listed)(hlt:i<12)(he:Ext w w')(hv:V9 D i v w')(hp:i=10\/i=11->v = .pointer (some ⟨w.heap.size,0,none⟩)):J9 D l w0 (listed.setIfInBounds i true) (a.put (some (sl9 i)) v) w':=by
 have o:=sl9_lt i (by omega);have m:=h.new hi;have d : ∀ t,t≠sl9 i->(a.put (some (sl9 i)) v).tmps[t]? = a.tmps[t]?:=fun t ht=>Array.getElem?_setIfInBounds_ne (Ne.symm ht);have f:(a.put (some (sl9 i)) v).tmps[sl9 i]? = some v:=Array.getElem?_setIfInBounds_self_of_lt (by rw [h.regs.n];exact o.1);refine⟨zG1 h.regs fun t ht=>by cases ht;omega,h.ext.trans he,zAJ h.cl hi,by rw [Array.size_setIfInBounds];exact h.sz,fun j hj hl=>?_,fun g k=>?_⟩
 ·by_cases e:i=j
  ·subst e;exact⟨v,f,hv⟩
  ·rw [zAW e] at hl
   obtain⟨u,hu,hV⟩:=h.v j hj hl;refine⟨u,?_,hV.ext he⟩;rw [d _ fun hh=>?_]
   ·exact hu
   ·rcases sl9_inj i hlt j hj e hh.symm with ⟨rfl,rfl⟩ | ⟨rfl,rfl⟩
    ·exact m (zBr h.cl hl (zBK.1 e1210))
    ·exact m (zBr h.cl hl (zBK.1 e1311))
 ·by_cases e0:i=10
  ·subst e0
   rw [zAW (by decide)] at k;obtain⟨u,hu,b,L,rfl,_,_,hB⟩:=h.v 11 (by decide) k;have:=hB.lt;rw [show (7:Nat)=sl9 10 from rfl,f,d _ (by decide),show (8:Nat)=sl9 11 from rfl,hu,hp (.inl rfl)];intro hh
   injection hh with hh;injection hh with hh;injection hh with hh;injection hh with hh
   omega
  ·by_cases e1:i=11
   ·subst e1
    rw [zAW (by decide)] at g;obtain⟨u,hu,b,L,rfl,_,_,hB⟩:=h.v 10 (by decide) g;have:=hB.lt;rw [show (8:Nat)=sl9 11 from rfl,f,d _ (by decide),show (7:Nat)=sl9 10 from rfl,hu,hp (.inr rfl)];intro hh
    injection hh with hh;injection hh with hh;injection hh with hh;injection hh with hh
    omega
   ·rw [zAW e0] at g
    rw [zAW e1] at k;have:=sl9_78 i hlt e0 e1;rw [d 7 (Ne.symm this.1),d 8 (Ne.symm this.2)];exact h.ne g k
theorem J9.dep(h:J9 D l w0 listed a w)(hi:i∈Region.ready .any ops9 listed){k:Nat}(hk:memN k (zAU ops9 i)=true)(hk2:k<14) : ∃ v,a.eval (.tmp (sl9 k))=v/\a.tmps[sl9 k]? = some v/\V9 D k v w:=by
 obtain⟨v,hv,hV⟩:=h.v k hk2 (zCA hi k (zBK.1 hk));exact⟨v,zF2 hv,hv,hV⟩
theorem J9.store{L' : List Value}{b:Nat}{L:List Value}(h:J9 D l w0 listed a w)(hw0:w0.heap.size<=D.base)(hi:i∈Region.ready .any ops9 listed)(hi2:i=12\/i=13)(hs:a.tmps[sl9 i]? = some (.pointer (some ⟨b,0,none⟩)))(hb:D.base<=b)(hB:Box w b 90 L)(hL:L.length=5)(hl' : L'.length=5)
  (hV:V9 D i (.pointer (some ⟨b,0,none⟩)) (setCells w ⟨b,0,none⟩ 0 L')):J9 D l w0 (listed.setIfInBounds i true) (a.put none undef) (setCells w ⟨b,0,none⟩ 0 L'):=by
 have k:=h.new hi;refine⟨zG1 h.regs fun t ht=>(by cases ht),h.ext.put (Nat.le_trans hw0 hb) _ _,zAJ h.cl hi,by rw [Array.size_setIfInBounds];exact h.sz,fun j hj hl=>?_,fun d f=>?_⟩
 ·by_cases e:i=j
  ·subst e;exact⟨_,hs,hV⟩
  ·rw [zAW e] at hl
   obtain⟨u,hu,hW⟩:=h.v j hj hl;refine⟨u,hu,hW.store hB hl' hL fun g hh=>?_⟩;subst hh
   rcases hi2 with rfl | rfl
   ·rcases g with rfl | rfl
    ·exact e rfl
    ·exact k (zBr h.cl hl (zBK.1 e1312))
   ·rcases g with rfl | rfl
    ·have d:listed.getD 10 false=true:=zBr h.cl hl (zBK.1 e1210)
     have f:listed.getD 11 false=true:=zCA hi 11 (zBK.1 e1311);exact h.ne d f (hu.trans hs.symm)
    ·exact e rfl
 ·rw [zAW (by omega)] at d f
  exact h.ne d f
end
end Go.Proofs.Si
namespace Go.Proofs.Si
open Go Go.V Go.Proofs Go.RowKit Go.Num Go.Tb Go.Proofs.Tryz
set_option maxRecDepth 100000
theorem e9_1:memN 0 (zAU ops9 1)=true:=by kernel_rfl
theorem e9_2:memN 1 (zAU ops9 2)=true:=by kernel_rfl
theorem e9_4:memN 3 (zAU ops9 4)=true:=by kernel_rfl
theorem e9_5:memN 4 (zAU ops9 5)=true:=by kernel_rfl
theorem e9_6:memN 2 (zAU ops9 6)=true:=by kernel_rfl
theorem e9_6' : memN 5 (zAU ops9 6)=true:=by kernel_rfl
theorem e9_7:memN 6 (zAU ops9 7)=true:=by kernel_rfl
theorem e9_8:memN 7 (zAU ops9 8)=true:=by kernel_rfl
theorem e9_9:memN 7 (zAU ops9 9)=true:=by kernel_rfl
theorem e9_12:memN 8 (zAU ops9 12)=true:=by kernel_rfl
theorem e9_13:memN 9 (zAU ops9 13)=true:=by kernel_rfl
set_option maxHeartbeats 4000000 in
theorem reg9{Q:Exit->Act->World->Prop}{D:D9}{l:List Value}{s:Nat->BA}{x y:Value}{a}(w:World)(hD:D.base=w.drew.heap.size)(hn:D.n<=1048576)(ha:Regs a l)(hl:l.length=7)(h6:l[6]? = some (.pointer (some ⟨D.cb,0,none⟩)))
  (hc:Box w D.cb 115 [x,Lv D.pa D.n D.c,Sv D.kt,y])(hs:SS w D.pa s D.n)(hz : ∀ j,j<D.n->(s j).size<=60)(hf : ∀ j,j<D.n->bs (s j)=txtQ (D.C j))(hdC : ∀ j,j<D.n->dg 61 (D.C j))(hk:bs D.kt=txtQ D.K)(hkz:D.kt.size<=60)(hdK:dg 61 D.K)(hg:Gl w)
  (hQ : ∀ a' w' b7 b8 bc bn,Regs a' (l++[.pointer (some ⟨b7,0,none⟩),.pointer (some ⟨b8,0,none⟩)])->Ext w w'->D.base<=b7->D.base<=b8->Box w' b7 90 (le9 D bc)->Box w' b8 90 (ge9 D bn)->inC D w' bc->inG D w' bn->Q .normal a' w') :
  q9.wp prog Q a w:=by
 have zd:=(yE w).drew;obtain⟨b1,a1,a0⟩:=u23;obtain⟨d9,a9,a5⟩:=u9;rw [q9_eq];refine zGp siE_ok (J:=J9 D l w.drew) p9 (fun listed a w1 h p=>?_) (fun listed a w1 i h hi=>?_) ?_
 ·obtain⟨v7,h7,b7,bc,rfl,a7,a3,hC⟩:=h.v 12 (by decide) (p 12 (by decide))
  obtain⟨v8,h8,b8,bn,rfl,a8,a4,hG⟩:=h.v 13 (by decide) (p 13 (by decide));refine hQ a w1 b7 b8 bc bn ⟨h.regs.d,h.regs.n,fun t u hu=>?_⟩ (zd.trans h.ext) a7 a8 a3 a4 hC hG;have ht:=(List.getElem?_eq_some_iff.1 hu).1
  by_cases e:t<7
  ·rw [List.getElem?_append_left (by omega)] at hu
   exact h.regs.v t u hu
  ·rw [List.getElem?_append_right (by omega),hl] at hu
   simp [hl] at ht
   by_cases e7:t=7
   ·subst e7;simp at hu;subst hu;exact h7
   ·have e8:t=8:=by omega
    subst e8;simp at hu;subst hu;exact h8
 ·have b0:i<14:=by
   obtain⟨_,o,ho,_⟩:=mem_ready.1 hi;exact (Array.getElem?_eq_some_iff.1 ho).1
  have hx:=zd.trans h.ext
  have m:D.base<=w1.heap.size:=by rw [hD];exact h.ext.size
  have a2:w.drew.heap.size<=D.base:=by rw [hD];exact yL
  have e6:a.eval (.tmp 6) = .pointer (some ⟨D.cb,0,none⟩):=zF2 (h.regs.v 6 _ h6)
  have g:l.length<=7:=by omega
  match i,b0 with
  | 0,_ =>
   refine zAF (o:=o900) rfl rfl (ex_fld (o:=o900) rfl (.inl rfl) e6) ?_;rw [Oper.upon_value];exact h.put g hi (by decide) (yE w1) rfl (fun h=>absurd h (by decide))
  | 1,_ =>
   obtain⟨v,ev,_,rfl⟩:=h.dep hi e9_1 (by decide);refine zAF (o:=o901) rfl rfl (zEx (o:=o901) rfl a1 a0 ev ((hc.ext hx).blk.cell (j:=1) rfl)) ?_;rw [Oper.upon_value];exact h.put g hi (by decide) (yE w1) rfl (fun h=>absurd h (by decide))
  | 2,_ =>
   obtain⟨v,ev,_,rfl⟩:=h.dep hi e9_2 (by decide);refine zAF (o:=o902) rfl rfl (ex902 rfl ev) ?_;rw [Oper.upon_enter];refine Calls.mono (c64 (f:=D.C) hn w1 (hs.ext hx) (fun j hj=>Nat.le_trans (hz j hj) (by decide)) hf (hg.ext hx)) ?_;rintro e w2 ⟨v,rfl,rfl,hB,he⟩;exact h.put g hi (by decide) he ⟨_,rfl,m,hB⟩ (fun h=>absurd h (by decide))
  | 3,_ =>
   refine zAF (o:=o903) rfl rfl (ex_fld (o:=o903) rfl (.inr rfl) e6) ?_;rw [Oper.upon_value];exact h.put g hi (by decide) (yE w1) rfl (fun h=>absurd h (by decide))
  | 4,_ =>
   obtain⟨v,ev,_,rfl⟩:=h.dep hi e9_4 (by decide);refine zAF (o:=o904) rfl rfl (zEx (o:=o904) rfl a9 a5 ev ((hc.ext hx).blk.cell (j:=2) rfl)) ?_;rw [Oper.upon_value];exact h.put g hi (by decide) (yE w1) rfl (fun h=>absurd h (by decide))
  | 5,_ =>
   obtain⟨v,ev,_,rfl⟩:=h.dep hi e9_5 (by decide);refine zAF (o:=o905) rfl rfl (ex905 rfl ev) ?_;rw [Oper.upon_enter];refine Calls.mono (c104 (q:=D.K) hk (Nat.le_trans hkz (by decide)) w1 (hg.ext hx)) ?_;rintro e w2 ⟨v,rfl,rfl,he⟩;exact h.put g hi (by decide) he rfl (fun h=>absurd h (by decide))
  | 6,_ =>
   obtain⟨v,ev,_,b,rfl,hC⟩:=h.dep hi e9_6 (by decide);obtain⟨v,ev',_,rfl⟩:=h.dep hi e9_6' (by decide);refine zAF (o:=o906) rfl rfl (ex906 rfl ev ev') ?_;rw [Oper.upon_enter];refine Calls.mono (c103 (C:=D.C) (K:=D.K) hn hdC hdK w1 hC.2.qs (hg.ext hx)) ?_;rintro e w2 ⟨v,rfl,b',rfl,a6,hB,he⟩;exact h.put g hi (by decide) he ⟨b,b',rfl,hC.ext he,Nat.le_trans m a6,hB⟩ (fun h=>absurd h (by decide))
  | 7,_ =>
   obtain⟨v,ev,_,hV⟩:=h.dep hi e9_7 (by decide);refine zAF (o:=o907) rfl rfl (ex907 ev) ?_;rw [Oper.upon_value];exact h.put g hi (by decide) (yE w1) hV (fun h=>absurd h (by decide))
  | 8,_ =>
   obtain⟨v,ev,_,b,b',rfl,hC,hG⟩:=h.dep hi e9_8 (by decide);refine zAF (o:=o908) rfl rfl (ex908 ev) ?_;rw [Oper.upon_value];exact h.put g hi (by decide) (yE w1) ⟨b,rfl,hC⟩ (fun h=>absurd h (by decide))
  | 9,_ =>
   obtain⟨v,ev,_,b,b',rfl,hC,hG⟩:=h.dep hi e9_9 (by decide);refine zAF (o:=o909) rfl rfl (ex909 ev) ?_;rw [Oper.upon_value];exact h.put g hi (by decide) (yE w1) ⟨b',rfl,hG⟩ (fun h=>absurd h (by decide))
  | 10,_ =>
   refine zAF (o:=o910) rfl rfl (zEN rfl (al90 w1)) ?_;rw [Oper.upon_value];exact h.put g hi (by decide) ((yE w1).alloc _) ⟨w1.heap.size,_,rfl,m,rfl,yN w1 [N0,Iv 0,Iv 0,Iv 0,Sv ⟨#[]⟩] 90⟩ (fun _=>rfl)
  | 11,_ =>
   refine zAF (o:=o911) rfl rfl (zEN rfl (al90 w1)) ?_;rw [Oper.upon_value];exact h.put g hi (by decide) ((yE w1).alloc _) ⟨w1.heap.size,_,rfl,m,rfl,yN w1 [N0,Iv 0,Iv 0,Iv 0,Sv ⟨#[]⟩] 90⟩ (fun _=>rfl)
  | 12,_ =>
   obtain⟨v,ev,hv,b,L,rfl,hb,hL,hB⟩:=h.dep hi e1210 (by decide);obtain⟨v,ev',_,bc,rfl,hC⟩:=h.dep hi e9_12 (by decide);refine zAF (o:=o912) rfl rfl (ex_store5 (o:=o912) rfl ev ev' rfl rfl (hB.blk.writable (by rw [hL];decide))) ?_;rw [Oper.upon_skip];exact h.store a2 hi (.inl rfl) hv hb hB hL rfl ⟨b,bc,rfl,hb,hB.put (le9 D bc) hL.symm,hC.store hB⟩
  | 13,_ =>
   obtain⟨v,ev,hv,b,L,rfl,hb,hL,hB⟩:=h.dep hi e1311 (by decide);obtain⟨v,ev',_,bn,rfl,hG⟩:=h.dep hi e9_13 (by decide);refine zAF (o:=o913) rfl rfl (ex_store5 (o:=o913) rfl ev ev' rfl rfl (hB.blk.writable (by rw [hL];decide))) ?_;rw [Oper.upon_skip];exact h.store a2 hi (.inr rfl) hv hb hB hL rfl ⟨b,bn,rfl,hb,hB.put (ge9 D bn) hL.symm,hG.store hB⟩
 ·exact⟨ha,yE _,fun k ok hk hl=>(by rw [zAz] at hl;cases hl),by simp [ops9],fun j hj hl=>(by rw [zAz] at hl;cases hl),fun hl=>(by rw [zAz] at hl;cases hl)⟩
def pushR(S:Tb.Sys)(C:Nat->Rat)(K:Rat):Tb.Sys:={ n:=S.n,m:=S.m+1,C:=fun i=>if i=S.m then C else S.C i,rel:=fun i=>if i=S.m then 1 else S.rel i,K:=fun i=>if i=S.m then K else S.K i }
def pushL(R:RowL)(m b n:Nat):RowL:=⟨fun i=>if i=m then some ⟨b,0,none⟩ else R.cA i,fun i=>if i=m then n else R.cC i⟩
theorem SmP.push{S:Tb.Sys}{C:Nat->Rat}{K:Rat}(h:SmP S)(hm:S.m+1<=100)(hC : ∀ j,j<S.n->dg 370 (C j))(hK:dg 745 K):SmP (pushR S C K) where
 n:=h.n
 m:=hm
 rel:=fun i hi=>by
  show 1<=(if i=S.m then 1 else S.rel i)/\(if i=S.m then 1 else S.rel i)<=3
  have:i<S.m+1:=hi
  by_cases e:i=S.m
  ·rw [if_pos e];decide
  ·rw [if_neg e];exact h.rel i (by omega)
 C:=fun i hi j hj=>by
  show dg 370 ((if i=S.m then C else S.C i) j)
  have:i<S.m+1:=hi
  by_cases e:i=S.m
  ·rw [if_pos e];exact hC j hj
  ·rw [if_neg e];exact h.C i (by omega) j hj
 K:=fun i hi=>by
  show dg 745 (if i=S.m then K else S.K i)
  have:i<S.m+1:=hi
  by_cases e:i=S.m
  ·rw [if_pos e];exact hK
  ·rw [if_neg e];exact h.K i (by omega)
def row5(n b:Nat)(K:Rat):List Value:=[Lv (some ⟨b,0,none⟩) n n,Iv 1,Iv (qn K),Iv (ql K),Sv (qb K)]
theorem rows_push{w:World}{p1}{S:Tb.Sys}{Rl}{C:Nat->Rat}{K:Rat}{b B c1:Nat}(hown:w.ownsRow B 90 5 (Lv p1 (S.m+1) c1) (S.m+1) (GL (rowc S Rl) S.m++row5 S.n b K))(hQ : ∀ i,i<S.m->QS w (Rl.cA i) (S.C i) S.n)(hb:Box w b 88 (QL C S.n)):RowsR w p1 (pushR S C K) (pushL Rl S.m b S.n):=by
 refine⟨?_,fun i hi=>?_⟩
 ·have h:=zAG hown
  have e:GL (rowc (pushR S C K) (pushL Rl S.m b S.n)) (S.m+1)=GL (rowc S Rl) S.m++row5 S.n b K:=by
   show GL _ S.m++_=_;rw [zBL (g:=rowc S Rl) fun i hi=>by simp [rowc,pushR,pushL,if_neg (show ¬ i=S.m by omega)]];simp [rowc,pushR,pushL,row5]
  show SlAt w p1 (GL (rowc (pushR S C K) (pushL Rl S.m b S.n)) (S.m+1));rw [e];exact h
 ·have:i<S.m+1:=hi
  show QS w (if i=S.m then some ⟨b,0,none⟩ else Rl.cA i) (if i=S.m then C else S.C i) S.n
  by_cases e:i=S.m
  ·rw [if_pos e,if_pos e];exact hb.qs
  ·rw [if_neg e,if_neg e];exact hQ i (by omega)
def okCut(n:Nat)(Y:PX)(i:Nat):Prop:=Y.cN i=n/\(∀ j,j<Y.cN i->isZ (bs (Y.C i j)))/\isZ (bs (Y.K i))
noncomputable def leS (S:Tb.Sys) (Y:PX) (i:Nat):Tb.Sys:=pushR S (fun j=>rd (Y.C i j)) (rd (Y.K i))
noncomputable def geS (S:Tb.Sys) (Y:PX) (i:Nat):Tb.Sys:=pushR S (fun j => -rd (Y.C i j)) (-rd (Y.K i) - 1)
open Classical in
noncomputable def cutP (Y:PX):Nat->Tb.Sys->Nat->Option Nat
 | 0,_,_=>none
 | f+1,S,i=>if i<Y.m then (if Y.leaf i=true then (if zCd S Y i then some (i+1) else none) else if okCut S.n Y i then (match cutP Y f (leS S Y i) (i+1) with | some j=>cutP Y f (geS S Y i) j | none=>none) else none) else none
theorem zF7{Y:PX} : ∀ {f:Nat} {S:Tb.Sys} {i j:Nat},cutP Y f S i=some j->i<j/\j<=Y.m
 | 0,S,i,j,h=>by cases h
 | f+1,S,i,j,h=>by
  unfold cutP at h
  split at h
  ·split at h
   ·split at h
    ·cases h;omega
    ·cases h
   ·split at h
    ·split at h
     ·rename_i k hk
      have h1:=zF7 hk
      have h2:=zF7 h
      omega
     ·cases h
    ·cases h
  ·cases h
theorem SiPb7:pc7.body=some q7:=rfl
theorem wm7:wrMin q7 7=true:=by kernel_rfl
theorem q8_eq : q8 = bad3 8 64 65 "cuts.go:125" := by kernel_rfl
theorem ss_one(w:World)(s:BA):SS (w.alloc (.cells #[Sv s] 9)) (some ⟨w.heap.size,0,none⟩) (fun _=>s) 1:=(yN w [Sv s] 9).blk.sl
set_option maxHeartbeats 2000000 in
theorem q7_wp{Y:PX}{B pa}{m pc i n cb b0 b1 b2 b3:Nat}{Q:Exit->Act->World->Prop}{a}(hY:Y.cN i<=10/\(∀ j,j<Y.cN i->(Y.C i j).size<=60)/\(Y.K i).size<=60)(w)(ha:Regs a (reg7l pa m pc b0 b1 b2 b3 cb))
  (hc:Box w cb 115 (cutc Y B i))(h2:Box w b2 3 [Iv n])(hC:SS w (B.cA i) (Y.C i) (Y.cN i))(hg:Gl w)
  (hno : ¬ okCut n Y i->∀ a' w',a'.defers=[]->Ext w w'->Q (.panic badC) a' w')
  (hyes:okCut n Y i->∀ a' w',Regs a' (reg7l pa m pc b0 b1 b2 b3 cb)->Ext w w'->Q .normal a' w') :
  (Code.seq q7 (.cond (.tmp 63) q8 .skip)).wp prog Q a w:=by
 refine wp_seq ?_;refine wp_mono (zCa siE_ok (fn:=pc7) (args:=reg7l pa m pc b0 b1 b2 b3 cb) (R:=fun v w'=>(∃ b,v=Bv b/\(b=true↔¬ okCut n Y i))/\Ext w w') SiPb7 ?_ (ha.sat (by simp [reg7l]) ntmps100)) ?_
 ·refine runP7 fun K hK=>⟨_,_,_,hc.blk.cell (j:=1) rfl,_,h2.blk.cell (j:=0) rfl,?_⟩
  have no : ∀ w',Ext w w'->¬ okCut n Y i->K [Bv true] w':=fun w' he h=>hK true w' ⟨⟨true,rfl,by simpa using h⟩,he⟩;refine zAb (fun h1=>no _ (yE w) fun h=>by rw [show (((Y.cN i:Nat):Int) != (n:Int))=false by simp [h.1]] at h1;cases h1) (fun h1=>?_)
  have hn:Y.cN i=n:=by
   have:((Y.cN i:Nat):Int)=(n:Int):=by simpa using h1
   omega
  refine⟨_,_,_,hc.blk.cell (j:=1) rfl,yC (c102 (by omega) w hC hY.2.1 hg) ?_⟩;rintro v w1 ⟨⟨b,rfl,hb⟩,f⟩;refine⟨b,rfl,zAb (fun h3=>no _ f fun h=>?_) (fun h3=>?_)⟩
  ·rw [hb.2 h.2.1] at h3;cases h3
  have g:=hb.1 (by simpa using h3);have e2:=(yE w1).alloc (.cells #[Sv (Y.K i)] 9);refine⟨_,(hc.ext f).blk.cell (j:=2) rfl,yC (c102 (s:=fun _=>Y.K i) (by omega) _ (ss_one w1 (Y.K i)) (fun j hj=>hY.2.2) (hg.ext (f.trans e2))) ?_⟩;rintro v w2 ⟨⟨b2,rfl,l⟩,a0⟩;refine⟨b2,rfl,hK _ _ ⟨⟨!b2,rfl,?_⟩,f.trans (e2.trans a0)⟩⟩;constructor
  ·intro h h4
   rw [l.2 fun k _=>h4.2.2] at h;cases h
  ·intro h
   cases b2
   ·rfl
   ·exact absurd ⟨hn,g,l.1 rfl 0 (by decide)⟩ h
 rintro e a1 w1 ⟨rfl,⟨v,hr,⟨b,rfl,hb⟩,he⟩,u,o,a2⟩;have d:a1.tmps.size=98:=a2.trans (by rw [show pc7.ntmps=98 from ntmps100];rfl);have hv:a1.eval (.tmp 63)=Bv b:=zEo (fn:=pc7) (t:=63) rfl hr;have p:=ha.keep' wm7 u o d
 cases b with
 | false =>
  have a3:okCut n Y i:=Classical.not_not.1 fun h=>by have:=hb.2 h;cases this
  exact wp_cond_false hv (wp_skip (hyes a3 _ _ p he))
 | true =>
  have h:=hb.1 rfl;rw [q8_eq];exact wp_cond_true hv (bad3_wp (by rw [d];decide) (by rw [d];decide) fun a' x=>hno h _ _ (x.trans o) he)
def clos(b0 b1 b2 b3:Nat):Value := .func (.func 100) #[] #[.pointer (some ⟨b0,0,none⟩),.pointer (some ⟨b1,0,none⟩),.pointer (some ⟨b2,0,none⟩),.pointer (some ⟨b3,0,none⟩)]
def reg9l(pa:OA)(m pc b0 b1 b2 b3 cb b7 b8:Nat):List Value:=[Lv pa m pc,.pointer (some ⟨b0,0,none⟩),.pointer (some ⟨b1,0,none⟩),.pointer (some ⟨b2,0,none⟩),.pointer (some ⟨b3,0,none⟩),undef,.pointer (some ⟨cb,0,none⟩),.pointer (some ⟨b7,0,none⟩),.pointer (some ⟨b8,0,none⟩)]
set_option maxHeartbeats 4000000 in
theorem sub_wp{id t1 t2 d:Nat}{ops' : Array Oper}{oL:Oper}(hns:Region.noSelect ops' = true)(htl:zFR ops' oL=true)(hgd:oL.guard=none)(hdst:oL.dst=some d)(hd9:9<=d)(hwr:((dsts ops'.toList).all fun t=>decide (9<=t))=true)
  (hex : ∀ (ρ:Operand->Value) (w:World) (first cap:Array Value) (v:Value),ρ (.tmp t1) = .func (.func 100) first cap->ρ (.tmp t2)=v->(execOp ρ oL).run prog w = .ok (.enter 100 (first++#[v]++cap)) w)
  {S:Tb.Sys}{Rl}{C:Nat->Rat}{K:Rat}{pa}{pc cb b0 b1 b2 b3 b7 b8 bx b:Nat}{acc:Option Nat}{Q:Exit->Act->World->Prop}{a}
  (hrun : ∀ (w:World) (R:Value->World->Prop),vcPA pa S.m pc ⟨b3,0,none⟩ ⟨bx,0,none⟩ w R->vtail siE 98 ops' [.tmp t1,.tmp t2] (reg9l pa S.m pc b0 b1 b2 b3 cb b7 b8) w R)
  (hm:S.m<=100)(hpc:S.m<=pc)(w)(ha:Regs a (reg9l pa S.m pc b0 b1 b2 b3 cb b7 b8))(h3:Box w b3 124 [clos b0 b1 b2 b3])(hx:Box w bx 90 (row5 S.n b K))(hb:Box w b 88 (QL C S.n))(hb0:b0≠b)(hb0w:b0<w.heap.size)
  (hR:Kpt b0 w fun w=>RowsR w pa S Rl)(hpa : ∃ ad,pa=some ad/\ad.block<w.heap.size)
  (hQ : ∀ c a d v w,Q (.panic c) (a.put d v) w->Q (.panic c) a w)
  (hcall : ∀ (w4:World) (p1:OA) (c1:Nat),Ext w w4->(Kpt b0 w4 fun w=>RowsR w p1 (pushR S C K) (pushL Rl S.m b S.n))->(∃ ad,p1=some ad/\ad.block<w4.heap.size)->S.m+1<=c1 ->
   Calls prog 100 #[Lv p1 (S.m+1) c1,.pointer (some ⟨b0,0,none⟩),.pointer (some ⟨b1,0,none⟩),.pointer (some ⟨b2,0,none⟩),.pointer (some ⟨b3,0,none⟩)] w4 (NodeR b0 acc w4))
  (hsome : ∀ j,acc=some j->∀ a' w',Regs a' (reg9l pa S.m pc b0 b1 b2 b3 cb b7 b8)->But b0 w w'->Box w' b0 3 [Iv (j:Nat)]->Q .normal a' w')
  (hnone:acc=none->∀ a' w',a'.defers=[]->But b0 w w'->Q (.panic badC) a' w') :
  (Code.region id (ops'.push oL) true).wp prog Q a w:=by
 have zd:=(yE w).drew;obtain⟨ad,s,d2⟩:=hpa
 refine vtail_sound siE_ok (n:=98) (outs:=[.tmp t1,.tmp t2]) (args:=reg9l pa S.m pc b0 b1 b2 b3 cb b7 b8)
  (R:=fun v w4=>∃ p1 c1,v = .tuple #[clos b0 b1 b2 b3,Lv p1 (S.m+1) c1]/\Ext w w4/\(Kpt b0 w4 fun w=>RowsR w p1 (pushR S C K) (pushL Rl S.m b S.n))/\(∃ ad,p1=some ad/\ad.block<w4.heap.size)/\S.m+1<=c1) hns htl (hrun w _ ?_) (sat_args ha.d ha.n ha.v) hQ fun a' w4 hv a8 hd hn=>?_
 ·have bN:=yN w.drew (row5 S.n b K) 90
  have zN:=(yE w.drew).alloc (.cells (row5 S.n b K).toArray 90);have a6:=(hR w.drew (But.ext zd)).1
  have l : ∀ j u,(GL (rowc S Rl) S.m)[j]? = some u->w.drew.cell? (ad.add j)=some u:=by
   intro j u hj;obtain⟨ad',h1,_,h2⟩:=a6.at (List.getElem?_eq_some_iff.1 hj).1;rw [s] at h1;cases h1;exact h2 j u hj
  have a2:(GL (rowc S Rl) S.m).length=S.m*5:=by rw [zAR (m:=5) fun _=>rfl];omega
  refine⟨_,(h3.ext zd).blk.cell (j:=0) rfl,⟨by omega,by omega,by omega⟩,_,_,_,_,_,_,_,(hx.ext zd).blk.all,zN,w.drew.heap.size,GL (rowc S Rl) S.m,row5 S.n b K,⟨?_,rfl,.inr ⟨_,rfl,bN.blk.all⟩,rfl,by unfold maxLen;omega,by omega,zN.size⟩,fun p1 c1 w1 r=>?_⟩
  ·refine .inr ⟨by decide,by omega,by rw [a2,yT],ad,s,fun j u hj=>?_⟩
   exact zN.cell (l j u hj)
  ·simp only [yT] at r ⊢
   have f:=r.own
   have a5 : ¬ (w.drew.alloc (.cells (row5 S.n b K).toArray 90)).ownsRow w.drew.heap.size 90 5 (Lv pa S.m S.m) S.m (GL (rowc S Rl) S.m):=by
    intro h;rw [s] at h
    rcases h.2 with ⟨hv,_⟩ | ⟨g,cap,cur,hv,hb,_⟩
    ·cases hv
    ·injection hv with e1 _ _
     injection e1 with e1
     subst e1;exact absurd hb (Nat.not_le_of_lt d2)
   have i:=r.full a5;have e1:Ext (w.drew.alloc (.cells (row5 S.n b K).toArray 90)) w1:=⟨i.os,i.tape,i.output,i.size,fun k hk=>i.block k hk (by simp)⟩;have p:=zN.trans e1;obtain⟨g,b4,b5,_,b6⟩:=own_some f (by omega);have b9:=zFp f g b5;refine⟨p,p1,c1,rfl,zd.trans p,fun w2 h2=>?_,⟨_,b4,b9.2⟩,b6⟩;refine rows_push (zAV f fun k hk=>?_) (hR w2 ((But.ext (zd.trans p)).trans h2)).2 ?_
   ·have d0:=zFp f k hk
    refine h2.block k (fun e=>?_) d0.2;have:b0<w.drew.heap.size:=hb0w;omega
   ·have x:=hb.ext (zd.trans p)
    exact x.same (h2.block b (Ne.symm hb0) x.lt)
 ·obtain⟨vs,hr,hv⟩:=hv
  have evs:Result.ok [a'.tmps.getD t1 undef,a'.tmps.getD t2 undef] w4=Result.ok vs w4:=hr;cases evs;obtain⟨p1,c1,e,he,a7,d1,a9⟩:=hv
  have ea:a'.tmps.getD t1 undef=clos b0 b1 b2 b3/\a'.tmps.getD t2 undef=Lv p1 (S.m+1) c1:=by
   injection e with e
   injection e with e
   injection e with e1 e2
   injection e2 with e2 _
   exact⟨e1,e2⟩
  refine zAF (o:=oL) (by simp) hgd (hex a'.eval w4 #[] _ _ ea.1 ea.2) ?_;rw [Oper.upon_enter];refine Calls.mono (hcall w4 p1 c1 he a7 d1 a9) ?_;rintro e w5 ⟨a1,a3⟩;have a0:=(But.ext (b:=b0) he).trans a1
  cases acc with
  | none =>
   obtain rfl:=a3;exact hnone rfl a' w5 hd a0
  | some j =>
   obtain⟨rfl,hB⟩:=a3;refine hsome j rfl _ w5 (zG1 (ha.keep a8 hd hn fun t ht a4=>?_) fun t ht=>?_) a0 hB
   ·have:=of_decide_eq_true (List.all_eq_true.1 hwr t a4)
    have d3:t<9:=ht;omega
   ·rw [hdst] at ht;cases ht
    exact hd9
def o1010 : Oper := { dst := some 86, op := Op.call { callee := Callee.value (Operand.tmp 76), args := #[Operand.tmp 85], argTypes := #[85] }, type := 0, pos := "cuts.go:128", after := #[{ on := 0, ground := Ground.data }, { on := 9, ground := Ground.data }, { on := 9, ground := Ground.chain }], guard := none }
def o1110 : Oper := { dst := some 97, op := Op.call { callee := Callee.value (Operand.tmp 87), args := #[Operand.tmp 96], argTypes := #[85] }, type := 0, pos := "cuts.go:129", after := #[{ on := 0, ground := Ground.data }, { on := 9, ground := Ground.data }, { on := 9, ground := Ground.chain }], guard := none }
theorem oA_eq:oA=o1010:=by kernel_rfl
theorem oB_eq:oB=o1110:=by kernel_rfl
theorem exA(ρ:Operand->Value)(w:World)(first cap:Array Value)(v:Value)(h1:ρ (.tmp 76) = .func (.func 100) first cap)(h2:ρ (.tmp 85)=v):(execOp ρ oA).run prog w = .ok (.enter 100 (first++#[v]++cap)) w:=by
 rw [oA_eq];simp [o1010,go_sem,h1,h2]
theorem exB(ρ:Operand->Value)(w:World)(first cap:Array Value)(v:Value)(h1:ρ (.tmp 87) = .func (.func 100) first cap)(h2:ρ (.tmp 96)=v):(execOp ρ oB).run prog w = .ok (.enter 100 (first++#[v]++cap)) w:=by
 rw [oB_eq];simp [o1110,go_sem,h1,h2]
theorem dA:((dsts opsA.toList).all fun t=>decide (9<=t))=true:=by kernel_rfl
theorem dB:((dsts opsB.toList).all fun t=>decide (9<=t))=true:=by kernel_rfl
theorem tA:oA.dst=some 86:=by kernel_rfl
theorem tB:oB.dst=some 97:=by kernel_rfl
theorem gA:oA.guard=none:=by kernel_rfl
theorem gB:oB.guard=none:=by kernel_rfl
theorem zD2{s:BA}(h:isZ (bs s)):okQ (bs s)=true:=by
 obtain⟨z,hz⟩:=h;exact ok_of hz
open Classical in
set_option maxHeartbeats 8000000 in
theorem c100{Y B pr}{prc b0 b1 b2 b3:Nat}(hY:smallY Y)(h01:b0≠b1)(h02:b0≠b2)(h03:b0≠b3) : ∀ (f:Nat) {S:Tb.Sys} {Rl:RowL} {pa:OA} {pc i:Nat} (hS:SmP S) (hf:Y.m<=f+i) (hm:S.m+(Y.m - i)<=72) (w:World) (h0:Box w b0 3 [Iv i]) (h1:Box w b1 63 [Lv pr Y.m prc]) (h2:Box w b2 3 [Iv S.n]) (h3:Box w b3 124 [clos b0 b1 b2 b3])
  (hYc:Kpt b0 w fun w=>CutsT w pr Y B) (hR:Kpt b0 w fun w=>RowsR w pa S Rl) (hg:Kpt b0 w Gl) (hpa : ∃ ad,pa=some ad/\ad.block<w.heap.size) (hpc:S.m<=pc),
  Calls prog 100 #[Lv pa S.m pc,.pointer (some ⟨b0,0,none⟩),.pointer (some ⟨b1,0,none⟩),.pointer (some ⟨b2,0,none⟩),.pointer (some ⟨b3,0,none⟩)] w (NodeR b0 (cutP Y f S i) w):=by
 intro f
 induction f with
 | zero =>
  intro S Rl pa pc i hS hf hm w h0 h1 h2 h3 hYc hR hg hpa hpc;have:=c100leaf (Rl:=Rl) (b3:=b3) (pc:=pc) hS hY.1 (fun hi=>hY.lf hS hi) (fun hi=>absurd hi (by omega)) w h0 h1 h2 h01 h02 hYc hR hg;rw [if_neg (fun h=>absurd h.1 (by omega))] at this;exact this
 | succ f ih =>
  intro S Rl pa pc i hS hf hm w h0 h1 h2 h3 hYc hR hg hpa hpc
  by_cases hin:i<Y.m/\Y.leaf i=false
  case neg =>
   have g2:i<Y.m->Y.leaf i=true:=fun hi=>by
    cases hl:Y.leaf i with
    | true=>rfl
    | false=>exact absurd ⟨hi,hl⟩ hin
   have:=c100leaf (Rl:=Rl) (b3:=b3) (pc:=pc) hS hY.1 (fun hi=>hY.lf hS hi) g2 w h0 h1 h2 h01 h02 hYc hR hg
   have e:cutP Y (f+1) S i=if i<Y.m/\zCd S Y i then some (i+1) else none:=by
    unfold cutP
    by_cases hi:i<Y.m
    ·rw [if_pos hi,if_pos (g2 hi)]
     by_cases hk:zCd S Y i
     ·rw [if_pos hk,if_pos ⟨hi,hk⟩]
     ·rw [if_neg hk,if_neg (fun h=>hk h.2)]
    ·rw [if_neg hi,if_neg (fun h=>hi h.1)]
   rw [e];exact this
  case pos =>
  obtain⟨hi,hl⟩:=hin
  have e9:cutP Y (f+1) S i=if okCut S.n Y i then (match cutP Y f (leS S Y i) (i+1) with | some j=>cutP Y f (geS S Y i) j | none=>none) else none:=by
   rw [cutP,if_pos hi,if_neg (by rw [hl];decide)] <;> rfl
  rw [e9];obtain⟨j1,d5,d8,_⟩:=hY.2 i hi;have a9:=h0.lt;refine calls_of_wp func100 f100b ?_;refine head_wp hY.1 w h0 h1 h01 hYc.now regs0 (fun h=>absurd hi h) fun _ a1 w1 cb e8 k5 a0 i7 l=>?_;have d3:=h2.same (l.block _ (Ne.symm h02) h2.lt);have d4:=h3.same (l.block _ (Ne.symm h03) h3.lt);have e0:=h1.same (l.block _ (Ne.symm h01) h1.lt);unfold tail100;refine wp_seq (wp_seq ?_);refine wp_mono (zCa siE_ok (fn:=pc4) (args:=reg7l pa S.m pc b0 b1 b2 b3 cb) (R:=fun v w''=>v=Bv (Y.leaf i)/\w'' = w1) SiPb4 ?_ (e8.sat (by simp [reg7l]) ntmps100)) ?_
  ·exact runP4 ⟨_,a0.blk.cell (j:=0) rfl,rfl,rfl⟩
  rintro e a2 w2 ⟨rfl,⟨v,hr,rfl,rfl⟩,i6,j3,j8⟩;have g3:a2.tmps.size=98:=j8.trans (by rw [show pc4.ntmps=98 from ntmps100];rfl);have hv:a2.eval (.tmp 22)=Bv (Y.leaf i):=zEo (fn:=pc4) (t:=22) rfl hr;have h9:=e8.keep' wm4 i6 j3 g3;rw [hl] at hv;refine wp_cond_false hv (wp_skip ?_);rw [rest7_eq];refine wp_seq ?_;refine q7_wp (n:=S.n) ⟨j1,d5,d8⟩ w2 h9 a0 d3 ((hYc w2 l).2 i hi).1 (hg w2 l) (fun b5 a3 w3 j4 a7=>⟨j4,l.trans (But.ext a7),?_⟩) fun d2 a3 w3 i0 a7=>?_
  ·rw [if_neg b5]
  rw [if_pos d2];obtain⟨b9,f7,g1⟩:=d2;have x:=l.trans (But.ext a7);have k6:=hS.n;have d6 : ∀ j,j<Y.cN i->dg 61 (rd (Y.C i j)):=fun j hj=>rd_dg (zD2 (f7 j hj)) (d5 j hj);have d7:dg 61 (rd (Y.K i)):=rd_dg (zD2 g1) d8;refine wp_seq (reg9 (D:={ pa:=B.cA i,n:=Y.cN i,c:=B.cC i,C:=fun j=>rd (Y.C i j),K:=rd (Y.K i),kt:=Y.K i,cb:=cb,base:=w3.drew.heap.size }) (s:=Y.C i) w3 rfl (by show Y.cN i<=_;omega) i0 rfl rfl (a0.ext a7) (((hYc w2 l).2 i hi).1.ext a7) d5 (fun j hj=>rd_ok (zD2 (f7 j hj))) d6 (rd_ok (zD2 g1)) d8 d7 (hg w3 x) fun a4 w4 b7 b8 bc bn i1 f9 k4 i8 g9 h4 hC hG=>?_);have p:=x.trans (But.ext f9);have k3:b0<w3.drew.heap.size:=Nat.lt_of_lt_of_le a9 x.size;have a8:=a7.trans f9;obtain⟨i9,hC⟩:=hC;obtain⟨j0,hG⟩:=hG
  have e5:Box w4 b7 90 (row5 S.n bc (rd (Y.K i))):=by rw [<- b9];exact g9
  have d0:Box w4 b8 90 (row5 S.n bn (-rd (Y.K i) - 1)):=by rw [<- b9];exact h4
  have h5:Box w4 bc 88 (QL (fun j=>rd (Y.C i j)) S.n):=by rw [<- b9];exact hC
  have e7:Box w4 bn 88 (QL (fun j => -rd (Y.C i j)) S.n):=by rw [<- b9];exact hG
  have k0:w3.drew.heap.size<=b8:=i8;have k2:w3.drew.heap.size<=bn:=j0;have k1:w3.drew.heap.size<=bc:=i9
  have d1 : ∃ ad,pa=some ad/\ad.block<w4.heap.size:=by
   obtain⟨ad,h1,h2⟩:=hpa;exact⟨ad,h1,Nat.lt_of_lt_of_le h2 p.size⟩
  refine wp_seq ?_;rw [qA_eq]
  refine sub_wp (bx:=b7) (b:=bc) (C:=fun j=>rd (Y.C i j)) (K:=rd (Y.K i)) (acc:=cutP Y f (leS S Y i) (i+1)) nsA tailA gA tA (by decide) dA exA (fun w R h=>runPA _ _ _ _ _ _ _ _ _ _ _ w R h) hS.m hpc w4 i1 (d4.ext a8) e5 h5 (by omega) (Nat.lt_of_lt_of_le a9 p.size) (hR.go p) d1
   (fun c a d v w h=>⟨(put_defers (d:=d) (v:=v)).symm.trans h.1,h.2⟩) (fun w5 p1 c1 g0 h7 d9 a0=>?_) (fun j hj a5 w5 i2 g g7=>?_) fun b5 a5 w5 j5 g=>⟨j5,p.trans g,?_⟩
  ·have b6:=a8.trans g0
   have g:=p.trans (But.ext g0);refine ih (S:=leS S Y i) (hS.push (by omega) (fun j hj=>(d6 j (by omega)).mono (by decide)) (d7.mono (by decide))) (by omega) (by show S.m+1+_<=72;omega) w5 (i7.ext b6) (e0.ext b6) (d3.ext b6) (d4.ext b6) (hYc.go g) h7 (hg.go g) d9 a0
  ·rw [hj]
   have hgt:=zF7 hj;have o:=p.trans g;rw [qB_eq]
   have j9:b8≠b0:=by omega
   have nbn:bn≠b0:=by omega
   have e6:=d0.same (g.block b8 j9 d0.lt);have h6:=e7.same (g.block bn nbn e7.lt);have e3:=d4.ext a8;have e2:=d3.ext a8;have e1:=e0.ext a8;have e4:=e3.same (g.block b3 (Ne.symm h03) e3.lt);have g6:=e2.same (g.block b2 (Ne.symm h02) e2.lt);have g5:=e1.same (g.block b1 (Ne.symm h01) e1.lt)
   have g4 : ∃ ad,pa=some ad/\ad.block<w5.heap.size:=by
    obtain⟨ad,h1,h2⟩:=d1;exact⟨ad,h1,Nat.lt_of_lt_of_le h2 g.size⟩
   refine sub_wp (bx:=b8) (b:=bn) (C:=fun j => -rd (Y.C i j)) (K := -rd (Y.K i) - 1) (acc:=cutP Y f (geS S Y i) j) nsB tailB gB tB (by decide) dB exB (fun w R h=>runPB _ _ _ _ _ _ _ _ _ _ _ w R h) hS.m hpc w5 i2 e4 e6 h6 (Ne.symm nbn) (Nat.lt_of_lt_of_le a9 o.size) (hR.go o) g4
    (fun c a d v w h=>⟨(put_defers (d:=d) (v:=v)).symm.trans h.1,h.2⟩) (fun w6 p1 c1 b4 h8 d9 a0=>?_) (fun j2 j7 a6 w6 i5 u g8=>?_) fun b5 a6 w6 j6 u=>⟨j6,o.trans u,?_⟩
   ·have u:=o.trans (But.ext b4)
    have f8:dg 745 (-rd (Y.K i) - 1):=(d7.neg.sub (zF5 (k:=1) (by decide))).mono (by decide);exact ih (S:=geS S Y i) (hS.push (by omega) (fun j hj=>(d6 j (by omega)).neg.mono (by decide)) f8) (by omega) (by show S.m+1+_<=72;omega) w6 (g7.ext b4) (g5.ext b4) (g6.ext b4) (e4.ext b4) (hYc.go u) h8 (hg.go u) d9 a0
   ·refine⟨i5.d,.tuple #[],by simp [results,Tryz.results100],o.trans u,?_⟩
    simp only [j7];exact⟨trivial,g8⟩
   ·simp only [b5]
  ·simp only [b5]
end Go.Proofs.Si
