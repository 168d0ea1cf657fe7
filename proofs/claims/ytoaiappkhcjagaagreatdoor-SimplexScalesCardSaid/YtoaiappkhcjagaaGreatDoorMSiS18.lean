/- Part of the proof: SiS18, SiS19, SiS20, SiS21, SiS22, SiS23, SiS24, TbI, SiS25, SiF2, SiRow. -/
import Derived.Test.YtoaiappkhcjagaaGreatDoorMSiS11
import Derived.Test.YtoaiappkhcjagaaGreatDoorMTbG
import Derived.Test.YtoaiappkhcjagaaGreatDoorProg
import Derived.KernelRfl
import GoSem.ClaimSeven
import Derived.ProofKit
import Derived.OpenShut
import Derived.ShutString
import Derived.Below
import Derived.Lay
import Derived.LaidOnce
import Derived.SevenTiedAt
import Derived.ChangeSlices
import Derived.ChangeOld
import Derived.Carry
import Derived.DataReads
import Derived.Lib.LaidTab
import Derived.Stop.LaidErr
set_option linter.unusedVariables false
set_option linter.unusedSimpArgs false
namespace Go.Proofs.Si
open Go Go.V Go.Proofs Go.RowKit Go.Num Go.Tb Go.Proofs.Tryz
set_option maxRecDepth 100000
abbrev t1:ByteArray:={ data:=#[49] }
abbrev tm1:ByteArray:={ data:=#[45,49] }
abbrev tm2:ByteArray:={ data:=#[45,50] }
abbrev t2:ByteArray:={ data:=#[50] }
theorem bs_t1:bs t1=txtQ 1:=by
 have h:=zEK 1
 rw [show ((1:Int):Rat)=1 from rfl] at h
 rw [h,show (1:Int).natAbs=1 from rfl,zA5 (by decide)];rfl
theorem bs_t2:bs t2=txtQ 2:=by
 have h:=zEK 2
 rw [show ((2:Int):Rat)=2 from rfl] at h
 rw [h,show (2:Int).natAbs=2 from rfl,zA5 (by decide)];rfl
theorem bs_tm1:bs tm1=txtQ (-1):=by
 have h:=zEK (-1)
 rw [show ((-1:Int):Rat) = -1 from rfl] at h
 rw [h,show (-1:Int).natAbs=1 from rfl,zA5 (by decide)];rfl
theorem bs_tm2:bs tm2=txtQ (-2):=by
 have h:=zEK (-2)
 rw [show ((-2:Int):Rat) = -2 from rfl] at h
 rw [h,show (-2:Int).natAbs=2 from rfl,zA5 (by decide)];rfl
def aX (m:Nat):TX:={ m:=m,n:=fun _=>1,C:=fun i _=>if i=0 then t1 else tm1,rel:=fun _=>1,K:=fun i=>if i=0 then t1 else tm2 }
def aR:TX:={ m:=1,n:=fun _=>1,C:=fun _ _=>t1,rel:=fun _=>2,K:=fun _=>t2 }
theorem aX_ok {m:Nat} (hm:m<=2):okRows (aX m) 1:=by
 refine⟨by decide,by decide,by show m<=200;omega,fun i hi=>⟨rfl,by show (1:Int)<=1;decide,by show (1:Int)<=3;decide,fun j _=>?_,?_⟩⟩
 ·show okQ (bs (if i=0 then t1 else tm1))=true
  split
  ·exact ok_of bs_t1
  ·exact ok_of bs_tm1
 ·show okQ (bs (if i=0 then t1 else tm2))=true
  split
  ·exact ok_of bs_t1
  ·exact ok_of bs_tm2
theorem zDp {m:Nat} (hm:m<=2):smallX (aX m) 14 60:=by
 refine⟨by show m<=14;omega,fun i hi=>⟨?_,by show 1<=60;decide,fun j _=>?_⟩⟩
 ·show (if i=0 then t1 else tm2).size<=60
  split <;> decide
 ·show (if i=0 then t1 else tm1).size<=60
  split <;> decide
theorem aR_small:smallX aR 14 60:=⟨by decide,fun i hi=>⟨by show t2.size<=60;decide,by show 1<=60;decide,fun j _=>by show t1.size<=60;decide⟩⟩
theorem rd_t1:rd t1=1:=rd_of bs_t1
theorem rd_t2:rd t2=2:=rd_of bs_t2
theorem rd_tm1:rd tm1 = -1:=rd_of bs_tm1
theorem rd_tm2:rd tm2 = -2:=rd_of bs_tm2
theorem lhs_a0 (m:Nat) (x:Nat->Rat):Tb.lhs (sysX (aX m) 1) x 0=x 0:=by
 show sumN 1 (fun j=>rd t1*x j)=x 0
 rw [zAo,zAG,rd_t1,Rat.one_mul,Rat.zero_add]
theorem lhs_a1 (x:Nat->Rat):Tb.lhs (sysX (aX 2) 1) x 1 = -(x 0):=by
 show sumN 1 (fun j=>rd tm1*x j)=_
 rw [zAo,zAG,rd_tm1];grind
theorem a_sat:Sat (sysX (aX 1) 1) fun _=>0:=by
 intro k hk
 have hk:k<1:=hk
 have:k=0:=by omega
 subst this
 rw [lhs_a0]
 have hK:(sysX (aX 1) 1).K 0=1:=rd_t1
 have hr:(sysX (aX 1) 1).rel 0=1:=rfl
 rw [hK,hr]
 exact⟨by decide,fun h=>absurd h (by decide),fun h=>absurd h (by decide)⟩
theorem a_unsat (x:Nat->Rat) : ¬ Sat (sysX (aX 2) 1) x:=by
 intro h
 have h0:=(h 0 (by show 0<2;decide)).1
 have h1:=(h 1 (by show 1<2;decide)).1
 rw [lhs_a0,show (sysX (aX 2) 1).K 0=1 from rd_t1] at h0
 rw [lhs_a1,show (sysX (aX 2) 1).K 1 = -2 from rd_tm2] at h1
 grind
theorem a_noray {c r:Nat->Rat} (hc:c 0=1) : ¬ RayX (sysX (aX 1) 1) c r:=by
 rintro⟨h1,h2⟩
 have h3:=(h2 0 (by show 0<1;decide)).1
 rw [lhs_a0] at h3
 have e:(sumN (sysX (aX 1) 1).n fun v=>c v*r v)=r 0:=by
  show sumN 1 (fun v=>c v*r v)=r 0
  rw [zAo,zAG,hc,Rat.one_mul,Rat.zero_add]
 rw [e] at h1
 exact Rat.not_le.2 h1 h3
theorem a_best {c pt y:Nat->Rat} {att:Bool} (hc:c 0=1) (h:BestX (sysX (aX 1) 1) c pt y att):combK (sysX (aX 1) 1) y=1/\att=true:=by
 have h1:=h.cb 0 (by show 0<1;decide)
 have e1:comb (sysX (aX 1) 1) y 0=y 0:=by
  show sumN 1 (fun k=>y k*rd (if k=0 then t1 else tm1))=y 0
  rw [zAo,zAG,if_pos rfl,rd_t1,Rat.mul_one,Rat.zero_add]
 have e2:combK (sysX (aX 1) 1) y=y 0:=by
  show sumN 1 (fun k=>y k*rd (if k=0 then t1 else tm2))=y 0
  rw [zAo,zAG,if_pos rfl,rd_t1,Rat.mul_one,Rat.zero_add]
 refine⟨by rw [e2,<- e1,h1,hc],?_⟩
 cases att with
 | true=>rfl
 | false =>
  obtain⟨k,hk,hr,_⟩:=h.strict rfl
  exact absurd hr (show ¬ (1:Int).toNat=2 by decide)
theorem imp_ok:okImp (aX 1) aR 1:=⟨aX_ok (by decide),rfl,by show (1:Int)<=2;decide,by show (2:Int)<=3;decide,fun _ _=>ok_of bs_t1,ok_of bs_t2⟩
theorem a_imp (x:Nat->Rat) : ¬ Sat (impS (aX 1) aR 1) x:=by
 intro h
 have h0:=(h 0 (by show 0<2;decide)).1
 have h1:=(h 1 (by show 1<2;decide)).1
 have e0:Tb.lhs (impS (aX 1) aR 1) x 0=x 0:=by
  show sumN 1 (fun j=>(if 0<1 then rd t1 else -(rd t1))*x j)=x 0
  rw [zAo,zAG,if_pos (by decide),rd_t1,Rat.one_mul,Rat.zero_add]
 have e1:Tb.lhs (impS (aX 1) aR 1) x 1 = -(x 0):=by
  show sumN 1 (fun j=>(if 1<1 then rd tm1 else -(rd t1))*x j) = -(x 0)
  rw [zAo,zAG,if_neg (by decide),rd_t1];grind
 have k0:(impS (aX 1) aR 1).K 0=1:=by
  show (if 0<1 then rd t1 else -(rd t2))=1
  rw [if_pos (by decide),rd_t1]
 have k1:(impS (aX 1) aR 1).K 1 = -2:=by
  show (if 1<1 then rd tm2 else -(rd t2)) = -2
  rw [if_neg (by decide),rd_t2]
 rw [e0,k0] at h0
 rw [e1,k1] at h1
 grind
theorem negR_sm {S:Tb.Sys} {c:Nat->Rat} {rel:Nat} {k:Rat} (h:Sm6 S) (hm:S.m<=14) (hc : ∀ j,j<S.n->dg 61 (c j)) (hk:dg 61 k):Sm6 (negR S c rel k) where
 n:=h.n
 m:=by show S.m+1<=15;omega
 C:=fun i hi j hj=>by
  show dg 61 (if i<S.m then S.C i j else -(c j))
  split
  ·rename_i h1;exact h.C i h1 j hj
  ·exact (hc j hj).neg
 K:=fun i hi=>by
  show dg 61 (if i<S.m then S.K i else -k)
  split
  ·rename_i h1;exact h.K i h1
  ·exact hk.neg
theorem holdsX_of {X:TX} {n:Nat} {pt:Nat->Rat} (hok : ∀ i,i<X.m->okRow X n i) (h:Sat (sysX X n) pt):holdsX X n fun j=>mk (txtQ (pt j)):=by
 refine⟨fun j _=>ok_of (bs_mk _),hok,?_⟩
 have e:(fun j=>rd (mk (txtQ (pt j))))=pt:=funext fun j=>rd_mk _
 rw [e];exact h
theorem checkX_of {X:TX} {n:Int} {y:Nat->Rat} (hok:okRows X n) (h:zAQ (sysX X n.toNat) y):checkX X n X.m fun j=>mk (txtQ (y j)):=by
 refine⟨hok,rfl,fun j _=>ok_of (bs_mk _),?_⟩
 have e:(fun j=>rd (mk (txtQ (y j))))=y:=funext fun j=>rd_mk _
 rw [e];exact h
theorem zG3 {q:Rat} {k:Nat} (h:dg k q):(mk (txtQ q)).size<=2*k+2:=zCz h (bs_mk _)
theorem dots_pt {X:TX} {n:Nat} {pt:Nat->Rat} (hsm:Sm6 (sysX X n)) (hpt : ∀ j,j<n->dg 14000000 (pt j)) (hok : ∀ i,i<X.m->okRow X n i) :
  ∀ S x,Reads X S->S.n=n->PtReads (fun j=>mk (txtQ (pt j))) n x->Dots S x 84001000/\(∀ i,i<S.m->dg 84001000 (S.K i))/\(∀ j,j<n->dg 40000000 (x j))/\∀ i,i<S.m->∀ j,j<n->dg 40000000 (S.C i j):=by
 intro S x hS hn hx
 have hs:=((zBh hok).agree hS (by rw [hn];rfl)).sm hsm
 have hxd : ∀ j,j<n->dg 14000000 (x j):=fun j hj=>by
  rw [hx.rd j hj,rd_mk];exact hpt j hj
 exact⟨hs.dots fun j hj=>hxd j (by omega),fun i hi=>(hs.K i hi).mono (by decide),fun j hj=>(hxd j hj).mono (by decide),fun i hi j hj=>(hs.C i hi j (by omega)).mono (by decide)⟩
abbrev lp0:List Value:=[.int .i64 0,.slice none 0 0,.slice none 0 0]
set_option maxHeartbeats 1000000 in
theorem c21 (w:World) (hg:Gl w):Ret prog 21 #[] w fun v w'=>v = .bool true/\Ext w w':=by
 refine run21 _ _ ?_
 unfold vc21
 rw [show (Obj.cells #[Value.string { data:=#[49] }] 9) = .cells [Value.string t1].toArray 9 from rfl,show (Obj.cells #[Value.string { data:=#[45,49] }] 9) = .cells [Value.string tm1].toArray 9 from rfl]
 have z1:=(Ext.refl w).alloc (.cells [Value.string t1].toArray 9)
 have b1:=Box.new w [Value.string t1] 9
 generalize w.alloc (.cells [Value.string t1].toArray 9)=W1 at z1 b1 ⊢
 have z2:=(Ext.refl W1).alloc (.cells [Value.string tm1].toArray 9)
 have b2:=Box.new W1 [Value.string tm1] 9
 have b1':=b1.ext z2
 generalize W1.alloc (.cells [Value.string tm1].toArray 9)=W2 at z2 b2 b1' ⊢
 have z3:=(Ext.refl W2).alloc (.cells (GL (rtc (aX 2) ⟨fun i=>if i=0 then some ⟨w.heap.size,0,none⟩ else some ⟨W1.heap.size,0,none⟩,fun _=>1⟩) 2).toArray 49)
 have b3:=Box.new W2 (GL (rtc (aX 2) ⟨fun i=>if i=0 then some ⟨w.heap.size,0,none⟩ else some ⟨W1.heap.size,0,none⟩,fun _=>1⟩) 2) 49
 refine⟨⟨by decide,by decide⟩,?_⟩
 change Called _ 28 _ (W2.alloc (.cells (GL (rtc (aX 2) ⟨fun i=>if i=0 then some ⟨w.heap.size,0,none⟩ else some ⟨W1.heap.size,0,none⟩,fun _=>1⟩) 2).toArray 49)) _
 have b1'':=b1'.ext z3
 have b2'':=b2.ext z3
 have hx3:=(z1.trans z2).trans z3
 generalize W2.alloc (.cells (GL (rtc (aX 2) ⟨fun i=>if i=0 then some ⟨w.heap.size,0,none⟩ else some ⟨W1.heap.size,0,none⟩,fun _=>1⟩) 2).toArray 49)=W3 at z3 b3 b1'' b2'' hx3 ⊢
 obtain⟨A,hA⟩ : ∃ A:TA,A=⟨fun i=>if i=0 then some ⟨w.heap.size,0,none⟩ else some ⟨W1.heap.size,0,none⟩,fun _=>1⟩:=⟨_,rfl⟩
 have r2:RowsT W3 (some ⟨W2.heap.size,0,none⟩) (aX 2) A:=by
  refine⟨by rw [hA];exact b3.blk.sl,fun i hi=>?_⟩
  rw [hA]
  show SS W3 (if i=0 then _ else _) (fun _=>if i=0 then t1 else tm1) 1
  by_cases e:i=0
  ·rw [if_pos e,if_pos e];exact b1''.blk.sl
  ·rw [if_neg e,if_neg e];exact b2''.blk.sl
 have r1:RowsT W3 (some ⟨W2.heap.size,0,none⟩) (aX 1) A:=by
  refine⟨?_,fun i hi=>r2.2 i (by have:i<1:=hi;show i<2;omega)⟩
  rw [hA]
  have hb:Blk W3 W2.heap.size 49 (GL (rtc (aX 1) ⟨fun i=>if i=0 then some ⟨w.heap.size,0,none⟩ else some ⟨W1.heap.size,0,none⟩,fun _=>1⟩) 1):=⟨rtc (aX 2) ⟨fun i=>if i=0 then some ⟨w.heap.size,0,none⟩ else some ⟨W1.heap.size,0,none⟩,fun _=>1⟩ 1,b3⟩
  exact hb.sl
 clear hA b1 b2 b1' b3 b1'' b2'' z1 z2 z3
 have ok1:=aX_ok (m:=1) (by decide)
 have ok2:=aX_ok (m:=2) (by decide)
 have sm1:=(zDp (m:=1) (by decide)).sm (n:=1) (by decide) ok1.nat
 have sm2:=(zDp (m:=2) (by decide)).sm (n:=1) (by decide) ok2.nat
 have tm1' : Tame (aX 1):=(zDp (by decide)).tame (by decide)
 have tm2' : Tame (aX 2):=(zDp (by decide)).tame (by decide)
 refine Called.of (c28x (X:=aX 1) (A:=A) (n:=1) (c:=2) tm1' (zFM (zDp (by decide)) (by decide) ok1) W3 r1 (hg.ext hx3)) ?_
 rintro v w1 ⟨hL,he1⟩
 rcases hL with ⟨h,_⟩ | ⟨_,bp,hbp,⟨pt,rfl,hTp,hsat,hptd⟩ | ⟨y,_,_,href,_⟩⟩
 ·exact absurd ok1 h
 rotate_left
 ·exact (farkas href a_sat).elim
 have hx4:=hx3.trans he1
 have n1:=Box.new w1 lp0 31
 have p1:=n1.put [Value.int .i64 1,.slice (some ⟨bp,0,none⟩) 1 1,nsl] (by rfl)
 have e1:Ext w1 (setCells (w1.alloc (.cells lp0.toArray 31)) ⟨w1.heap.size,0,none⟩ 0 [Value.int .i64 1,.slice (some ⟨bp,0,none⟩) 1 1,nsl]):=((Ext.refl w1).alloc _).put (Nat.le_refl _) _ _
 refine⟨_,_,_,_,_,_,_,_,rfl,n1.blk.writable (by decide),?_⟩
 change Called _ 28 _ (setCells (w1.alloc (.cells lp0.toArray 31)) ⟨w1.heap.size,0,none⟩ 0 [Value.int .i64 1,.slice (some ⟨bp,0,none⟩) 1 1,nsl]) _
 have hTp1:zBG _ bp pt 1:=Box.ext hTp e1
 generalize setCells (w1.alloc (.cells lp0.toArray 31)) ⟨w1.heap.size,0,none⟩ 0 [Value.int .i64 1,.slice (some ⟨bp,0,none⟩) 1 1,nsl]=V1 at p1 e1 hTp1 ⊢
 have hx5:=hx4.trans e1
 have q5:=he1.trans e1
 refine Called.of (c28x (X:=aX 2) (A:=A) (n:=1) (c:=2) tm2' (zFM (zDp (by decide)) (by decide) ok2) V1 (r2.ext q5) (hg.ext hx5)) ?_
 rintro v w2 ⟨hL,he2⟩
 rcases hL with ⟨h,_⟩ | ⟨_,by',hby,⟨x,_,_,h,_⟩ | ⟨y,rfl,hTy,href,hyd⟩⟩
 ·exact absurd ok2 h
 ·exact absurd h (a_unsat x)
 have n2:=Box.new w2 lp0 31
 have p2:=n2.put [Value.int .i64 2,nsl,.slice (some ⟨by',0,none⟩) 2 2] (by rfl)
 have e2:Ext w2 (setCells (w2.alloc (.cells lp0.toArray 31)) ⟨w2.heap.size,0,none⟩ 0 [Value.int .i64 2,nsl,.slice (some ⟨by',0,none⟩) 2 2]):=((Ext.refl w2).alloc _).put (Nat.le_refl _) _ _
 refine⟨_,_,_,_,_,_,_,_,rfl,n2.blk.writable (by decide),⟨by decide,by decide⟩,?_⟩
 change Called _ 30 #[_,_,.slice (some ⟨(setCells (w2.alloc (.cells lp0.toArray 31)) ⟨w2.heap.size,0,none⟩ 0 [Value.int .i64 2,nsl,.slice (some ⟨by',0,none⟩) 2 2]).heap.size,0,none⟩) 1 1] ((setCells (w2.alloc (.cells lp0.toArray 31)) ⟨w2.heap.size,0,none⟩ 0 [Value.int .i64 2,nsl,.slice (some ⟨by',0,none⟩) 2 2]).alloc (.cells (SL (fun _=>t1) 1).toArray 9)) _
 have hTy2:zBG _ by' y 2:=Box.ext hTy e2
 generalize setCells (w2.alloc (.cells lp0.toArray 31)) ⟨w2.heap.size,0,none⟩ 0 [Value.int .i64 2,nsl,.slice (some ⟨by',0,none⟩) 2 2]=V2 at p2 e2 hTy2 ⊢
 have e3:=(Ext.refl V2).alloc (.cells (SL (fun _=>t1) 1).toArray 9)
 have b3:=Box.new V2 (SL (fun _=>t1) 1) 9
 generalize hV3:V2.alloc (.cells (SL (fun _=>t1) 1).toArray 9)=V3 at e3 b3 ⊢
 have q6:=((q5.trans he2).trans e2).trans e3
 have hx6:=hx3.trans q6
 have fc:=sm1.fitsC (c:=fun _=>rd t1) (fun j _=>by rw [rd_t1];exact zCQ (by decide))
 refine Called.of (c30 (X:=aX 1) (A:=A) (n:=1) (c:=2) (mc:=1) (t:=fun _=>t1) tm1' (by decide) (fun _ _=>by show t1.size<=_;decide) (fun _=>sm1.fits) (fun _=>fc) V3 (r1.ext q6) b3.blk.sl (hg.ext hx6)) ?_
 rintro v w3 ⟨hO,he3⟩
 have okM:okMax (aX 1) 1 1 (fun _=>t1):=⟨ok1,rfl,fun _ _=>ok_of bs_t1⟩
 rcases hO with ⟨h,_⟩ | ⟨_,⟨_,y2,_,_,_,h,_⟩ | ⟨_,_,_,r,_,_,_,_,_,_,_,h,_⟩ | ⟨bo1,bo2,u,att,po,yo,ho1,ho2,rfl,hu,_,_,_,hB,_⟩⟩
 ·exact absurd okM h
 ·exact (farkas h a_sat).elim
 ·exact absurd h (a_noray rd_t1)
 obtain⟨hk1,rfl⟩:=a_best rd_t1 hB
 have eu:bs u=[49]:=by rw [hu];exact (congrArg txtQ hk1).trans (bs_t1.symm.trans rfl)
 have n3:=Box.new w3 (ob 0 { data:=#[] } false nsl nsl nsl) 38
 have p3:=n3.put (ob 1 u true (.slice (some ⟨bo1,0,none⟩) 1 1) (.slice (some ⟨bo2,0,none⟩) 1 1) nsl) (by rfl)
 have e4:Ext w3 (setCells (w3.alloc (.cells (ob 0 { data:=#[] } false nsl nsl nsl).toArray 38)) ⟨w3.heap.size,0,none⟩ 0 (ob 1 u true (.slice (some ⟨bo1,0,none⟩) 1 1) (.slice (some ⟨bo2,0,none⟩) 1 1) nsl)):=((Ext.refl w3).alloc _).put (Nat.le_refl _) _ _
 refine⟨_,_,_,_,_,_,_,_,_,_,_,_,_,rfl,n3.blk.writable (by decide),⟨by decide,by decide⟩,?_⟩
 change Called _ 38 #[_,_,.agg #[.slice (some ⟨(setCells (w3.alloc (.cells (ob 0 { data:=#[] } false nsl nsl nsl).toArray 38)) ⟨w3.heap.size,0,none⟩ 0 (ob 1 u true (.slice (some ⟨bo1,0,none⟩) 1 1) (.slice (some ⟨bo2,0,none⟩) 1 1) nsl)).heap.size,0,none⟩) 1 1,_,_]] ((setCells (w3.alloc (.cells (ob 0 { data:=#[] } false nsl nsl nsl).toArray 38)) ⟨w3.heap.size,0,none⟩ 0 (ob 1 u true (.slice (some ⟨bo1,0,none⟩) 1 1) (.slice (some ⟨bo2,0,none⟩) 1 1) nsl)).alloc (.cells (SL (fun _=>t1) 1).toArray 9)) _
 generalize setCells (w3.alloc (.cells (ob 0 { data:=#[] } false nsl nsl nsl).toArray 38)) ⟨w3.heap.size,0,none⟩ 0 (ob 1 u true (.slice (some ⟨bo1,0,none⟩) 1 1) (.slice (some ⟨bo2,0,none⟩) 1 1) nsl)=V4 at p3 e4 ⊢
 have e5:=(Ext.refl V4).alloc (.cells (SL (fun _=>t1) 1).toArray 9)
 have b5:=Box.new V4 (SL (fun _=>t1) 1) 9
 generalize hV5:V4.alloc (.cells (SL (fun _=>t1) 1).toArray 9)=V5 at e5 b5 ⊢
 have q7:=((q6.trans he3).trans e4).trans e5
 have hx7:=hx3.trans q7
 have smI:Sm6 (impS (aX 1) aR 1):=negR_sm sm1 (by show 1<=14;decide) (fun j _=>by show dg 61 (rd t1);rw [rd_t1];exact zCQ (by decide)) (by show dg 61 (rd t2);exact rd_dg (ok_of bs_t2) (by decide))
 refine Called.of (c38 (X:=aX 1) (X1:=aR) (A:=A) (A1:=⟨fun _=>some ⟨V4.heap.size,0,none⟩,fun _=>1⟩) (n:=1) (c:=2) tm1' (aR_small.tame (by decide)) ⟨fun _ _=>by show t1.size<=_;decide,by show t2.size<=_;decide⟩ rfl (fun _=>smI.fits) V5 (r1.ext q7) b5.blk.sl (hg.ext hx7)) ?_
 rintro v w4 ⟨hI,he4⟩
 rcases hI with ⟨h,_⟩ | ⟨_,⟨h,_⟩ | ⟨_,⟨x,_,h⟩ | ⟨bi,yi,hbi,rfl,_,_,_⟩⟩⟩
 ·exact absurd imp_ok h
 ·exact absurd h (by show ¬ (2:Int)=3;decide)
 ·exact absurd h (a_imp x)
 refine⟨_,_,_,_,_,rfl,fun K hK=>?_⟩
 have hd:=(Ext.refl w4).drew
 have q8:=(q7.trans he4).trans hd
 have hx8:=hx3.trans q8
 have p1':=p1.ext (((((((he2.trans e2).trans e3).trans he3).trans e4).trans e5).trans he4).trans hd)
 have p2':=p2.ext (((((e3.trans he3).trans e4).trans e5).trans he4).trans hd)
 have p3':=p3.ext ((e5.trans he4).trans hd)
 have hTp' : zBG _ bp pt 1:=Box.ext hTp1 (((((((he2.trans e2).trans e3).trans he3).trans e4).trans e5).trans he4).trans hd)
 have hTy' : zBG _ by' y 2:=Box.ext hTy2 (((((e3.trans he3).trans e4).trans e5).trans he4).trans hd)
 refine zAa (fun _=>?_) (fun h=>absurd h (by decide))
 refine⟨_,p1'.blk.cell (j:=0) rfl,zAa (fun _=>?_) (fun h=>absurd h (by decide))⟩
 refine⟨⟨by decide,by decide⟩,_,_,_,p1'.blk.cell (j:=1) rfl,?_⟩
 have hdots:=dots_pt (X:=aX 1) (n:=1) sm1 hptd ok1.nat
 have hpz : ∀ j,j<1->(mk (txtQ (pt j))).size<=70000000:=fun j hj=>Nat.le_trans (zG3 (hptd j hj)) (by decide)
 have hhold:zFZ (aX 1) 1 fun j=>mk (txtQ (pt j)):=zEv.2 (holdsX_of ok1.nat hsat)
 refine Called.of (c24 (X:=aX 1) (A:=A) (nx:=1) (cx:=1) (ca:=2) (t:=fun j=>mk (txtQ (pt j))) tm1' (by decide) (fun j hj=>Nat.le_trans (hpz j hj) (by decide)) (fun S x a b c=>(hdots S x a b c).1) _ (r1.ext q8) hTp'.blk.sl) ?_
 rintro v w6 ⟨⟨b3',rfl,hb3⟩,he6⟩
 have hb3t:=hb3.2 hhold
 subst hb3t
 refine⟨_,rfl,he6,?_⟩
 rw [cond_true]
 refine⟨⟨by decide,by decide⟩,_,_,_,p1'.blk.cell (j:=1) rfl,?_⟩
 refine Called.of (c23 (X:=aX 1) (A:=A) (nx:=1) (cx:=1) (ca:=2) (t:=fun j=>mk (txtQ (pt j))) tm1' (by decide) hpz hdots w6 (r1.ext (q8.trans he6)) (hTp'.blk.sl.ext he6) (hg.ext (hx8.trans he6))) ?_
 rintro v w7 ⟨⟨b4,rfl,hb4⟩,he7⟩
 have hb4t:=hb4.2 hhold
 subst hb4t
 refine⟨_,rfl,he6.trans he7,zAa (fun _=>?_) (fun h=>absurd h (by decide))⟩
 have q9:=(q8.trans he6).trans he7
 refine⟨_,p2'.blk.cell (j:=0) rfl,zAa (fun _=>?_) (fun h=>absurd h (by decide))⟩
 refine⟨_,_,_,p2'.blk.cell (j:=2) rfl,?_⟩
 have hyd' : ∀ k,k<2->dg 2000000 (rd (mk (txtQ (y k)))):=fun k _=>by rw [rd_mk];exact hyd k
 refine Called.of (c26 (X:=aX 2) (A:=A) (n:=1) (c:=2) (mf:=2) (fc:=2) (t:=fun j=>mk (txtQ (y j))) tm2' (by decide) (fun j _=>Nat.le_trans (zG3 (hyd j)) (by decide)) (fun _ _ _=>⟨fun i hi j hj=>(sm2.C i hi j hj).mono (by decide),fun i hi=>(sm2.K i hi).mono (by decide),fun i hi=>(hyd' i hi).mono (by decide),(sm2.dotsZ hyd').y (by decide)⟩) w7 (r2.ext q9) (hTy'.blk.sl.ext (he6.trans he7)) (hg.ext (hx3.trans q9))) ?_
 rintro v w8 ⟨⟨b5',rfl,hb5⟩,he8⟩
 have hb5t:=hb5.2 (checkX_of ok2 href)
 subst hb5t
 refine⟨_,rfl,(he6.trans he7).trans he8,zAa (fun _=>?_) (fun h=>absurd h (by decide))⟩
 refine⟨_,p3'.blk.cell (j:=0) rfl,zAa (fun _=>?_) (fun h=>absurd h (by decide))⟩
 refine⟨_,p3'.blk.cell (j:=1) rfl,?_⟩
 rw [zAw]
 refine zAd (fun _=>?_) (fun h=>absurd (eu.trans rfl) h)
 refine⟨_,p3'.blk.cell (j:=2) rfl,zAa (fun _=>?_) (fun h=>absurd h (by decide))⟩
 exact hK _ _ ⟨rfl,(hx3.trans q9).trans he8⟩
end Go.Proofs.Si
namespace Go.Proofs.Si
open Go Go.V Go.Proofs Go.RowKit Go.Num Go.Tb Go.Proofs.Tryz
open Go.IntKind (i64 u64 u32 u8)
set_option maxRecDepth 100000
def vc11 (n:Int) (A:Option Addr) (B C:Nat) (D:Option Addr) (E F:Nat) (w:World) (R:RT):Prop :=
 ∀ (K:List Value->World->Prop),(∀ (b:Bool) (w1:World),(bif b then Called prog 21 #[] w1 fun v w2=>∃ b1,v = .bool b1/\R (.bool b1) w2 else ∃ (I:List Value->World->Prop),∃ (μ:List Value->World->Nat),I [.int .i64 (i64.wrap ((↑B:Int) - 1)),.slice none 0 0] w1/\∀ (n1:Int) (p:Option Addr) (k k1:Nat) (w3:World),I [.int .i64 n1,.slice p k k1] w3->bif decide (n1>=0) then ∃ a,D=some a/\((0:Int)<=n1/\n1<(↑E:Int))/\∃ s,w3.cell? (a.add (n1.toNat*1))=some (.string s)/\Called prog 43 #[.string s] w3 fun v1 w4=>∃ n2,v1 = .int .i64 n2/\bif decide (n2<=0) then Called prog 21 #[] w4 fun v2 w5=>∃ b2,v2 = .bool b2/\R (.bool b2) w5 else ∀ (K1:List Value->World->Prop),(∀ (a1:Addr) (w6:World),(∃ (I1:List Value->World->Prop),∃ (μ1:List Value->World->Nat),I1 [.int .i64 0] w6/\∀ (n3:Int) (w7:World),I1 [.int .i64 n3] w7->bif decide (n3<n) then ∀ (K2:List Value->World->Prop),(∀ (w8:World),I1 [.int .i64 (i64.wrap (n3+1))] w8/\μ1 [.int .i64 (i64.wrap (n3+1))] w8<μ1 [.int .i64 n3] w7->K2 [] w8)->∃ p1 k2 k3,w7.drew.cell? a1=some (.slice p1 k2 k3)/\∃ a2,A=some a2/\((0:Int)<=n1/\n1<(↑B:Int))/\∃ p2 k4 k5,w7.drew.cell? (a2.add (n1.toNat*3))=some (.slice p2 k4 k5)/\∃ a3,p2=some a3/\((0:Int)<=n3/\n3<(↑k4:Int))/\∃ s1,w7.drew.cell? (a3.add (n3.toNat*1))=some (.string s1)/\∃ a4,D=some a4/\((0:Int)<=n1/\n1<(↑E:Int))/\∃ s2,w7.drew.cell? (a4.add (n1.toNat*1))=some (.string s2)/\Called prog 44 #[.string s1,.string s2] w7.drew fun v3 w9=>∃ s3,v3 = .string s3/\RowKit.Below w7.drew.heap.size w7.drew w9/\RowKit.Below w7.drew.heap.size w7.drew (w9.alloc (.cells #[.string s3] 9))/\∃ k6 vs vs1,AppOk (w9.alloc (.cells #[.string s3] 9)) k6 9 1 16 p1 k2 k3 vs (some { block:=w9.heap.size,off:=0:Addr }) 1 vs1/\∀ (p3:Option Addr) (k7:Nat) (w10:World),AppRes (w9.alloc (.cells #[.string s3] 9)) w10 k6 9 1 p1 k2 k3 vs 1 vs1 p3 k7->((∃ v4,w10.cell? a1=some v4)/\w10.frozen? a1=false)/\K2 [] (w10.setCell a1 (.slice p3 (k2+1) k7)) else ∃ p4 k8 k9 n4 s4,vcells w7 a1 0 [.slice p4 k8 k9,.int .i64 n4,.string s4]/\∃ k10 vs2 vs3,AppOk (w7.alloc (.cells #[.slice p4 k8 k9,.int .i64 n4,.string s4] 49)) k10 49 3 48 p k k1 vs2 (some { block:=w7.heap.size,off:=0:Addr }) 1 vs3/\∀ (p5:Option Addr) (k11:Nat) (w11:World),AppRes (w7.alloc (.cells #[.slice p4 k8 k9,.int .i64 n4,.string s4] 49)) w11 k10 49 3 p k k1 vs2 1 vs3 p5 k11->I [.int .i64 (i64.wrap (n1 - 1)),.slice p5 (k+1) k11] w11/\μ [.int .i64 (i64.wrap (n1 - 1)),.slice p5 (k+1) k11] w11<μ [.int .i64 n1,.slice p k k1] w3)->K1 [.pointer (some a1)] w6)->∃ a5,A=some a5/\((0:Int)<=n1/\n1<(↑B:Int))/\∃ n5,w4.drew.cell? ((a5.add (n1.toNat*3)).add 1)=some (.int .i64 n5)/\∃ a6,A=some a6/\((0:Int)<=n1/\n1<(↑B:Int))/\∃ s5,w4.drew.cell? ((a6.add (n1.toNat*3)).add 2)=some (.string s5)/\∃ a7,D=some a7/\((0:Int)<=n1/\n1<(↑E:Int))/\∃ s6,w4.drew.cell? (a7.add (n1.toNat*1))=some (.string s6)/\(Called prog 44 #[.string s5,.string s6] w4.drew fun v5 w12=>∃ s7,v5 = .string s7/\RowKit.Below w4.drew.heap.size w4.drew w12/\RowKit.Below w4.drew.heap.size w4.drew (w12.alloc (.cells #[.slice none 0 0,.int .i64 0,.string ⟨#[]⟩] 49))/\writable (w12.alloc (.cells #[.slice none 0 0,.int .i64 0,.string ⟨#[]⟩] 49)) { block:=w12.heap.size,off:=0:Addr } 3/\K1 [.pointer (some { block:=w12.heap.size,off:=0:Addr })] (setCells (w12.alloc (.cells #[.slice none 0 0,.int .i64 0,.string ⟨#[]⟩] 49)) { block:=w12.heap.size,off:=0:Addr } 0 [.slice none 0 0,.int .i64 n5,.string s7]))/\RowKit.Below w4.drew.heap.size w4.drew (w4.drew.alloc (.cells #[.slice none 0 0,.int .i64 0,.string ⟨#[]⟩] 49))/\Called prog 44 #[.string s5,.string s6] (w4.drew.alloc (.cells #[.slice none 0 0,.int .i64 0,.string ⟨#[]⟩] 49)) fun v6 w13=>∃ s8,v6 = .string s8/\RowKit.Below w4.drew.heap.size w4.drew w13/\writable w13 { block:=w4.drew.heap.size,off:=0:Addr } 3/\K1 [.pointer (some { block:=w4.drew.heap.size,off:=0:Addr })] (setCells w13 { block:=w4.drew.heap.size,off:=0:Addr } 0 [.slice none 0 0,.int .i64 n5,.string s8]) else Called prog 28 #[.int .i64 n,.slice A B C] w3 fun v7 w14=>∃ n6 p6 k12 k13 p7 k14 k15 n7,v7 = .tuple #[.agg #[.int .i64 n6,.slice p6 k12 k13,.slice p7 k14 k15],.int .i64 n7]/\writable (w14.alloc (.cells #[.int .i64 0,.slice none 0 0,.slice none 0 0] 31)) { block:=w14.heap.size,off:=0:Addr } 3/\Called prog 28 #[.int .i64 n,.slice p k k1] (setCells (w14.alloc (.cells #[.int .i64 0,.slice none 0 0,.slice none 0 0] 31)) { block:=w14.heap.size,off:=0:Addr } 0 [.int .i64 n6,.slice p6 k12 k13,.slice p7 k14 k15]) fun v8 w15=>∃ n8 p8 k16 k17 p9 k18 k19 n9,v8 = .tuple #[.agg #[.int .i64 n8,.slice p8 k16 k17,.slice p9 k18 k19],.int .i64 n9]/\writable (w15.alloc (.cells #[.int .i64 0,.slice none 0 0,.slice none 0 0] 31)) { block:=w15.heap.size,off:=0:Addr } 3/\∀ (K3:List Value->World->Prop),(∀ (b3:Bool) (w16:World),R (.bool b3) w16->K3 [.bool b3] w16)->bif n7==0&&n9==0 then ∃ n10,(setCells (w15.alloc (.cells #[.int .i64 0,.slice none 0 0,.slice none 0 0] 31)) { block:=w15.heap.size,off:=0:Addr } 0 [.int .i64 n8,.slice p8 k16 k17,.slice p9 k18 k19]).cell? { block:=w14.heap.size,off:=0:Addr } = some (.int .i64 n10)/\∃ n11,(setCells (w15.alloc (.cells #[.int .i64 0,.slice none 0 0,.slice none 0 0] 31)) { block:=w15.heap.size,off:=0:Addr } 0 [.int .i64 n8,.slice p8 k16 k17,.slice p9 k18 k19]).cell? { block:=w15.heap.size,off:=0:Addr } = some (.int .i64 n11)/\bif n10==n11 then Called prog 21 #[] (setCells (w15.alloc (.cells #[.int .i64 0,.slice none 0 0,.slice none 0 0] 31)) { block:=w15.heap.size,off:=0:Addr } 0 [.int .i64 n8,.slice p8 k16 k17,.slice p9 k18 k19]) fun v9 w17=>∃ b4,v9 = .bool b4/\K3 [.bool b4] w17 else K3 [.bool false] (setCells (w15.alloc (.cells #[.int .i64 0,.slice none 0 0,.slice none 0 0] 31)) { block:=w15.heap.size,off:=0:Addr } 0 [.int .i64 n8,.slice p8 k16 k17,.slice p9 k18 k19]) else K3 [.bool false] (setCells (w15.alloc (.cells #[.int .i64 0,.slice none 0 0,.slice none 0 0] 31)) { block:=w15.heap.size,off:=0:Addr } 0 [.int .i64 n8,.slice p8 k16 k17,.slice p9 k18 k19]))->K [.bool b] w1)->Called prog 20 #[.int .i64 n,.slice A B C,.slice (some { block:=w.heap.size,off:=0:Addr }) 1 1] (w.alloc (.cells #[.slice D E F] 23)) fun v10 w18=>∃ b5,v10 = .bool b5/\bif b5 then K [.bool true] w18 else Called prog 29 #[.int .i64 n,.slice A B C] w18 fun v11 w19=>∃ b6,v11 = .bool b6/\bif !b6 then K [.bool true] w19 else Called prog 31 #[.int .i64 (↑B:Int),.slice D E F] w19 fun v12 w20=>∃ b7,v12 = .bool b7/\K [.bool !b7] w20
theorem run11 (n:Int) (A:Option Addr) (B C:Nat) (D:Option Addr) (E F:Nat) (w:World) (R:RT) (h:vc11 n A B C D E F w R):Ret prog 11 #[.int .i64 n,.slice A B C,.slice D E F] w R :=
 zAc zAj func11 (Eq.mp (by kernel_rfl) h)
theorem lists1 {w:World} {a:Option Addr} {n c:Nat} {t:Nat->ByteArray} (h:SS w a t n):ListsT (w.alloc (.cells #[.slice a n c] 23)) (some ⟨w.heap.size,0,none⟩) ⟨fun _=>a,fun _=>n,fun _=>c,fun _=>t⟩ 1 :=
 ⟨(Box.new w [.slice a n c] 23).blk.sl,fun _ _=>h.ext ((Ext.refl w).alloc _)⟩
theorem zBT {w w1:World} {K:Value->World->Prop} (hg:Gl w) (hx:Ext w w1) (h : ∀ w2,Ext w w2->K (.bool true) w2):Called prog 21 #[] w1 fun v w2=>∃ b,v = .bool b/\K (.bool b) w2 :=
 Called.of (c21 w1 (hg.ext hx)) fun v w2 ⟨hv,he⟩=>⟨true,hv,h w2 (hx.trans he)⟩
theorem zEc {w w1:World} (hg:Gl w) (hx:Ext w w1):Called prog 21 #[] w1 fun v w2=>∃ b,v = .bool b/\(fun (v:Value) (w' : World)=>v = .bool true/\Ext w w') (.bool b) w2 :=
 zBT (K:=fun v w'=>v = .bool true/\Ext w w') hg hx fun w2 h2=>⟨rfl,h2⟩
end Go.Proofs.Si
namespace Go.Proofs.Si
open Go Go.V Go.Proofs Go.RowKit Go.Num Go.Tb Go.Proofs.Tryz
set_option maxRecDepth 100000
end Go.Proofs.Si
namespace Go.Proofs.Si
open Go Go.V Go.Proofs Go.RowKit Go.Num Go.Tb Go.Proofs.Tryz
open Go.IntKind (i64 u64 u32 u8)
set_option maxRecDepth 100000
end Go.Proofs.Si
namespace Go.Proofs.Si
open Go Go.V Go.Proofs Go.RowKit Go.Num Go.Tb Go.Proofs.Tryz
set_option maxRecDepth 100000
theorem Reads.ok {X:TX} {S:Tb.Sys} {n:Int} (h:Reads X S) (hn:(S.n:Int)=n) (h40:S.n<=40) (hm:S.m<=200):okRows X n :=
 ⟨by omega,by omega,by have:=h.m;omega,fun i hi=>⟨by have:=h.n i hi;omega,by have:=h.rel i hi;omega,by have:=h.rel i hi;omega,fun j hj=>ok_of (h.C i hi j (by have:=h.n i hi;omega)),ok_of (h.K i hi)⟩⟩
end Go.Proofs.Si
namespace Go.Tb
open Go Go.Num
theorem val_of_a {A k:Nat} {S:Sys} {s:Dy} (hk:0<k) (hI:Inv S s) (ha : ∀ i,i<S.m->∀ j,j<S.n->dg A (s.a i j)) (hK : ∀ i,i<S.m->dg k (S.K i)) : ∀ v,v<S.n+S.m->dg (S.n*(A+k+2)+1+k) (s.val v).1/\dg (S.n*(A+k+2)+1+k) (s.val v).2:=by
 intro v hv
 have hcol : ∀ j,j<S.n->dg k (s.val (s.cols j)).1/\dg k (s.val (s.cols j)).2:=by
  intro j hj
  rw [hI.non j hj]
  have hjm:=(hI.dict.perm.col j hj).1
  split
  ·exact⟨zCy hk,zCy hk⟩
  ·refine⟨hK _ (by omega),?_⟩
   rw [ub]
   simp only
   split
   ·exact (zCQ hk).neg
   ·exact zCy hk
 obtain⟨p1,p2⟩:=hI.dict.perm.lin v hv
 by_cases h0:0<=s.line v
 ·obtain⟨p3,p4⟩:=p1 h0
  generalize hq:(s.line v).toNat=q at p4
  have hqm:q<S.m:=by omega
  have e1:=(hI.dict.sol _).1 hI.sol1 q hqm
  have e2:=(hI.dict.sol _).1 hI.sol2 q hqm
  simp only [p4] at e1 e2
  rw [e1,e2]
  exact⟨(zFL (h:=A+k+1) fun j hj=>(ha q hqm j hj).mul (hcol j hj).1).mono (by rw [show A+k+1+1=A+k+2 from rfl];omega),(zFL (h:=A+k+1) fun j hj=>(ha q hqm j hj).mul (hcol j hj).2).mono (by rw [show A+k+1+1=A+k+2 from rfl];omega)⟩
 ·obtain⟨_,j,hj,e⟩:=p2 (by omega)
  rw [<- e]
  exact⟨(hcol j hj).1.mono (by omega),(hcol j hj).2.mono (by omega)⟩
structure Scaled (S S' : Sys) (G:Nat->Rat):Prop where
 n:S'.n=S.n
 m:S'.m=S.m
 pos : ∀ i,i<S.m->0<G i
 C : ∀ i,i<S.m->∀ j,j<S.n->S'.C i j=S.C (S.m - 1 - i) j*G (S.m - 1 - i)
 rel : ∀ i,i<S.m->S'.rel i=S.rel (S.m - 1 - i)
 K : ∀ i,i<S.m->S'.K i=S.K (S.m - 1 - i)*G (S.m - 1 - i)
def tau (S:Sys) (v:Nat):Nat:=if v<S.n then v else S.n+(S.m - 1 - (v - S.n))
def gam (S:Sys) (G:Nat->Rat) (v:Nat):Rat:=if v<S.n then 1 else G (v - S.n)
theorem tau_lt {S:Sys} {v:Nat} (hv:v<S.n+S.m):tau S v<S.n+S.m:=by unfold tau;split <;> omega
theorem tau_tau {S:Sys} {v:Nat} (hv:v<S.n+S.m):tau S (tau S v)=v:=by
 unfold tau
 by_cases h:v<S.n
 ·rw [if_pos h,if_pos h]
 ·rw [if_neg h,if_neg (by omega)];omega
theorem Scaled.gam {S S' : Sys} {G:Nat->Rat} (h:Scaled S S' G) {v:Nat} (hv:v<S.n+S.m):0<gam S G v:=by
 unfold Tb.gam
 split
 ·decide
 ·exact h.pos _ (by omega)
def back (S:Sys) (G:Nat->Rat) (s:Dy):Dy where
 basic:=fun i=>tau S (s.basic i)
 cols:=fun j=>tau S (s.cols j)
 line:=fun v=>s.line (tau S v)
 a:=fun i j=>s.a i j*gam S G (tau S (s.cols j))*(gam S G (tau S (s.basic i)))⁻¹
 val:=s.val
theorem Scaled.sol {S S' : Sys} {G:Nat->Rat} (h:Scaled S S' G) (x:Nat->Rat):Sol S x↔Sol S' fun v=>Tb.gam S G (tau S v)*x (tau S v):=by
 have key : ∀ i,i<S.m->(Tb.gam S G (tau S (S'.n+i))*x (tau S (S'.n+i))=sumN S'.n (fun j=>S'.C i j*(Tb.gam S G (tau S j)*x (tau S j)))↔x (S.n+(S.m - 1 - i))=sumN S.n fun j=>S.C (S.m - 1 - i) j*x j):=by
  intro i hi
  have e1:tau S (S'.n+i)=S.n+(S.m - 1 - i):=by
   unfold tau;rw [h.n,if_neg (by omega)];omega
  have e2:Tb.gam S G (S.n+(S.m - 1 - i))=G (S.m - 1 - i):=by
   unfold Tb.gam;rw [if_neg (by omega)];congr 1;omega
  have hp:=h.pos (S.m - 1 - i) (by omega)
  have e3:(sumN S'.n fun j=>S'.C i j*(Tb.gam S G (tau S j)*x (tau S j)))=G (S.m - 1 - i)*sumN S.n fun j=>S.C (S.m - 1 - i) j*x j:=by
   rw [h.n,<- zBn]
   refine zAi fun j hj=>?_
   have t1:tau S j=j:=by unfold tau;rw [if_pos hj]
   have t2:Tb.gam S G j=1:=by unfold Tb.gam;rw [if_pos hj]
   rw [t1,t2,h.C i hi j hj]
   grind
  rw [e1,e2,e3]
  constructor
  ·intro e
   have hne:G (S.m - 1 - i)≠0:=fun e0=>by rw [e0] at hp;exact Rat.lt_irrefl hp
   have:=congrArg (fun q=>(G (S.m - 1 - i))⁻¹*q) e
   simp only [<- Rat.mul_assoc,Rat.inv_mul_cancel _ hne,Rat.one_mul] at this
   exact this
  ·intro e;rw [e]
 constructor
 ·intro hs i hi
  rw [h.m] at hi
  exact (key i hi).2 (hs _ (by omega))
 ·intro hs i hi
  have:=(key (S.m - 1 - i) (by omega)).1 (hs _ (by rw [h.m];omega))
  rw [show S.m - 1 - (S.m - 1 - i)=i by omega] at this
  exact this
theorem Scaled.dict {S S' : Sys} {G:Nat->Rat} {s:Dy} (h:Scaled S S' G) (hd:Dict S' s):Dict S (back S G s):=by
 have hp:=hd.perm
 have hn:=h.n
 have hm:=h.m
 have lb : ∀ i,i<S.m->s.basic i<S.n+S.m:=fun i hi=>by have:=(hp.bas i (by omega)).1;omega
 have lc : ∀ j,j<S.n->s.cols j<S.n+S.m:=fun j hj=>by have:=(hp.col j (by omega)).1;omega
 refine⟨⟨?_,?_,?_,?_⟩,?_⟩
 ·intro i hi
  refine⟨tau_lt (lb i hi),?_⟩
  show s.line (tau S (tau S (s.basic i)))=i
  rw [tau_tau (lb i hi)];exact (hp.bas i (by omega)).2
 ·intro j hj
  refine⟨tau_lt (lc j hj),?_⟩
  show s.line (tau S (tau S (s.cols j))) = -1
  rw [tau_tau (lc j hj)];exact (hp.col j (by omega)).2
 ·intro j k hj hk e
  replace e:tau S (s.cols j)=tau S (s.cols k):=e
  have:=congrArg (tau S) e
  rw [tau_tau (lc j hj),tau_tau (lc k hk)] at this
  exact hp.inj j k (by omega) (by omega) this
 ·intro v hv
  have hv':=tau_lt hv
  obtain⟨p1,p2⟩:=hp.lin (tau S v) (by omega)
  refine⟨fun h0=>?_,fun h0=>?_⟩
  ·obtain⟨p3,p4⟩:=p1 h0
   refine⟨by rw [hm] at p3;exact p3,?_⟩
   show tau S (s.basic (s.line (tau S v)).toNat)=v
   rw [p4,tau_tau hv]
  ·obtain⟨p3,j,hj,e⟩:=p2 h0
   exact⟨p3,j,by omega,by show tau S (s.cols j)=v;rw [e,tau_tau hv]⟩
 ·intro x
  rw [h.sol x,hd.sol]
  have key : ∀ i,i<S.m->(Tb.gam S G (tau S (s.basic i))*x (tau S (s.basic i))=sumN S'.n (fun k=>s.a i k*(Tb.gam S G (tau S (s.cols k))*x (tau S (s.cols k))))↔x (tau S (s.basic i))=sumN S.n fun k=>s.a i k*Tb.gam S G (tau S (s.cols k))*(Tb.gam S G (tau S (s.basic i)))⁻¹*x (tau S (s.cols k))):=by
   intro i hi
   have hg:=h.gam (tau_lt (lb i hi))
   generalize Tb.gam S G (tau S (s.basic i))=g at hg ⊢
   have hne:g≠0:=fun e0=>by rw [e0] at hg;exact Rat.lt_irrefl hg
   have e3:(sumN S.n fun k=>s.a i k*Tb.gam S G (tau S (s.cols k))*g⁻¹*x (tau S (s.cols k)))=g⁻¹*sumN S'.n fun k=>s.a i k*(Tb.gam S G (tau S (s.cols k))*x (tau S (s.cols k))):=by
    rw [hn,<- zBn]
    exact zAi fun k hk=>by grind
   rw [e3]
   generalize (sumN S'.n fun k=>s.a i k*(Tb.gam S G (tau S (s.cols k))*x (tau S (s.cols k))))=y
   constructor
   ·intro e;rw [<- e,<- Rat.mul_assoc,Rat.inv_mul_cancel _ hne,Rat.one_mul]
   ·intro e;rw [e,<- Rat.mul_assoc,Rat.mul_inv_cancel _ hne,Rat.one_mul]
  exact⟨fun hs i hi=>(key i hi).1 (hs i (by omega)),fun hs i hi=>(key i (by omega)).2 (hs i (by omega))⟩
theorem Scaled.a_dg {S S' : Sys} {G:Nat->Rat} {s:Dy} {A g:Nat} (h:Scaled S S' G) (hg : ∀ i,i<S.m->dg g (G i)) (hp:Perm S' s) (h1:0<g) {i j:Nat} (hi:i<S.m) (hj:j<S.n) (hA:dg A ((back S G s).a i j)):dg (A+g+1+(g+1)+1) (s.a i j):=by
 have lb:s.basic i<S.n+S.m:=by have:=(hp.bas i (by rw [h.m];omega)).1;rw [h.n,h.m] at this;exact this
 have lc:s.cols j<S.n+S.m:=by have:=(hp.col j (by rw [h.n];omega)).1;rw [h.n,h.m] at this;exact this
 have dgam : ∀ v,v<S.n+S.m->dg g (Tb.gam S G v):=fun v hv=>by
  unfold Tb.gam
  split
  ·exact zCQ h1
  ·exact hg _ (by omega)
 have p1:=h.gam (tau_lt lb)
 have p2:=h.gam (tau_lt lc)
 have d1:=dgam _ (tau_lt lb)
 have d2:=dgam _ (tau_lt lc)
 have e:s.a i j=(back S G s).a i j*Tb.gam S G (tau S (s.basic i))*(Tb.gam S G (tau S (s.cols j)))⁻¹:=by
  show s.a i j=s.a i j*Tb.gam S G (tau S (s.cols j))*(Tb.gam S G (tau S (s.basic i)))⁻¹*Tb.gam S G (tau S (s.basic i))*(Tb.gam S G (tau S (s.cols j)))⁻¹
  have n1:Tb.gam S G (tau S (s.basic i))≠0:=fun e0=>by rw [e0] at p1;exact Rat.lt_irrefl p1
  have n2:Tb.gam S G (tau S (s.cols j))≠0:=fun e0=>by rw [e0] at p2;exact Rat.lt_irrefl p2
  rw [Rat.mul_assoc (s.a i j*_),Rat.inv_mul_cancel _ n1,Rat.mul_one,Rat.mul_assoc,Rat.mul_inv_cancel _ n2,Rat.mul_one]
 rw [e]
 exact (hA.mul d1).mul d2.inv
theorem mul_le_iff {a b g:Rat} (hp:0<g):a*g<=b*g↔a<=b:=by
 rw [<- Rat.not_lt,<- Rat.not_lt,Rat.mul_lt_mul_right hp]
theorem Scaled.sat {S S' : Sys} {G:Nat->Rat} (h:Scaled S S' G) (x:Nat->Rat):Sat S x↔Sat S' x:=by
 have key : ∀ i,i<S.m->((lhs S' x i<=S'.K i/\(S'.rel i=2->lhs S' x i<S'.K i)/\(S'.rel i=3->lhs S' x i=S'.K i))↔(lhs S x (S.m - 1 - i)<=S.K (S.m - 1 - i)/\(S.rel (S.m - 1 - i)=2->lhs S x (S.m - 1 - i)<S.K (S.m - 1 - i))/\(S.rel (S.m - 1 - i)=3->lhs S x (S.m - 1 - i)=S.K (S.m - 1 - i)))):=by
  intro i hi
  have hp:=h.pos (S.m - 1 - i) (by omega)
  have e:lhs S' x i=lhs S x (S.m - 1 - i)*G (S.m - 1 - i):=by
   unfold lhs
   rw [h.n,Rat.mul_comm,<- zBn]
   exact zAi fun j hj=>by rw [h.C i hi j hj];grind
  rw [e,h.K i hi,h.rel i hi,mul_le_iff hp,Rat.mul_lt_mul_right hp]
  have:(lhs S x (S.m - 1 - i)*G (S.m - 1 - i)=S.K (S.m - 1 - i)*G (S.m - 1 - i))↔lhs S x (S.m - 1 - i)=S.K (S.m - 1 - i):=by
   refine⟨fun e=>?_,fun e=>by rw [e]⟩
   have hne:G (S.m - 1 - i)≠0:=fun e0=>by rw [e0] at hp;exact Rat.lt_irrefl hp
   have:=congrArg (fun q=>q*(G (S.m - 1 - i))⁻¹) e
   simp only [Rat.mul_assoc,Rat.mul_inv_cancel _ hne,Rat.mul_one] at this
   exact this
  rw [this]
 constructor
 ·intro hs i hi
  rw [h.m] at hi
  exact (key i hi).2 (hs _ (by omega))
 ·intro hs i hi
  have:=(key (S.m - 1 - i) (by omega)).1 (hs _ (by rw [h.m];omega))
  rw [show S.m - 1 - (S.m - 1 - i)=i by omega] at this
  exact this
end Go.Tb
namespace Go.Proofs.Si
open Go Go.V Go.Proofs Go.RowKit Go.Num Go.Tb Go.Proofs.Tryz
open Go.IntKind (i64 u64 u32 u8)
set_option maxRecDepth 100000
theorem scaled_fits {S S' : Tb.Sys} {G:Nat->Rat} (h:Scaled S S' G) (h6:Sm6 S) (hg : ∀ i,i<S.m->dg 61 (G i)):Fits S':=by
 have hn:=h.n
 have hm:=h.m
 have h1:=h6.n
 have h2:=h6.m
 have hK : ∀ i,i<S'.m->dg 123 (S'.K i):=fun i hi=>by
  rw [h.K i (by omega)]
  exact ((h6.K _ (by omega)).mul (hg _ (by omega))).mono (by decide)
 have hA : ∀ s,Inv S' s->∀ i,i<S'.m->∀ j,j<S'.n->dg 251347 (s.a i j):=fun s hI i hi j hj =>
  (h.a_dg hg hI.dict.perm (by decide) (by omega) (by omega) ((dict_dg (h.dict hI.dict) (fun i j hi hj=>h6.C i hi j hj) i j (by omega) (by omega)).mono (bd_le _ h1))).mono (by decide)
 exact {
  few:=by unfold Few;omega
  short:=⟨fun i hi=>(hK i hi).mono (by decide),by decide⟩
  a:=fun s hI i hi j hj=>(hA s hI i hi j hj).mono (by decide)
  val:=fun s hI v hv=>by
   have:=val_of_a (by decide) hI (hA s hI) hK v hv
   exact⟨this.1.mono (by omega),this.2.mono (by omega)⟩ }
noncomputable def scX (X:TX) (n:Nat) (t:Nat->ByteArray):TX:={ m:=X.m,n:=fun _=>n,C:=fun i j=>mk (txtQ (rd (X.C (X.m - 1 - i) j)*rd (t (X.m - 1 - i)))),rel:=fun i=>X.rel (X.m - 1 - i),K:=fun i=>mk (txtQ (rd (X.K (X.m - 1 - i))*rd (t (X.m - 1 - i)))) }
theorem sc_scaled {X:TX} {n:Nat} {t:Nat->ByteArray} (h : ∀ i,i<X.m->0<rd (t i)):Scaled (sysX X n) (sysX (scX X n t) n) fun i=>rd (t i) where
 n:=rfl
 m:=rfl
 pos:=h
 C:=fun i hi j hj=>rd_mk _
 rel:=fun i hi=>rfl
 K:=fun i hi=>rd_mk _
theorem scaled_agree {S S' S'' : Tb.Sys} {G:Nat->Rat} (h:Scaled S S' G) (k:Agree S' S''):Scaled S S'' G where
 n:=k.n.symm.trans h.n
 m:=k.m.symm.trans h.m
 pos:=h.pos
 C:=fun i hi j hj=>by rw [<- k.C i (by rw [h.m];exact hi) j (by rw [h.n];exact hj)];exact h.C i hi j hj
 rel:=fun i hi=>by rw [<- k.rel i (by rw [h.m];exact hi)];exact h.rel i hi
 K:=fun i hi=>by rw [<- k.K i (by rw [h.m];exact hi)];exact h.K i hi
theorem sc_ok {X:TX} {n:Nat} {t:Nat->ByteArray} (h:okRows X n):okRows (scX X n t) n:=by
 refine⟨h.1,h.2.1,h.2.2.1,fun i hi=>?_⟩
 replace hi:i<X.m:=hi
 have:=h.2.2.2 (X.m - 1 - i) (by omega)
 exact⟨rfl,this.2.1,this.2.2.1,fun j hj=>ok_of (bs_mk _),ok_of (bs_mk _)⟩
theorem sc_tame {X:TX} {n:Nat} {t:Nat->ByteArray} (h:okRows X n) (hsm:smallX X 14 60) (hz : ∀ j,j<X.m->(t j).size<=60) (hq : ∀ j,j<X.m->okQ (bs (t j))=true):Tame (scX X n t) where
 n:=fun i hi=>by have:=h.2.1;show n<=1048576;omega
 c:=fun i hi j hj=>by
  replace hi:i<X.m:=hi
  replace hj:j<n:=hj
  have h1:=h.2.2.2 (X.m - 1 - i) (by omega)
  have hjn:j<X.n (X.m - 1 - i):=by have:=h1.1;omega
  exact Nat.le_trans (zG3 (((rd_dg (h1.2.2.2.1 j hjn) ((hsm.2 _ (by omega)).2.2 j hjn)).mul (rd_dg (hq (X.m - 1 - i) (by omega)) (hz _ (by omega)))))) (by decide)
 k:=fun i hi=>by
  replace hi:i<X.m:=hi
  have h1:=h.2.2.2 (X.m - 1 - i) (by omega)
  exact Nat.le_trans (zG3 (((rd_dg h1.2.2.2.2 (hsm.2 _ (by omega)).1).mul (rd_dg (hq (X.m - 1 - i) (by omega)) (hz _ (by omega)))))) (by decide)
theorem wrap_fit {z:Int} (h : -9223372036854775808<=z/\z<9223372036854775808):i64.wrap z=z:=by
 rw [zAf] <;> omega
def muE (vals:List Value) (_:World):Nat:=match vals with | .int _ z::_=>(z+1).toNat | _=>0
set_option maxHeartbeats 2000000 in
theorem c11 {X:TX} {A:TA} {n:Int} {a fa:Option Addr} {c fn fc:Nat} {t:Nat->ByteArray} (w:World) (hR:RowsT w a X A) (hf:SS w fa t fn) (hg:Gl w) :
  Ret prog 11 #[.int .i64 n,.slice a X.m c,.slice fa fn fc] w fun v w'=>v = .bool true/\Ext w w':=by
 have z1:=(Ext.refl w).alloc (.cells #[.slice fa fn fc] 23)
 refine run11 _ _ _ _ _ _ _ _ _ fun K hK=>?_
 have done : ∀ w2,Ext w w2->K [.bool true] w2:=fun w2 h2=>hK true w2 (by rw [cond_true];exact zEc hg h2)
 refine Called.of (c20 (n:=n) (nl:=1) (by decide) _ (hR.ext z1) (lists1 hf)) ?_
 rintro v w1 ⟨⟨b,rfl,hb⟩,rfl⟩
 refine⟨_,rfl,?_⟩
 cases b with
 | true=>exact done _ z1
 | false =>
 rw [cond_false]
 obtain⟨hn6,hsm,hl⟩:=hb rfl
 obtain⟨hcn,hcz⟩:=hl 0 (by decide)
 replace hcn:fn<=40:=hcn
 replace hcz : ∀ j,j<fn->(t j).size<=60:=hcz
 have htm:=hsm.tame (by decide)
 clear hb hl
 generalize w.alloc (.cells #[.slice fa fn fc] 23)=w1 at z1 ⊢
 refine Called.of (c29 htm w1 (hR.ext z1)) ?_
 rintro v w2 ⟨⟨b2,rfl,hb2⟩,he2⟩
 have hx2:=z1.trans he2
 refine⟨_,rfl,?_⟩
 cases b2 with
 | false=>exact done _ hx2
 | true =>
 rw [show (!true)=false from rfl,cond_false]
 have hok:=hb2.1 rfl
 refine Called.of (c31 (n:=(X.m:Int)) (by omega) w2 (hf.ext hx2) fun j hj=>Nat.le_trans (hcz j hj) (by decide)) ?_
 rintro v wB ⟨⟨b3,rfl,hb3⟩,he3⟩
 have hxB:=hx2.trans he3
 refine⟨_,rfl,?_⟩
 cases b3 with
 | false=>exact done _ hxB
 | true =>
 obtain⟨hfm,hfq⟩:=hb3.1 rfl
 obtain⟨nn,rfl⟩ : ∃ nn:Nat,n=nn:=⟨n.toNat,(Int.toNat_of_nonneg hok.1).symm⟩
 have efm:fn=X.m:=by omega
 subst efm
 have hm14:=hsm.1
 have hokn:=hok.nat
 rw [Int.toNat_natCast] at hokn
 have s6:=hsm.sm (n:=nn) (by omega) hokn
 have htd : ∀ j,j<X.m->dg 61 (rd (t j)):=fun j hj=>rd_dg (hfq j hj) (hcz j hj)
 refine hK (!true) wB ?_
 rw [show (!true)=false from rfl,cond_false]
 refine⟨fun vals w3=>∃ (d:Nat) (p:Option Addr) (c' : Nat) (A' : TA),vals=[.int .i64 ((X.m:Int) - 1 - d),.slice p d c']/\d<=X.m/\OwnT w3 wB.heap.size p c' (scX X nn t) A' d/\(∀ i,i<d->0<rd (t (X.m - 1 - i)))/\Ext w w3/\wB.heap.size<=w3.heap.size,muE,⟨0,none,0,⟨fun _=>none,fun _=>0⟩,?_,Nat.zero_le _,⟨World.ownsRow_nil _ _ _ _,fun i hi=>by omega⟩,fun i hi=>by omega,hxB,Nat.le_refl _⟩,?_⟩
 ·rw [show i64.wrap ((X.m:Int) - 1)=(X.m:Int) - 1 - (0:Nat) from by rw [wrap_fit (by omega)];omega]
 rintro m p d c' w3 ⟨d0,p',c0,A',hv,hd,hO,hpos,hx3,hsB⟩
 cases hv
 refine zAd (fun hge=>?_) (fun hlt=>?_)
 ·
  have hdm:d<X.m:=by omega
  obtain⟨i,hi⟩ : ∃ i:Nat,i=X.m - 1 - d:=⟨_,rfl⟩
  have him:i<X.m:=by omega
  rw [show ((X.m:Int) - 1 - (d:Int))=(i:Int) by omega]
  obtain⟨af,haf,hcf⟩:=(hf.ext hx3).get him
  refine⟨af,haf,⟨by omega,by omega⟩,_,hcf,?_⟩
  refine Called.of (c43 (rd_ok (hfq i him)) (Nat.le_trans (hcz i him) (by decide)) w3) ?_
  rintro v w4 ⟨rfl,he4⟩
  rw [sgn_eq]
  have hx4:=hx3.trans he4
  refine⟨_,rfl,zAd (fun _=>zEc hg hx4) (fun hs=>?_)⟩
  have hpi:0<rd (t i):=Tb.sgnQ_pos.1 (by omega)
  intro K1 hK1
  have hdr:=(Ext.refl w4).drew
  have hx5:=hx4.trans hdr
  have hO5:=(hO.ext he4).ext hdr
  have s35:wB.heap.size<=w4.drew.heap.size:=Nat.le_trans hsB (he4.trans hdr).size
  generalize w4.drew=W at hdr hx5 hO5 s35 ⊢
  obtain⟨ad,ha,_,q0,q1,q2⟩:=(hR.ext hx5).cells him
  obtain⟨af2,haf2,hcf2⟩:=(hf.ext hx5).get him
  have hrow:=hok.2.2.2 i him
  have hXn:X.n i=nn:=by have:=hrow.1;omega
  have hKok:=rd_ok hrow.2.2.2.2
  have hKz:(X.K i).size<=268435456:=Nat.le_trans (hsm.2 i him).1 (by decide)
  have htz:(t i).size<=268435456:=Nat.le_trans (hcz i him) (by decide)
  have main : ∀ w5 b u,bs u=txtQ (rd (X.K i)*rd (t i))->W.heap.size<=b->Box w5 b 49 [nsl,.int .i64 (X.rel i),.string u]->Ext W w5->K1 [.pointer (some ⟨b,0,none⟩)] w5:=by
   intro w5 b u hu hWb hB5 he5
   refine hK1 _ w5 ?_
   have hb5:=hB5.lt
   refine⟨fun vals w6=>∃ (j:Nat) (p4:Option Addr) (c4:Nat),vals=[.int .i64 j]/\j<=nn/\Box w6 b 49 [.slice p4 j c4,.int .i64 (X.rel i),.string u]/\w6.ownsRow w5.heap.size 9 1 (.slice p4 j c4) j (SL ((scX X nn t).C d) j)/\w5.heap.size<=w6.heap.size/\Ext W w6,mu1 nn,⟨0,none,0,rfl,Nat.zero_le _,hB5,World.ownsRow_nil _ _ _ _,Nat.le_refl _,he5⟩,?_⟩
   rintro m w6 ⟨j,p4,c4,hv,hj,hO6,hown,hs6,hx6⟩
   cases hv
   refine zAd (fun hlt=>?_) (fun hge=>?_)
   ·have hjn:j<nn:=by omega
    have hx7:=(Ext.refl w6).drew
    have hO7:=hO6.ext hx7
    have hown7:=zA8 hown hx7
    have hxw:=(hx5.trans hx6).trans hx7
    obtain⟨ad',ha',_,r0,r1,r2⟩:=(hR.ext hxw).cells him
    obtain⟨asl,has,hcs⟩:=((hR.ext hxw).2 i him).get (by omega:j<X.n i)
    obtain⟨af3,haf3,hcf3⟩:=(hf.ext hxw).get him
    intro K2 hK2
    have hCok:=rd_ok (hrow.2.2.2.1 j (by omega))
    have hCz:(X.C i j).size<=268435456:=Nat.le_trans ((hsm.2 i him).2.2 j (by omega)) (by decide)
    refine⟨_,_,_,hO7.blk.cell (j:=0) rfl,ad',ha',⟨by omega,by omega⟩,_,_,_,r0,asl,has,⟨by omega,by omega⟩,_,hcs,af3,haf3,⟨by omega,by omega⟩,_,hcf3,Called.of (c44 hCok (rd_ok (hfq i him)) ⟨hCz,htz⟩ _) ?_⟩
    rintro v w9 ⟨⟨u2,rfl,hu2⟩,he9⟩
    have hO9:=hO7.ext he9
    have hown9:=zA8 hown7 he9
    have s9:w5.heap.size<=w9.heap.size:=Nat.le_trans hs6 (hx7.trans he9).size
    have hx9:=(hx6.trans hx7).trans he9
    refine⟨_,rfl,he9,he9.alloc _,_,_,_,AppOk.one (L:=[.string u2]) hown9 rfl rfl (by unfold maxLen;omega) (by omega) s9,?_⟩
    intro p3 k7 w10 r
    have za:=(Ext.refl w9).alloc (.cells #[.string u2] 9)
    have sa:(w9.alloc (.cells #[.string u2] 9)).heap.size=w9.heap.size+1:=size_alloc ..
    have g3 : ∀ k,k<w9.heap.size->(Value.slice p4 j c4).ownBlock≠some k->w10.heap[k]? = w9.heap[k]?:=fun k hk hne =>
     (r.grown.block k (by omega) (Ne.symm hne)).trans (za.block k hk)
    have hO10:Box w10 b 49 _:=hO9.same (g3 _ hO9.lt (zAA hown9 hO9 (by decide)))
    have hx10:Ext W w10:=r.below (zA8 hown9 za) (hx9.trans za) (by have:=hx9.size;omega) (by have:=he5.size;omega)
    refine⟨⟨⟨_,hO10.blk.cell (j:=0) rfl⟩,hO10.blk.free⟩,hK2 _ ?_⟩
    rw [zAh (by omega)]
    have eu:u2=(scX X nn t).C d j:=zGi (by rw [hu2];show _=bs (mk _);rw [bs_mk,<- hi])
    have hr:=r.own
    rw [eu,<- SL_snoc ((scX X nn t).C d) j] at hr
    have s10:=r.grown.size
    have hne:(Value.slice p3 (j+1) k7).ownBlock≠some b:=zAA hr hO10 (by decide)
    refine⟨⟨j+1,p3,k7,rfl,hjn,hO10.set 0 _,zBC hr hne _,?_,hx10.setCell hWb _⟩,by simp only [mu1,Int.toNat_natCast];omega⟩
    rw [zCA];omega
   ·have ej:j=nn:=by omega
    subst ej
    have hO6r:=hO5.ext hx6
    have sW:wB.heap.size<=w6.heap.size:=Nat.le_trans s35 hx6.size
    refine⟨_,_,_,_,_,hO6.blk.all,_,_,_,AppOk.one (L:=[.slice p4 j c4,.int .i64 (X.rel i),.string u]) hO6r.row rfl rfl (by unfold maxLen;omega) (by omega) sW,?_⟩
    intro p5 k11 w11 r2
    have z6:=(Ext.refl w6).alloc (.cells [.slice p4 j c4,.int .i64 (X.rel i),.string u].toArray 49)
    have own6:=zA8 hO6r.row z6
    have hx11:Ext w w11:=r2.below own6 ((hx5.trans hx6).trans z6) (Nat.le_trans (hx5.trans hx6).size z6.size) hxB.size
    have s11:=r2.grown.size
    have hxu:rd (X.K i)*rd (t i)=rd (X.K (X.m - 1 - d))*rd (t (X.m - 1 - d)):=by rw [<- hi]
    have eu:u=(scX X j t).K d:=zGi (by rw [hu,hxu];exact (bs_mk _).symm)
    rw [show i64.wrap ((i:Int) - 1)=(X.m:Int) - 1 - ((d+1:Nat):Int) from by rw [wrap_fit (by omega)];omega]
    refine⟨⟨d+1,p5,k11,⟨upd A'.cA d p4,upd A'.cC d c4⟩,rfl,hdm,⟨?_,?_⟩,?_,hx11,Nat.le_trans sW (Nat.le_trans z6.size s11)⟩,by simp only [muE];omega⟩
    ·have hr:=r2.own
     have e:GL (rtc (scX X j t) ⟨upd A'.cA d p4,upd A'.cC d c4⟩) (d+1)=GL (rtc (scX X j t) A') d++[.slice p4 j c4,.int .i64 (X.rel i),.string u]:=by
      rw [GL]
      congr 1
      ·refine zCb fun k hk=>?_
       unfold rtc
       simp only [zAu _ (show k≠d by omega)]
      ·unfold rtc
       simp only [zAy]
       rw [eu]
       show [Value.slice p4 j c4,.int .i64 (X.rel (X.m - 1 - d)),_]=_
       rw [<- hi]
     rw [e]
     exact hr
    ·intro k hk
     by_cases ek:k=d
     ·subst ek
      simp only [zAy]
      exact own_grown r2.grown (own_base (zA8 hown z6) (Nat.le_trans s35 he5.size)) fun q hq e=>zCu (zA8 hown z6) own6 (by decide) q hq e
     ·simp only [zAu _ ek]
      have hk' : k<d:=by omega
      exact own_grown r2.grown (zA8 (hO6r.c k hk') z6) fun q hq e=>zCu (zA8 (hO6r.c k hk') z6) own6 (by decide) q hq e
    ·intro k hk
     by_cases ek:k=d
     ·rw [ek,<- hi];exact hpi
     ·exact hpos k (by omega)
  refine⟨ad,ha,⟨by omega,by omega⟩,_,q1,ad,ha,⟨by omega,by omega⟩,_,q2,af2,haf2,⟨by omega,by omega⟩,_,hcf2,?_,(Ext.refl W).alloc _,?_⟩
  ·refine Called.of (c44 hKok (rd_ok (hfq i him)) ⟨hKz,htz⟩ _) ?_
   rintro v w6 ⟨⟨u,rfl,hu⟩,he6⟩
   have hN:=Box.new w6 zrow 49
   have hP:=hN.put [nsl,.int .i64 (X.rel i),.string u] (by rfl)
   refine⟨_,rfl,he6,he6.alloc _,hN.blk.writable (by decide),main _ _ u hu he6.size hP ((he6.alloc _).put he6.size _ _)⟩
  ·have zD':=(Ext.refl W).alloc (.cells zrow.toArray 49)
   refine Called.of (c44 hKok (rd_ok (hfq i him)) ⟨hKz,htz⟩ _) ?_
   rintro v w7 ⟨⟨u,rfl,hu⟩,he7⟩
   have hN7:=(Box.new W zrow 49).ext he7
   have hP:=hN7.put [nsl,.int .i64 (X.rel i),.string u] (by rfl)
   refine⟨_,rfl,zD'.trans he7,hN7.blk.writable (by decide),main _ _ u hu (Nat.le_refl _) hP ((zD'.trans he7).put (Nat.le_refl _) _ _)⟩
 ·
  have hdm:d=X.m:=by omega
  subst hdm
  have hpall : ∀ i,i<X.m->0<rd (t i):=fun i hi=>by
   have:=hpos (X.m - 1 - i) (by omega)
   rw [show X.m - 1 - (X.m - 1 - i)=i by omega] at this
   exact this
  have hsc:=sc_scaled (n:=nn) hpall
  have hokS:=sc_ok (t:=t) hok
  have tS:=sc_tame hok hsm hcz hfq
  have hRS:RowsT w3 p (scX X nn t) A':=hO.t
  refine Called.of (c28x htm (fun S hS hSn=>(((zBh hokn).agree hS (by show nn=S.n;omega)).sm s6).fits) w3 (hR.ext hx3) (hg.ext hx3)) ?_
  rintro v w14 ⟨hL,he14⟩
  have hx14:=hx3.trans he14
  have hN:=Box.new w14 lp0 31
  obtain⟨a1,p1,n1,p2,n2,rfl,hans⟩ : ∃ (a1:Int) (p1:Option Addr) (n1:Nat) (p2:Option Addr) (n2:Nat),v = .tuple #[.agg #[.int .i64 a1,.slice p1 n1 n1,.slice p2 n2 n2],.int .i64 0] /\
    ((a1=1/\∃ pt,Sat (sysX X nn) pt)\/(a1=2/\∃ y,zAQ (sysX X nn) y)):=by
   rcases hL with ⟨h,_⟩ | ⟨_,b,_,⟨pt,rfl,_,h2,_⟩ | ⟨y,rfl,_,h2,_⟩⟩
   ·exact absurd hok h
   ·exact⟨_,_,_,_,_,rfl,.inl ⟨rfl,pt,h2⟩⟩
   ·exact⟨_,_,_,_,_,rfl,.inr ⟨rfl,y,h2⟩⟩
  have hP:=hN.put [.int .i64 a1,.slice p1 n1 n1,.slice p2 n2 n2] (by rfl)
  have eP:Ext w14 (setCells (w14.alloc (.cells lp0.toArray 31)) ⟨w14.heap.size,0,none⟩ 0 [.int .i64 a1,.slice p1 n1 n1,.slice p2 n2 n2]):=((Ext.refl w14).alloc _).put (Nat.le_refl _) _ _
  refine⟨_,_,_,_,_,_,_,_,rfl,hN.blk.writable (by decide),?_⟩
  have hxP:=hx14.trans eP
  refine Called.of (c28x (X:=scX X nn t) (n:=(nn:Int)) tS (fun S hS hSn=>by
   have hag:=(zBh (hokS.nat)).agree hS (by show (nn:Int).toNat=S.n;omega)
   rw [Int.toNat_natCast] at hag
   exact scaled_fits (scaled_agree hsc hag) s6 htd) _ ((hRS.ext he14).ext eP) (hg.ext hxP)) ?_
  rintro v w15 ⟨hL2,he15⟩
  have hx15:=hxP.trans he15
  have hN2:=Box.new w15 lp0 31
  obtain⟨a2,p3,n3,p4,n4,rfl,hans2⟩ : ∃ (a1:Int) (p1:Option Addr) (n1:Nat) (p2:Option Addr) (n2:Nat),v = .tuple #[.agg #[.int .i64 a1,.slice p1 n1 n1,.slice p2 n2 n2],.int .i64 0] /\
    ((a1=1/\∃ pt,Sat (sysX (scX X nn t) nn) pt)\/(a1=2/\∃ y,zAQ (sysX (scX X nn t) nn) y)):=by
   rcases hL2 with ⟨h,_⟩ | ⟨_,b,_,⟨pt,rfl,_,h2,_⟩ | ⟨y,rfl,_,h2,_⟩⟩
   ·exact absurd hokS h
   ·exact⟨_,_,_,_,_,rfl,.inl ⟨rfl,pt,h2⟩⟩
   ·exact⟨_,_,_,_,_,rfl,.inr ⟨rfl,y,h2⟩⟩
  have hP2:=hN2.put [.int .i64 a2,.slice p3 n3 n3,.slice p4 n4 n4] (by rfl)
  have eP2:Ext w15 (setCells (w15.alloc (.cells lp0.toArray 31)) ⟨w15.heap.size,0,none⟩ 0 [.int .i64 a2,.slice p3 n3 n3,.slice p4 n4 n4]):=((Ext.refl w15).alloc _).put (Nat.le_refl _) _ _
  refine⟨_,_,_,_,_,_,_,_,rfl,hN2.blk.writable (by decide),fun K3 hK3=>?_⟩
  refine zAa (fun _=>?_) (fun h=>absurd h (by decide))
  refine⟨_,((hP.ext he15).ext eP2).blk.cell (j:=0) rfl,_,hP2.blk.cell (j:=0) rfl,?_⟩
  have ea:a1=a2:=by
   rcases hans with ⟨rfl,pt,h1⟩ | ⟨rfl,y,h1⟩ <;> rcases hans2 with ⟨rfl,pt2,h2⟩ | ⟨rfl,y2,h2⟩
   ·rfl
   ·exact (farkas h2 ((hsc.sat pt).1 h1)).elim
   ·exact (farkas h1 ((hsc.sat pt2).2 h2)).elim
   ·rfl
  rw [ea,show (a2==a2)=true by simp,cond_true]
  exact zBT (K:=fun v w=>K3 [v] w) hg (hx15.trans eP2) fun w2 h2=>hK3 true w2 ⟨rfl,h2⟩
end Go.Proofs.Si
namespace Go.Proofs.Si
open Go Go.Proofs Go.Proofs.Tryz
set_option maxRecDepth 100000
theorem looksFact:true=prog.looks []:=by kernel_rfl
theorem ownFact:ownKnob prog.godebug=none:=by kernel_rfl
end Go.Proofs.Si
namespace Go.Proofs.Si
open Go Go.V Go.Proofs Go.RowKit Go.Proofs.Tryz
open Go.ChangeShapes Go.WideShapes Go.ChangeAt Go.Proofs.Tryz
set_option maxRecDepth 100000
theorem laidOutK:laidOutB prog=true:=by kernel_rfl
theorem spot_none {w:World} {x:Addr} {v:Value} (h:w.cell? x=some v):x.spot=none:=by
 unfold World.cell? at h
 cases hb:w.heap[x.block]? with
 | none=>rw [hb] at h;cases h
 | some o =>
  rw [hb] at h
  cases o with
  | cells c e f =>
   cases hsp:x.spot with
   | none=>rfl
   | some y=>simp [hsp] at h
  | _=>cases h
theorem add_zero (x:Addr):x.add 0=x:=by unfold Addr.add;simp
theorem pick {α:Type} [Inhabited α] {P:Nat->α->Prop} {n:Nat} (h : ∀ i,i<n->∃ y,P i y) : ∃ f:Nat->α,∀ i,i<n->P i (f i):=by
 classical
 refine⟨fun i=>if hi:i<n then Classical.choose (h i hi) else default,fun i hi=>?_⟩
 show P i (dite _ _ _)
 rw [dif_pos hi]
 exact Classical.choose_spec (h i hi)
theorem open_strs {H:Type} {enc:TypeId × Value->H} {W:World} {fuel:Nat} {a:Option Addr} {len cap:Nat} {x:DataW H × List MemPlace} (h:DataW.trod enc prog W 0 (fun _=>true) true fuel 23 [.slice a len cap]=some x) : ∃ t:Nat->ByteArray,SS W a t len:=by
 rcases DataW.trod_slice underlying23 h with ⟨e,_⟩ | ⟨ad,len',cap',elems,rest,n,_,e,rfl,_,hl,hm,hlen,hel,_,_⟩
 ·cases e
  exact⟨fun _=>ByteArray.empty,.inl rfl⟩
 ·cases e
  have hc:prog.cellsOf 9=1:=by kernel_rfl
  have each : ∀ i,i<len->∃ s:ByteArray,W.cell? (ad.add i)=some (.string s):=by
   intro i hi
   have h1:=hel i hi
   rw [hc,List.getElem?_eq_getElem (by omega)] at h1
   obtain⟨cs,h2,h3⟩:=Option.bind_eq_some_iff.1 h1
   obtain⟨s,e1,_,_⟩:=DataW.trod_string underlying9 h3
   obtain⟨_,_,h4⟩:=World.cells?_some h2
   have h5:=h4 0 (by decide)
   rw [Nat.mul_one,add_zero] at h5
   refine⟨s,?_⟩
   rw [h5,e1];rfl
  haveI:Inhabited ByteArray:=⟨ByteArray.empty⟩
  obtain⟨t,ht⟩:=pick each
  refine⟨t,?_⟩
  cases len with
  | zero=>exact .inl rfl
  | succ k =>
   right
   have h0:=ht 0 (by omega)
   rw [add_zero] at h0
   refine⟨ad,rfl,spot_none h0,fun j v hj=>?_⟩
   have hj' : j<k+1:=by
    have:=(List.getElem?_eq_some_iff.1 hj).1
    rwa [zCX] at this
   have e:=zBg (f:=fun i=>Value.string (t i)) hj'
   have hj2:(SL t (k+1))[j]? = some (.string (t j)):=e
   rw [hj2] at hj
   cases hj
   exact ht j hj'
theorem open_row {H:Type} {enc:TypeId × Value->H} {W:World} {fuel:Nat} {cs:List Value} {x:DataW H × List MemPlace} (h:DataW.trod enc prog W 0 (fun _=>true) true fuel 49 cs=some x) :
  ∃ (a:Option Addr) (n c:Nat) (t:Nat->ByteArray) (rel:Int) (k:ByteArray),cs=[.slice a n c,.int .i64 rel,.string k]/\SS W a t n:=by
 obtain⟨xs,n,_,rfl,hl,hlen,hf⟩:=DataW.trod_struct underlying49 h
 have hc:prog.cellsOf 49=3:=by kernel_rfl
 have h3:prog.cellsOf 3=1:=by kernel_rfl
 have h9:prog.cellsOf 9=1:=by kernel_rfl
 have h23:prog.cellsOf 23=1:=by kernel_rfl
 rw [hc] at hl
 match cs,hl with
 | [c0,c1,c2],_ =>
  match xs,hlen with
  | [x0,x1,x2],_ =>
   have f0:DataW.trod enc prog W 0 (fun _=>true) true n 23 (([c0,c1,c2].drop 0).take (prog.cellsOf 23))=some x0:=hf 0 _ rfl
   have f1:DataW.trod enc prog W 0 (fun _=>true) true n 3 (([c0,c1,c2].drop 1).take (prog.cellsOf 3))=some x1:=hf 1 _ rfl
   have f2:DataW.trod enc prog W 0 (fun _=>true) true n 9 (([c0,c1,c2].drop 2).take (prog.cellsOf 9))=some x2:=hf 2 _ rfl
   rw [h23] at f0
   rw [h3] at f1
   rw [h9] at f2
   obtain⟨n1,e1,_,_⟩:=DataW.trod_int underlying3 f1
   obtain⟨s2,e2,_,_⟩:=DataW.trod_string underlying9 f2
   have e1' : c1 = .int .i64 n1:=(List.cons.inj e1).1
   have e2' : c2 = .string s2:=(List.cons.inj e2).1
   subst e1' e2'
   have f0' : DataW.trod enc prog W 0 (fun _=>true) true n 23 [c0]=some x0:=f0
   rcases DataW.trod_slice underlying23 f0' with ⟨e,_⟩ | ⟨ad,len',cap',elems,rest,n',_,e,rfl,_⟩
   ·have e' : c0 = .slice none 0 0:=(List.cons.inj e).1
    subst e'
    exact⟨none,0,0,fun _=>ByteArray.empty,n1,s2,rfl,.inl rfl⟩
   ·have e':=(List.cons.inj e).1
    subst e'
    obtain⟨t,ht⟩:=open_strs f0'
    exact⟨_,_,_,t,n1,s2,rfl,ht⟩
structure RowD where
 a:Option Addr
 n:Nat
 c:Nat
 t:Nat->ByteArray
 rel:Int
 k:ByteArray
instance:Inhabited RowD:=⟨⟨none,0,0,fun _=>ByteArray.empty,0,ByteArray.empty⟩⟩
theorem open_rows {H:Type} {enc:TypeId × Value->H} {W:World} {fuel:Nat} {a:Option Addr} {len cap:Nat} {x:DataW H × List MemPlace} (h:DataW.trod enc prog W 0 (fun _=>true) true fuel 22 [.slice a len cap]=some x) :
  ∃ (X:TX) (A:TA),X.m=len/\RowsT W a X A:=by
 rcases DataW.trod_slice underlying22 h with ⟨e,_⟩ | ⟨ad,len',cap',elems,rest,n,_,e,rfl,_,hl,hm,hlen,hel,_,_⟩
 ·cases e
  exact⟨⟨0,fun _=>0,fun _ _=>ByteArray.empty,fun _=>0,fun _=>ByteArray.empty⟩,⟨fun _=>none,fun _=>0⟩,rfl,.inl rfl,fun i hi=>absurd hi (Nat.not_lt_zero i)⟩
 ·cases e
  have hc:prog.cellsOf 49=3:=by kernel_rfl
  have each : ∀ i,i<len->∃ y:RowD,(∀ k v,[Value.slice y.a y.n y.c,.int .i64 y.rel,.string y.k][k]? = some v->W.cell? ((ad.add (i*3)).add k)=some v)/\SS W y.a y.t y.n:=by
   intro i hi
   have h1:=hel i hi
   rw [hc,List.getElem?_eq_getElem (by omega)] at h1
   obtain⟨cs,h2,h3⟩:=Option.bind_eq_some_iff.1 h1
   obtain⟨ra,rn,rc,rt,rrel,rk,rfl,hss⟩:=open_row h3
   obtain⟨_,_,h4⟩:=World.cells?_some h2
   refine⟨⟨ra,rn,rc,rt,rrel,rk⟩,fun k v hk=>?_,hss⟩
   have hk3:k<3:=(List.getElem?_eq_some_iff.1 hk).1
   rw [h4 k hk3]
   exact hk
  obtain⟨f,hf⟩:=pick each
  refine⟨⟨len,fun i=>(f i).n,fun i=>(f i).t,fun i=>(f i).rel,fun i=>(f i).k⟩,⟨fun i=>(f i).a,fun i=>(f i).c⟩,rfl,?_,fun i hi=>(hf i hi).2⟩
  cases len with
  | zero=>exact .inl rfl
  | succ k =>
   right
   have h0:=(hf 0 (by omega)).1 0 _ rfl
   rw [Nat.zero_mul,add_zero,add_zero] at h0
   have hs:=spot_none h0
   refine⟨ad,rfl,hs,fun j v hj=>?_⟩
   have hg3 : ∀ i,(rtc ⟨k+1,fun i=>(f i).n,fun i=>(f i).t,fun i=>(f i).rel,fun i=>(f i).k⟩ ⟨fun i=>(f i).a,fun i=>(f i).c⟩ i).length=3:=fun _=>rfl
   have hj' : j<3*(k+1):=by
    have:=(List.getElem?_eq_some_iff.1 hj).1
    rwa [zAU hg3] at this
   have hq:j / 3<k+1:=by omega
   have e:=zGm hg3 hq (j % 3) (by omega)
   rw [show 3*(j / 3)+j % 3=j by omega] at e
   rw [e] at hj
   have:=(hf (j / 3) hq).1 (j % 3) v hj
   rw [add_add _ hs] at this
   rw [show j / 3*3+j % 3=j by omega] at this
   exact this
end Go.Proofs.Si
