/- Part of the proof: SiS23, SiS24, SiF2, SiRow. -/
import Derived.Test.YtoaiappkhcjagaaGreatDoorMSiS15
import Derived.Test.YtoaiappkhcjagaaGreatDoorProg
import Derived.KernelRfl
import GoSem.ClaimSeven
import Derived.ProofKit
import Derived.OpenShut
import Derived.ShutString
import Derived.Below
import Derived.Lay
import Derived.LaidOnce
import Derived.SevenTiedAt
import Derived.ChangeSlices
import Derived.ChangeOld
import Derived.Carry
import Derived.DataReads
import Derived.Lib.LaidTab
import Derived.Stop.LaidErr
set_option linter.unusedVariables false
set_option linter.unusedSimpArgs false
namespace Go.Proofs.Si
open Go Go.V Go.Proofs Go.RowKit Go.Num Go.Tb Go.Proofs.Tryz
open Go.IntKind (i64 u64 u32 u8)
set_option maxRecDepth 100000
set_option maxHeartbeats 1000000 in
theorem c40 {s:Nat->ByteArray} {f:Nat->Rat} {kq:Rat} {nC cC:Nat} {ra:Option Addr} {rel:Int} {sk:ByteArray} (hn:nC<=1048576) (hs : ∀ j,j<nC->bs (s j)=txtQ (f j)) (hz : ∀ j,j<nC->(s j).size<=500000000) (hsk:bs sk=txtQ kq) (hzk:sk.size<=500000000)
  (hrel:rel=1\/rel=2) (w:World) (hS:SS w ra s nC) :
  Ret prog 40 #[.agg #[.slice ra nC cC,.int .i64 rel,.string sk]] w fun v w'=>∃ a' c' sK,v = .agg #[.slice a' nC c',.int .i64 (if rel=2 then 1 else 2),.string sK]/\bs sK=txtQ (-kq)/\w'.ownsRow 0 9 1 (.slice a' nC c') nC (SL (fun j=>mk (txtQ (-(f j)))) nC)/\Ext w w':=by
 have z1:=(Ext.refl w).alloc (.cells [Value.slice ra nC cC,.int .i64 rel,.string sk].toArray 49)
 have hB:=Box.new w [Value.slice ra nC cC,.int .i64 rel,.string sk] 49
 have s1:(w.alloc (.cells [Value.slice ra nC cC,.int .i64 rel,.string sk].toArray 49)).heap.size=w.heap.size+1:=size_alloc ..
 refine run40 _ _ _ _ _ _ _ ?_
 unfold vc40
 rw [show (Obj.cells #[Value.slice ra nC cC,.int .i64 rel,.string sk] 49) = .cells [Value.slice ra nC cC,.int .i64 rel,.string sk].toArray 49 from rfl]
 generalize w.alloc (.cells [Value.slice ra nC cC,.int .i64 rel,.string sk].toArray 49)=W1 at z1 hB s1 ⊢
 have z2:=((Ext.refl W1).alloc (.cells zrow.toArray 49)).drew
 have hO:=(Box.new W1 zrow 49).ext (Ext.refl _).drew
 rw [show (Obj.cells #[Value.slice none 0 0,.int .i64 0,.string { data:=#[] }] 49) = .cells zrow.toArray 49 from rfl]
 have s2:(W1.alloc (.cells zrow.toArray 49)).drew.heap.size=W1.heap.size+1:=size_alloc ..
 have hB2:=hB.ext z2
 generalize (W1.alloc (.cells zrow.toArray 49)).drew=W2 at z2 hO hB2 s2 ⊢
 have hx2:=z1.trans z2
 have hk:i64.wrap (3 - rel)=(if rel=2 then 1 else 2):=by
  rcases hrel with rfl | rfl <;> rfl
 have l1:=hB.lt
 intro K hK
 have main : ∀ w4 b u,bs u=txtQ (-kq)->w.heap.size+2<=b->Box w4 b 49 [nsl,.int .i64 (if rel=2 then 1 else 2),.string u]->Ext W2 w4->K [.pointer (some ⟨b,0,none⟩)] w4:=by
  intro w4 b u hu hb hO4 hx4
  refine hK _ w4 ?_
  have hxw4:=hx2.trans hx4
  have lo:=hO4.lt
  refine⟨fun vals w6=>∃ (i:Nat) (p:Option Addr) (c' : Nat),vals=[.int .i64 i]/\i<=nC/\Box w6 b 49 [.slice p i c',.int .i64 (if rel=2 then 1 else 2),.string u]/\w6.ownsRow w4.heap.size 9 1 (.slice p i c') i (SL (fun j=>mk (txtQ (-(f j)))) i)/\Box w6 w.heap.size 49 [Value.slice ra nC cC,.int .i64 rel,.string sk]/\Box w6 W1.heap.size 49 zrow/\w4.heap.size<=w6.heap.size/\Ext w w6,mu1 nC,⟨0,none,0,rfl,Nat.zero_le _,hO4,World.ownsRow_nil _ _ _ _,hB2.ext hx4,hO.ext hx4,Nat.le_refl _,hxw4⟩,?_⟩
  rintro m w6 ⟨i,p,c',hv,hi,hO6,hown,hL6,hC6,hs6,hx6⟩
  cases hv
  refine⟨_,_,_,hL6.blk.cell (j:=0) rfl,zAd (fun hlt=>?_) (fun hge=>?_)⟩
  ·have hin:i<nC:=by omega
   have hx7:=(Ext.refl w6).drew
   have hO7:=hO6.ext hx7
   have hown7:=zA8 hown hx7
   have hL7:=hL6.ext hx7
   have hC7:=hC6.ext hx7
   obtain⟨ad,ha,hc⟩:=(hS.ext (hx6.trans hx7)).get hin
   intro K1 hK1
   refine⟨_,_,_,hO7.blk.cell (j:=0) rfl,_,_,_,hL7.blk.cell (j:=0) rfl,ad,ha,⟨by omega,hlt⟩,_,hc,Called.of (c79 (hs i hin) (Nat.le_trans (hz i hin) (by decide)) _) ?_⟩
   rintro v w9 ⟨⟨u2,rfl,hu2⟩,he9⟩
   have hx9:=(hx6.trans hx7).trans he9
   have hO9:=hO7.ext he9
   have hown9:=zA8 hown7 he9
   have hL9:=hL7.ext he9
   have hC9:=hC7.ext he9
   have s9:w4.heap.size<=w9.heap.size:=Nat.le_trans hs6 (hx7.trans he9).size
   refine⟨_,rfl,he9,he9.alloc _,_,_,_,AppOk.one (L:=[.string u2]) hown9 rfl rfl (by unfold maxLen;omega) (by omega) s9,?_⟩
   intro p3 k7 w10 r
   have za:=(Ext.refl w9).alloc (.cells #[.string u2] 9)
   have sa:(w9.alloc (.cells #[.string u2] 9)).heap.size=w9.heap.size+1:=size_alloc ..
   have g3 : ∀ k,k<w9.heap.size->(Value.slice p i c').ownBlock≠some k->w10.heap[k]? = w9.heap[k]?:=fun k hk hne =>
    (r.grown.block k (by omega) (Ne.symm hne)).trans (za.block k hk)
   have hO10:Box w10 b 49 _:=hO9.same (g3 _ hO9.lt (zAA hown9 hO9 (by decide)))
   have hL10:Box w10 w.heap.size 49 _:=hL9.same (g3 _ hL9.lt (zAA hown9 hL9 (by decide)))
   have hC10:Box w10 W1.heap.size 49 _:=hC9.same (g3 _ hC9.lt (zAA hown9 hC9 (by decide)))
   have hx10:Ext w w10:=r.below (zA8 hown9 za) (hx9.trans za) (by have:=hx9.size;omega) (by have:=hxw4.size;omega)
   refine⟨⟨⟨_,hO10.blk.cell (j:=0) rfl⟩,hO10.blk.free⟩,hK1 _ ?_⟩
   rw [zAh (by omega)]
   have eu:u2=mk (txtQ (-(f i))):=zGi (by rw [bs_mk,hu2])
   have hr:=r.own
   rw [eu,<- SL_snoc (fun j=>mk (txtQ (-(f j)))) i] at hr
   have s10:=r.grown.size
   have hne:(Value.slice p3 (i+1) k7).ownBlock≠some b:=zAA hr hO10 (by decide)
   refine⟨⟨i+1,p3,k7,rfl,hin,hO10.set 0 _,zBC hr hne _,hL10.away zAe (by omega),hC10.away zAe (by omega),?_,hx10.setCell (by omega) _⟩,by simp only [mu1,Int.toNat_natCast];omega⟩
   rw [zCA];omega
  ·have ei:i=nC:=by omega
   subst ei
   have pO:=hC6.put [Value.slice p i c',.int .i64 (if rel=2 then 1 else 2),.string u] (by rfl)
   refine⟨_,_,_,_,_,hO6.blk.all,hC6.blk.writable (by decide),_,_,_,_,_,pO.blk.all,p,c',u,rfl,hu,?_,hx6.put (by omega) _ _⟩
   exact own_base (B':=0) (zDf hown fun k' hk'=>zAb k' fun e=>zAA hown hC6 (by decide) (e▸hk')) (Nat.zero_le _)
 refine⟨_,hB2.blk.cell (j:=1) rfl,_,hB2.blk.cell (j:=2) rfl,?_,(Ext.refl W2).alloc _,?_⟩
 ·refine Called.of (c79 hsk (Nat.le_trans hzk (by decide)) _) ?_
  rintro v w6 ⟨⟨u,rfl,hu⟩,he6⟩
  have hN:=Box.new w6 zrow 49
  have hP:=hN.put [nsl,.int .i64 (i64.wrap (3 - rel)),.string u] (by rfl)
  have hx6:=hx2.trans he6
  refine⟨_,rfl,he6,he6.alloc _,hN.blk.writable (by decide),main _ _ u hu (by have:=he6.size;omega) ?_ ?_⟩
  ·rw [<- hk];exact hP
  ·exact (he6.alloc _).put (by have:=he6.size;omega) _ _
 ·have zD:=((Ext.refl W2).alloc (.cells zrow.toArray 49)).drew
  have hN:=(Box.new W2 zrow 49).ext (Ext.refl _).drew
  refine Called.of (c79 hsk (Nat.le_trans hzk (by decide)) _) ?_
  rintro v w7 ⟨⟨u,rfl,hu⟩,he7⟩
  have zD':=(Ext.refl W2).alloc (.cells zrow.toArray 49)
  have hN7:=(Box.new W2 zrow 49).ext he7
  have hP:=hN7.put [nsl,.int .i64 (i64.wrap (3 - rel)),.string u] (by rfl)
  refine⟨_,rfl,zD'.trans he7,hN7.blk.writable (by decide),main _ _ u hu (by omega) ?_ ?_⟩
  ·rw [<- hk];exact hP
  ·exact (zD'.trans he7).put (Nat.le_refl _) _ _
end Go.Proofs.Si
namespace Go.Proofs.Si
open Go Go.V Go.Proofs Go.RowKit Go.Num Go.Tb Go.Proofs.Tryz
set_option maxRecDepth 100000
theorem copyR_ok {w:World} {a:Option Addr} {X:TX} {A:TA} (hR:RowsT w a X A) (hn:X.m<=1000000):AppOk (w.alloc (.cells #[] 49)) w.heap.size 49 3 48 (some ⟨w.heap.size,0,none⟩) 0 0 [] a X.m (GL (rtc X A) X.m) where
 own := .inl (own_box (n:=0) (size:=3) (Box.new w [] 49) rfl (by decide))
 len:=by rw [zAU (m:=3) fun _=>rfl,Nat.mul_comm]
 src:=by
  rcases SlAt.ext hR.1 ((Ext.refl w).alloc (.cells #[] 49)) with e | ⟨ad,g1,g2,g3⟩
  ·left
   have:=congrArg List.length e
   rw [zAU (m:=3) fun _=>rfl] at this
   simp only [List.length_nil] at this
   omega
  ·exact .inr ⟨ad,g1,zCY.2 g3⟩
 plain:=plain_GL (fun _=>rfl) _
 max:=by unfold maxLen;omega
 bytes:=by omega
 base:=((Ext.refl w).alloc (.cells #[] 49)).size
def snocX (X Y:TX):TX:={ m:=X.m+1,n:=fun i=>if i<X.m then X.n i else Y.n 0,C:=fun i=>if i<X.m then X.C i else Y.C 0,rel:=fun i=>if i<X.m then X.rel i else Y.rel 0,K:=fun i=>if i<X.m then X.K i else Y.K 0 }
def snocA (m:Nat) (A B:TA):TA:={ cA:=fun i=>if i<m then A.cA i else B.cA 0,cC:=fun i=>if i<m then A.cC i else B.cC 0 }
theorem snoc_GL (X Y:TX) (A B:TA):GL (rtc (snocX X Y) (snocA X.m A B)) (X.m+1)=GL (rtc X A) X.m++rtc Y B 0:=by
 rw [GL]
 congr 1
 ·refine zCb fun i hi=>?_
  unfold rtc snocX snocA
  simp only [if_pos hi]
 ·unfold rtc snocX snocA
  simp only [if_neg (Nat.lt_irrefl _)]
theorem rows_snoc {w:World} {p:Option Addr} {X Y:TX} {A B:TA} (h:SlAt w p (GL (rtc X A) X.m++rtc Y B 0)) (hX : ∀ i,i<X.m->SS w (A.cA i) (X.C i) (X.n i)) (hY:SS w (B.cA 0) (Y.C 0) (Y.n 0)):RowsT w p (snocX X Y) (snocA X.m A B):=by
 refine⟨?_,fun i hi=>?_⟩
 ·show SlAt w p (GL _ (X.m+1))
  rw [snoc_GL];exact h
 ·replace hi:i<X.m+1:=hi
  unfold snocX snocA
  by_cases e:i<X.m
  ·simp only [if_pos e];exact hX i e
  ·simp only [if_neg e];exact hY
theorem Tame.snoc {X Y:TX} (h:Tame X) (k:Tame Y) (hY:0<Y.m):Tame (snocX X Y) where
 n:=fun i hi=>by
  unfold snocX
  by_cases e:i<X.m
  ·simp only [if_pos e];exact h.n i e
  ·simp only [if_neg e];exact k.n 0 hY
 c:=fun i hi j hj=>by
  unfold snocX at hj ⊢
  by_cases e:i<X.m
  ·simp only [if_pos e] at hj ⊢;exact h.c i e j hj
  ·simp only [if_neg e] at hj ⊢;exact k.c 0 hY j hj
 k:=fun i hi=>by
  unfold snocX
  by_cases e:i<X.m
  ·simp only [if_pos e];exact h.k i e
  ·simp only [if_neg e];exact k.k 0 hY
theorem negX_tame {X1:TX} {n:Int} {sK:ByteArray} (hX1:Tame X1) (h01:0<X1.m) (hok:okRow X1 n 0) (hts1:(∀ j,j<X1.n 0->(X1.C 0 j).size<=999999)/\(X1.K 0).size<=999999) (hsK:bs sK=txtQ (-(rd (X1.K 0)))):Tame (negX X1 sK):={
  n:=fun _ _=>hX1.n 0 h01
  c:=fun i _ j hj=>by
   show (mk (txtQ (-(rd (X1.C 0 j))))).size<=1000000
   rw [zAg,bs_mk]
   have h1:=neg_len (rd (X1.C 0 j))
   have h2:=hts1.1 j hj
   rw [<- rd_ok (hok.2.2.2.1 j hj),<- zAg] at h1
   omega
  k:=fun i _=>by
   show sK.size<=1000000
   rw [zAg,hsK]
   have h1:=neg_len (rd (X1.K 0))
   have h2:=hts1.2
   rw [<- rd_ok hok.2.2.2.2,<- zAg] at h1
   omega }
theorem imp_reads {X X1:TX} {n:Int} {sK:ByteArray} (h0:0<=n) (hok : ∀ i,i<X.m->okRow X n.toNat i) (hok1:okRow X1 n 0) (h3:X1.rel 0≠3) (hsK:bs sK=txtQ (-(rd (X1.K 0)))):Reads (snocX X (negX X1 sK)) (impS X X1 n):=by
 have hS:=zBh hok
 have hn1:=hok1.1
 exact {
  m:=rfl
  n:=fun i hi=>by
   unfold snocX
   by_cases e:i<X.m
   ·simp only [if_pos e];exact hS.n i e
   ·simp only [if_neg e];show X1.n 0=n.toNat;omega
  C:=fun i hi j hj=>by
   show bs ((if i<X.m then X.C i else (negX X1 sK).C 0) j)=txtQ (if i<X.m then rd (X.C i j) else -(rd (X1.C 0 j)))
   by_cases e:i<X.m
   ·simp only [if_pos e];exact hS.C i e j hj
   ·simp only [if_neg e];exact bs_mk _
  rel:=fun i hi=>by
   show (if i<X.m then X.rel i else (negX X1 sK).rel 0)=((if i<X.m then (X.rel i).toNat else (if (X1.rel 0).toNat=2 then 1 else 2):Nat):Int)/\1<=(if i<X.m then (X.rel i).toNat else (if (X1.rel 0).toNat=2 then 1 else 2))/\(if i<X.m then (X.rel i).toNat else (if (X1.rel 0).toNat=2 then 1 else 2))<=3
   by_cases e:i<X.m
   ·simp only [if_pos e];exact hS.rel i e
   ·simp only [if_neg e]
    show (if X1.rel 0=2 then 1 else 2:Int)=((if (X1.rel 0).toNat=2 then 1 else 2:Nat):Int)/\1<=(if (X1.rel 0).toNat=2 then 1 else 2)/\(if (X1.rel 0).toNat=2 then 1 else 2)<=3
    by_cases h:X1.rel 0=2
    ·rw [if_pos h,if_pos (by omega)];decide
    ·rw [if_neg h,if_neg (by omega)];decide
  K:=fun i hi=>by
   show bs (if i<X.m then X.K i else sK)=txtQ (if i<X.m then rd (X.K i) else -(rd (X1.K 0)))
   by_cases e:i<X.m
   ·simp only [if_pos e];exact hS.K i e
   ·simp only [if_neg e];exact hsK }
theorem Reads.ok {X:TX} {S:Tb.Sys} {n:Int} (h:Reads X S) (hn:(S.n:Int)=n) (h40:S.n<=40) (hm:S.m<=200):okRows X n :=
 ⟨by omega,by omega,by have:=h.m;omega,fun i hi=>⟨by have:=h.n i hi;omega,by have:=h.rel i hi;omega,by have:=h.rel i hi;omega,fun j hj=>ok_of (h.C i hi j (by have:=h.n i hi;omega)),ok_of (h.K i hi)⟩⟩
set_option maxHeartbeats 2000000 in
theorem c9 {X X1:TX} {A A1:TA} {n:Int} {a:Option Addr} {c:Nat} (hm1:X1.m=1) (w:World) (hR:RowsT w a X A) (hs:SS w (A1.cA 0) (X1.C 0) (X1.n 0)) (hg:Gl w) :
    Ret prog 9 #[.int .i64 n,.slice a X.m c,.agg #[.slice (A1.cA 0) (X1.n 0) (A1.cC 0),.int .i64 (X1.rel 0),.string (X1.K 0)]] w fun v w'=>v = .bool true/\Ext w w':=by
  have z1:=(Ext.refl w).alloc (.cells (rtc X1 A1 0).toArray 49)
  have b1:=Box.new w (rtc X1 A1 0) 49
  refine run9 _ _ _ _ _ _ _ _ _ _ _ fun K hK=>?_
  have done : ∀ w2,Ext w w2->K [.bool true] w2:=fun w2 h2=>hK true w2 (by rw [cond_true];exact zEc hg h2)
  change ∃ p3 k6 k7,(w.alloc (.cells (rtc X1 A1 0).toArray 49)).cell? _=some (.slice p3 k6 k7)/\Called _ 20 #[_,_,.slice (some ⟨(w.alloc (.cells (rtc X1 A1 0).toArray 49)).heap.size,0,none⟩) 1 1] ((w.alloc (.cells (rtc X1 A1 0).toArray 49)).alloc (.cells #[.slice p3 k6 k7] 23)) _
  generalize w.alloc (.cells (rtc X1 A1 0).toArray 49)=W1 at z1 b1 ⊢
  refine⟨_,_,_,b1.blk.cell (j:=0) rfl,?_⟩
  have z2:=(Ext.refl W1).alloc (.cells #[.slice (A1.cA 0) (X1.n 0) (A1.cC 0)] 23)
  refine Called.of (c20 (n:=n) (nl:=1) (by decide) _ (hR.ext (z1.trans z2)) (lists1 (hs.ext z1))) ?_
  rintro v w1 ⟨⟨b,rfl,hb⟩,rfl⟩
  have hx1:=z1.trans z2
  have b2:=b1.ext z2
  refine⟨_,rfl,?_⟩
  cases b with
  | true=>exact done _ hx1
  | false =>
  rw [cond_false]
  obtain⟨hn6,hsm,hl⟩:=hb rfl
  obtain⟨hcn,hcz⟩:=hl 0 (by decide)
  replace hcn:X1.n 0<=40:=hcn
  replace hcz : ∀ j,j<X1.n 0->(X1.C 0 j).size<=60:=hcz
  have htm:=hsm.tame (by decide)
  clear hb hl
  generalize W1.alloc (.cells #[.slice (A1.cA 0) (X1.n 0) (A1.cC 0)] 23)=w1 at z2 hx1 b2 ⊢
  refine⟨_,b2.blk.cell (j:=2) rfl,?_⟩
  by_cases hk60:(X1.K 0).size<=60
  rotate_left
  · rw [decide_eq_true (by omega)];exact done _ hx1
  rw [decide_eq_false (by omega)]
  refine hK false w1 ?_
  rw [cond_false]
  have h01:0<X1.m:=by omega
  have hsm1:smallX X1 14 60:=⟨by omega,fun i hi=>by
    have:i=0:=by omega
    subst this
    exact⟨hk60,by omega,hcz⟩⟩
  have htm1:=hsm1.tame (by decide)
  have hts1:(∀ j,j<X1.n 0->(X1.C 0 j).size<=999999)/\(X1.K 0).size<=999999:=⟨fun j hj=>Nat.le_trans (hcz j hj) (by decide),Nat.le_trans hk60 (by decide)⟩
  have hsI:okImp X X1 n->Sm6 (impS X X1 n):=fun hI=>by
    have h0:=hI.1.1
    have hnn:((n.toNat:Nat):Int)=n:=Int.toNat_of_nonneg h0
    have hall1 : ∀ i,i<X1.m->okRow X1 n.toNat i:=fun i hi=>by
      have:i=0:=by omega
      rw [this,hnn];exact hI.2
    have s6:=hsm.sm (n:=n.toNat) (by omega) hI.1.nat
    have s1:=hsm1.sm (n:=n.toNat) (by omega) hall1
    exact negR_sm s6 (by have:=hsm.1;exact this) (fun j hj=>s1.C 0 h01 j hj) (s1.K 0 h01)
  refine Called.of (c22 (zFK hsm).1 (zFK hsm).2 w1 (hR.ext hx1)) ?_
  rintro v w3 ⟨p,c',A',rfl,hO,he3⟩
  have hx3:=hx1.trans he3
  have b3:=b2.ext he3
  have hRo:=hO.t
  refine⟨_,_,_,rfl,_,_,_,_,_,b3.blk.all,?_⟩
  refine Called.of (c38 (A1:=A1) htm htm1 hts1 hm1 (fun hI=>(hsI hI).fits) w3 hRo (hs.ext hx3) (hg.ext hx3)) ?_
  rintro v w4 ⟨hI,he4⟩
  have hx4:=hx3.trans he4
  have b4:=b3.ext he4
  obtain⟨k,p2,n2,e,rfl,hans⟩ : ∃ (k:Bool) (p2:Option Addr) (n2:Nat) (e:Int),v = .tuple #[.bool k,.slice p2 n2 n2,.int .i64 e] /\
      ((¬ okImp X X1 n/\k=false/\n2=0/\e=1) \/
       (okImp X X1 n/\((X1.rel 0=3/\k=false/\n2=0/\e=8) \/
        (X1.rel 0≠3/\e=0/\((k=false/\n2=0/\∃ pt,Sat (impS X X1 n) pt) \/
          (k=true/\n2=X.m+1/\∃ b y,p2=some ⟨b,0,none⟩/\zBG w4 b y (X.m+1)/\zAQ (impS X X1 n) y/\∀ k,dg 2000000 (y k))))))):=by
    rcases hI with ⟨h,rfl⟩ | ⟨h,⟨h3,rfl⟩ | ⟨h3,⟨x,rfl,h1⟩ | ⟨bi,yi,_,rfl,h1,h2,h4⟩⟩⟩
    · exact⟨_,_,_,_,rfl,.inl ⟨h,rfl,rfl,rfl⟩⟩
    · exact⟨_,_,_,_,rfl,.inr ⟨h,.inl ⟨h3,rfl,rfl,rfl⟩⟩⟩
    · exact⟨_,_,_,_,rfl,.inr ⟨h,.inr ⟨h3,rfl,.inl ⟨rfl,rfl,x,h1⟩⟩⟩⟩
    · exact⟨_,_,_,_,rfl,.inr ⟨h,.inr ⟨h3,rfl,.inr ⟨rfl,rfl,bi,yi,rfl,h1,h2,h4⟩⟩⟩⟩
  refine⟨_,_,_,_,_,rfl,?_⟩
  refine Called.of (c25 (X:=X) (Y:=X) (fun i hi=>htm.n i hi) (by have:=hsm.1;omega) _ (hRo.ext he4) (hR.ext hx4)) ?_
  rintro v w5 ⟨⟨b5,rfl,hb5⟩,he5⟩
  have hb5t:=hb5.2 (zFj X)
  subst hb5t
  refine⟨_,rfl,?_⟩
  rw [show (!true)=false from rfl,cond_false]
  have hx5:=hx4.trans he5
  have b5:=b4.ext he5
  intro K1 hK1
  have pre : ∀ b w6,Ext w5 w6->(b=true↔¬ okImp X X1 n)->K1 [.bool b] w6:=by
    intro b w6 he6 hbk
    refine hK1 b w6 ?_
    have hx6:=hx5.trans he6
    have b6:=b5.ext he6
    have e46:=he5.trans he6
    rcases hans with ⟨hno,rfl,rfl,rfl⟩ | ⟨hok,hans⟩
    · rw [hbk.2 hno,cond_true]
      intro K2 hK2
      refine zAa (fun _=>zAa (fun _=>?_) (fun h=>absurd h (by decide))) (fun h=>absurd h (by decide))
      exact zBT (K:=fun v w=>K2 [v] w) hg hx6 fun w2 h2=>hK2 true w2 ⟨rfl,h2⟩
    have hbf:b=false:=by
      cases b with
      | false=>rfl
      | true=>exact absurd hok (hbk.1 rfl)
    rw [hbf,cond_false]
    refine⟨_,b6.blk.cell (j:=1) rfl,?_⟩
    rcases hans with ⟨h3,rfl,rfl,rfl⟩ | ⟨h3,rfl,hans⟩
    · rw [h3,show ((3:Int)==3)=true from rfl,cond_true]
      intro K3 hK3
      refine zAa (fun _=>zAa (fun _=>?_) (fun h=>absurd h (by decide))) (fun h=>absurd h (by decide))
      exact zBT (K:=fun v w=>K3 [v] w) hg hx6 fun w2 h2=>hK3 true w2 ⟨rfl,h2⟩
    rw [show (X1.rel 0==3)=false by simpa using h3,cond_false]
    refine zAa (fun h=>absurd h (by decide)) (fun _=>?_)
    intro K4 hK4
    have hd:=(Ext.refl w6).drew
    have hx7:=hx6.trans hd
    have b7:=b6.ext hd
    refine⟨_,_,_,_,_,b7.blk.all,?_⟩
    generalize hW7:w6.drew=W7 at hd hx7 b7 ⊢
    have hR7:=hR.ext hx7
    have hok0:=hok.1.1
    have hnn:((n.toNat:Nat):Int)=n:=Int.toNat_of_nonneg hok0
    obtain⟨q1,q2,q3,q4,q5⟩:=hok.2
    refine⟨(Ext.refl W7).alloc _,_,_,_,copyR_ok hR7 (by have:=hsm.1;omega),?_⟩
    intro p7 k15 w20 r
    have ownE:=own_box (n:=0) (size:=3) (Box.new W7 [] 49) rfl (by decide)
    have z7:=(Ext.refl W7).alloc (.cells #[] 49)
    have he20:Ext W7 w20:=r.below ownE z7 z7.size (Nat.le_refl _)
    have hx20:=hx7.trans he20
    have own20:=r.own
    rw [List.nil_append,Nat.zero_add] at own20
    refine⟨he20,?_⟩
    refine Called.of (c40 (f:=fun j=>rd (X1.C 0 j)) (kq:=rd (X1.K 0)) (by omega) (fun j hj=>rd_ok (q4 j hj)) (fun j hj=>Nat.le_trans (hcz j hj) (by decide)) (rd_ok q5) (Nat.le_trans hk60 (by decide)) (by omega) w20 (hs.ext hx20)) ?_
    rintro v w21 ⟨a',c2,sK,rfl,hsK,hSS,he21⟩
    have hx21:=hx20.trans he21
    have own21:=zA8 own20 he21
    rw [Nat.zero_add]
    have s7:=(he20.trans he21).size
    refine⟨_,_,_,_,_,rfl,_,_,_,AppOk.one (L:=rtc (negX X1 sK) ⟨fun _=>a',fun _=>c2⟩ 0) own21 rfl rfl (by unfold maxLen;have:=hsm.1;omega) (by have:=hsm.1;omega) s7,?_⟩
    intro p9 k19 w22 r2
    have z21:=(Ext.refl w21).alloc (.cells (rtc (negX X1 sK) ⟨fun _=>a',fun _=>c2⟩ 0).toArray 49)
    have s21:=z21.size
    have hx22:Ext w w22:=r2.below (zA8 own21 z21) (hx21.trans z21) (Nat.le_trans hx21.size z21.size) hx7.size
    have hx2122:Ext W7 w22:=r2.below (zA8 own21 z21) ((he20.trans he21).trans z21) (Nat.le_trans s7 z21.size) (Nat.le_refl _)
    have hSS22:SS w22 a' (fun j=>mk (txtQ (-(rd (X1.C 0 j))))) (X1.n 0):=by
      exact zBr (own_grown r2.grown (zA8 hSS z21) fun k hk e=>zCu (zA8 hSS z21) (zA8 own21 z21) (by decide) k hk e)
    have hRN:RowsT w22 p9 (snocX X (negX X1 sK)) (snocA X.m A ⟨fun _=>a',fun _=>c2⟩) :=
      rows_snoc (zBr r2.own) (fun i hi=>(hR.ext hx22).2 i hi) hSS22
    have tN:=htm.snoc (negX_tame htm1 h01 hok.2 hts1 hsK) (show 0<(negX X1 sK).m from Nat.one_pos)
    have hrd:=imp_reads hok0 hok.1.nat hok.2 h3 hsK
    have s6I:=hsI hok
    have hSn:((impS X X1 n).n:Int)=n:=hnn
    have hSm:(impS X X1 n).m=X.m+1:=rfl
    refine hK4 _ _ _ _ ?_
    rcases hans with ⟨rfl,rfl,pt,hsat⟩ | ⟨rfl,rfl,bi,yi,rfl,hT,href,hyd⟩
    · rw [cond_false]
      refine Called.of (c28x (X:=snocX X (negX X1 sK)) (n:=n) tN (fun S hS hn=>((hrd.agree hS (by omega)).sm s6I).fits) w22 hRN (hg.ext hx22)) ?_
      rintro v w16 ⟨hL,he16⟩
      have hx16:=hx22.trans he16
      have hN:=Box.new w16 lp0 31
      have hokN:okRows (snocX X (negX X1 sK)) n:=hrd.ok hSn (by have:=s6I.n;omega) (by have:=s6I.m;omega)
      rcases hL with ⟨h,_⟩ | ⟨_,b,_,⟨x,rfl,_⟩ | ⟨y,rfl,_,hy,_⟩⟩
      · exact absurd hokN h
      · refine⟨_,_,_,_,_,_,_,_,rfl,hN.blk.writable (by decide),fun K6 hK6=>?_⟩
        have hP:=hN.put [.int .i64 1,.slice (some ⟨b,0,none⟩) n.toNat n.toNat,.slice none 0 0] (by rfl)
        have eP:Ext w16 (setCells (w16.alloc (.cells lp0.toArray 31)) ⟨w16.heap.size,0,none⟩ 0 [.int .i64 1,.slice (some ⟨b,0,none⟩) n.toNat n.toNat,.slice none 0 0]):=((Ext.refl w16).alloc _).put (Nat.le_refl _) _ _
        refine zAa (fun _=>?_) (fun h=>absurd h (by decide))
        rw [decide_eq_false (by have:=hsm.1;omega),cond_false]
        refine zAa (fun _=>?_) (fun h=>absurd h (by decide))
        refine⟨_,hP.blk.cell (j:=0) rfl,zAa (fun _=>?_) (fun h=>absurd h (by decide))⟩
        exact zBT (K:=fun v w=>K6 [v] w) hg (hx16.trans eP) fun w2 h2=>hK6 true w2 ⟨rfl,h2⟩
      · exfalso
        have hag:=(zBh hokN.nat).agree hrd rfl
        exact farkas ((hag.refutes fun _ _=>rfl).1 hy) hsat
    · rw [cond_true]
      intro K5 hK5
      refine Called.of (c31 (n:=((X.m+1:Nat):Int)) (s:=fun j=>mk (txtQ (yi j))) (by have:=hsm.1;omega) w22 (Box.ext hT ((e46.trans hd).trans hx2122)).blk.sl fun j hj=>Nat.le_trans (zG3 (hyd j)) (by decide)) ?_
      rintro v w13 ⟨⟨b10,rfl,hb10⟩,he13⟩
      have hb10t:=hb10.2 ⟨rfl,fun j hj=>ok_of (bs_mk _)⟩
      subst hb10t
      refine⟨_,rfl,?_⟩
      rw [cond_true]
      have h41:=c41 (X:=snocX X (negX X1 sK)) (S:=impS X X1 n) (c:=k19) (mc:=X.m+1) (t:=fun j=>mk (txtQ (yi j))) s6I.fits.few tN hrd (fun j hj=>bs_mk _) (fun k hk=>Nat.le_trans (zG3 (hyd k)) (by decide)) (s6I.dotsZ fun k _=>hyd k) w13 (hRN.ext he13) (Box.ext hT (((e46.trans hd).trans hx2122).trans he13)).blk.sl
      rw [hSn,hSm] at h41
      refine Called.of h41 ?_
      rintro v w14 ⟨⟨b11,rfl,hb11⟩,he14⟩
      have hb11t:=hb11.2 href
      subst hb11t
      refine⟨_,rfl,?_⟩
      rw [cond_true]
      exact zBT (K:=fun v w=>K5 [v] w) hg ((hx22.trans he13).trans he14) fun w2 h2=>hK5 true w2 ⟨rfl,h2⟩
  refine Called.of (c29 htm w5 (hR.ext hx5)) ?_
  rintro v w23 ⟨⟨b16,rfl,hb16⟩,he23⟩
  refine⟨_,rfl,?_⟩
  cases b16 with
  | false =>
    rw [show (!false)=true from rfl,cond_true]
    exact pre true w23 he23 (by simp only [true_iff];exact fun h=>by have:=hb16.2 h.1;cases this)
  | true =>
    rw [show (!true)=false from rfl,cond_false]
    refine⟨_,_,_,_,_,(b5.ext he23).blk.all,Called.of (c39 (X:=X1) (A:=A1) (n:=n) htm1 h01 w23 (hs.ext (hx5.trans he23))) ?_⟩
    rintro v w24 ⟨⟨b17,rfl,hb17⟩,he24⟩
    refine⟨_,rfl,pre _ w24 (he23.trans he24) ?_⟩
    cases b17 with
    | true=>simp only [Bool.not_true,Bool.false_eq_true,false_iff];exact fun h=>h ⟨hb16.1 rfl,hb17.1 rfl⟩
    | false=>simp only [Bool.not_false,true_iff];exact fun h=>by have:=hb17.2 h.2;cases this
end Go.Proofs.Si
namespace Go.Proofs.Si
open Go Go.Proofs Go.Proofs.Tryz
set_option maxRecDepth 100000
theorem looksFact:true=prog.looks []:=by kernel_rfl
theorem ownFact:ownKnob prog.godebug=none:=by kernel_rfl
end Go.Proofs.Si
namespace Go.Proofs.Si
open Go Go.V Go.Proofs Go.RowKit Go.Proofs.Tryz
open Go.ChangeShapes Go.WideShapes Go.ChangeAt Go.Proofs.Tryz
set_option maxRecDepth 100000
theorem laidOutK:laidOutB prog=true:=by kernel_rfl
theorem spot_none {w:World} {x:Addr} {v:Value} (h:w.cell? x=some v):x.spot=none:=by
 unfold World.cell? at h
 cases hb:w.heap[x.block]? with
 | none=>rw [hb] at h;cases h
 | some o =>
  rw [hb] at h
  cases o with
  | cells c e f =>
   cases hsp:x.spot with
   | none=>rfl
   | some y=>simp [hsp] at h
  | _=>cases h
theorem add_zero (x:Addr):x.add 0=x:=by unfold Addr.add;simp
theorem pick {α:Type} [Inhabited α] {P:Nat->α->Prop} {n:Nat} (h : ∀ i,i<n->∃ y,P i y) : ∃ f:Nat->α,∀ i,i<n->P i (f i):=by
 classical
 refine⟨fun i=>if hi:i<n then Classical.choose (h i hi) else default,fun i hi=>?_⟩
 show P i (dite _ _ _)
 rw [dif_pos hi]
 exact Classical.choose_spec (h i hi)
theorem open_strs {H:Type} {enc:TypeId × Value->H} {W:World} {fuel:Nat} {a:Option Addr} {len cap:Nat} {x:DataW H × List MemPlace} (h:DataW.trod enc prog W 0 (fun _=>true) true fuel 23 [.slice a len cap]=some x) : ∃ t:Nat->ByteArray,SS W a t len:=by
 rcases DataW.trod_slice underlying23 h with ⟨e,_⟩ | ⟨ad,len',cap',elems,rest,n,_,e,rfl,_,hl,hm,hlen,hel,_,_⟩
 ·cases e
  exact⟨fun _=>ByteArray.empty,.inl rfl⟩
 ·cases e
  have hc:prog.cellsOf 9=1:=by kernel_rfl
  have each : ∀ i,i<len->∃ s:ByteArray,W.cell? (ad.add i)=some (.string s):=by
   intro i hi
   have h1:=hel i hi
   rw [hc,List.getElem?_eq_getElem (by omega)] at h1
   obtain⟨cs,h2,h3⟩:=Option.bind_eq_some_iff.1 h1
   obtain⟨s,e1,_,_⟩:=DataW.trod_string underlying9 h3
   obtain⟨_,_,h4⟩:=World.cells?_some h2
   have h5:=h4 0 (by decide)
   rw [Nat.mul_one,add_zero] at h5
   refine⟨s,?_⟩
   rw [h5,e1];rfl
  haveI:Inhabited ByteArray:=⟨ByteArray.empty⟩
  obtain⟨t,ht⟩:=pick each
  refine⟨t,?_⟩
  cases len with
  | zero=>exact .inl rfl
  | succ k =>
   right
   have h0:=ht 0 (by omega)
   rw [add_zero] at h0
   refine⟨ad,rfl,spot_none h0,fun j v hj=>?_⟩
   have hj' : j<k+1:=by
    have:=(List.getElem?_eq_some_iff.1 hj).1
    rwa [zCX] at this
   have e:=zBg (f:=fun i=>Value.string (t i)) hj'
   have hj2:(SL t (k+1))[j]? = some (.string (t j)):=e
   rw [hj2] at hj
   cases hj
   exact ht j hj'
theorem open_row {H:Type} {enc:TypeId × Value->H} {W:World} {fuel:Nat} {cs:List Value} {x:DataW H × List MemPlace} (h:DataW.trod enc prog W 0 (fun _=>true) true fuel 49 cs=some x) :
  ∃ (a:Option Addr) (n c:Nat) (t:Nat->ByteArray) (rel:Int) (k:ByteArray),cs=[.slice a n c,.int .i64 rel,.string k]/\SS W a t n:=by
 obtain⟨xs,n,_,rfl,hl,hlen,hf⟩:=DataW.trod_struct underlying49 h
 have hc:prog.cellsOf 49=3:=by kernel_rfl
 have h3:prog.cellsOf 3=1:=by kernel_rfl
 have h9:prog.cellsOf 9=1:=by kernel_rfl
 have h23:prog.cellsOf 23=1:=by kernel_rfl
 rw [hc] at hl
 match cs,hl with
 | [c0,c1,c2],_ =>
  match xs,hlen with
  | [x0,x1,x2],_ =>
   have f0:DataW.trod enc prog W 0 (fun _=>true) true n 23 (([c0,c1,c2].drop 0).take (prog.cellsOf 23))=some x0:=hf 0 _ rfl
   have f1:DataW.trod enc prog W 0 (fun _=>true) true n 3 (([c0,c1,c2].drop 1).take (prog.cellsOf 3))=some x1:=hf 1 _ rfl
   have f2:DataW.trod enc prog W 0 (fun _=>true) true n 9 (([c0,c1,c2].drop 2).take (prog.cellsOf 9))=some x2:=hf 2 _ rfl
   rw [h23] at f0
   rw [h3] at f1
   rw [h9] at f2
   obtain⟨n1,e1,_,_⟩:=DataW.trod_int underlying3 f1
   obtain⟨s2,e2,_,_⟩:=DataW.trod_string underlying9 f2
   have e1' : c1 = .int .i64 n1:=(List.cons.inj e1).1
   have e2' : c2 = .string s2:=(List.cons.inj e2).1
   subst e1' e2'
   have f0' : DataW.trod enc prog W 0 (fun _=>true) true n 23 [c0]=some x0:=f0
   rcases DataW.trod_slice underlying23 f0' with ⟨e,_⟩ | ⟨ad,len',cap',elems,rest,n',_,e,rfl,_⟩
   ·have e' : c0 = .slice none 0 0:=(List.cons.inj e).1
    subst e'
    exact⟨none,0,0,fun _=>ByteArray.empty,n1,s2,rfl,.inl rfl⟩
   ·have e':=(List.cons.inj e).1
    subst e'
    obtain⟨t,ht⟩:=open_strs f0'
    exact⟨_,_,_,t,n1,s2,rfl,ht⟩
structure RowD where
 a:Option Addr
 n:Nat
 c:Nat
 t:Nat->ByteArray
 rel:Int
 k:ByteArray
instance:Inhabited RowD:=⟨⟨none,0,0,fun _=>ByteArray.empty,0,ByteArray.empty⟩⟩
theorem open_rows {H:Type} {enc:TypeId × Value->H} {W:World} {fuel:Nat} {a:Option Addr} {len cap:Nat} {x:DataW H × List MemPlace} (h:DataW.trod enc prog W 0 (fun _=>true) true fuel 22 [.slice a len cap]=some x) :
  ∃ (X:TX) (A:TA),X.m=len/\RowsT W a X A:=by
 rcases DataW.trod_slice underlying22 h with ⟨e,_⟩ | ⟨ad,len',cap',elems,rest,n,_,e,rfl,_,hl,hm,hlen,hel,_,_⟩
 ·cases e
  exact⟨⟨0,fun _=>0,fun _ _=>ByteArray.empty,fun _=>0,fun _=>ByteArray.empty⟩,⟨fun _=>none,fun _=>0⟩,rfl,.inl rfl,fun i hi=>absurd hi (Nat.not_lt_zero i)⟩
 ·cases e
  have hc:prog.cellsOf 49=3:=by kernel_rfl
  have each : ∀ i,i<len->∃ y:RowD,(∀ k v,[Value.slice y.a y.n y.c,.int .i64 y.rel,.string y.k][k]? = some v->W.cell? ((ad.add (i*3)).add k)=some v)/\SS W y.a y.t y.n:=by
   intro i hi
   have h1:=hel i hi
   rw [hc,List.getElem?_eq_getElem (by omega)] at h1
   obtain⟨cs,h2,h3⟩:=Option.bind_eq_some_iff.1 h1
   obtain⟨ra,rn,rc,rt,rrel,rk,rfl,hss⟩:=open_row h3
   obtain⟨_,_,h4⟩:=World.cells?_some h2
   refine⟨⟨ra,rn,rc,rt,rrel,rk⟩,fun k v hk=>?_,hss⟩
   have hk3:k<3:=(List.getElem?_eq_some_iff.1 hk).1
   rw [h4 k hk3]
   exact hk
  obtain⟨f,hf⟩:=pick each
  refine⟨⟨len,fun i=>(f i).n,fun i=>(f i).t,fun i=>(f i).rel,fun i=>(f i).k⟩,⟨fun i=>(f i).a,fun i=>(f i).c⟩,rfl,?_,fun i hi=>(hf i hi).2⟩
  cases len with
  | zero=>exact .inl rfl
  | succ k =>
   right
   have h0:=(hf 0 (by omega)).1 0 _ rfl
   rw [Nat.zero_mul,add_zero,add_zero] at h0
   have hs:=spot_none h0
   refine⟨ad,rfl,hs,fun j v hj=>?_⟩
   have hg3 : ∀ i,(rtc ⟨k+1,fun i=>(f i).n,fun i=>(f i).t,fun i=>(f i).rel,fun i=>(f i).k⟩ ⟨fun i=>(f i).a,fun i=>(f i).c⟩ i).length=3:=fun _=>rfl
   have hj' : j<3*(k+1):=by
    have:=(List.getElem?_eq_some_iff.1 hj).1
    rwa [zAU hg3] at this
   have hq:j / 3<k+1:=by omega
   have e:=zGm hg3 hq (j % 3) (by omega)
   rw [show 3*(j / 3)+j % 3=j by omega] at e
   rw [e] at hj
   have:=(hf (j / 3) hq).1 (j % 3) v hj
   rw [add_add _ hs] at this
   rw [show j / 3*3+j % 3=j by omega] at this
   exact this
end Go.Proofs.Si
