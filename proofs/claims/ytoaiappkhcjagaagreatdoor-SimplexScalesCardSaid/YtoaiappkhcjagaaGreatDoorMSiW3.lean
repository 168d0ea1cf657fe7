/- Part of the proof: SiW3, SiW4, SiW5, SiW6, SiW7, SiW8, SiW9. -/
import Derived.Test.YtoaiappkhcjagaaGreatDoorMSiK4
import Derived.Test.YtoaiappkhcjagaaGreatDoorMV8
set_option linter.unusedVariables false
set_option linter.unusedSimpArgs false
namespace Go.Proofs.Si
open Go Go.V Go.Proofs Go.RowKit Go.Num Go.Tb Go.Proofs.Tryz
set_option maxRecDepth 100000
def part (Q A:Nat->Rat) (k:Nat):Nat->Rat:=fun c=>if c<k then Q c else A c
theorem zBu (Q A:Nat->Rat):part Q A 0=A:=by funext c;exact if_neg (by omega)
theorem zBf (Q A:Nat->Rat) (k:Nat):upd (part Q A k) k (Q k)=part Q A (k+1):=by
 funext c
 unfold upd part
 by_cases e:c=k
 ·rw [if_pos e,if_pos (by omega),e]
 ·rw [if_neg e]
  by_cases h:c<k
  ·rw [if_pos h,if_pos (by omega)]
  ·rw [if_neg h,if_neg (by omega)]
theorem zDS {Q A:Nat->Rat} {k:Nat} (h:Q k=A k):part Q A (k+1)=part Q A k:=by
 rw [<- zBf]
 funext c
 unfold upd
 by_cases e:c=k
 ·rw [if_pos e,part,if_neg (by omega),e,h]
 ·rw [if_neg e]
theorem zEq (Q A:Nat->Rat) (k:Nat):part Q A k k=A k:=if_neg (by omega)
theorem zCC {Q A:Nat->Rat} {n c:Nat} (h:c<n):part Q A n c=Q c:=if_pos h
theorem upd_upd {α:Type} (f:Nat->α) (i:Nat) (x y:α):upd (upd f i x) i y=upd f i y:=by
 funext k
 unfold upd
 split <;> rfl
theorem upd_self {α:Type} (f:Nat->α) (i:Nat):upd f i (f i)=f:=by
 funext k
 unfold upd
 split
 ·next h=>rw [h]
 ·rfl
def midP (a:Nat->Nat->Rat) (i j l:Nat):Nat->Nat->Rat:=fun k=>if k<l\/k=i then pivA a i j k else a k
theorem midP_row {a:Nat->Nat->Rat} {i j l:Nat} : midP a i j l i=pivA a i j i:=if_pos (.inr rfl)
theorem midP_at {a:Nat->Nat->Rat} {i j l:Nat} (h:l≠i):midP a i j l l=a l:=if_neg (by omega)
theorem midP_skip {a:Nat->Nat->Rat} {i j l:Nat} (h:l=i\/a l j=0):midP a i j (l+1)=midP a i j l:=by
 funext k c
 unfold midP
 by_cases e:k=l
 ·by_cases e2:k=i
  ·rw [if_pos (.inr e2),if_pos (.inr e2)]
  ·subst e
   rcases h with h | h
   ·exact absurd h e2
   ·rw [if_pos (by omega),if_neg (by omega)]
    unfold pivA
    rw [if_neg e2,h]
    by_cases hc:c=j
    ·rw [if_pos hc,hc,h,Rat.zero_mul]
    ·rw [if_neg hc,Rat.zero_mul,Rat.add_zero]
 ·by_cases h1:k<l\/k=i
  ·rw [if_pos h1,if_pos (by omega)]
  ·rw [if_neg h1,if_neg (by omega)]
theorem midP_succ {a:Nat->Nat->Rat} {i j l n:Nat} (h:l≠i) : ∀ k c,c<n->midP a i j (l+1) k c=upd (midP a i j l) l (part (pivA a i j l) (a l) n) k c:=by
 intro k c hc
 unfold upd
 by_cases e:k=l
 ·rw [if_pos e,zCC hc,midP,if_pos (by omega),e]
 ·rw [if_neg e]
  unfold midP
  by_cases h1:k<l\/k=i
  ·rw [if_pos h1,if_pos (by omega)]
  ·rw [if_neg h1,if_neg (by omega)]
theorem TabAt.qAt' {S:Tb.Sys} {B:Nat} {w:World} {T:Lay} {s:Dy} (h:TabAt S B w T s) {i j b:Nat} (hi:i<S.m) (hj:j<S.n) (hb:T.rowA i=some ⟨b,0,none⟩):vcells w ((⟨b,0,none⟩:Addr).add (j*3)) 0 (qc (s.a i j)):=by
 obtain⟨ad,ha,hv⟩:=h.qAt hi hj
 rw [hb] at ha;cases ha
 exact hv
set_option maxHeartbeats 8000000 in
theorem c123 {S:Tb.Sys} {B:Nat} {T:Lay} {s:Dy} {i j:Nat} (hf:Few S) (hp:Perm S s) (hi:i<S.m) (hj:j<S.n) (h0:s.a i j≠0) (ha : ∀ i,i<S.m->∀ j,j<S.n->dg 20000000 (s.a i j)) (w:World) (hT:TabAt S B w T s) :
  Ret prog 123 #[.pointer (some ⟨T.bt,0,none⟩),.int .i64 i,.int .i64 j] w fun r w'=>r = .tuple #[]/\TabAt S B w' T (pivot s i j)/\Below B w w':=by
 have hB:=hT.hB
 unfold Few at hf
 have hcol:=hp.col j hj
 have hbas:=hp.bas i hi
 obtain⟨aa,haa,hca⟩:=hT.aAt hi
 obtain⟨b,hb,hBb,hbk⟩:=hT.rowBlk hi hj
 have hdi:=(ha i hi j hj).inv
 have hblt:=hbk.lt
 refine run123 _ _ _ _ _ ⟨_,_,_,hT.f5,aa,haa,⟨by omega,by omega⟩,_,_,_,hca,_,hb,⟨by omega,by omega⟩,_,_,_,hT.qAt' hi hj hb,Called.of (c122 ((ha i hi j hj).mono (by decide)) h0 w hT.gg) ?_⟩
 rintro r w1 ⟨rfl,he1⟩
 have hN:=Box.new w1 zq 88
 have hx1:Ext w (setCells (w1.alloc (.cells zq.toArray 88)) ⟨w1.heap.size,0,none⟩ 0 (qc (s.a i j)⁻¹)):=(he1.alloc _).put he1.size _ _
 have hT1:=hT.ext hx1 hB
 have hI1:=hN.put (qc (s.a i j)⁻¹) (by rfl)
 have hw1:=he1.size
 have inv_away : ∀ {w2:World} {o:Nat} {L:List Value},Box w2 w1.heap.size 88 (qc (s.a i j)⁻¹)->∀ c,c<w.heap.size->Box (setCells w2 ⟨c,o,none⟩ 0 L) w1.heap.size 88 (qc (s.a i j)⁻¹):=fun h c hc=>h.away zAb (by omega)
 refine⟨_,_,_,rfl,hN.blk.writable (by decide),fun vals w2=>∃ k:Nat,vals=[.int .i64 k]/\k<=S.n/\TabAt S B w2 T { s with a:=upd s.a i (part (pivA s.a i j i) (s.a i) k) }/\Box w2 w1.heap.size 88 (qc (s.a i j)⁻¹)/\Below B w w2,mu1 S.n,⟨0,rfl,Nat.zero_le _,?_,hI1,Below.mono hx1 hB⟩,?_⟩
 ·rw [zBu,upd_self];exact hT1
 rintro m w2 ⟨k,hvk,hk,hT2,hI2,hbl2⟩
 cases hvk
 have hrow2 : ∀ c,(upd s.a i (part (pivA s.a i j i) (s.a i) k)) i c=part (pivA s.a i j i) (s.a i) k c:=fun c=>by rw [zAy]
 refine zAd (fun hlt=>?_) (fun hge=>?_)
 ·have hkn:k<S.n:=by omega
  have step : ∀ w4,TabAt S B w4 T { s with a:=upd (upd s.a i (part (pivA s.a i j i) (s.a i) k)) i (upd ((upd s.a i (part (pivA s.a i j i) (s.a i) k)) i) k (pivA s.a i j i k)) }->TabAt S B w4 T { s with a:=upd s.a i (part (pivA s.a i j i) (s.a i) (k+1)) }:=fun w4 h4=>by
   rw [zAy,upd_upd,zBf] at h4;exact h4
  refine zAa (fun hkj=>?_) (fun hkj=>?_)
  ·have hkj:k=j:=by
    have:(k:Int)=j:=by simpa using hkj
    omega
   have hpv:pivA s.a i j i k=(s.a i j)⁻¹:=by unfold pivA;rw [if_pos rfl,if_pos hkj]
   refine⟨_,_,_,hI2.blk.all,_,hb,⟨by omega,hlt⟩,hT2.qWr hi hkn hb,?_⟩
   have hT3:=hT2.qSet hi hkn hb (pivA s.a i j i k)
   have hT3:=step _ hT3
   rw [hpv] at hT3
   rw [zAh (by omega)]
   refine⟨⟨k+1,rfl,hkn,hT3,?_,?_⟩,by simp only [mu1,Int.toNat_natCast];omega⟩
   ·rw [zAk];exact inv_away hI2 b hblt
   ·rw [zAk];exact Below.trans hbl2 (zAr hBb _ _)
  ·have hkj:k≠j:=by
    have : ¬ (k:Int)=j:=by simpa using hkj
    omega
   have hpv:pivA s.a i j i k = -(s.a i k*(s.a i j)⁻¹):=by unfold pivA;rw [if_pos rfl,if_neg hkj]
   have hq:=hT2.qAt' hi hkn hb
   simp only [hrow2,zEq] at hq
   refine⟨_,hb,⟨by omega,hlt⟩,_,_,_,hq,Called.of (c75 ((ha i hi k hkn).mono (by decide)) w2 hT2.gg) ?_⟩
   rintro r w3 ⟨rfl,he3⟩
   have hT3:=hT2.ext he3 hT2.hB
   have hI3:=hI2.ext he3
   have hbl3:=Below.trans hbl2 (Below.mono he3 hT2.hB)
   refine⟨_,rfl,zAa (fun hnz=>?_) (fun hz=>?_)⟩
   ·intro K hK
    have hT3d:=hT3.drew hT3.hB
    have hq:=hT3d.qAt' hi hkn hb
    simp only [hrow2,zEq] at hq
    refine⟨_,hb,⟨by omega,hlt⟩,_,_,_,hq,_,_,_,(hI3.ext (Ext.refl _).drew).blk.all,Called.of (c113 ((ha i hi k hkn).mono (by decide)) (hdi.mono (by decide)) _ hT3d.gg) ?_⟩
    rintro r w5 ⟨rfl,he5⟩
    have hT5:=hT3d.ext he5 hT3d.hB
    refine⟨_,_,_,rfl,Called.of (c133 (((ha i hi k hkn).mul hdi).mono (by decide)) _ hT5.gg) ?_⟩
    rintro r w6 ⟨rfl,he6⟩
    have hT6:=hT5.ext he6 hT5.hB
    refine⟨_,_,_,rfl,_,hb,⟨by omega,hlt⟩,hT6.qWr hi hkn hb,hK _ ?_⟩
    have hT7:=step _ (hT6.qSet hi hkn hb (pivA s.a i j i k))
    rw [hpv] at hT7
    rw [zAh (by omega)]
    refine⟨⟨k+1,rfl,hkn,hT7,?_,?_⟩,by simp only [mu1,Int.toNat_natCast];omega⟩
    ·rw [zAk];exact inv_away (((hI3.ext (Ext.refl _).drew).ext he5).ext he6) b hblt
    ·rw [zAk];exact Below.trans (Below.trans (Below.trans hbl3.drew (Below.mono he5 hT3d.hB)) (Below.mono he6 hT5.hB)) (zAr hBb _ _)
   ·have hz:s.a i k=0:=sgnQ_zero.1 (by simpa using hz)
    rw [zAh (by omega)]
    refine⟨⟨k+1,rfl,hkn,?_,hI3,hbl3⟩,by simp only [mu1,Int.toNat_natCast];omega⟩
    rw [zDS (by rw [hpv,hz,Rat.zero_mul,Rat.neg_zero])]
    exact hT3
 have ek:k=S.n:=by omega
 subst ek
 have hT2:TabAt S B w2 T { s with a:=midP s.a i j 0 }:=hT2.congr (fun _ _=>rfl) (fun _ _=>rfl) (fun _ _=>rfl) (fun l hl c hc=>by
  show midP s.a i j 0 l c=upd s.a i (part (pivA s.a i j i) (s.a i) S.n) l c
  unfold midP upd
  by_cases e:l=i
  ·rw [if_pos (.inr e),if_pos e,zCC hc,e]
  ·rw [if_neg (by omega),if_neg e]) fun _ _=>rfl
 refine⟨_,_,_,hT2.f5,fun vals w3=>∃ l:Nat,vals=[.int .i64 l]/\l<=S.m/\TabAt S B w3 T { s with a:=midP s.a i j l }/\Box w3 w1.heap.size 88 (qc (s.a i j)⁻¹)/\Below B w w3/\w.heap.size<=w3.heap.size,mu1 S.m,⟨0,rfl,Nat.zero_le _,hT2,hI2,hbl2,by have:=hI2.lt;omega⟩,?_⟩
 clear hT1 hI1 hx1 hN hI2 hbl2 hrow2 hge hT2
 rintro m w7 ⟨l,hvl,hl,hT7,hI7,hbl7,hsz7⟩
 cases hvl
 refine zAd (fun hlt=>?_) (fun hge=>?_)
 ·have hlm:l<S.m:=by omega
  obtain⟨a6,ha6,hc6⟩:=hT7.aAt hlm
  obtain⟨c,hcr,hBc,hck⟩:=hT7.rowBlk hlm hj
  have hclt:c<w.heap.size:=by
   obtain⟨c',hc',_,hk'⟩:=hT.rowBlk hlm hj
   rw [hcr] at hc';cases hc'
   exact hk'.lt
  have hq7:vcells w7 ((⟨c,0,none⟩:Addr).add (j*3)) 0 (qc (midP s.a i j l l j)):=hT7.qAt' hlm hj hcr
  have hN:=Box.new w7 zq 88
  have hx8:Ext w7 (setCells (w7.alloc (.cells zq.toArray 88)) ⟨w7.heap.size,0,none⟩ 0 (qc (midP s.a i j l l j))):=((Ext.refl w7).alloc _).put (Nat.le_refl _) _ _
  have hF8:=hN.put (qc (midP s.a i j l l j)) (by rfl)
  have hT8:=hT7.ext hx8 hT7.hB
  have hI8:=hI7.ext hx8
  have hbl8:=Below.trans hbl7 (Below.mono hx8 hT7.hB)
  have hw7:=hI7.lt
  refine⟨a6,ha6,⟨by omega,hlt⟩,_,_,_,hc6,_,hcr,⟨by omega,by omega⟩,_,_,_,hq7,hN.blk.writable (by decide),fun K1 hK1=>?_⟩
  have skip : ∀ w8,(l=i\/s.a l j=0)->TabAt S B w8 T { s with a:=midP s.a i j l }->Box w8 w1.heap.size 88 (qc (s.a i j)⁻¹)->Below B w w8->w.heap.size<=w8.heap.size->K1 [.bool true] w8:=by
   intro w8 hs h1 h2 h3 h4
   refine hK1 true w8 ?_
   rw [cond_true,zAh (by omega)]
   exact⟨⟨l+1,rfl,hlm,by rw [midP_skip hs];exact h1,h2,h3,h4⟩,by simp only [mu1,Int.toNat_natCast];omega⟩
  refine zAa (fun hli=>?_) (fun hli=>?_)
  ·have hli:(l:Int)=i:=by simpa using hli
   exact skip _ (.inl (by omega)) hT8 hI8 hbl8 (Nat.le_trans hsz7 hx8.size)
  have hli : ¬ (l:Int)=i:=by simpa using hli
  have hli:l≠i:=by omega
  rw [midP_at hli] at hF8 hT8 hI8 hbl8 hx8 ⊢
  refine⟨_,_,_,hF8.blk.all,Called.of (c75 ((ha l hlm j hj).mono (by decide)) _ hT8.gg) ?_⟩
  rintro r w15 ⟨rfl,he15⟩
  have hT15:=hT8.ext he15 hT8.hB
  have hI15:=hI8.ext he15
  have hF15:=hF8.ext he15
  have hbl15:=Below.trans hbl8 (Below.mono he15 hT8.hB)
  have hsz15:w.heap.size<=w15.heap.size:=Nat.le_trans hsz7 (hx8.trans he15).size
  refine⟨_,rfl,?_⟩
  by_cases hz:s.a l j=0
  ·have e:(Tb.sgnQ (s.a l j)==0)=true:=by rw [sgnQ_zero.2 hz];rfl
   rw [e]
   exact skip _ (.inr hz) hT15 hI15 hbl15 hsz15
  have e:(Tb.sgnQ (s.a l j)==0)=false:=by
   rw [beq_eq_false_iff_ne];exact fun h=>hz (sgnQ_zero.1 h)
  rw [e]
  refine hK1 false _ ?_
  rw [cond_false]
  have box_away : ∀ {w2:World} {d o:Nat} {q:Rat} {L:List Value},w.heap.size<=d->Box w2 d 88 (qc q)->Box (setCells w2 ⟨c,o,none⟩ 0 L) d 88 (qc q):=fun hd h=>h.away zAb (by omega)
  refine⟨fun vals w9=>∃ k:Nat,vals=[.int .i64 k]/\k<=S.n/\TabAt S B w9 T { s with a:=upd (midP s.a i j l) l (part (pivA s.a i j l) (s.a l) k) }/\Box w9 w1.heap.size 88 (qc (s.a i j)⁻¹)/\Box w9 w7.heap.size 88 (qc (s.a l j))/\Below B w w9,mu1 S.n,⟨0,rfl,Nat.zero_le _,?_,hI15,hF15,hbl15⟩,?_⟩
  ·rw [zBu,<- midP_at hli (a:=s.a) (j:=j),upd_self];exact hT15
  clear hT8 hI8 hF8 hbl8 hT15 hI15 hF15 hbl15 he15
  rintro m w9 ⟨k,hvk,hk,hT9,hI9,hF9,hbl9⟩
  cases hvk
  have hrowi : ∀ x,(upd (midP s.a i j l) l (part (pivA s.a i j l) (s.a l) k)) i x=pivA s.a i j i x:=fun x=>by rw [zAu _ (fun e=>hli e.symm),midP_row]
  have hrowl : ∀ x,(upd (midP s.a i j l) l (part (pivA s.a i j l) (s.a l) k)) l x=part (pivA s.a i j l) (s.a l) k x:=fun x=>by rw [zAy]
  refine zAd (fun hlt2=>?_) (fun hge2=>?_)
  ·have hkn:k<S.n:=by omega
   have step : ∀ w4,TabAt S B w4 T { s with a:=upd (upd (midP s.a i j l) l (part (pivA s.a i j l) (s.a l) k)) l (upd ((upd (midP s.a i j l) l (part (pivA s.a i j l) (s.a l) k)) l) k (pivA s.a i j l k)) }->TabAt S B w4 T { s with a:=upd (midP s.a i j l) l (part (pivA s.a i j l) (s.a l) (k+1)) }:=fun w4 h4=>by
    rw [zAy,upd_upd,zBf] at h4;exact h4
   refine zAa (fun hkj=>?_) (fun hkj=>?_)
   ·have hkj:(k:Int)=j:=by simpa using hkj
    have hkj:k=j:=by omega
    have hpv:pivA s.a i j l k=s.a l j*(s.a i j)⁻¹:=by unfold pivA;rw [if_neg hli,if_pos hkj]
    refine⟨_,_,_,hF9.blk.all,_,_,_,hI9.blk.all,Called.of (c113 ((ha l hlm j hj).mono (by decide)) (hdi.mono (by decide)) _ hT9.gg) ?_⟩
    rintro r w10 ⟨rfl,he10⟩
    have hT10:=hT9.ext he10 hT9.hB
    refine⟨_,_,_,rfl,_,hcr,⟨by omega,hlt2⟩,hT10.qWr hlm hkn hcr,?_⟩
    have hT11:=step _ (hT10.qSet hlm hkn hcr (pivA s.a i j l k))
    rw [hpv] at hT11
    rw [zAh (by omega)]
    refine⟨⟨k+1,rfl,hkn,hT11,?_,?_,?_⟩,by simp only [mu1,Int.toNat_natCast];omega⟩
    ·rw [zAk];exact box_away hw1 (hI9.ext he10)
    ·rw [zAk];exact box_away hsz7 (hF9.ext he10)
    ·rw [zAk];exact Below.trans (Below.trans hbl9 (Below.mono he10 hT9.hB)) (zAr hBc _ _)
   ·have hkj : ¬ (k:Int)=j:=by simpa using hkj
    have hkj:k≠j:=by omega
    have hpi:pivA s.a i j i k = -(s.a i k*(s.a i j)⁻¹):=by unfold pivA;rw [if_pos rfl,if_neg hkj]
    have hpv:pivA s.a i j l k=s.a l k+s.a l j*pivA s.a i j i k:=by rw [hpi];unfold pivA;rw [if_neg hli,if_neg hkj]
    have hdp:dg 50000000 (pivA s.a i j i k):=by rw [hpi];exact (((ha i hi k hkn).mul hdi).neg).mono (by decide)
    have hq:=hT9.qAt' hi hkn hb
    simp only [hrowi] at hq
    refine⟨_,hb,⟨by omega,hlt2⟩,_,_,_,hq,Called.of (c75 (hdp.mono (by decide)) _ hT9.gg) ?_⟩
    rintro r w11 ⟨rfl,he11⟩
    have hT11:=hT9.ext he11 hT9.hB
    have hbl11:=Below.trans hbl9 (Below.mono he11 hT9.hB)
    refine⟨_,rfl,zAa (fun hnz=>?_) (fun hz2=>?_)⟩
    ·intro K2 hK2
     have hd:=(Ext.refl w11).drew
     have hT11d:=hT11.drew hT11.hB
     have hq1:=hT11d.qAt' hi hkn hb
     have hq2:=hT11d.qAt' hlm hkn hcr
     simp only [hrowi] at hq1
     simp only [hrowl,zEq] at hq2
     have hF11:=(hF9.ext he11).ext hd
     have hI11:=(hI9.ext he11).ext hd
     refine⟨_,hcr,⟨by omega,hlt2⟩,_,_,_,hq2,_,_,_,hF11.blk.all,_,hb,⟨by omega,hlt2⟩,_,_,_,hq1,Called.of (c113 ((ha l hlm j hj).mono (by decide)) (hdp.mono (by decide)) _ hT11d.gg) ?_⟩
     rintro r w13 ⟨rfl,he13⟩
     have hT13:=hT11d.ext he13 hT11d.hB
     refine⟨_,_,_,rfl,he13,Called.of (c112 ((ha l hlm k hkn).mono (by decide)) (((ha l hlm j hj).mul hdp).mono (by decide)) _ hT13.gg) ?_⟩
     rintro r w14 ⟨rfl,he14⟩
     have hT14:=hT13.ext he14 hT13.hB
     refine⟨_,_,_,rfl,_,hcr,⟨by omega,hlt2⟩,hT14.qWr hlm hkn hcr,hK2 _ ?_⟩
     have hT16:=step _ (hT14.qSet hlm hkn hcr (pivA s.a i j l k))
     rw [hpv] at hT16
     rw [zAh (by omega)]
     refine⟨⟨k+1,rfl,hkn,hT16,?_,?_,?_⟩,by simp only [mu1,Int.toNat_natCast];omega⟩
     ·rw [zAk];exact box_away hw1 ((hI11.ext he13).ext he14)
     ·rw [zAk];exact box_away hsz7 ((hF11.ext he13).ext he14)
     ·rw [zAk];exact Below.trans (Below.trans (Below.trans hbl11.drew (Below.mono he13 hT11d.hB)) (Below.mono he14 hT13.hB)) (zAr hBc _ _)
    ·have hz2:pivA s.a i j i k=0:=sgnQ_zero.1 (by simpa using hz2)
     rw [zAh (by omega)]
     refine⟨⟨k+1,rfl,hkn,?_,hI9.ext he11,hF9.ext he11,hbl11⟩,by simp only [mu1,Int.toNat_natCast];omega⟩
     rw [zDS (by rw [hpv,hz2,Rat.mul_zero,Rat.add_zero])]
     exact hT11
  ·have ek:k=S.n:=by omega
   subst ek
   rw [zAh (by omega)]
   refine⟨⟨l+1,rfl,hlm,?_,hI9,hbl9,by have:=hI9.lt;omega⟩,by simp only [mu1,Int.toNat_natCast];omega⟩
   exact hT9.congr (fun _ _=>rfl) (fun _ _=>rfl) (fun _ _=>rfl) (fun x hx c hc=>midP_succ hli x c hc) fun _ _=>rfl
 ·have el:l=S.m:=by omega
  subst el
  have hTd:=hT7.drew hT7.hB
  have hTdd:=hTd.drew hTd.hB
  obtain⟨a13,ha13,hc13⟩:=hTd.basicAt hi
  obtain⟨a14,ha14,hc14⟩:=hTd.colsAt hj
  replace hc13:w7.drew.cell? (a13.add (i*1))=some (.int .i64 (s.basic i:Int)):=hc13
  replace hc14:w7.drew.cell? (a14.add (j*1))=some (.int .i64 (s.cols j:Int)):=hc14
  obtain⟨b1,hb1,hBb1,hw1',hT1'⟩:=hTdd.basicSet hi (s.cols j)
  obtain⟨b2,hb2,hBb2,hw2',hT2'⟩:=hT1'.colsSet hj (s.basic i)
  refine⟨_,_,_,hTd.f2,a13,ha13,⟨by omega,by omega⟩,_,hc13,_,_,_,hTd.f3,a14,ha14,⟨by omega,by omega⟩,_,hc14,fun K3 hK3=>?_⟩
  refine⟨_,_,_,hTdd.f2,_,_,_,hTdd.f3,_,hb1,⟨by omega,by omega⟩,hw1',_,hb2,⟨by omega,by omega⟩,hw2',hK3 _ fun K4 hK4=>?_⟩
  have hT3':=hT2'.drew hT2'.hB
  obtain⟨hw3,hT4⟩:=hT3'.lineSet hbas.1 (-1)
  obtain⟨hw4,hT5⟩:=hT4.lineSet hcol.1 (i:Int)
  refine⟨_,_,_,hT3'.f4,_,_,_,hT3'.f4,_,rfl,⟨by omega,by omega⟩,hw3,_,rfl,⟨by omega,by omega⟩,hw4,hK4 _ ⟨rfl,?_,?_⟩⟩
  ·refine hT5.congr (fun _ _=>rfl) (fun _ _=>rfl) (fun _ _=>rfl) (fun x hx c hc=>?_) fun _ _=>rfl
   show pivA s.a i j x c=midP s.a i j S.m x c
   rw [midP,if_pos (.inl hx)]
  ·have e1:=Below.setCell hbl7.drew.drew (p:=((⟨b1,0,none⟩:Addr).add (i*1))) (by rw [zAk];exact hBb1) (.int .i64 (s.cols j:Int))
   have e2:=Below.setCell e1 (p:=((⟨b2,0,none⟩:Addr).add (j*1))) (by rw [zAk];exact hBb2) (.int .i64 (s.basic i:Int))
   have e3:=Below.setCell e2.drew (p:=((⟨T.la,0,none⟩:Addr).add (s.basic i*1))) (by rw [zAk];exact hT.la) (.int .i64 (-1))
   exact Below.setCell e3 (p:=((⟨T.la,0,none⟩:Addr).add (s.cols j*1))) (by rw [zAk];exact hT.la) (.int .i64 (i:Int))
theorem ov_eq (o:Option V2):ov o = .tuple #[vv (o.getD zero2),.bool o.isSome]:=by cases o <;> rfl
def vioV:Option (Nat × V2 × Bool)->Value
 | none => .tuple #[.int .i64 (-1),vv zero2,.bool false]
 | some (i,b,up) => .tuple #[.int .i64 (i:Int),vv b,.bool up]
set_option maxHeartbeats 4000000 in
theorem c116 {S:Tb.Sys} {B:Nat} {T:Lay} {s:Dy} (hf:Few S) (hS:Short S 90000000) (hp:Perm S s) (hv : ∀ v,v<S.n+S.m->dg2 90000000 (s.val v)) (w:World) (hT:TabAt S B w T s) :
  Ret prog 116 #[.pointer (some ⟨T.bt,0,none⟩)] w fun r w'=>r=vioV (viol S s)/\Ext w w':=by
 have hB:=hT.hB
 have hx1:=(Ext.refl w).alloc (.cells zv.toArray 101)
 have hN:=Box.new w zv 101
 have hT1:=hT.ext hx1 hB
 have hf':=hf
 unfold Few at hf'
 refine run116 _ _ _ ⟨_,hT1.f0,fun vals w1=>∃ v f:Nat,vals=[.int .i64 v]/\v+f=S.n+S.m/\S.n<=v/\violF S s f v=viol S s/\Box w1 w.heap.size 101 zv/\Ext w w1,mu1 (S.n+S.m),⟨S.n,S.m,rfl,rfl,Nat.le_refl _,rfl,hN,hx1⟩,?_⟩
 rintro m w1 ⟨v,f,hvv,hsum,hn,hvi,hN1,he1⟩
 cases hvv
 have hT2:=hT.ext he1 hB
 refine⟨_,_,_,hT2.f4,zAd (fun hlt=>?_) (fun hge=>?_)⟩
 ·have hvl:v<S.n+S.m:=by omega
  obtain⟨f,rfl⟩ : ∃ g,f=g+1:=⟨f - 1,by omega⟩
  rw [violF] at hvi
  have hline:=hT2.lineAt (v:=v) hvl
  refine⟨_,_,_,hT2.f4,_,rfl,⟨by omega,by omega⟩,_,hline,zAd (fun hneg=>?_) (fun hpos=>?_)⟩
  ·rw [if_pos hneg] at hvi
   rw [zAh (by omega)]
   exact⟨⟨v+1,f,rfl,by omega,by omega,hvi,hN1,he1⟩,by simp only [mu1,Int.toNat_natCast];omega⟩
  rw [if_neg hpos] at hvi
  have hli:s.line v=((s.line v).toNat:Int):=by omega
  refine Called.of (c159 hf hvl w1 hT2 hT2.hB hT2.gg) ?_
  rintro r w2 ⟨rfl,he2⟩
  rw [ov_eq]
  have hx3:Ext w1 (setCells (w2.alloc (.cells zv.toArray 101)) ⟨w2.heap.size,0,none⟩ 0 (vc2 ((upper S v).getD zero2))).drew:=((he2.alloc _).put he2.size _ _).drew
  have hU:=((Box.new w2 zv 101).put (vc2 ((upper S v).getD zero2)) (by rfl)).ext (Ext.refl _).drew
  have hne:w.heap.size<w2.heap.size:=Nat.lt_of_lt_of_le hN1.lt he2.size
  have hN3:=hN1.ext hx3
  have hT3:=hT2.ext hx3 hT2.hB
  refine⟨_,_,_,_,_,_,_,rfl,(Box.new w2 zv 101).blk.writable (by decide),fun K hK=>?_⟩
  have low : ∀ w3,Ext w1 w3->(match lower S v with | some l=>if cmp2 (s.val v) l<0 then some (l,true) else none | none=>none)=zCj S s v->K [.bool false] w3:=by
   intro w3 he3 hps
   refine hK false w3 ?_
   rw [cond_false]
   have hT4:=hT2.ext he3 hT2.hB
   refine Called.of (c161 hf hvl w3 hT4 hT4.hB hT4.gg) ?_
   rintro r w4 ⟨rfl,he4⟩
   rw [ov_eq]
   have hx5:Ext w3 (setCells (w4.alloc (.cells zv.toArray 101)) ⟨w4.heap.size,0,none⟩ 0 (vc2 ((lower S v).getD zero2))).drew:=((he4.alloc _).put he4.size _ _).drew
   have hL:=((Box.new w4 zv 101).put (vc2 ((lower S v).getD zero2)) (by rfl)).ext (Ext.refl _).drew
   have hT5:=hT4.ext hx5 hT4.hB
   refine⟨_,_,_,_,_,_,_,rfl,(Box.new w4 zv 101).blk.writable (by decide),fun K1 hK1=>?_⟩
   cases hlo:lower S v with
   | none =>
    rw [hlo] at hps
    rw [<- hps] at hvi
    refine hK1 false _ ?_
    rw [cond_false,zAh (by omega)]
    rw [hlo] at hx5
    exact⟨⟨v+1,f,rfl,by omega,by omega,hvi,(hN1.ext he3).ext hx5,(he1.trans he3).trans hx5⟩,by simp only [mu1,Int.toNat_natCast];omega⟩
   | some l =>
    rw [hlo] at hps hx5 hL hT5
    refine⟨_,_,_,hT5.f6,_,rfl,⟨by omega,by omega⟩,_,_,_,_,_,_,hT5.valAt (v:=v) hvl,_,_,_,_,_,_,hL.blk.all,Called.of (c160 (hv v hvl) (zDh hS hvl hlo) _ hT5.gg) ?_⟩
    rintro r w6 ⟨rfl,he6⟩
    refine⟨_,rfl,hK1 _ _ (zAd (fun hlt2=>?_) (fun hge2=>?_))⟩
    ·have hps:some (l,true)=zCj S s v:=by rw [<- hps];exact (if_pos hlt2).symm
     rw [<- hps] at hvi
     have hx7:=((he3.trans hx5).trans he6).drew
     have hN7:=hN1.ext hx7
     have hL7:=(hL.ext he6).ext (Ext.refl _).drew
     obtain⟨p1,p2,p3⟩:=vput l hN7 (he1.trans hx7) (Nat.le_refl _)
     refine⟨_,_,_,_,_,_,hL7.blk.all,p1,_,_,_,_,_,_,p2,?_,p3⟩
     rw [<- hvi,hli];rfl
    ·have hps:none=zCj S s v:=by rw [<- hps];exact (if_neg hge2).symm
     rw [<- hps] at hvi
     rw [zAh (by omega)]
     exact⟨⟨v+1,f,rfl,by omega,by omega,hvi,((hN1.ext he3).ext hx5).ext he6,((he1.trans he3).trans hx5).trans he6⟩,by simp only [mu1,Int.toNat_natCast];omega⟩
  have hup:upper S v=some (ub S v):=by rw [upper,if_neg (by omega)]
  rw [hup] at hx3 hU hT3 hN3 ⊢
  refine⟨_,_,_,hT3.f6,_,rfl,⟨by omega,by omega⟩,_,_,_,_,_,_,hT3.valAt (v:=v) hvl,_,_,_,_,_,_,hU.blk.all,Called.of (c160 (hv v hvl) (ub_dg hS hn hvl) _ hT3.gg) ?_⟩
  rintro r w7 ⟨rfl,he7⟩
  refine⟨_,rfl,?_⟩
  by_cases hc:cmp2 (s.val v) (ub S v)>0
  ·rw [decide_eq_true hc]
   refine hK true _ ?_
   rw [cond_true]
   have hps:some (ub S v,false)=zCj S s v:=by rw [zCj,hup];exact (if_pos hc).symm
   rw [<- hps] at hvi
   have hx7:=(hx3.trans he7).drew
   obtain⟨p1,p2,p3⟩:=vput (ub S v) (hN1.ext hx7) (he1.trans hx7) (Nat.le_refl _)
   refine⟨_,_,_,_,_,_,((hU.ext he7).ext (Ext.refl _).drew).blk.all,p1,_,_,_,_,_,_,p2,?_,p3⟩
   rw [<- hvi,hli];rfl
  ·rw [decide_eq_false hc]
   exact low _ (hx3.trans he7) (by rw [zCj,hup];exact (if_neg hc).symm)
 ·have:f=0:=by omega
  subst this
  rw [violF] at hvi
  obtain⟨p1,p2,p3⟩:=vput zero2 hN1 he1 (Nat.le_refl _)
  rw [vc2_zero] at p2 p3
  refine⟨p1,_,_,_,_,_,_,p2,?_,p3⟩
  rw [<- hvi,vioV,zEf]
def bestV:Option Nat->Int
 | none => -1
 | some k=>k
theorem zGw (q:Rat):decide (Tb.sgnQ q>0)=decide (0<q):=by
 rw [Bool.eq_iff_iff,decide_eq_true_iff,decide_eq_true_iff];exact sgnQ_pos
theorem sgn_ne (q:Rat):(Tb.sgnQ q != 0)=decide (q≠0):=by
 rw [Bool.eq_iff_iff,bne_iff_ne,decide_eq_true_iff]
 exact not_congr sgnQ_zero
theorem zF3 {p:Prop} {b c:Bool} {A D:Prop} (h:b=c) (h1:c=true->A) (h2:c=false->D):bif b then A else D:=by
 subst h
 cases b
 ·exact h2 rfl
 ·exact h1 rfl
theorem zGb {cols:Nat->Nat} {p:Nat->Bool} {k:Nat} {x:Bool} (hx:x=(p k&&zCW cols k (first cols p k))) :
  bestV (first cols p (k+1))=bif x then (k:Int) else bestV (first cols p k):=by
 rw [first,<- hx]
 cases x <;> rfl
set_option maxHeartbeats 4000000 in
theorem c117 {S:Tb.Sys} {B:Nat} {T:Lay} {s:Dy} {i:Nat} {up:Bool} (hf:Few S) (hS:Short S 90000000) (hp:Perm S s) (hi:i<S.m) (hv : ∀ v,v<S.n+S.m->dg2 90000000 (s.val v)) (ha : ∀ j,j<S.n->dg 90000000 (s.a i j)) (w:World) (hT:TabAt S B w T s) :
  Ret prog 117 #[.pointer (some ⟨T.bt,0,none⟩),.int .i64 i,.bool up] w fun r w'=>r = .int .i64 (bestV (zBy S s i up))/\Ext w w':=by
 have hB:=hT.hB
 have hf':=hf
 unfold Few at hf'
 refine run117 _ _ _ _ _ ⟨_,_,_,hT.f3,fun vals w1=>∃ k:Nat,vals=[.int .i64 k,.int .i64 (bestV (first s.cols (suits S s i up) k))]/\k<=S.n/\Ext w w1,mu1 S.n,⟨0,rfl,Nat.zero_le _,Ext.refl _⟩,?_⟩
 rintro m m2 w1 ⟨k,hvk,hk,he1⟩
 cases hvk
 have hT1:=hT.ext he1 hB
 refine zAd (fun hlt=>?_) (fun hge=>?_)
 ·have hkn:k<S.n:=by omega
  have hck:=hp.col k hkn
  obtain⟨a,hac,hcc⟩:=hT1.colsAt (j:=k) hkn
  obtain⟨a1,haa,hca⟩:=hT1.aAt (i:=i) hi
  obtain⟨a2,haq,hcq⟩:=hT1.qAt (i:=i) (j:=k) hi hkn
  refine⟨a,hac,⟨by omega,hlt⟩,_,hcc,_,_,_,hT1.f5,a1,haa,⟨by omega,by omega⟩,_,_,_,hca,a2,haq,⟨by omega,hlt⟩,_,_,_,hcq,Called.of (c75 ((ha k hkn).mono (by decide)) w1 hT1.gg) ?_⟩
  rintro r w2 ⟨rfl,he2⟩
  refine⟨_,rfl,fun K hK=>?_⟩
  have fin : ∀ x w3,Ext w w3->x=(suits S s i up k&&zCW s.cols k (first s.cols (suits S s i up) k))->K [.bool x] w3:=by
   intro x w3 he3 hx
   refine hK x w3 ?_
   have hn:=zGb hx
   rw [zAh (by omega)]
   cases x
   ·rw [cond_false] at hn ⊢
    exact⟨⟨k+1,by rw [hn],hkn,he3⟩,by simp only [mu1,Int.toNat_natCast];omega⟩
   ·rw [cond_true] at hn ⊢
    exact⟨⟨k+1,by rw [hn],hkn,he3⟩,by simp only [mu1,Int.toNat_natCast];omega⟩
  have hT2:=hT1.ext he2 hT1.hB
  refine zF3 (p:=True) (sgn_ne _) (fun hnz=>?_) (fun hz=>?_)
  ·rw [zGw]
   refine Called.of (c162 hf hS hck.1 (hv _ hck.1) w2 hT2 hT2.hB hT2.gg) ?_
   rintro r w4 ⟨rfl,he4⟩
   have hT4:=hT2.ext he4 hT2.hB
   have hx4:=(he1.trans he2).trans he4
   have hsu:suits S s i up k=free S s.val (s.cols k) (decide (0<s.a i k)==up):=by rw [suits,hnz,Bool.true_and]
   refine⟨_,rfl,zAa (fun hfr=>?_) (fun hfr=>?_)⟩
   ·rw [hfr] at hsu
    cases hbe:first s.cols (suits S s i up) k with
    | none =>
     rw [hbe] at fin
     exact fin true w4 hx4 (by rw [hsu];rfl)
    | some b =>
     rw [hbe] at fin
     have hb:=(zAV hbe).1
     obtain⟨a3,hac3,hcc3⟩:=hT4.colsAt (j:=b) (by omega)
     rw [hac] at hac3;cases hac3
     have e:decide (bestV (some b)<0)=false:=decide_eq_false (by show ¬ (b:Int)<0;omega)
     rw [e,cond_false]
     refine⟨_,_,_,hT4.f3,_,hac,⟨by show 0<=(b:Int);omega,by show (b:Int)<_;omega⟩,_,hcc3,fin _ w4 hx4 ?_⟩
     rw [hsu,Bool.true_and,zCW,Bool.eq_iff_iff,decide_eq_true_iff,decide_eq_true_iff]
     omega
   ·exact fin false w4 hx4 (by rw [hsu,show free S s.val (s.cols k) (decide (0<s.a i k)==up)=false by simpa using hfr];rfl)
  ·exact fin false w2 (he1.trans he2) (by rw [suits,hz];rfl)
 ·have e:k=S.n:=by omega
  subst e
  exact⟨rfl,he1⟩
set_option maxHeartbeats 4000000 in
theorem c118 {S:Tb.Sys} {B:Nat} {T:Lay} {s:Dy} {i:Nat} {up:Bool} (hf:Few S) (hp:Perm S s) (hi:i<S.m) (hbi:S.n<=s.basic i) (hc : ∀ j,j<S.n->s.a i j≠0->S.n<=s.cols j) (ha : ∀ j,j<S.n->dg 90000000 (s.a i j)) (w:World) (hT:TabAt S B w T s) :
  Ret prog 118 #[.pointer (some ⟨T.bt,0,none⟩),.int .i64 i,.bool up] w fun r w'=>r = .slice (some ⟨w.heap.size,0,none⟩) S.m S.m/\Box w' w.heap.size 88 (QL (refv S s i up) S.m)/\Ext w w':=by
 have hB:=hT.hB
 have hf':=hf
 unfold Few at hf'
 have hbas:=hp.bas i hi
 refine run118 _ _ _ _ _ ⟨_,_,_,hT.f1,⟨by omega,by omega,by omega,by omega⟩,?_⟩
 simp only [Int.toNat_natCast,zFf]
 have e0:madeCells (Value.agg #[Value.int .i64 0,.int .i64 0,.string { data:=#[] }]).cells (S.m*3)=(QL (fun _=>0) S.m).toArray:=zD8 S.m
 rw [e0]
 intro K hK
 have hx1:=((Ext.refl w).alloc (.cells (QL (fun _=>0) S.m).toArray 88)).drew
 have hN:=(Box.new w (QL (fun _=>0) S.m) 88).ext (Ext.refl _).drew
 have hT1:=hT.ext hx1 hB
 obtain⟨a8,ha8,hc8⟩:=hT1.basicAt (i:=i) hi
 have hw1:=zFE hf hbi hbas.1
 refine⟨_,_,_,hT1.f2,a8,ha8,⟨by omega,by omega⟩,_,hc8,_,hT1.f0,Called.of (c130 1 (by decide) _ hT1.gg) ?_⟩
 rintro r w8 ⟨rfl,he8⟩
 have hN8:=hN.ext he8
 have hin:s.basic i - S.n<S.m:=by omega
 refine⟨_,_,_,rfl,he8,_,rfl,?_⟩
 rw [hw1,Int.toNat_natCast]
 refine⟨⟨by omega,by omega⟩,hN8.qwr hin,hK _ ?_⟩
 have hM:=hN8.qset hin ((1:Int):Rat)
 have hxw:Ext w (setCells w8 ((⟨w.heap.size,0,none⟩:Addr).add ((s.basic i - S.n)*3)) 0 (qc ((1:Int):Rat))):=by rw [zAk];exact (hx1.trans he8).put (Nat.le_refl _) _ _
 have hM0:upd (fun _=>(0:Rat)) (s.basic i - S.n) ((1:Int):Rat)=refF S s i 0:=rfl
 rw [hM0] at hM
 have hT2:=hT.ext hxw hB
 refine⟨_,_,_,hT2.f3,fun vals w2=>∃ k:Nat,vals=[.int .i64 k]/\k<=S.n/\Box w2 w.heap.size 88 (QL (refF S s i k) S.m)/\Ext w w2,mu1 S.n,⟨0,rfl,Nat.zero_le _,hM,hxw⟩,?_⟩
 clear hM hxw hT2 hN8 he8 hN
 rintro m w2 ⟨k,hvk,hk,hM,he2⟩
 cases hvk
 have hT2:=hT.ext he2 hB
 refine zAd (fun hlt=>?_) (fun hge=>?_)
 ·have hkn:k<S.n:=by omega
  have hck:=hp.col k hkn
  obtain⟨a,hac,hcc⟩:=hT2.colsAt (j:=k) hkn
  obtain⟨a1,haa,hca⟩:=hT2.aAt (i:=i) hi
  obtain⟨a2,haq,hcq⟩:=hT2.qAt (i:=i) (j:=k) hi hkn
  refine⟨a,hac,⟨by omega,hlt⟩,_,hcc,_,_,_,hT2.f5,a1,haa,⟨by omega,by omega⟩,_,_,_,hca,a2,haq,⟨by omega,hlt⟩,_,_,_,hcq,Called.of (c75 ((ha k hkn).mono (by decide)) w2 hT2.gg) ?_⟩
  rintro r w3 ⟨rfl,he3⟩
  refine⟨_,rfl,zF3 (p:=True) (sgn_ne _) (fun hnz=>?_) (fun hz=>?_)⟩
  ·have hnz:s.a i k≠0:=by simpa using hnz
   have hge:=hc k hkn hnz
   have hx3:=(he2.trans he3).drew
   have hT3:=hT.ext hx3 hB
   intro K1 hK1
   obtain⟨a3,haa3,hca3⟩:=hT3.aAt (i:=i) hi
   obtain⟨a4,haq4,hcq4⟩:=hT3.qAt (i:=i) (j:=k) hi hkn
   refine⟨_,hT3.f0,_,_,_,hT3.f5,a3,haa3,⟨by omega,by omega⟩,_,_,_,hca3,a4,haq4,⟨by omega,hlt⟩,_,_,_,hcq4,Called.of (c133 ((ha k hkn).mono (by decide)) _ hT3.gg) ?_⟩
   rintro r w5 ⟨rfl,he5⟩
   have hM5:=((hM.ext he3).ext (Ext.refl _).drew).ext he5
   refine⟨_,_,_,rfl,he5,_,rfl,?_⟩
   rw [zFE hf hge hck.1,Int.toNat_natCast]
   have hin2:s.cols k - S.n<S.m:=by omega
   refine⟨⟨by omega,by omega⟩,hM5.qwr hin2,hK1 _ ?_⟩
   rw [zAh (by omega)]
   refine⟨⟨k+1,rfl,hkn,?_,?_⟩,by simp only [mu1,Int.toNat_natCast];omega⟩
   ·rw [refF,if_pos hnz];exact hM5.qset hin2 _
   ·rw [zAk];exact (hx3.trans he5).put (Nat.le_refl _) _ _
  ·have hz:s.a i k=0:=by simpa using hz
   rw [zAh (by omega)]
   refine⟨⟨k+1,rfl,hkn,?_,he2.trans he3⟩,by simp only [mu1,Int.toNat_natCast];omega⟩
   rw [refF,if_neg (by rw [hz];simp)];exact hM.ext he3
 ·have e:k=S.n:=by omega
  subst e
  refine zAa (fun hup=>?_) (fun hup=>?_)
  ·have hdR : ∀ k x,k<=S.n->x<S.m->dg 90000000 (refF S s i k x):=by
    intro k
    induction k with
    | zero =>
     intro x _ _
     unfold refF upd
     split
     ·exact zCQ (by decide)
     ·exact zCy (by decide)
    | succ k ih =>
     intro x hk hx
     rw [refF]
     split
     ·unfold upd
      split
      ·exact (ha k (by omega)).neg
      ·exact ih x (by omega) hx
     ·exact ih x (by omega) hx
   refine⟨fun vals w6=>∃ k:Nat,vals=[.int .i64 k]/\k<=S.m/\Box w6 w.heap.size 88 (QL (part (fun x => -refF S s i S.n x) (refF S s i S.n) k) S.m)/\Ext w w6,mu1 S.m,⟨0,rfl,Nat.zero_le _,by rw [zBu];exact hM,he2⟩,?_⟩
   clear hM he2 hT2
   rintro m w6 ⟨k,hvk,hk,hM,he6⟩
   cases hvk
   refine zAd (fun hlt=>?_) (fun hge=>?_)
   ·have hkm:k<S.m:=by omega
    have hq:=hM.qget hkm
    simp only [zEq] at hq
    refine⟨_,rfl,⟨by omega,hlt⟩,_,_,_,hq,Called.of (c133 ((hdR _ _ (Nat.le_refl _) hkm).mono (by decide)) w6 (hT.ext he6 hB).gg) ?_⟩
    rintro r w7 ⟨rfl,he7⟩
    have hM7:=hM.ext he7
    refine⟨_,_,_,rfl,_,rfl,⟨by omega,hlt⟩,hM7.qwr hkm,?_⟩
    rw [zAh (by omega)]
    refine⟨⟨k+1,rfl,hkm,?_,?_⟩,by simp only [mu1,Int.toNat_natCast];omega⟩
    ·have:=hM7.qset hkm (-refF S s i S.n k)
     rw [zBf (fun x => -refF S s i S.n x)] at this
     exact this
    ·rw [zAk];exact (he6.trans he7).put (Nat.le_refl _) _ _
   ·have e:k=S.m:=by omega
    subst e
    refine⟨trivial,?_,he6⟩
    rw [zAT (g:=refv S s i up) fun x hx=>?_] at hM
    ·exact hM
    ·rw [zCC hx,refv,if_pos hup]
  ·refine⟨trivial,?_,he2⟩
   rw [zAT (g:=refv S s i up) fun x hx=>?_] at hM
   ·exact hM
   ·rw [refv,if_neg (by rw [hup];decide)]
structure Fits (S:Tb.Sys):Prop where
 few:Few S
 short:Short S 2000000
 a : ∀ s,Inv S s->∀ i,i<S.m->∀ j,j<S.n->dg 2000000 (s.a i j)
 val : ∀ s,Inv S s->∀ v,v<S.n+S.m->dg2 2000000 (s.val v)
theorem Fits.short9 {S:Tb.Sys} (h:Fits S):Short S 90000000:=⟨fun i hi=>(h.short.1 i hi).mono (by decide),by decide⟩
def SolV (S:Tb.Sys) (B:Nat) (w:World) (s:Dy) (r:Option (Nat × Bool)) (v:Value):Prop :=
 match r with
 | none=>v = .tuple #[.slice none 0 0,.bool true]
 | some (i,up)=>∃ b,v = .tuple #[.slice (some ⟨b,0,none⟩) S.m S.m,.bool false]/\B<=b/\Box w b 88 (QL (refv S s i up) S.m)
set_option maxHeartbeats 4000000 in
theorem c71 {S:Tb.Sys} {B:Nat} {T:Lay} {s0:Dy} (hF:Fits S) (hI:Inv S s0) (w:World) (hT:TabAt S B w T s0) :
  Ret prog 71 #[.pointer (some ⟨T.bt,0,none⟩)] w fun v w'=>∃ f s' r,zBz S f s0=some (s',r)/\Inv S s'/\SolV S B w' s' r v/\TabAt S B w' T s'/\Below B w w':=by
 have hf':=hF.few
 unfold Few at hf'
 obtain⟨f0,r0,hend⟩:=solve_ends hI
 obtain⟨I',μ',hin,hout⟩:=ghost (G:=Nat × Dy) (fun g vals w1=>vals=[]/\TabAt S B w1 T g.2/\Inv S g.2/\zBz S g.1 g.2=some r0/\Below B w w1) (fun g=>g.1)
 refine run71 _ _ _ ⟨I',μ',hin (f0,s0) _ _ ⟨rfl,hT,hI,hend,Below.refl _ _⟩,?_⟩
 intro w1 hI1
 obtain⟨⟨f,s⟩,⟨_,hT1,hIs,hso,hbl1⟩,hnext⟩:=hout _ _ hI1
 simp only at hT1 hIs hso hnext
 clear hI1 hin hout
 cases f with
 | zero=>rw [zBz] at hso;cases hso
 | succ f =>
 have hp:=hIs.dict.perm
 have hval:=hF.val s hIs
 have hda:=hF.a s hIs
 refine Called.of (c116 hF.few hF.short9 hp (fun v hv=>(hval v hv).mono (by decide)) w1 hT1) ?_
 rintro r w2 ⟨rfl,he2⟩
 have hN:=Box.new w2 zv 101
 cases hvi:viol S s with
 | none =>
  rw [vioV,zEf]
  refine⟨_,_,_,_,_,_,_,_,rfl,hN.blk.writable (by decide),?_⟩
  have hx:Ext w1 (setCells (w2.alloc (.cells zv.toArray 101)) ⟨w2.heap.size,0,none⟩ 0 zv):=(he2.alloc _).put he2.size _ _
  rw [show decide ((-1:Int)<0)=true from rfl,cond_true]
  have hst:stepS S s = .sat:=by unfold stepS;rw [hvi]
  rw [zBz,hst] at hso
  cases hso
  exact⟨f0,s,none,hend,hIs,rfl,hT1.ext hx hT1.hB,Below.trans hbl1 (Below.mono hx hT1.hB)⟩
 | some r =>
  obtain⟨i,b,up⟩:=r
  obtain⟨hi,hbi,rfl,_,_,_⟩:=zB9 hp hvi
  have hbas:=hp.bas i hi
  refine⟨_,_,_,_,_,_,_,_,rfl,hN.blk.writable (by decide),?_⟩
  have hx:Ext w1 (setCells (w2.alloc (.cells zv.toArray 101)) ⟨w2.heap.size,0,none⟩ 0 (vc2 (ub S (s.basic i)))):=(he2.alloc _).put he2.size _ _
  have hU:=hN.put (vc2 (ub S (s.basic i))) (by rfl)
  have hT2:=hT1.ext hx hT1.hB
  rw [show decide ((i:Int)<0)=false from decide_eq_false (by omega),cond_false]
  refine Called.of (c117 hF.few hF.short9 hp hi (fun v hv=>(hval v hv).mono (by decide)) (fun j hj=>(hda i hi j hj).mono (by decide)) _ hT2) ?_
  rintro r w3 ⟨rfl,he3⟩
  have hT3:=hT2.ext he3 hT2.hB
  have hx3:=hx.trans he3
  cases hen:zBy S s i up with
  | none =>
   refine⟨_,rfl,?_⟩
   rw [show decide (bestV none<0)=true from rfl,cond_true]
   have hst:stepS S s = .unsat i up:=by unfold stepS;rw [hvi];simp only [hen]
   rw [zBz,hst] at hso
   cases hso
   refine Called.of (c118 hF.few hp hi hbi (fun j hj h0=>(zFn hIs hen j hj h0).1) (fun j hj=>(hda i hi j hj).mono (by decide)) _ hT3) ?_
   rintro r w4 ⟨rfl,hM,he4⟩
   refine⟨_,_,_,rfl,f0,s,some (i,up),hend,hIs,⟨_,rfl,hT3.hB,hM⟩,hT3.ext he4 hT3.hB,Below.trans hbl1 (Below.mono (hx3.trans he4) hT1.hB)⟩
  | some j =>
   have hst:stepS S s = .go i j (nextS S s (ub S (s.basic i)) i j):=by unfold stepS;rw [hvi];simp only [hen];rfl
   obtain⟨_,_,_,_,_,hj,_,h0,_,hInv⟩:=zCr hIs hst
   rw [zBz,hst] at hso
   refine⟨_,rfl,?_⟩
   rw [show decide (bestV (some j)<0)=false from decide_eq_false (by show ¬ (j:Int)<0;omega),cond_false]
   intro K hK
   have hx4:=hx3.drew
   have hT4:=hT1.ext hx4 hT1.hB
   have hU4:=(hU.ext he3).ext (Ext.refl _).drew
   obtain⟨a,hab,hcb⟩:=hT4.basicAt (i:=i) hi
   obtain⟨a2,haa,hca⟩:=hT4.aAt (i:=i) hi
   obtain⟨a3,haq,hcq⟩:=hT4.qAt (i:=i) (j:=j) hi hj
   have dS:dg2 5000000 (sub2 (ub S (s.basic i)) (s.val (s.basic i))):=((ub_dg hF.short hbi hbas.1).sub (hval _ hbas.1)).mono (by decide)
   have dI:dg 3000000 (s.a i j)⁻¹:=(hda i hi j hj).inv.mono (by decide)
   have dD:=dS.scale dI
   refine⟨_,_,_,_,_,_,hU4.blk.all,_,_,_,hT4.f6,_,_,_,hT4.f2,a,hab,⟨by omega,by omega⟩,_,hcb,_,rfl,⟨by omega,by omega⟩,_,_,_,_,_,_,hT4.valAt (v:=s.basic i) hbas.1,_,_,_,hT4.f5,a2,haa,⟨by omega,by omega⟩,_,_,_,hca,a3,haq,⟨by show 0<=(j:Int);omega,by show (j:Int)<_;omega⟩,_,_,_,hcq,Called.of (c120 ((ub_dg hF.short hbi hbas.1).mono (by decide)) ((hval _ hbas.1).mono (by decide)) _ hT4.gg) ?_⟩
   rintro r w7 ⟨rfl,he7⟩
   have hT7:=hT4.ext he7 hT4.hB
   refine⟨_,_,_,_,_,_,rfl,he7,Called.of (c122 ((hda i hi j hj).mono (by decide)) h0 _ hT7.gg) ?_⟩
   rintro r w8 ⟨rfl,he8⟩
   have hT8:=hT7.ext he8 hT7.hB
   refine⟨_,_,_,rfl,Called.of (c121 (dS.mono (by decide)) (dI.mono (by decide)) _ hT8.gg) ?_⟩
   rintro r w9 ⟨rfl,he9⟩
   have hT9:=hT8.ext he9 hT8.hB
   refine⟨_,_,_,_,_,_,rfl,Called.of (c119 hF.few hp hj (fun v hv=>(hval v hv).mono (by decide)) (dD.mono (by decide)) (fun i hi=>(hda i hi j hj).mono (by decide)) _ hT9) ?_⟩
   rintro r w10 ⟨rfl,hT10,hbl10⟩
   have hbl:Below B w w10:=Below.trans (Below.trans hbl1 (Below.mono (((hx4.trans he7).trans he8).trans he9) hT1.hB)) hbl10
   refine⟨rfl,hK _ ?_⟩
   have hpm:Perm S (Tb.move s j (zAn (sub2 (ub S (s.basic i)) (s.val (s.basic i))) (s.a i j)⁻¹)):=⟨hp.bas,hp.col,hp.inj,hp.lin⟩
   refine Called.of (c123 hF.few hpm hi hj h0 (fun i hi j hj=>(hda i hi j hj).mono (by decide)) _ hT10) ?_
   rintro r w11 ⟨rfl,hT11,hbl11⟩
   exact⟨rfl,hnext (f,nextS S s (ub S (s.basic i)) i j) _ _ ⟨rfl,hT11,hInv,hso,Below.trans hbl hbl11⟩ (Nat.lt_succ_self f)⟩
end Go.Proofs.Si
namespace Go.Proofs.Si
open Go Go.V Go.Proofs Go.RowKit Go.Num Go.Tb
set_option maxRecDepth 100000
theorem zDD {α:Type} (f:Nat->α) (n:Nat):upto f (n+1)=upto f n++[f n]:=by
 simp [upto,List.range_succ]
theorem zDT {w:World} {B e size n c:Nat} {a:Option Addr} {xs:List Value} (h:w.ownsRow B e size (.slice a n c) n xs):OwnB w B e a xs:=by
 rcases h.2 with ⟨hv,h0⟩ | ⟨g,cap,cur,hv,hb,hg,_,_,_,ht⟩
 ·left
  have:=h.1
  rw [h0,Nat.zero_mul] at this
  exact List.length_eq_zero_iff.1 this
 ·cases hv
  refine .inr ⟨g,rfl,hb,cur.toList.drop (n*size),?_⟩
  rw [hg,<- ht,List.take_append_drop]
structure NewAt (S:Tb.Sys) (B:Nat) (T:Lay) (L:Nat->Int) (w:World) (j i x:Nat):Prop where
 box:Box w T.bt 140 [.int .i64 (S.n:Int),.slice T.ra S.m T.rc,.slice T.ba i T.bc,.slice T.ca j T.cc,.slice (some ⟨T.la,0,none⟩) (S.n+S.m) (S.n+S.m),.slice T.aa x T.ac,.slice (some ⟨T.va,0,none⟩) (S.n+S.m) (S.n+S.m)]
 bt:B<=T.bt
 line:Box w T.la 3 (lLine L (S.n+S.m))
 la:B<=T.la
 val:Box w T.va 101 (VL (fun _=>zero2) (S.n+S.m))
 va:B<=T.va
 basic:w.ownsRow B 3 1 (.slice T.ba i T.bc) i (lInt (fun i=>S.n+i) i)
 cols:w.ownsRow B 3 1 (.slice T.ca j T.cc) j (lInt (fun j=>j) j)
 a:w.ownsRow B 83 1 (.slice T.aa x T.ac) x (lRow T S.n x)
 row : ∀ y,y<x->w.ownsRow B 88 3 (.slice (T.rowA y) S.n (T.rowC y)) S.n (QL (S.C y) S.n)
 nc:(Value.slice T.ca j T.cc).ownBlock≠some T.la
 nb:(Value.slice T.ba i T.bc).ownBlock≠some T.la
 ncb : ∀ b,(Value.slice T.ca j T.cc).ownBlock=some b->(Value.slice T.ba i T.bc).ownBlock≠some b
 rr : ∀ y z,y<x->z<x->y≠z->∀ b,(Value.slice (T.rowA y) S.n (T.rowC y)).ownBlock=some b->(Value.slice (T.rowA z) S.n (T.rowC z)).ownBlock≠some b
theorem NewAt.ext {S:Tb.Sys} {B:Nat} {T:Lay} {L:Nat->Int} {w w' : World} {j i x:Nat} (h:NewAt S B T L w j i x) (he:Ext w w'):NewAt S B T L w' j i x :=
 { h with box:=h.box.ext he,line:=h.line.ext he,val:=h.val.ext he,basic:=zA8 h.basic he,cols:=zA8 h.cols he,a:=zA8 h.a he,row:=fun y hy=>zA8 (h.row y hy) he }
theorem zDv {w w' : World} {B e size n:Nat} {v:Value} {xs:List Value} (h:w.ownsRow B e size v n xs) (hk : ∀ k,k<w.heap.size->v.ownBlock=some k->w'.heap[k]? = w.heap[k]?):w'.ownsRow B e size v n xs :=
 zDf h fun k hv=>hk k (World.ownsRow.lt h k hv).2 hv
theorem zF6 {v u:Value} {w w3:World} {k:Nat} (hb:v.ownBlock=u.ownBlock\/∀ k,v.ownBlock=some k->w.heap.size<=k) (hu:u.ownBlock≠some k) (hk:k<w.heap.size):v.ownBlock≠some k:=by
 intro hv
 rcases hb with h | h
 ·exact hu (h▸hv)
 ·have:=h k hv;omega
theorem NewAt.col {S:Tb.Sys} {B:Nat} {T:Lay} {L:Nat->Int} {w w3:World} {j i x:Nat} {p:Option Addr} {k:Nat} (h:NewAt S B T L w j i x)
  (r:AppRes (w.alloc (.cells #[.int .i64 (j:Int)] 3)) w3 B 3 1 T.ca j T.cc (lInt (fun j=>j) j) 1 [.int .i64 (j:Int)] p k) (y:Int) :
  NewAt S B { T with ca:=p,cc:=k } (upd L j y) ((w3.setCell ⟨T.bt,3,none⟩ (.slice p (j+1) k)).setCell ⟨T.la,j,none⟩ (.int .i64 y)) (j+1) i x:=by
 have hs1:(w.alloc (.cells #[.int .i64 (j:Int)] 3)).heap.size=w.heap.size+1:=size_alloc ..
 have hx:=(Ext.refl w).alloc (.cells #[.int .i64 (j:Int)] 3)
 have g3 : ∀ k,k<w.heap.size->(Value.slice T.ca j T.cc).ownBlock≠some k->w3.heap[k]? = w.heap[k]?:=fun k hk hne =>
  (r.grown.block k (by omega) (Ne.symm hne)).trans (hx.block k hk)
 have hbt:=h.box.lt
 have hla:=h.line.lt
 have c1:(Value.slice T.ca j T.cc).ownBlock≠some T.bt:=zAA h.cols h.box (by decide)
 have c2:(Value.slice T.ca j T.cc).ownBlock≠some T.va:=zAA h.cols h.val (by decide)
 have n1:T.bt≠T.la:=boxNe h.box.blk h.line.blk (by decide)
 have n2:T.va≠T.bt:=boxNe h.val.blk h.box.blk (by decide)
 have n3:T.va≠T.la:=boxNe h.val.blk h.line.blk (by decide)
 have q1:(Value.slice p (j+1) k).ownBlock≠some T.bt:=zF6 (w3:=w) r.blk c1 (by omega)
 have q2:(Value.slice p (j+1) k).ownBlock≠some T.la:=zF6 (w3:=w) r.blk h.nc (by omega)
 have g : ∀ k,k<w.heap.size->(Value.slice T.ca j T.cc).ownBlock≠some k->k≠T.bt->k≠T.la->((w3.setCell ⟨T.bt,3,none⟩ (.slice p (j+1) k)).setCell ⟨T.la,j,none⟩ (.int .i64 y)).heap[k]? = w.heap[k]?:=fun k hk h1 h2 h3 =>
  (zAs h3).trans ((zAs h2).trans (g3 k hk h1))
 have g' : ∀ k u,k<w.heap.size->(Value.slice T.ca j T.cc).ownBlock≠some k->k≠T.bt->k≠T.la->((w3.setCell ⟨T.bt,3,none⟩ u).setCell ⟨T.la,j,none⟩ (.int .i64 y)).heap[k]? = w.heap[k]?:=fun k u hk h1 h2 h3 =>
  (zAs h3).trans ((zAs h2).trans (g3 k hk h1))
 have hbox:Box w3 T.bt 140 _:=h.box.same (g3 _ hbt c1)
 have hline:Box w3 T.la 3 _:=h.line.same (g3 _ hla h.nc)
 have hline2:=(hline.away (zAe (o:=3) (v := .slice p (j+1) k)) (fun e=>n1 e.symm)).set j (.int .i64 y)
 exact {
  box:=(hbox.set 3 (.slice p (j+1) k)).away zAe n1
  bt:=h.bt
  line:=by
   by_cases hj:j<S.n+S.m
   ·rw [lLine,zCq hj] at hline2
    have e:upto (upd (fun i=>Value.int .i64 (L i)) j (.int .i64 y)) (S.n+S.m)=lLine (upd L j y) (S.n+S.m):=zA3 fun k _=>by unfold upd;split <;> rfl
    rw [e] at hline2
    exact hline2
   ·rw [List.set_eq_of_length_le (by rw [lLine,zA7];omega)] at hline2
    have e:lLine (upd L j y) (S.n+S.m)=lLine L (S.n+S.m):=zA3 fun k hk=>by rw [zAu _ (by omega)]
    rw [e];exact hline2
  la:=h.la
  val:=h.val.same (g' _ _ h.val.lt c2 n2 n3)
  va:=h.va
  basic:=zDv h.basic fun k hk hv=>g' _ _ hk (fun e=>h.ncb k e hv) (fun e=>zAA h.basic h.box (by decide) (e▸hv)) (fun e=>h.nb (e▸hv))
  cols:=by
   have:=r.own
   rw [lInt,<- zDD (fun i=>Value.int .i64 ((i:Nat):Int)) j] at this
   exact zBC (zBC this q1 _) q2 _
  a:=zDv h.a fun k hk hv=>g' _ _ hk (fun e=>zCu h.cols h.a (by decide) k e hv) (fun e=>zAA h.a h.box (by decide) (e▸hv)) (fun e=>zAA h.a h.line (by decide) (e▸hv))
  row:=fun z hz=>zDv (h.row z hz) fun k hk hv=>g' _ _ hk (fun e=>zCu h.cols (h.row z hz) (by decide) k e hv) (fun e=>zAA (h.row z hz) h.box (by decide) (e▸hv)) (fun e=>zAA (h.row z hz) h.line (by decide) (e▸hv))
  nc:=q2
  nb:=h.nb
  ncb:=fun b hb hb2=>zF6 (w3:=w) r.blk (fun e=>h.ncb b e hb2) (by have:=(World.ownsRow.lt h.basic b hb2).2;omega) hb
  rr:=h.rr }
theorem NewAt.bas {S:Tb.Sys} {B:Nat} {T:Lay} {L:Nat->Int} {w w3:World} {j i x:Nat} {p:Option Addr} {k:Nat} (h:NewAt S B T L w j i x)
  (r:AppRes (w.alloc (.cells #[.int .i64 ((S.n+i:Nat):Int)] 3)) w3 B 3 1 T.ba i T.bc (lInt (fun i=>S.n+i) i) 1 [.int .i64 ((S.n+i:Nat):Int)] p k) (v:Nat) (y:Int) :
  NewAt S B { T with ba:=p,bc:=k } (upd L v y) ((w3.setCell ⟨T.bt,2,none⟩ (.slice p (i+1) k)).setCell ⟨T.la,v,none⟩ (.int .i64 y)) j (i+1) x:=by
 have hs1:(w.alloc (.cells #[.int .i64 ((S.n+i:Nat):Int)] 3)).heap.size=w.heap.size+1:=size_alloc ..
 have hx:=(Ext.refl w).alloc (.cells #[.int .i64 ((S.n+i:Nat):Int)] 3)
 have g3 : ∀ k,k<w.heap.size->(Value.slice T.ba i T.bc).ownBlock≠some k->w3.heap[k]? = w.heap[k]?:=fun k hk hne =>
  (r.grown.block k (by omega) (Ne.symm hne)).trans (hx.block k hk)
 have hbt:=h.box.lt
 have hla:=h.line.lt
 have c1:(Value.slice T.ba i T.bc).ownBlock≠some T.bt:=zAA h.basic h.box (by decide)
 have c2:(Value.slice T.ba i T.bc).ownBlock≠some T.va:=zAA h.basic h.val (by decide)
 have n1:T.bt≠T.la:=boxNe h.box.blk h.line.blk (by decide)
 have n2:T.va≠T.bt:=boxNe h.val.blk h.box.blk (by decide)
 have n3:T.va≠T.la:=boxNe h.val.blk h.line.blk (by decide)
 have q1:(Value.slice p (i+1) k).ownBlock≠some T.bt:=zF6 (w3:=w) r.blk c1 (by omega)
 have q2:(Value.slice p (i+1) k).ownBlock≠some T.la:=zF6 (w3:=w) r.blk h.nb (by omega)
 have g' : ∀ k u,k<w.heap.size->(Value.slice T.ba i T.bc).ownBlock≠some k->k≠T.bt->k≠T.la->((w3.setCell ⟨T.bt,2,none⟩ u).setCell ⟨T.la,v,none⟩ (.int .i64 y)).heap[k]? = w.heap[k]?:=fun k u hk h1 h2 h3 =>
  (zAs h3).trans ((zAs h2).trans (g3 k hk h1))
 have hbox:Box w3 T.bt 140 _:=h.box.same (g3 _ hbt c1)
 have hline:Box w3 T.la 3 _:=h.line.same (g3 _ hla h.nb)
 have hline2:=(hline.away (zAe (o:=2) (v := .slice p (i+1) k)) (fun e=>n1 e.symm)).set v (.int .i64 y)
 exact {
  box:=(hbox.set 2 (.slice p (i+1) k)).away zAe n1
  bt:=h.bt
  line:=by
   by_cases hj:v<S.n+S.m
   ·rw [lLine,zCq hj] at hline2
    have e:upto (upd (fun i=>Value.int .i64 (L i)) v (.int .i64 y)) (S.n+S.m)=lLine (upd L v y) (S.n+S.m):=zA3 fun k _=>by unfold upd;split <;> rfl
    rw [e] at hline2
    exact hline2
   ·rw [List.set_eq_of_length_le (by rw [lLine,zA7];omega)] at hline2
    have e:lLine (upd L v y) (S.n+S.m)=lLine L (S.n+S.m):=zA3 fun k hk=>by rw [zAu _ (by omega)]
    rw [e];exact hline2
  la:=h.la
  val:=h.val.same (g' _ _ h.val.lt c2 n2 n3)
  va:=h.va
  cols:=zDv h.cols fun k hk hv=>g' _ _ hk (fun e=>h.ncb k hv e) (fun e=>zAA h.cols h.box (by decide) (e▸hv)) (fun e=>h.nc (e▸hv))
  basic:=by
   have:=r.own
   rw [lInt,<- zDD (fun i=>Value.int .i64 ((S.n+i:Nat):Int)) i] at this
   exact zBC (zBC this q1 _) q2 _
  a:=zDv h.a fun k hk hv=>g' _ _ hk (fun e=>zCu h.basic h.a (by decide) k e hv) (fun e=>zAA h.a h.box (by decide) (e▸hv)) (fun e=>zAA h.a h.line (by decide) (e▸hv))
  row:=fun z hz=>zDv (h.row z hz) fun k hk hv=>g' _ _ hk (fun e=>zCu h.basic (h.row z hz) (by decide) k e hv) (fun e=>zAA (h.row z hz) h.box (by decide) (e▸hv)) (fun e=>zAA (h.row z hz) h.line (by decide) (e▸hv))
  nb:=q2
  nc:=h.nc
  ncb:=fun b hb hb2=>zF6 (w3:=w) r.blk (fun e=>h.ncb b hb e) (by have:=(World.ownsRow.lt h.cols b hb).2;omega) hb2
  rr:=h.rr }
theorem made_int (n:Nat):madeCells (Value.int .i64 0).cells n=(lLine (fun _=>0) n).toArray:=by
 apply Array.ext'
 show _=upto _ n
 apply zEG
 ·simp [madeCells]
 ·intro i hi
  simp [madeCells,Value.cells,hi,Nat.mod_one]
theorem VL_made (n:Nat):madeCells zv.toArray (n*6)=(VL (fun _=>zero2) n).toArray:=by
 apply Array.ext'
 show _=GL _ n
 apply GL_ext (m:=6) (by omega) (fun _=>rfl)
 ·simp [madeCells];omega
 ·intro i hi j hj
  rw [vc2_zero]
  simp only [madeCells]
  have:(6*i+j)<n*6:=by omega
  have h3:(6*i+j) % 6=j:=by omega
  match j,hj with
  | 0,_=>simp [show 6*i<n*6 by omega]
  | 1,_=>simp [this,h3]
  | 2,_=>simp [this,h3]
  | 3,_=>simp [this,h3]
  | 4,_=>simp [this,h3]
  | 5,_=>simp [this,h3]
theorem plain_QL (f:Nat->Rat) : ∀ n,zAq (QL f n)=true:=by
 have app : ∀ (a b:List Value),zAq a=true->zAq b=true->zAq (a++b)=true:=by
  intro a
  induction a with
  | nil=>intro b _ h;exact h
  | cons x a ih =>
   intro b h1 h2
   cases x <;> simp only [zAq,List.cons_append] at h1 ⊢ <;> first | exact ih b h1 h2 | cases h1 | (simp only [Bool.and_eq_true] at h1 ⊢;exact⟨h1.1,ih b h1.2 h2⟩)
 intro n
 induction n with
 | zero=>rfl
 | succ n ih=>rw [QL];exact app _ _ ih rfl
theorem NewAt.line2 {S:Tb.Sys} {B:Nat} {T:Lay} {L:Nat->Int} {w w7 w8:World} {j i x:Nat} {p9 p10:Option Addr} {k19 k21 B' : Nat} (h:NewAt S B T L w j i x) (hB:B<=w.heap.size) (hB' : w.heap.size<=B')
  (r:AppRes w w7 B' 88 3 none 0 0 [] S.n (QL (S.C x) S.n) p9 k19) (r2:AppRes (w7.alloc (.cells #[.slice p9 S.n k19] 83)) w8 B 83 1 T.aa x T.ac (lRow T S.n x) 1 [.slice p9 S.n k19] p10 k21) :
  NewAt S B { T with aa:=p10,ac:=k21,rowA:=upd T.rowA x p9,rowC:=upd T.rowC x k19 } L (w8.setCell ⟨T.bt,5,none⟩ (.slice p10 (x+1) k21)) j i (x+1):=by
 have hn : ∀ k,(Value.slice none 0 0).ownBlock≠some k:=fun k e=>by cases e
 have hx7:Ext w w7:=r.below (B:=w.heap.size) (World.ownsRow_nil _ B' 88 3) (Ext.refl w) (Nat.le_refl _) hB'
 have h7:=(h.ext hx7).ext ((Ext.refl w7).alloc (.cells #[.slice p9 S.n k19] 83))
 have hs7:=hx7.size
 have hb9 : ∀ k,(Value.slice p9 (0+S.n) k19).ownBlock=some k->w.heap.size<=k:=by
  rcases r.blk with e | e
  ·intro k hk;rw [e] at hk;cases hk
  ·exact e
 have ho9:w7.ownsRow B 88 3 (.slice p9 S.n k19) S.n (QL (S.C x) S.n):=by
  have:=r.own
  rw [Nat.zero_add,List.nil_append] at this
  refine⟨this.1,?_⟩
  rcases this.2 with e | ⟨g,cap,cur,hv,hb,r⟩
  ·exact .inl e
  ·exact .inr ⟨g,cap,cur,hv,by omega,r⟩
 rw [Nat.zero_add] at hb9
 have ho9':=zA8 ho9 ((Ext.refl w7).alloc (.cells #[.slice p9 S.n k19] 83))
 have ga : ∀ k,k<(w7.alloc (.cells #[.slice p9 S.n k19] 83)).heap.size->(Value.slice T.aa x T.ac).ownBlock≠some k->k≠T.bt->∀ u,(w8.setCell ⟨T.bt,5,none⟩ u).heap[k]? = (w7.alloc (.cells #[.slice p9 S.n k19] 83)).heap[k]?:=fun k hk h1 h2 u =>
  (zAs h2).trans (r2.grown.block k hk (Ne.symm h1))
 have c1:(Value.slice T.aa x T.ac).ownBlock≠some T.bt:=zAA h7.a h7.box (by decide)
 have c2:(Value.slice T.aa x T.ac).ownBlock≠some T.va:=zAA h7.a h7.val (by decide)
 have c3:(Value.slice T.aa x T.ac).ownBlock≠some T.la:=zAA h7.a h7.line (by decide)
 have n1:T.la≠T.bt:=boxNe h.line.blk h.box.blk (by decide)
 have n2:T.va≠T.bt:=boxNe h.val.blk h.box.blk (by decide)
 have q1:(Value.slice p10 (x+1) k21).ownBlock≠some T.bt:=zF6 (w3:=w) r2.blk c1 h7.box.lt
 have hbox:Box w8 T.bt 140 _:=h7.box.same (r2.grown.block _ h7.box.lt (Ne.symm c1))
 have rowx : ∀ y,y<x+1->(Value.slice (upd T.rowA x p9 y) S.n (upd T.rowC x k19 y))=if y=x then .slice p9 S.n k19 else .slice (T.rowA y) S.n (T.rowC y):=fun y _=>by
  unfold upd;split <;> rfl
 exact {
  box:=hbox.set 5 (.slice p10 (x+1) k21)
  bt:=h.bt
  la:=h.la
  va:=h.va
  line:=h7.line.same (ga _ h7.line.lt c3 n1 _)
  val:=h7.val.same (ga _ h7.val.lt c2 n2 _)
  basic:=zDv h7.basic fun k hk hv=>ga _ hk (fun e=>zCu h7.a h7.basic (by decide) k e hv) (fun e=>zAA h7.basic h7.box (by decide) (e▸hv)) _
  cols:=zDv h7.cols fun k hk hv=>ga _ hk (fun e=>zCu h7.a h7.cols (by decide) k e hv) (fun e=>zAA h7.cols h7.box (by decide) (e▸hv)) _
  a:=by
   have:=r2.own
   have e:lRow { T with aa:=p10,ac:=k21,rowA:=upd T.rowA x p9,rowC:=upd T.rowC x k19 } S.n (x+1)=lRow T S.n x++[.slice p9 S.n k19]:=by
    rw [lRow,zDD]
    show upto (fun i=>Value.slice (upd T.rowA x p9 i) S.n (upd T.rowC x k19 i)) x++[Value.slice (upd T.rowA x p9 x) S.n (upd T.rowC x k19 x)]=_
    rw [zAy,zAy,zA3 (g:=fun i=>Value.slice (T.rowA i) S.n (T.rowC i)) fun k hk=>by rw [zAu _ (by omega),zAu _ (by omega)]]
    rfl
   rw [e]
   exact zBC this q1 _
  row:=fun y hy=>by
   show World.ownsRow _ B 88 3 (.slice (upd T.rowA x p9 y) S.n (upd T.rowC x k19 y)) S.n (QL (S.C y) S.n)
   rw [rowx y hy]
   by_cases e:y=x
   ·rw [if_pos e,e]
    exact zDv ho9' fun k hk hv=>ga _ hk (fun e=>zCu h7.a ho9' (by decide) k e hv) (fun e=>zAA ho9' h7.box (by decide) (e▸hv)) _
   ·rw [if_neg e]
    have hr:=h7.row y (by omega)
    exact zDv hr fun k hk hv=>ga _ hk (fun e=>zCu h7.a hr (by decide) k e hv) (fun e=>zAA hr h7.box (by decide) (e▸hv)) _
  nc:=h.nc
  nb:=h.nb
  ncb:=h.ncb
  rr:=fun y z hy hz hyz b hb=>by
   replace hb:(Value.slice (upd T.rowA x p9 y) S.n (upd T.rowC x k19 y)).ownBlock=some b:=hb
   show (Value.slice (upd T.rowA x p9 z) S.n (upd T.rowC x k19 z)).ownBlock≠some b
   rw [rowx y hy] at hb
   rw [rowx z hz]
   by_cases e:y=x
   ·rw [if_pos e] at hb
    rw [if_neg (by omega)]
    intro hb2
    have h1:=(World.ownsRow.lt (h.row z (by omega)) b hb2).2
    have h2:=hb9 b hb
    omega
   ·rw [if_neg e] at hb
    by_cases e2:z=x
    ·rw [if_pos e2]
     intro hb2
     have h1:=(World.ownsRow.lt (h.row y (by omega)) b hb).2
     have h2:=hb9 b hb2
     omega
    ·rw [if_neg e2]
     exact h.rr y z (by omega) (by omega) hyz b hb }
theorem NewAt.tab {S:Tb.Sys} {w0 w:World} {T:Lay} {L:Nat->Int} (h:NewAt S w0.heap.size T L w S.n S.m S.m) (hL : ∀ v,v<S.n+S.m->L v=(init S).line v) (hx:Ext w0 w) (hR:RowsR w0 T.ra S T.R) (hg:Gl w0):TabAt S w0.heap.size w { T with xb:=0,xl:=[],yb:=0,yl:=[] } (init S) where
 xt := .inl rfl
 yt := .inl rfl
 d4:=fun _ _ h=>absurd rfl h
 box:=h.box
 bt:=h.bt
 line:=by
  rw [show lLine (init S).line (S.n+S.m)=lLine L (S.n+S.m) from zA3 fun v hv=>by rw [hL v hv]]
  exact h.line
 la:=h.la
 val:=h.val
 va:=h.va
 basic:=zDT h.basic
 cols:=zDT h.cols
 a:=zDT h.a
 row:=fun i hi=>zDT (h.row i hi)
 rows:=fun w' hb=>hR.ext (Below.trans hx hb)
 gl:=fun w' hb=>hg.ext (Below.trans hx hb)
 d1:=fun b hb=>⟨fun hc=>h.ncb b (by rw [hc];rfl) (by rw [hb];rfl),fun e=>h.nb (by rw [hb,<- e];rfl)⟩
 d2:=fun b hb e=>h.nc (by rw [hb,<- e];rfl)
 d3:=fun i k b hi hk hne hb hb2=>h.rr i k hi hk hne b (by rw [hb];rfl) (by rw [hb2];rfl)
def lineA (S:Tb.Sys) (j:Nat):Nat->Int:=fun v=>if v<j then -1 else 0
def lineB (S:Tb.Sys) (i:Nat):Nat->Int:=fun v=>if v<S.n then -1 else if v<S.n+i then ((v - S.n:Nat):Int) else 0
theorem lineA_succ {S:Tb.Sys} {j:Nat} : upd (lineA S j) j (-1)=lineA S (j+1):=by
 funext v
 unfold upd lineA
 by_cases e:v=j
 ·rw [if_pos e,if_pos (by omega)]
 ·rw [if_neg e]
  by_cases h:v<j
  ·rw [if_pos h,if_pos (by omega)]
  ·rw [if_neg h,if_neg (by omega)]
theorem lineB_zero {S:Tb.Sys} : lineA S S.n=lineB S 0:=by
 funext v
 unfold lineA lineB
 by_cases h:v<S.n
 ·rw [if_pos h,if_pos h]
 ·rw [if_neg h,if_neg h,if_neg (by omega)]
theorem lineB_succ {S:Tb.Sys} {i:Nat} : upd (lineB S i) (S.n+i) (i:Int)=lineB S (i+1):=by
 funext v
 unfold upd lineB
 by_cases e:v=S.n+i
 ·rw [if_pos e,if_neg (by omega),if_pos (by omega),e,show S.n+i - S.n=i by omega]
 ·rw [if_neg e]
  by_cases h:v<S.n
  ·rw [if_pos h,if_pos h]
  ·rw [if_neg h,if_neg h]
   by_cases h2:v<S.n+i
   ·rw [if_pos h2,if_pos (by omega)]
   ·rw [if_neg h2,if_neg (by omega)]
theorem size101 (n:Nat):n*siE.P.types[101].size=n*6:=rfl
theorem size3 (n:Nat):n*siE.P.types[3].size=n:=Nat.mul_one n
end Go.Proofs.Si
namespace Go.Proofs.Si
open Go Go.V Go.Proofs Go.RowKit Go.Num Go.Tb Go.Proofs.Tryz
open Go.IntKind (i64 u64 u32 u8)
set_option maxRecDepth 100000
set_option maxHeartbeats 1000000 in
theorem c70 {S:Tb.Sys} {ra:Option Addr} {rc:Nat} {Rl:RowL} (hf:Few S) (w0:World) (hR:RowsR w0 ra S Rl) (hg:Gl w0) :
  Ret prog 70 #[.int .i64 S.n,.slice ra S.m rc] w0 fun r w'=>∃ T:Lay,r = .pointer (some ⟨T.bt,0,none⟩)/\T.ra=ra/\T.R=Rl/\TabAt S w0.heap.size w' T (init S)/\Ext w0 w':=by
 have hf':=hf
 unfold Few at hf'
 have ew:i64.wrap ((S.n:Int)+(S.m:Int))=((S.n+S.m:Nat):Int):=by rw [zAf (by omega) (by omega)];omega
 refine run70 _ _ _ _ _ _ fun K hK=>?_
 have e0:madeCells (Value.agg #[Value.int .i64 0,.int .i64 0,.string { data:=#[] },Value.int .i64 0,.int .i64 0,.string { data:=#[] }]).cells ((S.n+S.m)*6)=(VL (fun _=>zero2) (S.n+S.m)).toArray:=VL_made _
 have pre : ∀ (w1:World) (bt la va:Nat),Box w1 bt 140 [.int .i64 (S.n:Int),.slice ra S.m rc,.slice none 0 0,.slice none 0 0,.slice (some ⟨la,0,none⟩) (S.n+S.m) (S.n+S.m),.slice none 0 0,.slice (some ⟨va,0,none⟩) (S.n+S.m) (S.n+S.m)] ->
   Box w1 la 3 (lLine (fun _=>0) (S.n+S.m))->Box w1 va 101 (VL (fun _=>zero2) (S.n+S.m))->w0.heap.size<=bt->w0.heap.size<=la->w0.heap.size<=va->Ext w0 w1->K [.pointer (some ⟨bt,0,none⟩)] w1:=by
  intro w1 bt la va h1 h2 h3 b1 b2 b3 hx1
  refine hK _ _ ?_
  have hN0:NewAt S w0.heap.size { bt:=bt,ra:=ra,rc:=rc,R:=Rl,ba:=none,bc:=0,ca:=none,cc:=0,la:=la,aa:=none,ac:=0,va:=va,rowA:=fun _=>none,rowC:=fun _=>0,xb:=0,xl:=[],yb:=0,yl:=[] } (lineA S 0) w1 0 0 0:={
   box:=h1,bt:=b1,line:=h2,la:=b2,val:=h3,va:=b3
   basic:=World.ownsRow_nil _ _ _ _
   cols:=World.ownsRow_nil _ _ _ _
   a:=World.ownsRow_nil _ _ _ _
   row:=fun y hy=>by omega
   nc:=fun e=>by cases e
   nb:=fun e=>by cases e
   ncb:=fun b e=>by cases e
   rr:=fun y z hy=>by omega }
  refine⟨fun vals w2=>∃ (T:Lay) (j:Nat),vals=[.int .i64 j]/\j<=S.n/\T.bt=bt/\T.ra=ra/\T.R=Rl/\NewAt S w0.heap.size T (lineA S j) w2 j 0 0/\Ext w0 w2,mu1 S.n,⟨_,0,rfl,Nat.zero_le _,rfl,rfl,rfl,hN0,hx1⟩,?_⟩
  clear hN0 hx1 h1 h2 h3
  rintro m w2 ⟨T,j,hvj,hj,rfl,rfl,rfl,hN,he⟩
  cases hvj
  refine zAd (fun hlt=>?_) (fun hge=>?_)
  ·have hjn:j<S.n:=by omega
   refine⟨_,_,_,hN.box.blk.cell (j:=3) rfl,_,_,_,AppOk.one (L:=[.int .i64 (j:Int)]) hN.cols rfl rfl (by unfold maxLen;omega) (by omega) he.size,?_⟩
   intro p1 k3 w3 r
   have hst:=hN.col r (-1)
   have hs1:(w2.alloc (.cells #[.int .i64 (j:Int)] 3)).heap.size=w2.heap.size+1:=size_alloc ..
   have hx:=(Ext.refl w2).alloc (.cells #[.int .i64 (j:Int)] 3)
   have hxa:=he.trans hx
   have hx3:Ext w0 w3:=r.below (zA8 hN.cols hx) hxa (by rw [hs1];have:=he.size;omega) (Nat.le_refl _)
   have g3 : ∀ k,k<w2.heap.size->(Value.slice T.ca j T.cc).ownBlock≠some k->w3.heap[k]? = w2.heap[k]?:=fun k hk hne =>
    (r.grown.block k (by omega) (Ne.symm hne)).trans (hx.block k hk)
   have hb3:Box w3 T.bt 140 _:=hN.box.same (g3 _ hN.box.lt (zAA hN.cols hN.box (by decide)))
   have hb4:=hb3.set 3 (.slice p1 (j+1) k3)
   have hl3:Box w3 T.la 3 _:=hN.line.same (g3 _ hN.line.lt hN.nc)
   have hl4:=hl3.away (zAe (o:=3) (v := .slice p1 (j+1) k3)) (boxNe hN.line.blk hN.box.blk (by decide))
   refine⟨⟨⟨_,hb3.blk.cell (j:=3) rfl⟩,hb3.blk.free⟩,_,_,_,hb4.blk.cell (j:=4) rfl,_,rfl,⟨by omega,by omega⟩,?_⟩
   simp only [zAk,Nat.zero_add,Nat.mul_one,Int.toNat_natCast]
   refine⟨⟨⟨_,hl4.blk.cell (zBg (by omega))⟩,hl4.blk.free⟩,?_⟩
   rw [lineA_succ] at hst
   rw [zAh (by omega)]
   exact⟨⟨{ T with ca:=p1,cc:=k3 },j+1,rfl,hjn,rfl,rfl,rfl,hst,(hx3.setCell hN.bt _).setCell hN.la _⟩,by simp only [mu1,Int.toNat_natCast];omega⟩
  have ej:j=S.n:=by omega
  subst ej
  rw [lineB_zero] at hN
  refine⟨fun vals w4=>∃ (T' : Lay) (i:Nat),vals=[.int .i64 i]/\i<=S.m/\T'.bt=T.bt/\T'.ra=T.ra/\T'.R=T.R/\NewAt S w0.heap.size T' (lineB S i) w4 S.n i i/\Ext w0 w4,mu1 S.m,⟨T,0,rfl,Nat.zero_le _,rfl,rfl,rfl,hN,he⟩,?_⟩
  clear hN he
  rintro m w4 ⟨T',i,hvi,hi,ht1,ht2,ht3,hN,he⟩
  cases hvi
  refine zAd (fun hlt=>?_) (fun hge=>?_)
  ·have him:i<S.m:=by omega
   have hRi:=hR.ext he
   obtain⟨ad,ha,hc,b0,o0,had⟩:=hRi.get him
   have hN90:=Box.new w4 [Value.slice none 0 0,.int .i64 0,.int .i64 0,.int .i64 0,.string { data:=#[] }] 90
   have hxc:Ext w4 (setCells (w4.alloc (.cells [Value.slice none 0 0,.int .i64 0,.int .i64 0,.int .i64 0,.string { data:=#[] }].toArray 90)) ⟨w4.heap.size,0,none⟩ 0 (rowc S T.R i)):=((Ext.refl w4).alloc _).put (Nat.le_refl _) _ _
   have hP:=hN90.put (rowc S T.R i) (by rfl)
   have hNc:=hN.ext hxc
   have hec:=he.trans hxc
   rw [ht1.symm]
   refine⟨ad,ha,⟨by omega,hlt⟩,_,_,_,_,_,_,_,hc,hN90.blk.writable (by decide),_,_,_,hNc.box.blk.cell (j:=2) rfl,?_⟩
   have ewi:i64.wrap ((S.n:Int)+(i:Int))=((S.n+i:Nat):Int):=by rw [zAf (by omega) (by omega)];omega
   rw [ewi]
   refine⟨_,_,_,AppOk.one (L:=[.int .i64 ((S.n+i:Nat):Int)]) hNc.basic rfl rfl (by unfold maxLen;omega) (by omega) hec.size,?_⟩
   intro p5 k11 w5 r
   replace r:AppRes ((setCells (w4.alloc (.cells [Value.slice none 0 0,.int .i64 0,.int .i64 0,.int .i64 0,.string { data:=#[] }].toArray 90)) ⟨w4.heap.size,0,none⟩ 0 (rowc S T.R i)).alloc (.cells #[.int .i64 ((S.n+i:Nat):Int)] 3)) w5 w0.heap.size 3 1 T'.ba i T'.bc (lInt (fun i=>S.n+i) i) 1 [.int .i64 ((S.n+i:Nat):Int)] p5 k11:=r
   have hst:=hNc.bas r (S.n+i) (i:Int)
   rw [lineB_succ] at hst
   have hs1:((setCells (w4.alloc (.cells [Value.slice none 0 0,.int .i64 0,.int .i64 0,.int .i64 0,.string { data:=#[] }].toArray 90)) ⟨w4.heap.size,0,none⟩ 0 (rowc S T.R i)).alloc (.cells #[.int .i64 ((S.n+i:Nat):Int)] 3)).heap.size=(setCells (w4.alloc (.cells [Value.slice none 0 0,.int .i64 0,.int .i64 0,.int .i64 0,.string { data:=#[] }].toArray 90)) ⟨w4.heap.size,0,none⟩ 0 (rowc S T.R i)).heap.size+1:=size_alloc ..
   have hx:=(Ext.refl (setCells (w4.alloc (.cells [Value.slice none 0 0,.int .i64 0,.int .i64 0,.int .i64 0,.string { data:=#[] }].toArray 90)) ⟨w4.heap.size,0,none⟩ 0 (rowc S T.R i))).alloc (.cells #[.int .i64 ((S.n+i:Nat):Int)] 3)
   have hxa:=hec.trans hx
   have hx5:Ext w0 w5:=r.below (zA8 hNc.basic hx) hxa (by rw [hs1];have:=hec.size;omega) (Nat.le_refl _)
   have g3 : ∀ k,k<(setCells (w4.alloc (.cells [Value.slice none 0 0,.int .i64 0,.int .i64 0,.int .i64 0,.string { data:=#[] }].toArray 90)) ⟨w4.heap.size,0,none⟩ 0 (rowc S T.R i)).heap.size->(Value.slice T'.ba i T'.bc).ownBlock≠some k->w5.heap[k]? = (setCells (w4.alloc (.cells [Value.slice none 0 0,.int .i64 0,.int .i64 0,.int .i64 0,.string { data:=#[] }].toArray 90)) ⟨w4.heap.size,0,none⟩ 0 (rowc S T.R i)).heap[k]?:=fun k hk hne =>
    (r.grown.block k (by omega) (Ne.symm hne)).trans (hx.block k hk)
   have hb3:Box w5 T'.bt 140 _:=hNc.box.same (g3 _ hNc.box.lt (zAA hNc.basic hNc.box (by decide)))
   have hb4:=hb3.set 2 (.slice p5 (i+1) k11)
   have hl3:Box w5 T'.la 3 _:=hNc.line.same (g3 _ hNc.line.lt hNc.nb)
   have hl4:=hl3.away (zAe (o:=2) (v := .slice p5 (i+1) k11)) (boxNe hNc.line.blk hNc.box.blk (by decide))
   have hP5:Box w5 w4.heap.size 90 _:=hP.same (g3 _ hP.lt (zAA hNc.basic hP (by decide)))
   have hP6:=((hP5.away (zAe (o:=2) (v := .slice p5 (i+1) k11)) (boxNe hP.blk hNc.box.blk (by decide))).away (zAe (o:=S.n+i) (v := .int .i64 (i:Int))) (fun (e:w4.heap.size=T'.la)=>by have:=hN.line.lt;omega)).ext (Ext.refl _).drew
   have hx6:Ext w0 ((w5.setCell ⟨T'.bt,2,none⟩ (.slice p5 (i+1) k11)).setCell ⟨T'.la,S.n+i,none⟩ (.int .i64 (i:Int))):=(hx5.setCell hN.bt _).setCell hN.la _
   have hx6d:=hx6.drew
   have hst6:=hst.ext (Ext.refl _).drew
   refine⟨⟨⟨_,hb3.blk.cell (j:=2) rfl⟩,hb3.blk.free⟩,_,_,_,hb4.blk.cell (j:=4) rfl,_,rfl,⟨by omega,by omega⟩,?_⟩
   simp only [zAk,Nat.zero_add,Nat.mul_one,Int.toNat_natCast]
   refine⟨⟨⟨_,hl4.blk.cell (zBg (by omega))⟩,hl4.blk.free⟩,?_⟩
   intro K1 hK1
   have hCi:=hR.2 i him
   refine⟨_,_,_,hst6.box.blk.cell (j:=5) rfl,_,_,_,hP6.blk.cell (j:=0) rfl,((w5.setCell ⟨T'.bt,2,none⟩ (.slice p5 (i+1) k11)).setCell ⟨T'.la,S.n+i,none⟩ (.int .i64 (i:Int))).drew.heap.size,[],QL (S.C i) S.n,?_,?_⟩
   ·exact {
     own := .inl (World.ownsRow_nil _ _ _ _)
     len:=(zAR _ _).trans (Nat.mul_comm _ _)
     src:=by
      rcases (hCi.ext hx6d) with e | ⟨ad,e1,e2,e3⟩
      ·left
       have:=congrArg List.length e
       rw [zAR] at this
       simp only [List.length_nil] at this
       omega
      ·exact .inr ⟨ad,e1,zCY.2 e3⟩
     plain:=plain_QL _ _
     max:=by unfold maxLen;omega
     bytes:=by omega
     base:=Nat.le_refl _ }
   intro p9 k19 w7 r7
   have hx7:Ext ((w5.setCell ⟨T'.bt,2,none⟩ (.slice p5 (i+1) k11)).setCell ⟨T'.la,S.n+i,none⟩ (.int .i64 (i:Int))).drew w7:=r7.below (B:=(((w5.setCell ⟨T'.bt,2,none⟩ (.slice p5 (i+1) k11)).setCell ⟨T'.la,S.n+i,none⟩ (.int .i64 (i:Int))).drew).heap.size) (World.ownsRow_nil _ (((w5.setCell ⟨T'.bt,2,none⟩ (.slice p5 (i+1) k11)).setCell ⟨T'.la,S.n+i,none⟩ (.int .i64 (i:Int))).drew).heap.size 88 3) (Ext.refl _) (Nat.le_refl _) (Nat.le_refl _)
   have hx8:=hx7.trans ((Ext.refl w7).alloc (.cells #[.slice p9 S.n k19] 83))
   have hst8:=hst6.ext hx8
   have hx08:=hx6d.trans hx8
   refine⟨hx7,hx8,_,_,_,AppOk.one (L:=[.slice p9 S.n k19]) (zA8 hst6.a hx7) rfl rfl (by unfold maxLen;omega) (by omega) (hx6d.trans hx7).size,?_⟩
   intro p10 k21 w8 r8
   have hst9:=hst6.line2 hx6d.size (Nat.le_refl _) r7 r8
   have hb8:Box w8 T'.bt 140 _:=hst8.box.same (r8.grown.block _ hst8.box.lt (Ne.symm (zAA hst8.a hst8.box (by decide))))
   refine⟨⟨⟨_,hb8.blk.cell (j:=5) rfl⟩,hb8.blk.free⟩,hK1 _ ?_⟩
   have hxw:Ext w0 w8:=r8.below hst8.a hx08 hx08.size (Nat.le_refl _)
   rw [zAh (by omega)]
   exact⟨⟨{ T' with ba:=p5,bc:=k11,aa:=p10,ac:=k21,rowA:=upd T'.rowA i p9,rowC:=upd T'.rowC i k19 },i+1,rfl,him,rfl,ht2,ht3,hst9,hxw.setCell hN.bt _⟩,by simp only [mu1,Int.toNat_natCast];omega⟩
  ·have ei:i=S.m:=by omega
   subst ei
   refine⟨{ T' with xb:=0,xl:=[],yb:=0,yl:=[] },by rw [ht1],ht2,ht3,hN.tab (fun v hv=>?_) he (by rw [ht2,ht3];exact hR) hg,he⟩
   show lineB S S.m v=if v<S.n then -1 else ((v - S.n:Nat):Int)
   unfold lineB
   by_cases h:v<S.n
   ·rw [if_pos h,if_pos h]
   ·rw [if_neg h,if_neg h,if_pos (by omega)]
 rw [ew]
 simp only [Int.toNat_natCast,size3,size101,made_int,e0]
 have hd:=(Ext.refl w0).drew
 have a1:=(Ext.refl w0.drew).alloc (.cells (lLine (fun _=>0) (S.n+S.m)).toArray 3)
 have a2:=(Ext.refl (w0.drew.alloc (.cells (lLine (fun _=>0) (S.n+S.m)).toArray 3))).alloc (.cells (VL (fun _=>zero2) (S.n+S.m)).toArray 101)
 have b1:=(Ext.refl w0.drew).alloc (.cells (VL (fun _=>zero2) (S.n+S.m)).toArray 101)
 have b2:=(Ext.refl (w0.drew.alloc (.cells (VL (fun _=>zero2) (S.n+S.m)).toArray 101))).alloc (.cells (lLine (fun _=>0) (S.n+S.m)).toArray 3)
 refine⟨⟨⟨by omega,by omega,by omega,by omega⟩,⟨by omega,by omega,by omega,by omega⟩,?_⟩,⟨by omega,by omega,by omega,by omega⟩,⟨by omega,by omega,by omega,by omega⟩,?_⟩
 ·have a3:=(Ext.refl ((w0.drew.alloc (.cells (lLine (fun _=>0) (S.n+S.m)).toArray 3)).alloc (.cells (VL (fun _=>zero2) (S.n+S.m)).toArray 101))).alloc (.cells [Value.int .i64 (S.n:Int),.slice ra S.m rc,.slice none 0 0,.slice none 0 0,.slice (some ⟨w0.drew.heap.size,0,none⟩) (S.n+S.m) (S.n+S.m),.slice none 0 0,.slice (some ⟨(w0.drew.alloc (.cells (lLine (fun _=>0) (S.n+S.m)).toArray 3)).heap.size,0,none⟩) (S.n+S.m) (S.n+S.m)].toArray 140)
  exact pre _ _ _ _ (Box.new _ _ 140) (((Box.new _ _ 3).ext a2).ext a3) ((Box.new _ _ 101).ext a3) (hd.trans (a1.trans a2)).size hd.size (hd.trans a1).size (hd.trans ((a1.trans a2).trans a3))
 ·have a3:=(Ext.refl ((w0.drew.alloc (.cells (VL (fun _=>zero2) (S.n+S.m)).toArray 101)).alloc (.cells (lLine (fun _=>0) (S.n+S.m)).toArray 3))).alloc (.cells [Value.int .i64 (S.n:Int),.slice ra S.m rc,.slice none 0 0,.slice none 0 0,.slice (some ⟨(w0.drew.alloc (.cells (VL (fun _=>zero2) (S.n+S.m)).toArray 101)).heap.size,0,none⟩) (S.n+S.m) (S.n+S.m),.slice none 0 0,.slice (some ⟨w0.drew.heap.size,0,none⟩) (S.n+S.m) (S.n+S.m)].toArray 140)
  exact pre _ _ _ _ (Box.new _ _ 140) ((Box.new _ _ 3).ext a3) (((Box.new _ _ 101).ext b2).ext a3) (hd.trans (b1.trans b2)).size (hd.trans b1).size hd.size (hd.trans ((b1.trans b2).trans a3))
end Go.Proofs.Si
