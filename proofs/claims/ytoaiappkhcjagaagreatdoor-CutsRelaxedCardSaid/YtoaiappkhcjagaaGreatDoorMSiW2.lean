/- Part of the proof: SiW2, SiW3, SiW4, SiW5, SiW6, SiW7, SiW8. -/
import Derived.Test.YtoaiappkhcjagaaGreatDoorMSiK3
import Derived.Test.YtoaiappkhcjagaaGreatDoorMV7s
set_option linter.unusedVariables false
set_option linter.unusedSimpArgs false
namespace Go.Proofs.Si
open Go Go.V Go.Proofs Go.RowKit Go.Num Go.Tb Go.Proofs.Tryz
set_option maxRecDepth 100000
def midM (s:Dy) (j:Nat) (d:V2) (i:Nat):Nat->V2 :=
 fun u=>if u=s.cols j then add2 (s.val u) d else if 0<=s.line u/\s.line u<i then add2 (s.val u) (zAA d (s.a (s.line u).toNat j)) else s.val u
theorem midM_zero {S:Tb.Sys} {s:Dy} {j:Nat} {d:V2} : midM s j d 0=upd s.val (s.cols j) (add2 (s.val (s.cols j)) d):=by
 funext u
 unfold midM upd
 by_cases e:u=s.cols j
 ·rw [if_pos e,if_pos e,e]
 ·rw [if_neg e,if_neg e,if_neg (by omega)]
theorem midM_at {S:Tb.Sys} {s:Dy} (hp:Perm S s) {j i:Nat} {d:V2} (hj:j<S.n) (hi:i<S.m):midM s j d i (s.basic i)=s.val (s.basic i):=by
 unfold midM
 rw [if_neg (hp.ne hi hj),if_neg (by rw [(hp.bas i hi).2];omega)]
theorem midM_succ {S:Tb.Sys} {s:Dy} (hp:Perm S s) {j i:Nat} {d:V2} (hj:j<S.n) (hi:i<S.m) : ∀ u,u<S.n+S.m->midM s j d (i+1) u=upd (midM s j d i) (s.basic i) (add2 (s.val (s.basic i)) (zAA d (s.a i j))) u:=by
 intro u hu
 unfold upd
 by_cases e:u=s.basic i
 ·subst e
  rw [if_pos rfl]
  unfold midM
  have:=(hp.bas i hi).2
  rw [if_neg (hp.ne hi hj),if_pos (by rw [this];omega),this]
  rfl
 ·rw [if_neg e]
  unfold midM
  by_cases e1:u=s.cols j
  ·rw [if_pos e1,if_pos e1]
  ·rw [if_neg e1,if_neg e1]
   have b : ¬ (0<=s.line u/\s.line u=i):=by
    rintro⟨h1,h2⟩
    have:=((hp.lin u hu).1 h1).2
    rw [h2] at this
    exact e this.symm
   by_cases h:0<=s.line u/\s.line u<i
   ·rw [if_pos h,if_pos (by omega)]
   ·rw [if_neg h,if_neg (by omega)]
theorem midM_end {S:Tb.Sys} {s:Dy} (hp:Perm S s) {j:Nat} {d:V2} : ∀ u,u<S.n+S.m->(Tb.move s j d).val u=midM s j d S.m u:=by
 intro u hu
 unfold Tb.move midM
 simp only
 by_cases e1:u=s.cols j
 ·rw [if_pos e1,if_pos e1]
 ·rw [if_neg e1,if_neg e1]
  by_cases h:0<=s.line u
  ·rw [if_pos h,if_pos ⟨h,((hp.lin u hu).1 h).1⟩]
  ·rw [if_neg h,if_neg (fun x=>h x.1)]
theorem scale2_zero (d:V2):zAA d 0=zero2:=by unfold zAA zero2;rw [Rat.mul_zero,Rat.mul_zero]
theorem add2_zero (v:V2):add2 v zero2=v:=by unfold add2 zero2;rw [Rat.add_zero,Rat.add_zero]
theorem dg2.scale {j k:Nat} {d:V2} {q:Rat} (h:dg2 j d) (hq:dg k q):dg2 (j+k+1) (zAA d q):=⟨h.1.mul hq,h.2.mul hq⟩
theorem dg2.sub {j k:Nat} {d e:V2} (h:dg2 j d) (hq:dg2 k e):dg2 (j+k+2) (sub2 d e):=⟨h.1.sub hq.1,h.2.sub hq.2⟩
set_option maxHeartbeats 4000000 in
theorem c119 {S:Tb.Sys} {B:Nat} {T:Lay} {s:Dy} {j:Nat} {d:V2} (hf:Few S) (hp:Perm S s) (hj:j<S.n) (hv : ∀ v,v<S.n+S.m->dg2 90000000 (s.val v)) (hd:dg2 44000000 d) (ha : ∀ i,i<S.m->dg 44000000 (s.a i j)) (w:World) (hT:TabAt S B w T s) :
  Ret prog 119 #[.pointer (some ⟨T.bt,0,none⟩),.int .i64 j,vv d] w fun r w'=>r = .tuple #[]/\TabAt S B w' T (Tb.move s j d)/\Below B w w':=by
 have hB:=hT.hB
 have d2:=(yE w).alloc (.cells (vc2 d).toArray 101)
 have d6:=yN w (vc2 d) 101
 have b1:=hT.ext d2 hB
 have h:=hp.col j hj
 have e8:=hT.val.lt
 obtain⟨ac,e0,e3⟩:=b1.colsAt hj
 unfold Few at hf
 have d3:=d2.drew
 have l:=hT.ext d3 hB
 have a4:=d6.ext (yE _).drew
 refine run119 _ _ _ _ _ _ _ _ _ _ ⟨_,_,_,b1.f3,ac,e0,⟨by omega,by omega⟩,_,e3,fun K hK=>?_⟩
 refine⟨_,_,_,l.f6,_,_,_,l.f6,_,rfl,⟨by omega,by omega⟩,_,_,_,_,_,_,l.valAt h.1,_,_,_,_,_,_,a4.blk.all,yC (c163 (hv _ h.1) (hd.mono (by decide)) _ l.gg) ?_⟩
 rintro r w7 ⟨rfl,a2⟩
 have b3:=l.ext a2 l.hB
 refine⟨_,_,_,_,_,_,rfl,a2,_,rfl,⟨by omega,by omega⟩,b3.valWr h.1,hK _ ?_⟩
 have b4:=b3.valSet h.1 (add2 (s.val (s.cols j)) d)
 have d1 : ∀ k,w.heap.size<=k->k≠T.va:=fun k hk e=>by omega
 have a9:Box (setCells w7 ((⟨T.va,0,none⟩:Addr).add (s.cols j*6)) 0 (vc2 (add2 (s.val (s.cols j)) d))) w.heap.size 101 (vc2 d):=by
  rw [zAi];exact (a4.ext a2).away zAh (d1 _ yL)
 have b8:Below B w (setCells w7 ((⟨T.va,0,none⟩:Addr).add (s.cols j*6)) 0 (vc2 (add2 (s.val (s.cols j)) d))):=by
  rw [zAi];exact Below.trans (Below.mono (d3.trans a2) hB) (zAx hT.va _ _)
 refine⟨_,_,_,b4.f2,fun vals w2=>∃ i:Nat,vals=[.int .i64 i]/\i<=S.m/\TabAt S B w2 T { s with val:=midM s j d i }/\Box w2 w.heap.size 101 (vc2 d)/\Below B w w2,mu1 S.m,⟨0,rfl,Nat.zero_le _,?_,a9,b8⟩,?_⟩
 ·rw [midM_zero (S:=S)];exact b4
 rintro m w2 ⟨i,e5,hi,g,b0,b7⟩
 cases e5
 refine zAe (fun a8=>?_) (fun e6=>⟨rfl,?_,b7⟩)
 ·have f:i<S.m:=by omega
  have x:=hp.bas i f
  obtain⟨ab,d9,a7⟩:=g.basicAt f
  replace a7:w2.cell? (ab.add (i*1))=some (.int .i64 (s.basic i:Int)):=a7
  obtain⟨aa,d8,e2⟩:=g.aAt f
  obtain⟨aq,e1,e4⟩:=g.qAt f hj
  refine⟨ab,d9,⟨by omega,a8⟩,_,a7,_,_,_,g.f5,aa,d8,⟨by omega,a8⟩,_,_,_,e2,aq,e1,⟨by omega,by omega⟩,_,_,_,e4,yC (c75 ((ha i f).mono (by decide)) w2 g.gg) ?_⟩
  rintro r w3 ⟨rfl,a0⟩
  refine⟨_,rfl,?_⟩
  have a6:=g.ext a0 g.hB
  have a5:=Below.trans b7 (Below.mono a0 g.hB)
  have step : ∀ w4,TabAt S B w4 T { s with val:=upd (midM s j d i) (s.basic i) (add2 (s.val (s.basic i)) (zAA d (s.a i j))) }->TabAt S B w4 T { s with val:=midM s j d (i+1) }:=fun w4 h4 =>
   h4.congr (fun _ _=>rfl) (fun _ _=>rfl) (fun _ _=>rfl) (fun _ _ _ _=>rfl) fun v hv=>midM_succ hp hj f v hv
  refine zAb (fun e7=>?_) (fun hz=>?_)
  ·intro K1 d7
   have b:=a6.drew a6.hB
   obtain⟨d4,b5,b9⟩:=b.aAt f
   obtain⟨d5,b6,d0⟩:=b.qAt f hj
   have a3:=(b0.ext a0).ext (yE _).drew
   have p:=b.valAt x.1
   have p:vcells w3.drew ((⟨T.va,0,none⟩:Addr).add (s.basic i*6)) 0 (vc2 (s.val (s.basic i))):=by
    have:=p
    simp only [midM_at hp hj f] at this
    exact this
   refine⟨_,_,_,b.f6,_,_,_,b.f6,_,rfl,⟨by omega,by omega⟩,_,_,_,_,_,_,p,_,_,_,_,_,_,a3.blk.all,_,_,_,b.f5,d4,b5,⟨by omega,a8⟩,_,_,_,b9,d5,b6,⟨by omega,by omega⟩,_,_,_,d0,yC (c121 (hd.mono (by decide)) ((ha i f).mono (by decide)) _ b.gg) ?_⟩
   rintro r w5 ⟨rfl,o⟩
   have u:=b.ext o b.hB
   refine⟨_,_,_,_,_,_,rfl,o,yC (c163 (hv _ x.1) ((hd.scale (ha i f)).mono (by decide)) _ u.gg) ?_⟩
   rintro r w6 ⟨rfl,a1⟩
   have b2:=u.ext a1 u.hB
   refine⟨_,_,_,_,_,_,rfl,o.trans a1,_,rfl,⟨by omega,by omega⟩,b2.valWr x.1,d7 _ ?_⟩
   rw [zAf (by omega)]
   refine⟨⟨i+1,rfl,f,step _ (b2.valSet x.1 _),?_,?_⟩,by simp only [mu1,yT];omega⟩
   ·rw [zAi];exact ((a3.ext o).ext a1).away zAh (d1 _ yL)
   ·rw [zAi]
    exact Below.trans (Below.trans (Below.trans a5.drew (Below.mono o b.hB)) (Below.mono a1 u.hB)) (zAx hT.va _ _)
  ·have hz:s.a i j=0:=sgnQ_zero.1 (by simpa using hz)
   rw [zAf (by omega)]
   refine⟨⟨i+1,rfl,f,a6.congr (fun _ _=>rfl) (fun _ _=>rfl) (fun _ _=>rfl) (fun _ _ _ _=>rfl) fun v hv=>?_,b0.ext a0,a5⟩,by simp only [mu1,yT];omega⟩
   show midM s j d (i+1) v=midM s j d i v
   rw [midM_succ hp hj f v hv,hz,scale2_zero,add2_zero]
   by_cases e:v=s.basic i
   ·rw [e,zA1,midM_at hp hj f]
   ·rw [zAs _ e]
 ·have e:i=S.m:=by omega
  subst e
  exact g.congr (fun _ _=>rfl) (fun _ _=>rfl) (fun _ _=>rfl) (fun _ _ _ _=>rfl) fun v hv=>midM_end hp v hv
def part (Q A:Nat->Rat) (k:Nat):Nat->Rat:=fun c=>if c<k then Q c else A c
theorem zCC (Q A:Nat->Rat):part Q A 0=A:=by funext c;exact if_neg (by omega)
theorem zCb (Q A:Nat->Rat) (k:Nat):upd (part Q A k) k (Q k)=part Q A (k+1):=by
 funext c
 unfold upd part
 by_cases e:c=k
 ·rw [if_pos e,if_pos (by omega),e]
 ·rw [if_neg e]
  by_cases h:c<k
  ·rw [if_pos h,if_pos (by omega)]
  ·rw [if_neg h,if_neg (by omega)]
theorem part_same {Q A:Nat->Rat} {k:Nat} (h:Q k=A k):part Q A (k+1)=part Q A k:=by
 rw [<- zCb]
 funext c
 unfold upd
 by_cases e:c=k
 ·rw [if_pos e,part,if_neg (by omega),e,h]
 ·rw [if_neg e]
theorem zGa (Q A:Nat->Rat) (k:Nat):part Q A k k=A k:=if_neg (by omega)
theorem zFZ {Q A:Nat->Rat} {n c:Nat} (h:c<n):part Q A n c=Q c:=if_pos h
theorem upd_upd {α:Type} (f:Nat->α) (i:Nat) (x y:α):upd (upd f i x) i y=upd f i y:=by
 funext k
 unfold upd
 split <;> rfl
theorem upd_self {α:Type} (f:Nat->α) (i:Nat):upd f i (f i)=f:=by
 funext k
 unfold upd
 split
 ·next h=>rw [h]
 ·rfl
def midP (a:Nat->Nat->Rat) (i j l:Nat):Nat->Nat->Rat:=fun k=>if k<l\/k=i then pivA a i j k else a k
theorem midP_row {a:Nat->Nat->Rat} {i j l:Nat} : midP a i j l i=pivA a i j i:=if_pos (.inr rfl)
theorem midP_at {a:Nat->Nat->Rat} {i j l:Nat} (h:l≠i):midP a i j l l=a l:=if_neg (by omega)
theorem midP_skip {a:Nat->Nat->Rat} {i j l:Nat} (h:l=i\/a l j=0):midP a i j (l+1)=midP a i j l:=by
 funext k c
 unfold midP
 by_cases e:k=l
 ·by_cases e2:k=i
  ·rw [if_pos (.inr e2),if_pos (.inr e2)]
  ·subst e
   rcases h with h | h
   ·exact absurd h e2
   ·rw [if_pos (by omega),if_neg (by omega)]
    unfold pivA
    rw [if_neg e2,h]
    by_cases hc:c=j
    ·rw [if_pos hc,hc,h,Rat.zero_mul]
    ·rw [if_neg hc,Rat.zero_mul,Rat.add_zero]
 ·by_cases h1:k<l\/k=i
  ·rw [if_pos h1,if_pos (by omega)]
  ·rw [if_neg h1,if_neg (by omega)]
theorem midP_succ {a:Nat->Nat->Rat} {i j l n:Nat} (h:l≠i) : ∀ k c,c<n->midP a i j (l+1) k c=upd (midP a i j l) l (part (pivA a i j l) (a l) n) k c:=by
 intro k c hc
 unfold upd
 by_cases e:k=l
 ·rw [if_pos e,zFZ hc,midP,if_pos (by omega),e]
 ·rw [if_neg e]
  unfold midP
  by_cases h1:k<l\/k=i
  ·rw [if_pos h1,if_pos (by omega)]
  ·rw [if_neg h1,if_neg (by omega)]
theorem TabAt.qAt' {S:Tb.Sys} {B:Nat} {w:World} {T:Lay} {s:Dy} (h:TabAt S B w T s) {i j b:Nat} (hi:i<S.m) (hj:j<S.n) (hb:T.rowA i=some ⟨b,0,none⟩):vcells w ((⟨b,0,none⟩:Addr).add (j*3)) 0 (qc (s.a i j)):=by
 obtain⟨ad,ha,hv⟩:=h.qAt hi hj
 rw [hb] at ha;cases ha
 exact hv
set_option maxHeartbeats 8000000 in
theorem c123 {S:Tb.Sys} {B:Nat} {T:Lay} {s:Dy} {i j:Nat} (hf:Few S) (hp:Perm S s) (hi:i<S.m) (hj:j<S.n) (h0:s.a i j≠0) (ha : ∀ i,i<S.m->∀ j,j<S.n->dg 20000000 (s.a i j)) (w:World) (hT:TabAt S B w T s) :
  Ret prog 123 #[.pointer (some ⟨T.bt,0,none⟩),.int .i64 i,.int .i64 j] w fun r w'=>r = .tuple #[]/\TabAt S B w' T (pivot s i j)/\Below B w w':=by
 have hB:=hT.hB
 unfold Few at hf
 have k8:=hp.col j hj
 have k6:=hp.bas i hi
 obtain⟨aa,m1,m6⟩:=hT.aAt hi
 obtain⟨b,hb,j3,m4⟩:=hT.rowBlk hi hj
 have g3:=(ha i hi j hj).inv
 have h7:=m4.lt
 refine run123 _ _ _ _ _ ⟨_,_,_,hT.f5,aa,m1,⟨by omega,by omega⟩,_,_,_,m6,_,hb,⟨by omega,by omega⟩,_,_,_,hT.qAt' hi hj hb,yC (c122 ((ha i hi j hj).mono (by decide)) h0 w hT.gg) ?_⟩
 rintro r w1 ⟨rfl,i0⟩
 have hN:=yN w1 zq 88
 have i9:Ext w (setCells (w1.alloc (.cells zq.toArray 88)) ⟨w1.heap.size,0,none⟩ 0 (qc (s.a i j)⁻¹)):=(i0.alloc _).put i0.size _ _
 have k1:=hT.ext i9 hB
 have j7:=hN.put (qc (s.a i j)⁻¹) (by rfl)
 have l3:=i0.size
 have inv_away : ∀ {w2:World} {o:Nat} {L:List Value},Box w2 w1.heap.size 88 (qc (s.a i j)⁻¹)->∀ c,c<w.heap.size->Box (setCells w2 ⟨c,o,none⟩ 0 L) w1.heap.size 88 (qc (s.a i j)⁻¹):=fun h c hc=>h.away zAh (by omega)
 refine⟨_,_,_,rfl,hN.blk.writable (by decide),fun vals w2=>∃ k:Nat,vals=[.int .i64 k]/\k<=S.n/\TabAt S B w2 T { s with a:=upd s.a i (part (pivA s.a i j i) (s.a i) k) }/\Box w2 w1.heap.size 88 (qc (s.a i j)⁻¹)/\Below B w w2,mu1 S.n,⟨0,rfl,Nat.zero_le _,?_,j7,Below.mono i9 hB⟩,?_⟩
 ·rw [zCC,upd_self];exact k1
 rintro m w2 ⟨k,i8,hk,a0,d5,d0⟩
 cases i8
 have b8 : ∀ c,(upd s.a i (part (pivA s.a i j i) (s.a i) k)) i c=part (pivA s.a i j i) (s.a i) k c:=fun c=>by rw [zA1]
 refine zAe (fun d9=>?_) (fun k9=>?_)
 ·have f:k<S.n:=by omega
  have step : ∀ w4,TabAt S B w4 T { s with a:=upd (upd s.a i (part (pivA s.a i j i) (s.a i) k)) i (upd ((upd s.a i (part (pivA s.a i j i) (s.a i) k)) i) k (pivA s.a i j i k)) }->TabAt S B w4 T { s with a:=upd s.a i (part (pivA s.a i j i) (s.a i) (k+1)) }:=fun w4 h4=>by
   rw [zA1,upd_upd,zCb] at h4;exact h4
  refine zAb (fun g=>?_) (fun g=>?_)
  ·have g:k=j:=by
    have:(k:Int)=j:=by simpa using g
    omega
   have a9:pivA s.a i j i k=(s.a i j)⁻¹:=by unfold pivA;rw [if_pos rfl,if_pos g]
   refine⟨_,_,_,d5.blk.all,_,hb,⟨by omega,d9⟩,a0.qWr hi f hb,?_⟩
   have b0:=a0.qSet hi f hb (pivA s.a i j i k)
   have b0:=step _ b0
   rw [a9] at b0
   rw [zAf (by omega)]
   refine⟨⟨k+1,rfl,f,b0,?_,?_⟩,by simp only [mu1,yT];omega⟩
   ·rw [zAi];exact inv_away d5 b h7
   ·rw [zAi];exact Below.trans d0 (zAx j3 _ _)
  ·have g:k≠j:=by
    have : ¬ (k:Int)=j:=by simpa using g
    omega
   have a9:pivA s.a i j i k = -(s.a i k*(s.a i j)⁻¹):=by unfold pivA;rw [if_pos rfl,if_neg g]
   have hq:=a0.qAt' hi f hb
   simp only [b8,zGa] at hq
   refine⟨_,hb,⟨by omega,d9⟩,_,_,_,hq,yC (c75 ((ha i hi k f).mono (by decide)) w2 a0.gg) ?_⟩
   rintro r w3 ⟨rfl,i1⟩
   have b0:=a0.ext i1 a0.hB
   have h8:=d5.ext i1
   have h5:=Below.trans d0 (Below.mono i1 a0.hB)
   refine⟨_,rfl,zAb (fun m8=>?_) (fun hz=>?_)⟩
   ·intro K hK
    have b3:=b0.drew b0.hB
    have hq:=b3.qAt' hi f hb
    simp only [b8,zGa] at hq
    refine⟨_,hb,⟨by omega,d9⟩,_,_,_,hq,_,_,_,(h8.ext (yE _).drew).blk.all,yC (c113 ((ha i hi k f).mono (by decide)) (g3.mono (by decide)) _ b3.gg) ?_⟩
    rintro r w5 ⟨rfl,i2⟩
    have d7:=b3.ext i2 b3.hB
    refine⟨_,_,_,rfl,yC (c133 (((ha i hi k f).mul g3).mono (by decide)) _ d7.gg) ?_⟩
    rintro r w6 ⟨rfl,i5⟩
    have k3:=d7.ext i5 d7.hB
    refine⟨_,_,_,rfl,_,hb,⟨by omega,d9⟩,k3.qWr hi f hb,hK _ ?_⟩
    have a2:=step _ (k3.qSet hi f hb (pivA s.a i j i k))
    rw [a9] at a2
    rw [zAf (by omega)]
    refine⟨⟨k+1,rfl,f,a2,?_,?_⟩,by simp only [mu1,yT];omega⟩
    ·rw [zAi];exact inv_away (((h8.ext (yE _).drew).ext i2).ext i5) b h7
    ·rw [zAi];exact Below.trans (Below.trans (Below.trans h5.drew (Below.mono i2 b3.hB)) (Below.mono i5 d7.hB)) (zAx j3 _ _)
   ·have hz:s.a i k=0:=sgnQ_zero.1 (by simpa using hz)
    rw [zAf (by omega)]
    refine⟨⟨k+1,rfl,f,?_,h8,h5⟩,by simp only [mu1,yT];omega⟩
    rw [part_same (by rw [a9,hz,Rat.zero_mul,Rat.neg_zero])]
    exact b0
 have ek:k=S.n:=by omega
 subst ek
 have a0:TabAt S B w2 T { s with a:=midP s.a i j 0 }:=a0.congr (fun _ _=>rfl) (fun _ _=>rfl) (fun _ _=>rfl) (fun l hl c hc=>by
  show midP s.a i j 0 l c=upd s.a i (part (pivA s.a i j i) (s.a i) S.n) l c
  unfold midP upd
  by_cases e:l=i
  ·rw [if_pos (.inr e),if_pos e,zFZ hc,e]
  ·rw [if_neg (by omega),if_neg e]) fun _ _=>rfl
 refine⟨_,_,_,a0.f5,fun vals w3=>∃ l:Nat,vals=[.int .i64 l]/\l<=S.m/\TabAt S B w3 T { s with a:=midP s.a i j l }/\Box w3 w1.heap.size 88 (qc (s.a i j)⁻¹)/\Below B w w3/\w.heap.size<=w3.heap.size,mu1 S.m,⟨0,rfl,Nat.zero_le _,a0,d5,d0,by have:=d5.lt;omega⟩,?_⟩
 clear k1 j7 i9 hN d5 d0 b8 k9 a0
 rintro m w7 ⟨l,n0,hl,a2,j9,h6,d4⟩
 cases n0
 refine zAe (fun d9=>?_) (fun k9=>?_)
 ·have u:l<S.m:=by omega
  obtain⟨a6,m0,m5⟩:=a2.aAt u
  obtain⟨c,a3,j6,n7⟩:=a2.rowBlk u hj
  have n5:c<w.heap.size:=by
   obtain⟨c',k7,_,m7⟩:=hT.rowBlk u hj
   rw [a3] at k7;cases k7
   exact m7.lt
  have m9:vcells w7 ((⟨c,0,none⟩:Addr).add (j*3)) 0 (qc (midP s.a i j l l j)):=a2.qAt' u hj a3
  have hN:=yN w7 zq 88
  have e0:Ext w7 (setCells (w7.alloc (.cells zq.toArray 88)) ⟨w7.heap.size,0,none⟩ 0 (qc (midP s.a i j l l j))):=((yE w7).alloc _).put yL _ _
  have g0:=hN.put (qc (midP s.a i j l l j)) (by rfl)
  have b6:=a2.ext e0 a2.hB
  have g2:=j9.ext e0
  have d1:=Below.trans h6 (Below.mono e0 a2.hB)
  have n8:=j9.lt
  refine⟨a6,m0,⟨by omega,d9⟩,_,_,_,m5,_,a3,⟨by omega,by omega⟩,_,_,_,m9,hN.blk.writable (by decide),fun K1 k0=>?_⟩
  have skip : ∀ w8,(l=i\/s.a l j=0)->TabAt S B w8 T { s with a:=midP s.a i j l }->Box w8 w1.heap.size 88 (qc (s.a i j)⁻¹)->Below B w w8->w.heap.size<=w8.heap.size->K1 [.bool true] w8:=by
   intro w8 hs h1 h2 h3 h4
   refine k0 true w8 ?_
   rw [cond_true,zAf (by omega)]
   exact⟨⟨l+1,rfl,u,by rw [midP_skip hs];exact h1,h2,h3,h4⟩,by simp only [mu1,yT];omega⟩
  refine zAb (fun a1=>?_) (fun a1=>?_)
  ·have a1:(l:Int)=i:=by simpa using a1
   exact skip _ (.inl (by omega)) b6 g2 d1 (Nat.le_trans d4 e0.size)
  have a1 : ¬ (l:Int)=i:=by simpa using a1
  have a1:l≠i:=by omega
  rw [midP_at a1] at g0 b6 g2 d1 e0 ⊢
  refine⟨_,_,_,g0.blk.all,yC (c75 ((ha l u j hj).mono (by decide)) _ b6.gg) ?_⟩
  rintro r n4 ⟨rfl,a8⟩
  have e5:=b6.ext a8 b6.hB
  have e4:=g2.ext a8
  have g5:=g0.ext a8
  have b7:=Below.trans d1 (Below.mono a8 b6.hB)
  have i7:w.heap.size<=n4.heap.size:=Nat.le_trans d4 (e0.trans a8).size
  refine⟨_,rfl,?_⟩
  by_cases hz:s.a l j=0
  ·have e:(Tb.sgnQ (s.a l j)==0)=true:=by rw [sgnQ_zero.2 hz];rfl
   rw [e]
   exact skip _ (.inr hz) e5 e4 b7 i7
  have e:(Tb.sgnQ (s.a l j)==0)=false:=by
   rw [beq_eq_false_iff_ne];exact fun h=>hz (sgnQ_zero.1 h)
  rw [e]
  refine k0 false _ ?_
  rw [cond_false]
  have box_away : ∀ {w2:World} {d o:Nat} {q:Rat} {L:List Value},w.heap.size<=d->Box w2 d 88 (qc q)->Box (setCells w2 ⟨c,o,none⟩ 0 L) d 88 (qc q):=fun hd h=>h.away zAh (by omega)
  refine⟨fun vals w9=>∃ k:Nat,vals=[.int .i64 k]/\k<=S.n/\TabAt S B w9 T { s with a:=upd (midP s.a i j l) l (part (pivA s.a i j l) (s.a l) k) }/\Box w9 w1.heap.size 88 (qc (s.a i j)⁻¹)/\Box w9 w7.heap.size 88 (qc (s.a l j))/\Below B w w9,mu1 S.n,⟨0,rfl,Nat.zero_le _,?_,e4,g5,b7⟩,?_⟩
  ·rw [zCC,<- midP_at a1 (a:=s.a) (j:=j),upd_self];exact e5
  clear b6 g2 g0 d1 e5 e4 g5 b7 a8
  rintro m w9 ⟨k,i8,hk,a4,d6,g1,e9⟩
  cases i8
  have f9 : ∀ x,(upd (midP s.a i j l) l (part (pivA s.a i j l) (s.a l) k)) i x=pivA s.a i j i x:=fun x=>by rw [zAs _ (fun e=>a1 e.symm),midP_row]
  have i6 : ∀ x,(upd (midP s.a i j l) l (part (pivA s.a i j l) (s.a l) k)) l x=part (pivA s.a i j l) (s.a l) k x:=fun x=>by rw [zA1]
  refine zAe (fun b5=>?_) (fun n6=>?_)
  ·have f:k<S.n:=by omega
   have step : ∀ w4,TabAt S B w4 T { s with a:=upd (upd (midP s.a i j l) l (part (pivA s.a i j l) (s.a l) k)) l (upd ((upd (midP s.a i j l) l (part (pivA s.a i j l) (s.a l) k)) l) k (pivA s.a i j l k)) }->TabAt S B w4 T { s with a:=upd (midP s.a i j l) l (part (pivA s.a i j l) (s.a l) (k+1)) }:=fun w4 h4=>by
    rw [zA1,upd_upd,zCb] at h4;exact h4
   refine zAb (fun g=>?_) (fun g=>?_)
   ·have g:(k:Int)=j:=by simpa using g
    have g:k=j:=by omega
    have a9:pivA s.a i j l k=s.a l j*(s.a i j)⁻¹:=by unfold pivA;rw [if_neg a1,if_pos g]
    refine⟨_,_,_,g1.blk.all,_,_,_,d6.blk.all,yC (c113 ((ha l u j hj).mono (by decide)) (g3.mono (by decide)) _ a4.gg) ?_⟩
    rintro r n9 ⟨rfl,d2⟩
    have g6:=a4.ext d2 a4.hB
    refine⟨_,_,_,rfl,_,a3,⟨by omega,b5⟩,g6.qWr u f a3,?_⟩
    have a5:=step _ (g6.qSet u f a3 (pivA s.a i j l k))
    rw [a9] at a5
    rw [zAf (by omega)]
    refine⟨⟨k+1,rfl,f,a5,?_,?_,?_⟩,by simp only [mu1,yT];omega⟩
    ·rw [zAi];exact box_away l3 (d6.ext d2)
    ·rw [zAi];exact box_away d4 (g1.ext d2)
    ·rw [zAi];exact Below.trans (Below.trans e9 (Below.mono d2 a4.hB)) (zAx j6 _ _)
   ·have g : ¬ (k:Int)=j:=by simpa using g
    have g:k≠j:=by omega
    have l0:pivA s.a i j i k = -(s.a i k*(s.a i j)⁻¹):=by unfold pivA;rw [if_pos rfl,if_neg g]
    have a9:pivA s.a i j l k=s.a l k+s.a l j*pivA s.a i j i k:=by rw [l0];unfold pivA;rw [if_neg a1,if_neg g]
    have h9:dg 50000000 (pivA s.a i j i k):=by rw [l0];exact (((ha i hi k f).mul g3).neg).mono (by decide)
    have hq:=a4.qAt' hi f hb
    simp only [f9] at hq
    refine⟨_,hb,⟨by omega,b5⟩,_,_,_,hq,yC (c75 (h9.mono (by decide)) _ a4.gg) ?_⟩
    rintro r n3 ⟨rfl,a7⟩
    have a5:=a4.ext a7 a4.hB
    have e8:=Below.trans e9 (Below.mono a7 a4.hB)
    refine⟨_,rfl,zAb (fun m8=>?_) (fun j0=>?_)⟩
    ·intro K2 l6
     have hd:=(yE n3).drew
     have v:=a5.drew a5.hB
     have l1:=v.qAt' hi f hb
     have l2:=v.qAt' u f a3
     simp only [f9] at l1
     simp only [i6,zGa] at l2
     have g4:=(g1.ext a7).ext hd
     have j8:=(d6.ext a7).ext hd
     refine⟨_,a3,⟨by omega,b5⟩,_,_,_,l2,_,_,_,g4.blk.all,_,hb,⟨by omega,b5⟩,_,_,_,l1,yC (c113 ((ha l u j hj).mono (by decide)) (h9.mono (by decide)) _ v.gg) ?_⟩
     rintro r o0 ⟨rfl,b4⟩
     have b9:=v.ext b4 v.hB
     refine⟨_,_,_,rfl,b4,yC (c112 ((ha l u k f).mono (by decide)) (((ha l u j hj).mul h9).mono (by decide)) _ b9.gg) ?_⟩
     rintro r o1 ⟨rfl,d3⟩
     have g7:=b9.ext d3 b9.hB
     refine⟨_,_,_,rfl,_,a3,⟨by omega,b5⟩,g7.qWr u f a3,l6 _ ?_⟩
     have g8:=step _ (g7.qSet u f a3 (pivA s.a i j l k))
     rw [a9] at g8
     rw [zAf (by omega)]
     refine⟨⟨k+1,rfl,f,g8,?_,?_,?_⟩,by simp only [mu1,yT];omega⟩
     ·rw [zAi];exact box_away l3 ((j8.ext b4).ext d3)
     ·rw [zAi];exact box_away d4 ((g4.ext b4).ext d3)
     ·rw [zAi];exact Below.trans (Below.trans (Below.trans e8.drew (Below.mono b4 v.hB)) (Below.mono d3 b9.hB)) (zAx j6 _ _)
    ·have j0:pivA s.a i j i k=0:=sgnQ_zero.1 (by simpa using j0)
     rw [zAf (by omega)]
     refine⟨⟨k+1,rfl,f,?_,d6.ext a7,g1.ext a7,e8⟩,by simp only [mu1,yT];omega⟩
     rw [part_same (by rw [a9,j0,Rat.mul_zero,Rat.add_zero])]
     exact a5
  ·have ek:k=S.n:=by omega
   subst ek
   rw [zAf (by omega)]
   refine⟨⟨l+1,rfl,u,?_,d6,e9,by have:=d6.lt;omega⟩,by simp only [mu1,yT];omega⟩
   exact a4.congr (fun _ _=>rfl) (fun _ _=>rfl) (fun _ _=>rfl) (fun x hx c hc=>midP_succ a1 x c hc) fun _ _=>rfl
 ·have el:l=S.m:=by omega
  subst el
  have d8:=a2.drew a2.hB
  have e7:=d8.drew d8.hB
  obtain⟨j1,k4,f7⟩:=d8.basicAt hi
  obtain⟨j2,k5,f8⟩:=d8.colsAt hj
  replace f7:w7.drew.cell? (j1.add (i*1))=some (.int .i64 (s.basic i:Int)):=f7
  replace f8:w7.drew.cell? (j2.add (j*1))=some (.int .i64 (s.cols j:Int)):=f8
  obtain⟨b1,m2,j4,l4,k2⟩:=e7.basicSet hi (s.cols j)
  obtain⟨b2,m3,j5,l5,g9⟩:=k2.colsSet hj (s.basic i)
  refine⟨_,_,_,d8.f2,j1,k4,⟨by omega,by omega⟩,_,f7,_,_,_,d8.f3,j2,k5,⟨by omega,by omega⟩,_,f8,fun K3 l7=>?_⟩
  refine⟨_,_,_,e7.f2,_,_,_,e7.f3,_,m2,⟨by omega,by omega⟩,l4,_,m3,⟨by omega,by omega⟩,l5,l7 _ fun K4 l8=>?_⟩
  have e6:=g9.drew g9.hB
  obtain⟨n1,l9⟩:=e6.lineSet k6.1 (-1)
  obtain⟨n2,d7⟩:=l9.lineSet k8.1 (i:Int)
  refine⟨_,_,_,e6.f4,_,_,_,e6.f4,_,rfl,⟨by omega,by omega⟩,n1,_,rfl,⟨by omega,by omega⟩,n2,l8 _ ⟨rfl,?_,?_⟩⟩
  ·refine d7.congr (fun _ _=>rfl) (fun _ _=>rfl) (fun _ _=>rfl) (fun x hx c hc=>?_) fun _ _=>rfl
   show pivA s.a i j x c=midP s.a i j S.m x c
   rw [midP,if_pos (.inl hx)]
  ·have e1:=Below.setCell h6.drew.drew (p:=((⟨b1,0,none⟩:Addr).add (i*1))) (by rw [zAi];exact j4) (.int .i64 (s.cols j:Int))
   have e2:=Below.setCell e1 (p:=((⟨b2,0,none⟩:Addr).add (j*1))) (by rw [zAi];exact j5) (.int .i64 (s.basic i:Int))
   have e3:=Below.setCell e2.drew (p:=((⟨T.la,0,none⟩:Addr).add (s.basic i*1))) (by rw [zAi];exact hT.la) (.int .i64 (-1))
   exact Below.setCell e3 (p:=((⟨T.la,0,none⟩:Addr).add (s.cols j*1))) (by rw [zAi];exact hT.la) (.int .i64 (i:Int))
theorem ov_eq (o:Option V2):ov o = .tuple #[vv (o.getD zero2),.bool o.isSome]:=by cases o <;> rfl
def vioV:Option (Nat × V2 × Bool)->Value
 | none => .tuple #[.int .i64 (-1),vv zero2,.bool false]
 | some (i,b,up) => .tuple #[.int .i64 (i:Int),vv b,.bool up]
set_option maxHeartbeats 4000000 in
theorem c116 {S:Tb.Sys} {B:Nat} {T:Lay} {s:Dy} (hf:Few S) (hS:Short S 90000000) (hp:Perm S s) (hv : ∀ v,v<S.n+S.m->dg2 90000000 (s.val v)) (w:World) (hT:TabAt S B w T s) :
  Ret prog 116 #[.pointer (some ⟨T.bt,0,none⟩)] w fun r w'=>r=vioV (viol S s)/\Ext w w':=by
 have hB:=hT.hB
 have b5:=(yE w).alloc (.cells zv.toArray 101)
 have hN:=yN w zv 101
 have b9:=hT.ext b5 hB
 have d0:=hf
 unfold Few at d0
 refine run116 _ _ _ ⟨_,b9.f0,fun vals w1=>∃ v f:Nat,vals=[.int .i64 v]/\v+f=S.n+S.m/\S.n<=v/\violF S s f v=viol S s/\Box w1 w.heap.size 101 zv/\Ext w w1,mu1 (S.n+S.m),⟨S.n,S.m,rfl,rfl,yL,rfl,hN,b5⟩,?_⟩
 rintro m w1 ⟨v,f,d1,d2,hn,b,j,o⟩
 cases d1
 have h:=hT.ext o hB
 refine⟨_,_,_,h.f4,zAe (fun d4=>?_) (fun d3=>?_)⟩
 ·have i:v<S.n+S.m:=by omega
  obtain⟨f,rfl⟩ : ∃ g,f=g+1:=⟨f - 1,by omega⟩
  rw [violF] at b
  have a6:=h.lineAt (v:=v) i
  refine⟨_,_,_,h.f4,_,rfl,⟨by omega,by omega⟩,_,a6,zAe (fun b3=>?_) (fun b4=>?_)⟩
  ·rw [if_pos b3] at b
   rw [zAf (by omega)]
   exact⟨⟨v+1,f,rfl,by omega,by omega,b,j,o⟩,by simp only [mu1,yT];omega⟩
  rw [if_neg b4] at b
  have b1:s.line v=((s.line v).toNat:Int):=by omega
  refine yC (c159 hf i w1 h h.hB h.gg) ?_
  rintro r w2 ⟨rfl,a4⟩
  rw [ov_eq]
  have x:Ext w1 (setCells (w2.alloc (.cells zv.toArray 101)) ⟨w2.heap.size,0,none⟩ 0 (vc2 ((upper S v).getD zero2))).drew:=((a4.alloc _).put a4.size _ _).drew
  have hU:=((yN w2 zv 101).put (vc2 ((upper S v).getD zero2)) (by rfl)).ext (yE _).drew
  have d5:w.heap.size<w2.heap.size:=Nat.lt_of_lt_of_le j.lt a4.size
  have b7:=j.ext x
  have a1:=h.ext x h.hB
  refine⟨_,_,_,_,_,_,_,rfl,(yN w2 zv 101).blk.writable (by decide),fun K hK=>?_⟩
  have low : ∀ w3,Ext w1 w3->(match lower S v with | some l=>if cmp2 (s.val v) l<0 then some (l,true) else none | none=>none)=zCa S s v->K [.bool false] w3:=by
   intro w3 p d
   refine hK false w3 ?_
   rw [cond_false]
   have u:=h.ext p h.hB
   refine yC (c161 hf i w3 u u.hB u.gg) ?_
   rintro r w4 ⟨rfl,a9⟩
   rw [ov_eq]
   have k:Ext w3 (setCells (w4.alloc (.cells zv.toArray 101)) ⟨w4.heap.size,0,none⟩ 0 (vc2 ((lower S v).getD zero2))).drew:=((a9.alloc _).put a9.size _ _).drew
   have hL:=((yN w4 zv 101).put (vc2 ((lower S v).getD zero2)) (by rfl)).ext (yE _).drew
   have a2:=u.ext k u.hB
   refine⟨_,_,_,_,_,_,_,rfl,(yN w4 zv 101).blk.writable (by decide),fun K1 a8=>?_⟩
   cases hlo:lower S v with
   | none =>
    rw [hlo] at d
    rw [<- d] at b
    refine a8 false _ ?_
    rw [cond_false,zAf (by omega)]
    rw [hlo] at k
    exact⟨⟨v+1,f,rfl,by omega,by omega,b,(j.ext p).ext k,(o.trans p).trans k⟩,by simp only [mu1,yT];omega⟩
   | some l =>
    rw [hlo] at d k hL a2
    refine⟨_,_,_,a2.f6,_,rfl,⟨by omega,by omega⟩,_,_,_,_,_,_,a2.valAt (v:=v) i,_,_,_,_,_,_,hL.blk.all,yC (c160 (hv v i) (zEy hS i hlo) _ a2.gg) ?_⟩
    rintro r w6 ⟨rfl,a3⟩
    refine⟨_,rfl,a8 _ _ (zAe (fun b2=>?_) (fun b0=>?_))⟩
    ·have d:some (l,true)=zCa S s v:=by rw [<- d];exact (if_pos b2).symm
     rw [<- d] at b
     have a0:=((p.trans k).trans a3).drew
     have b8:=j.ext a0
     have b6:=(hL.ext a3).ext (yE _).drew
     obtain⟨p1,p2,p3⟩:=vput l b8 (o.trans a0) yL
     refine⟨_,_,_,_,_,_,b6.blk.all,p1,_,_,_,_,_,_,p2,?_,p3⟩
     rw [<- b,b1];rfl
    ·have d:none=zCa S s v:=by rw [<- d];exact (if_neg b0).symm
     rw [<- d] at b
     rw [zAf (by omega)]
     exact⟨⟨v+1,f,rfl,by omega,by omega,b,((j.ext p).ext k).ext a3,((o.trans p).trans k).trans a3⟩,by simp only [mu1,yT];omega⟩
  have a7:upper S v=some (ub S v):=by rw [upper,if_neg (by omega)]
  rw [a7] at x hU a1 b7 ⊢
  refine⟨_,_,_,a1.f6,_,rfl,⟨by omega,by omega⟩,_,_,_,_,_,_,a1.valAt (v:=v) i,_,_,_,_,_,_,hU.blk.all,yC (c160 (hv v i) (ub_dg hS hn i) _ a1.gg) ?_⟩
  rintro r w7 ⟨rfl,a5⟩
  refine⟨_,rfl,?_⟩
  by_cases hc:cmp2 (s.val v) (ub S v)>0
  ·rw [decide_eq_true hc]
   refine hK true _ ?_
   rw [cond_true]
   have d:some (ub S v,false)=zCa S s v:=by rw [zCa,a7];exact (if_pos hc).symm
   rw [<- d] at b
   have a0:=(x.trans a5).drew
   obtain⟨p1,p2,p3⟩:=vput (ub S v) (j.ext a0) (o.trans a0) yL
   refine⟨_,_,_,_,_,_,((hU.ext a5).ext (yE _).drew).blk.all,p1,_,_,_,_,_,_,p2,?_,p3⟩
   rw [<- b,b1];rfl
  ·rw [decide_eq_false hc]
   exact low _ (x.trans a5) (by rw [zCa,a7];exact (if_neg hc).symm)
 ·have:f=0:=by omega
  subst this
  rw [violF] at b
  obtain⟨p1,p2,p3⟩:=vput zero2 j o yL
  rw [vc2_zero] at p2 p3
  refine⟨p1,_,_,_,_,_,_,p2,?_,p3⟩
  rw [<- b,vioV,zDK]
def bestV:Option Nat->Int
 | none => -1
 | some k=>k
theorem sgn_dec (q:Rat):decide (Tb.sgnQ q>0)=decide (0<q):=by
 rw [Bool.eq_iff_iff,decide_eq_true_iff,decide_eq_true_iff];exact sgnQ_pos
theorem sgn_ne (q:Rat):(Tb.sgnQ q != 0)=decide (q≠0):=by
 rw [Bool.eq_iff_iff,bne_iff_ne,decide_eq_true_iff]
 exact not_congr sgnQ_zero
theorem cond_eq {p:Prop} {b c:Bool} {A D:Prop} (h:b=c) (h1:c=true->A) (h2:c=false->D):bif b then A else D:=by
 subst h
 cases b
 ·exact h2 rfl
 ·exact h1 rfl
theorem first_next {cols:Nat->Nat} {p:Nat->Bool} {k:Nat} {x:Bool} (hx:x=(p k&&zDG cols k (first cols p k))) :
  bestV (first cols p (k+1))=bif x then (k:Int) else bestV (first cols p k):=by
 rw [first,<- hx]
 cases x <;> rfl
set_option maxHeartbeats 4000000 in
theorem c117 {S:Tb.Sys} {B:Nat} {T:Lay} {s:Dy} {i:Nat} {up:Bool} (hf:Few S) (hS:Short S 90000000) (hp:Perm S s) (hi:i<S.m) (hv : ∀ v,v<S.n+S.m->dg2 90000000 (s.val v)) (ha : ∀ j,j<S.n->dg 90000000 (s.a i j)) (w:World) (hT:TabAt S B w T s) :
  Ret prog 117 #[.pointer (some ⟨T.bt,0,none⟩),.int .i64 i,.bool up] w fun r w'=>r = .int .i64 (bestV (zBr S s i up))/\Ext w w':=by
 have hB:=hT.hB
 have b7:=hf
 unfold Few at b7
 refine run117 _ _ _ _ _ ⟨_,_,_,hT.f3,fun vals w1=>∃ k:Nat,vals=[.int .i64 k,.int .i64 (bestV (first s.cols (suits S s i up) k))]/\k<=S.n/\Ext w w1,mu1 S.n,⟨0,rfl,Nat.zero_le _,yE _⟩,?_⟩
 rintro m m2 w1 ⟨k,b9,hk,h⟩
 cases b9
 have d:=hT.ext h hB
 refine zAe (fun b1=>?_) (fun d0=>?_)
 ·have f:k<S.n:=by omega
  have a8:=hp.col k f
  obtain⟨a,u,b5⟩:=d.colsAt (j:=k) f
  obtain⟨a1,b2,b4⟩:=d.aAt (i:=i) hi
  obtain⟨a2,b3,b6⟩:=d.qAt (i:=i) (j:=k) hi f
  refine⟨a,u,⟨by omega,b1⟩,_,b5,_,_,_,d.f5,a1,b2,⟨by omega,by omega⟩,_,_,_,b4,a2,b3,⟨by omega,b1⟩,_,_,_,b6,yC (c75 ((ha k f).mono (by decide)) w1 d.gg) ?_⟩
  rintro r w2 ⟨rfl,a0⟩
  refine⟨_,rfl,fun K hK=>?_⟩
  have fin : ∀ x w3,Ext w w3->x=(suits S s i up k&&zDG s.cols k (first s.cols (suits S s i up) k))->K [.bool x] w3:=by
   intro x w3 a9 hx
   refine hK x w3 ?_
   have hn:=first_next hx
   rw [zAf (by omega)]
   cases x
   ·rw [cond_false] at hn ⊢
    exact⟨⟨k+1,by rw [hn],f,a9⟩,by simp only [mu1,yT];omega⟩
   ·rw [cond_true] at hn ⊢
    exact⟨⟨k+1,by rw [hn],f,a9⟩,by simp only [mu1,yT];omega⟩
  have g:=d.ext a0 d.hB
  refine cond_eq (p:=True) (sgn_ne _) (fun b8=>?_) (fun hz=>?_)
  ·rw [sgn_dec]
   refine yC (c162 hf hS a8.1 (hv _ a8.1) w2 g g.hB g.gg) ?_
   rintro r w4 ⟨rfl,b0⟩
   have a6:=g.ext b0 g.hB
   have a5:=(h.trans a0).trans b0
   have l:suits S s i up k=free S s.val (s.cols k) (decide (0<s.a i k)==up):=by rw [suits,b8,Bool.true_and]
   refine⟨_,rfl,zAb (fun a4=>?_) (fun a4=>?_)⟩
   ·rw [a4] at l
    cases hbe:first s.cols (suits S s i up) k with
    | none =>
     rw [hbe] at fin
     exact fin true w4 a5 (by rw [l];rfl)
    | some b =>
     rw [hbe] at fin
     have hb:=(zCc hbe).1
     obtain⟨a3,o,a7⟩:=a6.colsAt (j:=b) (by omega)
     rw [u] at o;cases o
     have e:decide (bestV (some b)<0)=false:=decide_eq_false (by show ¬ (b:Int)<0;omega)
     rw [e,cond_false]
     refine⟨_,_,_,a6.f3,_,u,⟨by show 0<=(b:Int);omega,by show (b:Int)<_;omega⟩,_,a7,fin _ w4 a5 ?_⟩
     rw [l,Bool.true_and,zDG,Bool.eq_iff_iff,decide_eq_true_iff,decide_eq_true_iff]
     omega
   ·exact fin false w4 a5 (by rw [l,show free S s.val (s.cols k) (decide (0<s.a i k)==up)=false by simpa using a4];rfl)
  ·exact fin false w2 (h.trans a0) (by rw [suits,hz];rfl)
 ·have e:k=S.n:=by omega
  subst e
  exact⟨rfl,h⟩
set_option maxHeartbeats 4000000 in
theorem c118 {S:Tb.Sys} {B:Nat} {T:Lay} {s:Dy} {i:Nat} {up:Bool} (hf:Few S) (hp:Perm S s) (hi:i<S.m) (hbi:S.n<=s.basic i) (hc : ∀ j,j<S.n->s.a i j≠0->S.n<=s.cols j) (ha : ∀ j,j<S.n->dg 90000000 (s.a i j)) (w:World) (hT:TabAt S B w T s) :
  Ret prog 118 #[.pointer (some ⟨T.bt,0,none⟩),.int .i64 i,.bool up] w fun r w'=>r = .slice (some ⟨w.heap.size,0,none⟩) S.m S.m/\Box w' w.heap.size 88 (QL (refv S s i up) S.m)/\Ext w w':=by
 have hB:=hT.hB
 have e9:=hf
 unfold Few at e9
 have b9:=hp.bas i hi
 refine run118 _ _ _ _ _ ⟨_,_,_,hT.f1,⟨by omega,by omega,by omega,by omega⟩,?_⟩
 simp only [yT,zFx]
 have e0:madeCells (Value.agg #[Value.int .i64 0,.int .i64 0,.string { data:=#[] }]).cells (S.m*3)=(QL (fun _=>0) S.m).toArray:=zEd S.m
 rw [e0]
 intro K hK
 have d4:=((yE w).alloc (.cells (QL (fun _=>0) S.m).toArray 88)).drew
 have hN:=(yN w (QL (fun _=>0) S.m) 88).ext (yE _).drew
 have u:=hT.ext d4 hB
 obtain⟨a8,d8,e3⟩:=u.basicAt (i:=i) hi
 have f7:=wr_row hf hbi b9.1
 refine⟨_,_,_,u.f2,a8,d8,⟨by omega,by omega⟩,_,e3,_,u.f0,yC (c130 1 (by decide) _ u.gg) ?_⟩
 rintro r w8 ⟨rfl,a0⟩
 have a7:=hN.ext a0
 have d3:s.basic i - S.n<S.m:=by omega
 refine⟨_,_,_,rfl,a0,_,rfl,?_⟩
 rw [f7,yT]
 refine⟨⟨by omega,by omega⟩,a7.qwr d3,hK _ ?_⟩
 have hM:=a7.qset d3 ((1:Int):Rat)
 have b4:Ext w (setCells w8 ((⟨w.heap.size,0,none⟩:Addr).add ((s.basic i - S.n)*3)) 0 (qc ((1:Int):Rat))):=by rw [zAi];exact (d4.trans a0).put yL _ _
 have d7:upd (fun _=>(0:Rat)) (s.basic i - S.n) ((1:Int):Rat)=refF S s i 0:=rfl
 rw [d7] at hM
 have b:=hT.ext b4 hB
 refine⟨_,_,_,b.f3,fun vals w2=>∃ k:Nat,vals=[.int .i64 k]/\k<=S.n/\Box w2 w.heap.size 88 (QL (refF S s i k) S.m)/\Ext w w2,mu1 S.n,⟨0,rfl,Nat.zero_le _,hM,b4⟩,?_⟩
 clear hM b4 b a7 a0 hN
 rintro m w2 ⟨k,b3,hk,hM,f⟩
 cases b3
 have b:=hT.ext f hB
 refine zAe (fun h=>?_) (fun b1=>?_)
 ·have d:k<S.n:=by omega
  have e6:=hp.col k d
  obtain⟨a,e1,e5⟩:=b.colsAt (j:=k) d
  obtain⟨a1,d9,e4⟩:=b.aAt (i:=i) hi
  obtain⟨a2,e2,e7⟩:=b.qAt (i:=i) (j:=k) hi d
  refine⟨a,e1,⟨by omega,h⟩,_,e5,_,_,_,b.f5,a1,d9,⟨by omega,by omega⟩,_,_,_,e4,a2,e2,⟨by omega,h⟩,_,_,_,e7,yC (c75 ((ha k d).mono (by decide)) w2 b.gg) ?_⟩
  rintro r w3 ⟨rfl,v⟩
  refine⟨_,rfl,cond_eq (p:=True) (sgn_ne _) (fun a5=>?_) (fun hz=>?_)⟩
  ·have a5:s.a i k≠0:=by simpa using a5
   have b1:=hc k d a5
   have d5:=(f.trans v).drew
   have l:=hT.ext d5 hB
   intro K1 d6
   obtain⟨a3,b7,d0⟩:=l.aAt (i:=i) hi
   obtain⟨a4,b8,d1⟩:=l.qAt (i:=i) (j:=k) hi d
   refine⟨_,l.f0,_,_,_,l.f5,a3,b7,⟨by omega,by omega⟩,_,_,_,d0,a4,b8,⟨by omega,h⟩,_,_,_,d1,yC (c133 ((ha k d).mono (by decide)) _ l.gg) ?_⟩
   rintro r w5 ⟨rfl,a9⟩
   have b5:=((hM.ext v).ext (yE _).drew).ext a9
   refine⟨_,_,_,rfl,a9,_,rfl,?_⟩
   rw [wr_row hf b1 e6.1,yT]
   have a6:s.cols k - S.n<S.m:=by omega
   refine⟨⟨by omega,by omega⟩,b5.qwr a6,d6 _ ?_⟩
   rw [zAf (by omega)]
   refine⟨⟨k+1,rfl,d,?_,?_⟩,by simp only [mu1,yT];omega⟩
   ·rw [refF,if_pos a5];exact b5.qset a6 _
   ·rw [zAi];exact (d5.trans a9).put yL _ _
  ·have hz:s.a i k=0:=by simpa using hz
   rw [zAf (by omega)]
   refine⟨⟨k+1,rfl,d,?_,f.trans v⟩,by simp only [mu1,yT];omega⟩
   rw [refF,if_neg (by rw [hz];simp)];exact hM.ext v
 ·have e:k=S.n:=by omega
  subst e
  refine zAb (fun b2=>?_) (fun b2=>?_)
  ·have e8 : ∀ k x,k<=S.n->x<S.m->dg 90000000 (refF S s i k x):=by
    intro k
    induction k with
    | zero =>
     intro x _ _
     unfold refF upd
     split
     ·exact dg_one (by decide)
     ·exact zBs (by decide)
    | succ k ih =>
     intro x hk hx
     rw [refF]
     split
     ·unfold upd
      split
      ·exact (ha k (by omega)).neg
      ·exact ih x (by omega) hx
     ·exact ih x (by omega) hx
   refine⟨fun vals w6=>∃ k:Nat,vals=[.int .i64 k]/\k<=S.m/\Box w6 w.heap.size 88 (QL (part (fun x => -refF S s i S.n x) (refF S s i S.n) k) S.m)/\Ext w w6,mu1 S.m,⟨0,rfl,Nat.zero_le _,by rw [zCC];exact hM,f⟩,?_⟩
   clear hM f b
   rintro m w6 ⟨k,b3,hk,hM,b0⟩
   cases b3
   refine zAe (fun h=>?_) (fun b1=>?_)
   ·have o:k<S.m:=by omega
    have hq:=hM.qget o
    simp only [zGa] at hq
    refine⟨_,rfl,⟨by omega,h⟩,_,_,_,hq,yC (c133 ((e8 _ _ yL o).mono (by decide)) w6 (hT.ext b0 hB).gg) ?_⟩
    rintro r w7 ⟨rfl,d2⟩
    have b6:=hM.ext d2
    refine⟨_,_,_,rfl,_,rfl,⟨by omega,h⟩,b6.qwr o,?_⟩
    rw [zAf (by omega)]
    refine⟨⟨k+1,rfl,o,?_,?_⟩,by simp only [mu1,yT];omega⟩
    ·have:=b6.qset o (-refF S s i S.n k)
     rw [zCb (fun x => -refF S s i S.n x)] at this
     exact this
    ·rw [zAi];exact (b0.trans d2).put yL _ _
   ·have e:k=S.m:=by omega
    subst e
    refine⟨trivial,?_,b0⟩
    rw [zAR (g:=refv S s i up) fun x hx=>?_] at hM
    ·exact hM
    ·rw [zFZ hx,refv,if_pos b2]
  ·refine⟨trivial,?_,f⟩
   rw [zAR (g:=refv S s i up) fun x hx=>?_] at hM
   ·exact hM
   ·rw [refv,if_neg (by rw [b2];decide)]
structure Fits (S:Tb.Sys):Prop where
 few:Few S
 short:Short S 2000000
 a : ∀ s,Inv S s->∀ i,i<S.m->∀ j,j<S.n->dg 2000000 (s.a i j)
 val : ∀ s,Inv S s->∀ v,v<S.n+S.m->dg2 2000000 (s.val v)
theorem Fits.short9 {S:Tb.Sys} (h:Fits S):Short S 90000000:=⟨fun i hi=>(h.short.1 i hi).mono (by decide),by decide⟩
def SolV (S:Tb.Sys) (B:Nat) (w:World) (s:Dy) (r:Option (Nat × Bool)) (v:Value):Prop :=
 match r with
 | none=>v = .tuple #[.slice none 0 0,.bool true]
 | some (i,up)=>∃ b,v = .tuple #[.slice (some ⟨b,0,none⟩) S.m S.m,.bool false]/\B<=b/\Box w b 88 (QL (refv S s i up) S.m)
set_option maxHeartbeats 4000000 in
theorem c71 {S:Tb.Sys} {B:Nat} {T:Lay} {s0:Dy} (hF:Fits S) (hI:Inv S s0) (w:World) (hT:TabAt S B w T s0) :
  Ret prog 71 #[.pointer (some ⟨T.bt,0,none⟩)] w fun v w'=>∃ f s' r,zAS S f s0=some (s',r)/\Inv S s'/\SolV S B w' s' r v/\TabAt S B w' T s'/\Below B w w':=by
 have e3:=hF.few
 unfold Few at e3
 obtain⟨f0,r0,x⟩:=solve_ends hI
 obtain⟨I',μ',d1,a5⟩:=ghost (G:=Nat × Dy) (fun g vals w1=>vals=[]/\TabAt S B w1 T g.2/\Inv S g.2/\zAS S g.1 g.2=some r0/\Below B w w1) (fun g=>g.1)
 refine run71 _ _ _ ⟨I',μ',d1 (f0,s0) _ _ ⟨rfl,hT,hI,x,Below.refl _ _⟩,?_⟩
 intro w1 b4
 obtain⟨⟨f,s⟩,⟨_,d,l,k,u⟩,a0⟩:=a5 _ _ b4
 simp only at d l k a0
 clear b4 d1 a5
 cases f with
 | zero=>rw [zAS] at k;cases k
 | succ f =>
 have hp:=l.dict.perm
 have n:=hF.val s l
 have o:=hF.a s l
 refine yC (c116 hF.few hF.short9 hp (fun v hv=>(n v hv).mono (by decide)) w1 d) ?_
 rintro r w2 ⟨rfl,a4⟩
 have hN:=yN w2 zv 101
 cases hvi:viol S s with
 | none =>
  rw [vioV,zDK]
  refine⟨_,_,_,_,_,_,_,_,rfl,hN.blk.writable (by decide),?_⟩
  have hx:Ext w1 (setCells (w2.alloc (.cells zv.toArray 101)) ⟨w2.heap.size,0,none⟩ 0 zv):=(a4.alloc _).put a4.size _ _
  rw [show decide ((-1:Int)<0)=true from rfl,cond_true]
  have p:stepS S s = .sat:=by unfold stepS;rw [hvi]
  rw [zAS,p] at k
  cases k
  exact⟨f0,s,none,x,l,rfl,d.ext hx d.hB,Below.trans u (Below.mono hx d.hB)⟩
 | some r =>
  obtain⟨i,b,up⟩:=r
  obtain⟨hi,a9,rfl,_,_,_⟩:=zBF hp hvi
  have m:=hp.bas i hi
  refine⟨_,_,_,_,_,_,_,_,rfl,hN.blk.writable (by decide),?_⟩
  have hx:Ext w1 (setCells (w2.alloc (.cells zv.toArray 101)) ⟨w2.heap.size,0,none⟩ 0 (vc2 (ub S (s.basic i)))):=(a4.alloc _).put a4.size _ _
  have hU:=hN.put (vc2 (ub S (s.basic i))) (by rfl)
  have a6:=d.ext hx d.hB
  rw [show decide ((i:Int)<0)=false from decide_eq_false (by omega),cond_false]
  refine yC (c117 hF.few hF.short9 hp hi (fun v hv=>(n v hv).mono (by decide)) (fun j hj=>(o i hi j hj).mono (by decide)) _ a6) ?_
  rintro r w3 ⟨rfl,b2⟩
  have a1:=a6.ext b2 a6.hB
  have d2:=hx.trans b2
  cases hen:zBr S s i up with
  | none =>
   refine⟨_,rfl,?_⟩
   rw [show decide (bestV none<0)=true from rfl,cond_true]
   have p:stepS S s = .unsat i up:=by unfold stepS;rw [hvi];simp only [hen]
   rw [zAS,p] at k
   cases k
   refine yC (c118 hF.few hp hi a9 (fun j hj h0=>(zEP l hen j hj h0).1) (fun j hj=>(o i hi j hj).mono (by decide)) _ a1) ?_
   rintro r w4 ⟨rfl,hM,b8⟩
   refine⟨_,_,_,rfl,f0,s,some (i,up),x,l,⟨_,rfl,a1.hB,hM⟩,a1.ext b8 a1.hB,Below.trans u (Below.mono (d2.trans b8) d.hB)⟩
  | some j =>
   have p:stepS S s = .go i j (nextS S s (ub S (s.basic i)) i j):=by unfold stepS;rw [hvi];simp only [hen];rfl
   obtain⟨_,_,_,_,_,hj,_,h0,_,b5⟩:=zCp l p
   rw [zAS,p] at k
   refine⟨_,rfl,?_⟩
   rw [show decide (bestV (some j)<0)=false from decide_eq_false (by show ¬ (j:Int)<0;omega),cond_false]
   intro K hK
   have d3:=d2.drew
   have h:=d.ext d3 d.hB
   have d5:=(hU.ext b2).ext (yE _).drew
   obtain⟨a,d7,e1⟩:=h.basicAt (i:=i) hi
   obtain⟨a2,d6,e0⟩:=h.aAt (i:=i) hi
   obtain⟨a3,d8,e2⟩:=h.qAt (i:=i) (j:=j) hi hj
   have dS:dg2 5000000 (sub2 (ub S (s.basic i)) (s.val (s.basic i))):=((ub_dg hF.short a9 m.1).sub (n _ m.1)).mono (by decide)
   have dI:dg 3000000 (s.a i j)⁻¹:=(o i hi j hj).inv.mono (by decide)
   have dD:=dS.scale dI
   refine⟨_,_,_,_,_,_,d5.blk.all,_,_,_,h.f6,_,_,_,h.f2,a,d7,⟨by omega,by omega⟩,_,e1,_,rfl,⟨by omega,by omega⟩,_,_,_,_,_,_,h.valAt (v:=s.basic i) m.1,_,_,_,h.f5,a2,d6,⟨by omega,by omega⟩,_,_,_,e0,a3,d8,⟨by show 0<=(j:Int);omega,by show (j:Int)<_;omega⟩,_,_,_,e2,yC (c120 ((ub_dg hF.short a9 m.1).mono (by decide)) ((n _ m.1).mono (by decide)) _ h.gg) ?_⟩
   rintro r w7 ⟨rfl,b3⟩
   have a7:=h.ext b3 h.hB
   refine⟨_,_,_,_,_,_,rfl,b3,yC (c122 ((o i hi j hj).mono (by decide)) h0 _ a7.gg) ?_⟩
   rintro r w8 ⟨rfl,b9⟩
   have a8:=a7.ext b9 a7.hB
   refine⟨_,_,_,rfl,yC (c121 (dS.mono (by decide)) (dI.mono (by decide)) _ a8.gg) ?_⟩
   rintro r w9 ⟨rfl,d0⟩
   have d4:=a8.ext d0 a8.hB
   refine⟨_,_,_,_,_,_,rfl,yC (c119 hF.few hp hj (fun v hv=>(n v hv).mono (by decide)) (dD.mono (by decide)) (fun i hi=>(o i hi j hj).mono (by decide)) _ d4) ?_⟩
   rintro r e5 ⟨rfl,b6,b0⟩
   have d9:Below B w e5:=Below.trans (Below.trans u (Below.mono (((d3.trans b3).trans b9).trans d0) d.hB)) b0
   refine⟨rfl,hK _ ?_⟩
   have e4:Perm S (Tb.move s j (zAA (sub2 (ub S (s.basic i)) (s.val (s.basic i))) (s.a i j)⁻¹)):=⟨hp.bas,hp.col,hp.inj,hp.lin⟩
   refine yC (c123 hF.few e4 hi hj h0 (fun i hi j hj=>(o i hi j hj).mono (by decide)) _ b6) ?_
   rintro r e6 ⟨rfl,b7,b1⟩
   exact⟨rfl,a0 (f,nextS S s (ub S (s.basic i)) i j) _ _ ⟨rfl,b7,b5,k,Below.trans d9 b1⟩ (Nat.lt_succ_self f)⟩
end Go.Proofs.Si
namespace Go.Proofs.Si
open Go Go.V Go.Proofs Go.RowKit Go.Num Go.Tb
set_option maxRecDepth 100000
theorem zC7 {α:Type} (f:Nat->α) (n:Nat):upto f (n+1)=upto f n++[f n]:=by
 simp [upto,List.range_succ]
theorem zD8 {w:World} {B e size n c:Nat} {a:OA} {xs:List Value} (h:w.ownsRow B e size (.slice a n c) n xs):OwnB w B e a xs:=by
 rcases h.2 with ⟨hv,h0⟩ | ⟨g,cap,cur,hv,hb,hg,_,_,_,ht⟩
 ·left
  have:=h.1
  rw [h0,Nat.zero_mul] at this
  exact List.length_eq_zero_iff.1 this
 ·cases hv
  refine .inr ⟨g,rfl,hb,cur.toList.drop (n*size),?_⟩
  rw [hg,<- ht,List.take_append_drop]
structure NewAt (S:Tb.Sys) (B:Nat) (T:Lay) (L:Nat->Int) (w:World) (j i x:Nat):Prop where
 box:Box w T.bt 140 [.int .i64 (S.n:Int),.slice T.ra S.m T.rc,.slice T.ba i T.bc,.slice T.ca j T.cc,.slice (some ⟨T.la,0,none⟩) (S.n+S.m) (S.n+S.m),.slice T.aa x T.ac,.slice (some ⟨T.va,0,none⟩) (S.n+S.m) (S.n+S.m)]
 bt:B<=T.bt
 line:Box w T.la 3 (lLine L (S.n+S.m))
 la:B<=T.la
 val:Box w T.va 101 (VL (fun _=>zero2) (S.n+S.m))
 va:B<=T.va
 basic:w.ownsRow B 3 1 (.slice T.ba i T.bc) i (lInt (fun i=>S.n+i) i)
 cols:w.ownsRow B 3 1 (.slice T.ca j T.cc) j (lInt (fun j=>j) j)
 a:w.ownsRow B 83 1 (.slice T.aa x T.ac) x (lRow T S.n x)
 row : ∀ y,y<x->w.ownsRow B 88 3 (.slice (T.rowA y) S.n (T.rowC y)) S.n (QL (S.C y) S.n)
 nc:(Value.slice T.ca j T.cc).ownBlock≠some T.la
 nb:(Value.slice T.ba i T.bc).ownBlock≠some T.la
 ncb : ∀ b,(Value.slice T.ca j T.cc).ownBlock=some b->(Value.slice T.ba i T.bc).ownBlock≠some b
 rr : ∀ y z,y<x->z<x->y≠z->∀ b,(Value.slice (T.rowA y) S.n (T.rowC y)).ownBlock=some b->(Value.slice (T.rowA z) S.n (T.rowC z)).ownBlock≠some b
theorem NewAt.ext {S:Tb.Sys} {B:Nat} {T:Lay} {L:Nat->Int} {w w' : World} {j i x:Nat} (h:NewAt S B T L w j i x) (he:Ext w w'):NewAt S B T L w' j i x :=
 { h with box:=h.box.ext he,line:=h.line.ext he,val:=h.val.ext he,basic:=zAm h.basic he,cols:=zAm h.cols he,a:=zAm h.a he,row:=fun y hy=>zAm (h.row y hy) he }
theorem zDh {w w' : World} {B e size n:Nat} {v:Value} {xs:List Value} (h:w.ownsRow B e size v n xs) (hk : ∀ k,k<w.heap.size->v.ownBlock=some k->w'.heap[k]? = w.heap[k]?):w'.ownsRow B e size v n xs :=
 zAZ h fun k hv=>hk k (World.ownsRow.lt h k hv).2 hv
theorem zFm {v u:Value} {w w3:World} {k:Nat} (hb:v.ownBlock=u.ownBlock\/∀ k,v.ownBlock=some k->w.heap.size<=k) (hu:u.ownBlock≠some k) (hk:k<w.heap.size):v.ownBlock≠some k:=by
 intro hv
 rcases hb with h | h
 ·exact hu (h▸hv)
 ·have:=h k hv;omega
theorem NewAt.col {S:Tb.Sys} {B:Nat} {T:Lay} {L:Nat->Int} {w w3:World} {j i x:Nat} {p:OA} {k:Nat} (h:NewAt S B T L w j i x)
  (r:AppRes (w.alloc (.cells #[.int .i64 (j:Int)] 3)) w3 B 3 1 T.ca j T.cc (lInt (fun j=>j) j) 1 [.int .i64 (j:Int)] p k) (y:Int) :
  NewAt S B { T with ca:=p,cc:=k } (upd L j y) ((w3.setCell ⟨T.bt,3,none⟩ (.slice p (j+1) k)).setCell ⟨T.la,j,none⟩ (.int .i64 y)) (j+1) i x:=by
 have a3:(w.alloc (.cells #[.int .i64 (j:Int)] 3)).heap.size=w.heap.size+1:=size_alloc ..
 have hx:=(yE w).alloc (.cells #[.int .i64 (j:Int)] 3)
 have g3 : ∀ k,k<w.heap.size->(Value.slice T.ca j T.cc).ownBlock≠some k->w3.heap[k]? = w.heap[k]?:=fun k hk a2 =>
  (r.grown.block k (by omega) (Ne.symm a2)).trans (hx.block k hk)
 have a0:=h.box.lt
 have a1:=h.line.lt
 have c1:(Value.slice T.ca j T.cc).ownBlock≠some T.bt:=zA2 h.cols h.box (by decide)
 have c2:(Value.slice T.ca j T.cc).ownBlock≠some T.va:=zA2 h.cols h.val (by decide)
 have n1:T.bt≠T.la:=boxNe h.box.blk h.line.blk (by decide)
 have n2:T.va≠T.bt:=boxNe h.val.blk h.box.blk (by decide)
 have n3:T.va≠T.la:=boxNe h.val.blk h.line.blk (by decide)
 have q1:(Value.slice p (j+1) k).ownBlock≠some T.bt:=zFm (w3:=w) r.blk c1 (by omega)
 have q2:(Value.slice p (j+1) k).ownBlock≠some T.la:=zFm (w3:=w) r.blk h.nc (by omega)
 have g : ∀ k,k<w.heap.size->(Value.slice T.ca j T.cc).ownBlock≠some k->k≠T.bt->k≠T.la->((w3.setCell ⟨T.bt,3,none⟩ (.slice p (j+1) k)).setCell ⟨T.la,j,none⟩ (.int .i64 y)).heap[k]? = w.heap[k]?:=fun k hk h1 h2 h3 =>
  (zA4 h3).trans ((zA4 h2).trans (g3 k hk h1))
 have g' : ∀ k u,k<w.heap.size->(Value.slice T.ca j T.cc).ownBlock≠some k->k≠T.bt->k≠T.la->((w3.setCell ⟨T.bt,3,none⟩ u).setCell ⟨T.la,j,none⟩ (.int .i64 y)).heap[k]? = w.heap[k]?:=fun k u hk h1 h2 h3 =>
  (zA4 h3).trans ((zA4 h2).trans (g3 k hk h1))
 have s:Box w3 T.bt 140 _:=h.box.same (g3 _ a0 c1)
 have f:Box w3 T.la 3 _:=h.line.same (g3 _ a1 h.nc)
 have d:=(f.away (zAg (o:=3) (v := .slice p (j+1) k)) (fun e=>n1 e.symm)).set j (.int .i64 y)
 exact {
  box:=(s.set 3 (.slice p (j+1) k)).away zAg n1
  bt:=h.bt
  line:=by
   by_cases hj:j<S.n+S.m
   ·rw [lLine,zCm hj] at d
    have e:upto (upd (fun i=>Value.int .i64 (L i)) j (.int .i64 y)) (S.n+S.m)=lLine (upd L j y) (S.n+S.m):=zA6 fun k _=>by unfold upd;split <;> rfl
    rw [e] at d
    exact d
   ·rw [List.set_eq_of_length_le (by rw [lLine,zAB];omega)] at d
    have e:lLine (upd L j y) (S.n+S.m)=lLine L (S.n+S.m):=zA6 fun k hk=>by rw [zAs _ (by omega)]
    rw [e];exact d
  la:=h.la
  val:=h.val.same (g' _ _ h.val.lt c2 n2 n3)
  va:=h.va
  basic:=zDh h.basic fun k hk hv=>g' _ _ hk (fun e=>h.ncb k e hv) (fun e=>zA2 h.basic h.box (by decide) (e▸hv)) (fun e=>h.nb (e▸hv))
  cols:=by
   have:=r.own
   rw [lInt,<- zC7 (fun i=>Value.int .i64 ((i:Nat):Int)) j] at this
   exact zAK (zAK this q1 _) q2 _
  a:=zDh h.a fun k hk hv=>g' _ _ hk (fun e=>zB7 h.cols h.a (by decide) k e hv) (fun e=>zA2 h.a h.box (by decide) (e▸hv)) (fun e=>zA2 h.a h.line (by decide) (e▸hv))
  row:=fun z hz=>zDh (h.row z hz) fun k hk hv=>g' _ _ hk (fun e=>zB7 h.cols (h.row z hz) (by decide) k e hv) (fun e=>zA2 (h.row z hz) h.box (by decide) (e▸hv)) (fun e=>zA2 (h.row z hz) h.line (by decide) (e▸hv))
  nc:=q2
  nb:=h.nb
  ncb:=fun b hb l=>zFm (w3:=w) r.blk (fun e=>h.ncb b e l) (by have:=(World.ownsRow.lt h.basic b l).2;omega) hb
  rr:=h.rr }
theorem NewAt.bas {S:Tb.Sys} {B:Nat} {T:Lay} {L:Nat->Int} {w w3:World} {j i x:Nat} {p:OA} {k:Nat} (h:NewAt S B T L w j i x)
  (r:AppRes (w.alloc (.cells #[.int .i64 ((S.n+i:Nat):Int)] 3)) w3 B 3 1 T.ba i T.bc (lInt (fun i=>S.n+i) i) 1 [.int .i64 ((S.n+i:Nat):Int)] p k) (v:Nat) (y:Int) :
  NewAt S B { T with ba:=p,bc:=k } (upd L v y) ((w3.setCell ⟨T.bt,2,none⟩ (.slice p (i+1) k)).setCell ⟨T.la,v,none⟩ (.int .i64 y)) j (i+1) x:=by
 have a2:(w.alloc (.cells #[.int .i64 ((S.n+i:Nat):Int)] 3)).heap.size=w.heap.size+1:=size_alloc ..
 have hx:=(yE w).alloc (.cells #[.int .i64 ((S.n+i:Nat):Int)] 3)
 have g3 : ∀ k,k<w.heap.size->(Value.slice T.ba i T.bc).ownBlock≠some k->w3.heap[k]? = w.heap[k]?:=fun k hk a1 =>
  (r.grown.block k (by omega) (Ne.symm a1)).trans (hx.block k hk)
 have s:=h.box.lt
 have a0:=h.line.lt
 have c1:(Value.slice T.ba i T.bc).ownBlock≠some T.bt:=zA2 h.basic h.box (by decide)
 have c2:(Value.slice T.ba i T.bc).ownBlock≠some T.va:=zA2 h.basic h.val (by decide)
 have n1:T.bt≠T.la:=boxNe h.box.blk h.line.blk (by decide)
 have n2:T.va≠T.bt:=boxNe h.val.blk h.box.blk (by decide)
 have n3:T.va≠T.la:=boxNe h.val.blk h.line.blk (by decide)
 have q1:(Value.slice p (i+1) k).ownBlock≠some T.bt:=zFm (w3:=w) r.blk c1 (by omega)
 have q2:(Value.slice p (i+1) k).ownBlock≠some T.la:=zFm (w3:=w) r.blk h.nb (by omega)
 have g' : ∀ k u,k<w.heap.size->(Value.slice T.ba i T.bc).ownBlock≠some k->k≠T.bt->k≠T.la->((w3.setCell ⟨T.bt,2,none⟩ u).setCell ⟨T.la,v,none⟩ (.int .i64 y)).heap[k]? = w.heap[k]?:=fun k u hk h1 h2 h3 =>
  (zA4 h3).trans ((zA4 h2).trans (g3 k hk h1))
 have g:Box w3 T.bt 140 _:=h.box.same (g3 _ s c1)
 have f:Box w3 T.la 3 _:=h.line.same (g3 _ a0 h.nb)
 have d:=(f.away (zAg (o:=2) (v := .slice p (i+1) k)) (fun e=>n1 e.symm)).set v (.int .i64 y)
 exact {
  box:=(g.set 2 (.slice p (i+1) k)).away zAg n1
  bt:=h.bt
  line:=by
   by_cases hj:v<S.n+S.m
   ·rw [lLine,zCm hj] at d
    have e:upto (upd (fun i=>Value.int .i64 (L i)) v (.int .i64 y)) (S.n+S.m)=lLine (upd L v y) (S.n+S.m):=zA6 fun k _=>by unfold upd;split <;> rfl
    rw [e] at d
    exact d
   ·rw [List.set_eq_of_length_le (by rw [lLine,zAB];omega)] at d
    have e:lLine (upd L v y) (S.n+S.m)=lLine L (S.n+S.m):=zA6 fun k hk=>by rw [zAs _ (by omega)]
    rw [e];exact d
  la:=h.la
  val:=h.val.same (g' _ _ h.val.lt c2 n2 n3)
  va:=h.va
  cols:=zDh h.cols fun k hk hv=>g' _ _ hk (fun e=>h.ncb k hv e) (fun e=>zA2 h.cols h.box (by decide) (e▸hv)) (fun e=>h.nc (e▸hv))
  basic:=by
   have:=r.own
   rw [lInt,<- zC7 (fun i=>Value.int .i64 ((S.n+i:Nat):Int)) i] at this
   exact zAK (zAK this q1 _) q2 _
  a:=zDh h.a fun k hk hv=>g' _ _ hk (fun e=>zB7 h.basic h.a (by decide) k e hv) (fun e=>zA2 h.a h.box (by decide) (e▸hv)) (fun e=>zA2 h.a h.line (by decide) (e▸hv))
  row:=fun z hz=>zDh (h.row z hz) fun k hk hv=>g' _ _ hk (fun e=>zB7 h.basic (h.row z hz) (by decide) k e hv) (fun e=>zA2 (h.row z hz) h.box (by decide) (e▸hv)) (fun e=>zA2 (h.row z hz) h.line (by decide) (e▸hv))
  nb:=q2
  nc:=h.nc
  ncb:=fun b hb l=>zFm (w3:=w) r.blk (fun e=>h.ncb b hb e) (by have:=(World.ownsRow.lt h.cols b hb).2;omega) l
  rr:=h.rr }
theorem made_int (n:Nat):madeCells (Value.int .i64 0).cells n=(lLine (fun _=>0) n).toArray:=by
 apply Array.ext'
 show _=upto _ n
 apply zEq
 ·simp [madeCells]
 ·intro i hi
  simp [madeCells,Value.cells,hi,Nat.mod_one]
theorem VL_made (n:Nat):madeCells zv.toArray (n*6)=(VL (fun _=>zero2) n).toArray:=by
 apply Array.ext'
 show _=GL _ n
 apply GL_ext (m:=6) (by omega) (fun _=>rfl)
 ·simp [madeCells];omega
 ·intro i hi j hj
  rw [vc2_zero]
  simp only [madeCells]
  have:(6*i+j)<n*6:=by omega
  have h3:(6*i+j) % 6=j:=by omega
  match j,hj with
  | 0,_=>simp [show 6*i<n*6 by omega]
  | 1,_=>simp [this,h3]
  | 2,_=>simp [this,h3]
  | 3,_=>simp [this,h3]
  | 4,_=>simp [this,h3]
  | 5,_=>simp [this,h3]
theorem plain_QL (f:Nat->Rat) : ∀ n,zAr (QL f n)=true:=by
 have app : ∀ (a b:List Value),zAr a=true->zAr b=true->zAr (a++b)=true:=by
  intro a
  induction a with
  | nil=>intro b _ h;exact h
  | cons x a ih =>
   intro b h1 h2
   cases x <;> simp only [zAr,List.cons_append] at h1 ⊢ <;> first | exact ih b h1 h2 | cases h1 | (simp only [Bool.and_eq_true] at h1 ⊢;exact⟨h1.1,ih b h1.2 h2⟩)
 intro n
 induction n with
 | zero=>rfl
 | succ n ih=>rw [QL];exact app _ _ ih rfl
theorem NewAt.line2 {S:Tb.Sys} {B:Nat} {T:Lay} {L:Nat->Int} {w w7 w8:World} {j i x:Nat} {p9 p10:OA} {k19 k21 B' : Nat} (h:NewAt S B T L w j i x) (hB:B<=w.heap.size) (hB' : w.heap.size<=B')
  (r:AppRes w w7 B' 88 3 none 0 0 [] S.n (QL (S.C x) S.n) p9 k19) (r2:AppRes (w7.alloc (.cells #[.slice p9 S.n k19] 83)) w8 B 83 1 T.aa x T.ac (lRow T S.n x) 1 [.slice p9 S.n k19] p10 k21) :
  NewAt S B { T with aa:=p10,ac:=k21,rowA:=upd T.rowA x p9,rowC:=upd T.rowC x k19 } L (w8.setCell ⟨T.bt,5,none⟩ (.slice p10 (x+1) k21)) j i (x+1):=by
 have hn : ∀ k,(Value.slice none 0 0).ownBlock≠some k:=fun k e=>by cases e
 have o:Ext w w7:=r.below (B:=w.heap.size) (World.ownsRow_nil _ B' 88 3) (yE w) yL hB'
 have h7:=(h.ext o).ext ((yE w7).alloc (.cells #[.slice p9 S.n k19] 83))
 have v:=o.size
 have l : ∀ k,(Value.slice p9 (0+S.n) k19).ownBlock=some k->w.heap.size<=k:=by
  rcases r.blk with e | e
  ·intro k hk;rw [e] at hk;cases hk
  ·exact e
 have p:w7.ownsRow B 88 3 (.slice p9 S.n k19) S.n (QL (S.C x) S.n):=by
  have:=r.own
  rw [Nat.zero_add,List.nil_append] at this
  refine⟨this.1,?_⟩
  rcases this.2 with e | ⟨g,cap,cur,hv,hb,r⟩
  ·exact .inl e
  ·exact .inr ⟨g,cap,cur,hv,by omega,r⟩
 rw [Nat.zero_add] at l
 have d:=zAm p ((yE w7).alloc (.cells #[.slice p9 S.n k19] 83))
 have ga : ∀ k,k<(w7.alloc (.cells #[.slice p9 S.n k19] 83)).heap.size->(Value.slice T.aa x T.ac).ownBlock≠some k->k≠T.bt->∀ u,(w8.setCell ⟨T.bt,5,none⟩ u).heap[k]? = (w7.alloc (.cells #[.slice p9 S.n k19] 83)).heap[k]?:=fun k hk h1 h2 u =>
  (zA4 h2).trans (r2.grown.block k hk (Ne.symm h1))
 have c1:(Value.slice T.aa x T.ac).ownBlock≠some T.bt:=zA2 h7.a h7.box (by decide)
 have c2:(Value.slice T.aa x T.ac).ownBlock≠some T.va:=zA2 h7.a h7.val (by decide)
 have c3:(Value.slice T.aa x T.ac).ownBlock≠some T.la:=zA2 h7.a h7.line (by decide)
 have n1:T.la≠T.bt:=boxNe h.line.blk h.box.blk (by decide)
 have n2:T.va≠T.bt:=boxNe h.val.blk h.box.blk (by decide)
 have q1:(Value.slice p10 (x+1) k21).ownBlock≠some T.bt:=zFm (w3:=w) r2.blk c1 h7.box.lt
 have m:Box w8 T.bt 140 _:=h7.box.same (r2.grown.block _ h7.box.lt (Ne.symm c1))
 have rowx : ∀ y,y<x+1->(Value.slice (upd T.rowA x p9 y) S.n (upd T.rowC x k19 y))=if y=x then .slice p9 S.n k19 else .slice (T.rowA y) S.n (T.rowC y):=fun y _=>by
  unfold upd;split <;> rfl
 exact {
  box:=m.set 5 (.slice p10 (x+1) k21)
  bt:=h.bt
  la:=h.la
  va:=h.va
  line:=h7.line.same (ga _ h7.line.lt c3 n1 _)
  val:=h7.val.same (ga _ h7.val.lt c2 n2 _)
  basic:=zDh h7.basic fun k hk hv=>ga _ hk (fun e=>zB7 h7.a h7.basic (by decide) k e hv) (fun e=>zA2 h7.basic h7.box (by decide) (e▸hv)) _
  cols:=zDh h7.cols fun k hk hv=>ga _ hk (fun e=>zB7 h7.a h7.cols (by decide) k e hv) (fun e=>zA2 h7.cols h7.box (by decide) (e▸hv)) _
  a:=by
   have:=r2.own
   have e:lRow { T with aa:=p10,ac:=k21,rowA:=upd T.rowA x p9,rowC:=upd T.rowC x k19 } S.n (x+1)=lRow T S.n x++[.slice p9 S.n k19]:=by
    rw [lRow,zC7]
    show upto (fun i=>Value.slice (upd T.rowA x p9 i) S.n (upd T.rowC x k19 i)) x++[Value.slice (upd T.rowA x p9 x) S.n (upd T.rowC x k19 x)]=_
    rw [zA1,zA1,zA6 (g:=fun i=>Value.slice (T.rowA i) S.n (T.rowC i)) fun k hk=>by rw [zAs _ (by omega),zAs _ (by omega)]]
    rfl
   rw [e]
   exact zAK this q1 _
  row:=fun y hy=>by
   show World.ownsRow _ B 88 3 (.slice (upd T.rowA x p9 y) S.n (upd T.rowC x k19 y)) S.n (QL (S.C y) S.n)
   rw [rowx y hy]
   by_cases e:y=x
   ·rw [if_pos e,e]
    exact zDh d fun k hk hv=>ga _ hk (fun e=>zB7 h7.a d (by decide) k e hv) (fun e=>zA2 d h7.box (by decide) (e▸hv)) _
   ·rw [if_neg e]
    have hr:=h7.row y (by omega)
    exact zDh hr fun k hk hv=>ga _ hk (fun e=>zB7 h7.a hr (by decide) k e hv) (fun e=>zA2 hr h7.box (by decide) (e▸hv)) _
  nc:=h.nc
  nb:=h.nb
  ncb:=h.ncb
  rr:=fun y z hy hz s b hb=>by
   replace hb:(Value.slice (upd T.rowA x p9 y) S.n (upd T.rowC x k19 y)).ownBlock=some b:=hb
   show (Value.slice (upd T.rowA x p9 z) S.n (upd T.rowC x k19 z)).ownBlock≠some b
   rw [rowx y hy] at hb
   rw [rowx z hz]
   by_cases e:y=x
   ·rw [if_pos e] at hb
    rw [if_neg (by omega)]
    intro f
    have h1:=(World.ownsRow.lt (h.row z (by omega)) b f).2
    have h2:=l b hb
    omega
   ·rw [if_neg e] at hb
    by_cases e2:z=x
    ·rw [if_pos e2]
     intro f
     have h1:=(World.ownsRow.lt (h.row y (by omega)) b hb).2
     have h2:=l b f
     omega
    ·rw [if_neg e2]
     exact h.rr y z (by omega) (by omega) s b hb }
theorem NewAt.tab {S:Tb.Sys} {w0 w:World} {T:Lay} {L:Nat->Int} (h:NewAt S w0.heap.size T L w S.n S.m S.m) (hL : ∀ v,v<S.n+S.m->L v=(init S).line v) (hx:Ext w0 w) (hR:RowsR w0 T.ra S T.R) (hg:Gl w0):TabAt S w0.heap.size w { T with xb:=0,xl:=[],yb:=0,yl:=[] } (init S) where
 xt := .inl rfl
 yt := .inl rfl
 d4:=fun _ _ h=>absurd rfl h
 box:=h.box
 bt:=h.bt
 line:=by
  rw [show lLine (init S).line (S.n+S.m)=lLine L (S.n+S.m) from zA6 fun v hv=>by rw [hL v hv]]
  exact h.line
 la:=h.la
 val:=h.val
 va:=h.va
 basic:=zD8 h.basic
 cols:=zD8 h.cols
 a:=zD8 h.a
 row:=fun i hi=>zD8 (h.row i hi)
 rows:=fun w' hb=>hR.ext (Below.trans hx hb)
 gl:=fun w' hb=>hg.ext (Below.trans hx hb)
 d1:=fun b hb=>⟨fun hc=>h.ncb b (by rw [hc];rfl) (by rw [hb];rfl),fun e=>h.nb (by rw [hb,<- e];rfl)⟩
 d2:=fun b hb e=>h.nc (by rw [hb,<- e];rfl)
 d3:=fun i k b hi hk f hb d=>h.rr i k hi hk f b (by rw [hb];rfl) (by rw [d];rfl)
def lineA (S:Tb.Sys) (j:Nat):Nat->Int:=fun v=>if v<j then -1 else 0
def lineB (S:Tb.Sys) (i:Nat):Nat->Int:=fun v=>if v<S.n then -1 else if v<S.n+i then ((v - S.n:Nat):Int) else 0
theorem lineA_succ {S:Tb.Sys} {j:Nat} : upd (lineA S j) j (-1)=lineA S (j+1):=by
 funext v
 unfold upd lineA
 by_cases e:v=j
 ·rw [if_pos e,if_pos (by omega)]
 ·rw [if_neg e]
  by_cases h:v<j
  ·rw [if_pos h,if_pos (by omega)]
  ·rw [if_neg h,if_neg (by omega)]
theorem lineB_zero {S:Tb.Sys} : lineA S S.n=lineB S 0:=by
 funext v
 unfold lineA lineB
 by_cases h:v<S.n
 ·rw [if_pos h,if_pos h]
 ·rw [if_neg h,if_neg h,if_neg (by omega)]
theorem lineB_succ {S:Tb.Sys} {i:Nat} : upd (lineB S i) (S.n+i) (i:Int)=lineB S (i+1):=by
 funext v
 unfold upd lineB
 by_cases e:v=S.n+i
 ·rw [if_pos e,if_neg (by omega),if_pos (by omega),e,show S.n+i - S.n=i by omega]
 ·rw [if_neg e]
  by_cases h:v<S.n
  ·rw [if_pos h,if_pos h]
  ·rw [if_neg h,if_neg h]
   by_cases h2:v<S.n+i
   ·rw [if_pos h2,if_pos (by omega)]
   ·rw [if_neg h2,if_neg (by omega)]
theorem size101 (n:Nat):n*siE.P.types[101].size=n*6:=rfl
theorem size3 (n:Nat):n*siE.P.types[3].size=n:=Nat.mul_one n
end Go.Proofs.Si
