/- Part of the proof: SiK3, SiK4, SiM, SiW1. -/
import Derived.Test.YtoaiappkhcjagaaGreatDoorMTbD
import Derived.Test.YtoaiappkhcjagaaGreatDoorSiV5
set_option linter.unusedVariables false
set_option linter.unusedSimpArgs false
namespace Go.Proofs.Si
open Go Go.V Go.Proofs Go.RowKit Go.Num Go.Tb Go.Proofs.Tryz
open Go.IntKind (i64 u64 u32 u8)
set_option maxRecDepth 100000
theorem qput {w w' : World} {B:Nat} (q:Rat) (hB:Box w' B 88 zq) (hx:Ext w w') (hb:w.heap.size<=B) :
  writable w' ⟨B,0,none⟩ 3/\vcells (setCells w' ⟨B,0,none⟩ 0 (qc q)) ⟨B,0,none⟩ 0 (qc q)/\Ext w (setCells w' ⟨B,0,none⟩ 0 (qc q)) :=
 ⟨hB.blk.writable (by decide),(hB.put (qc q) (by rfl)).blk.all,hx.put hb _ _⟩
theorem neg_fits (q:Rat):fitsQ (-q)=fitsQ q:=by unfold fitsQ;rw [Rat.neg_num,Rat.neg_den,Int.natAbs_neg]
theorem c133 {q:Rat} (h:dg 400000000 q) (w:World) (hg:Gl w):Ret prog 133 #[qv q] w fun v w'=>v=qv (-q)/\Ext w w':=by
 have g:=(yE w).alloc (.cells (qc q).toArray 88)
 have m:=(yE (w.alloc (.cells (qc q).toArray 88))).alloc (.cells zq.toArray 88)
 have b:=(yN w (qc q) 88).ext m
 have i:=yN (w.alloc (.cells (qc q).toArray 88)) zq 88
 have d:=g.trans m
 refine run133 _ _ _ _ _ ⟨_,b.blk.cell (j:=2) rfl,?_⟩
 rw [zBf]
 refine zAb (fun hf=>?_) (fun hf=>?_)
 ·obtain⟨e1,e2,e3⟩:=zAM hf
  obtain⟨f1,f2⟩:=zAF.1 hf
  have e:[Value.int .i64 (i64.wrap (0 - qn q)),.int .i64 (ql q),.string { data:=#[] }]=qc (-q):=by
   obtain⟨g1,g2,g3⟩:=zAM (q := -q) (by rw [neg_fits];exact hf)
   unfold qc
   rw [g1,g2,g3,e1,e2,zAd (by omega) (by omega),Rat.neg_num,Rat.neg_den,Int.zero_sub]
  obtain⟨p1,p2,p3⟩:=qput (-q) i d g.size
  refine⟨_,b.blk.cell (j:=0) rfl,_,b.blk.cell (j:=1) rfl,p1,?_⟩
  rw [e]
  exact⟨_,_,_,p2,rfl,p3⟩
 ·obtain⟨e1,e2,e3⟩:=zCB hf
  have k:bs (qb q)=txtQ q:=by rw [e3,bs_mk]
  have hz:=zB8 h k
  refine⟨_,b.blk.cell (j:=2) rfl,yC (c169 k (by omega) _ (hg.ext d)) ?_⟩
  rintro v w1 ⟨⟨s,rfl,hs⟩,f⟩
  have n:=zB8 h.neg hs
  refine⟨s,rfl,yC (c104 hs (by omega) w1 ((hg.ext d).ext f)) ?_⟩
  rintro v w2 ⟨rfl,l⟩
  obtain⟨p1,p2,p3⟩:=qput (-q) ((i.ext f).ext l) ((d.trans f).trans l) g.size
  exact⟨_,_,_,rfl,p1,_,_,_,p2,rfl,p3⟩
set_option maxHeartbeats 1000000 in
theorem c112 {p q:Rat} (hp:dg 90000000 p) (hq:dg 90000000 q) (w:World) (hg:Gl w):Ret prog 112 #[qv p,qv q] w fun v w'=>v=qv (p+q)/\Ext w w':=by
 have b0:=(yE w).alloc (.cells (qc p).toArray 88)
 have a0:=(yE (w.alloc (.cells (qc p).toArray 88))).alloc (.cells (qc q).toArray 88)
 have a1:=(yE ((w.alloc (.cells (qc p).toArray 88)).alloc (.cells (qc q).toArray 88))).alloc (.cells zq.toArray 88)
 have f:=((yN w (qc p) 88).ext a0).ext a1
 have g:=(yN (w.alloc (.cells (qc p).toArray 88)) (qc q) 88).ext a1
 have a7:=yN ((w.alloc (.cells (qc p).toArray 88)).alloc (.cells (qc q).toArray 88)) zq 88
 have b1:=(b0.trans a0).trans a1
 have a9:=(b0.trans a0).size
 refine run112 _ _ _ _ _ _ _ _ fun K hK=>?_
 have big : ∀ w1,Ext ((((w.alloc (.cells (qc p).toArray 88)).alloc (.cells (qc q).toArray 88))).alloc (.cells zq.toArray 88)) w1->K [] w1:=by
  intro w1 k
  have b3:=f.ext k.drew
  have b4:=g.ext k.drew
  have b5:=a7.ext k.drew
  have hx:=(b1.trans k).drew
  refine hK w1 fun K1 b6=>⟨_,_,_,b3.blk.all,_,_,_,b4.blk.all,yC (c76 (hp.mono (by decide)) _ (hg.ext hx)) ?_⟩
  rintro v w3 ⟨⟨s,rfl,hs⟩,d⟩
  refine⟨s,rfl,d,yC (c76 (hq.mono (by decide)) _ ((hg.ext hx).ext d)) ?_⟩
  rintro v w4 ⟨⟨t,rfl,ht⟩,l⟩
  have z1:=zB8 hp hs
  have z2:=zB8 hq ht
  refine⟨t,rfl,yC (c157 hs ht (by omega) _ (((hg.ext hx).ext d).ext l)) ?_⟩
  rintro v w5 ⟨⟨u,rfl,hu⟩,n⟩
  have z3:=zB8 (hp.add hq) hu
  refine⟨u,rfl,yC (c104 hu (by omega) _ ((((hg.ext hx).ext d).ext l).ext n)) ?_⟩
  rintro v w6 ⟨rfl,a8⟩
  obtain⟨p1,p2,p3⟩:=qput (p+q) (b5.ext (((d.trans l).trans n).trans a8)) (hx.trans (((d.trans l).trans n).trans a8)) a9
  exact⟨_,_,_,rfl,p1,b6 _ ⟨_,_,_,p2,rfl,p3⟩⟩
 intro K2 b7
 have main : ∀ b,b=(fitsQ p&&fitsQ q)->K2 [.bool b] (((w.alloc (.cells (qc p).toArray 88)).alloc (.cells (qc q).toArray 88)).alloc (.cells zq.toArray 88)):=by
  rintro b hb
  refine b7 b (zAb (fun h=>?_) (fun _=>big _ (yE _)))
  rw [h] at hb
  have hb:fitsQ p=true/\fitsQ q=true:=by rw [<- Bool.and_eq_true];exact hb.symm
  obtain⟨e1,e2,e3⟩:=zAM hb.1
  obtain⟨g1,g2,g3⟩:=zAM hb.2
  obtain⟨f1,f2⟩:=zAF.1 hb.1
  obtain⟨f3,f4⟩:=zAF.1 hb.2
  have d1:=p.den_nz
  have d2:=q.den_nz
  have o:i64.wrap (ql p+1)=(p.den:Int):=by rw [e2,zAd (by omega) (by omega)];omega
  have x:i64.wrap (ql q+1)=(q.den:Int):=by rw [g2,zAd (by omega) (by omega)];omega
  refine⟨_,f.blk.cell (j:=0) rfl,_,g.blk.cell (j:=1) rfl,?_⟩
  refine yC (c154 (qn p) (i64.wrap (ql q+1)) (by rw [e1];omega) (by rw [x];omega) _) ?_
  rintro v w7 ⟨⟨a,a4,rfl,h1⟩,rfl⟩
  refine⟨_,_,rfl,_,g.blk.cell (j:=0) rfl,_,f.blk.cell (j:=1) rfl,?_⟩
  refine yC (c154 (qn q) (i64.wrap (ql p+1)) (by rw [g1];omega) (by rw [o];omega) _) ?_
  rintro v w8 ⟨⟨a2,a5,rfl,h2⟩,rfl⟩
  refine⟨_,_,rfl,_,f.blk.cell (j:=1) rfl,_,g.blk.cell (j:=1) rfl,?_⟩
  refine yC (c154 (i64.wrap (ql p+1)) (i64.wrap (ql q+1)) (by rw [o];omega) (by rw [x];omega) _) ?_
  rintro v w9 ⟨⟨a3,b2,rfl,h3⟩,rfl⟩
  refine⟨_,_,rfl,?_⟩
  rw [o] at h2 h3
  rw [x] at h1 h3
  rw [e1] at h1
  rw [g1] at h2
  by_cases hok:a4=true/\a5=true
  ·obtain⟨rfl,i1⟩:=h1 hok.1
   obtain⟨rfl,i2⟩:=h2 hok.2
   refine yC (c155 _ _ i1 i2 _) ?_
   rintro v b9 ⟨⟨r,a6,rfl,h4⟩,rfl⟩
   refine⟨_,_,rfl,zAb (fun i=>?_) (fun _=>big _ (yE _))⟩
   rw [Bool.and_eq_true,Bool.and_eq_true,Bool.and_eq_true] at i
   obtain⟨rfl,i3⟩:=h3 i.2
   obtain⟨rfl,i4⟩:=h4 i.1.1.1
   have b8:((p.den:Int)*(q.den:Int))=((p.den*q.den:Nat):Int):=(Int.natCast_mul _ _).symm
   rw [b8] at i3 ⊢
   refine yC (c156 _ (p.den*q.den) (Nat.mul_ne_zero d1 d2) i4 (by omega) _) ?_
   rintro v d0 ⟨rfl,m⟩
   rw [<- Rat.add_def']
   obtain⟨p1,p2,p3⟩:=qput (p+q) (a7.ext m) (b1.trans m) a9
   exact⟨_,_,_,rfl,p1,_,_,_,p2,rfl,p3⟩
  ·refine yC (R:=fun v w'=>(∃ r ok,v = .tuple #[.int .i64 r,.bool ok])/\w' = ((w.alloc (.cells (qc p).toArray 88)).alloc (.cells (qc q).toArray 88)).alloc (.cells zq.toArray 88)) ?_ ?_
   ·refine run155 _ _ _ _ (zAb (fun _=>⟨⟨_,_,rfl⟩,rfl⟩) (fun _=>⟨⟨_,_,rfl⟩,rfl⟩))
   ·rintro v b9 ⟨⟨r,a6,rfl⟩,rfl⟩
    refine⟨_,_,rfl,?_⟩
    have:(a6&&a4&&a5&&b2)=false:=by
     cases h:(a6&&a4&&a5&&b2) with
     | false=>rfl
     | true =>
      rw [Bool.and_eq_true,Bool.and_eq_true,Bool.and_eq_true] at h
      exact absurd ⟨h.1.1.2,h.1.2⟩ hok
    rw [this]
    exact big _ (yE _)
 refine⟨_,f.blk.cell (j:=2) rfl,?_⟩
 rw [zBf]
 refine zAb (fun h1=>⟨_,g.blk.cell (j:=2) rfl,?_⟩) (fun h1=>main _ (by rw [h1];rfl))
 rw [zBf]
 exact main _ (by rw [h1];rfl)
set_option maxHeartbeats 1000000 in
theorem c113 {p q:Rat} (hp:dg 90000000 p) (hq:dg 90000000 q) (w:World) (hg:Gl w):Ret prog 113 #[qv p,qv q] w fun v w'=>v=qv (p*q)/\Ext w w':=by
 have a6:=(yE w).alloc (.cells (qc p).toArray 88)
 have o:=(yE (w.alloc (.cells (qc p).toArray 88))).alloc (.cells (qc q).toArray 88)
 have x:=(yE ((w.alloc (.cells (qc p).toArray 88)).alloc (.cells (qc q).toArray 88))).alloc (.cells zq.toArray 88)
 have g:=((yN w (qc p) 88).ext o).ext x
 have i:=(yN (w.alloc (.cells (qc p).toArray 88)) (qc q) 88).ext x
 have a0:=yN ((w.alloc (.cells (qc p).toArray 88)).alloc (.cells (qc q).toArray 88)) zq 88
 have a7:=(a6.trans o).trans x
 have a5:=(a6.trans o).size
 refine run113 _ _ _ _ _ _ _ _ fun K hK=>?_
 have big : ∀ w1,Ext ((((w.alloc (.cells (qc p).toArray 88)).alloc (.cells (qc q).toArray 88))).alloc (.cells zq.toArray 88)) w1->K [] w1:=by
  intro w1 k
  have a8:=g.ext k.drew
  have a9:=i.ext k.drew
  have b0:=a0.ext k.drew
  have hx:=(a7.trans k).drew
  refine hK w1 fun K1 b1=>⟨_,_,_,a8.blk.all,_,_,_,a9.blk.all,yC (c76 (hp.mono (by decide)) _ (hg.ext hx)) ?_⟩
  rintro v w3 ⟨⟨s,rfl,hs⟩,d⟩
  refine⟨s,rfl,d,yC (c76 (hq.mono (by decide)) _ ((hg.ext hx).ext d)) ?_⟩
  rintro v w4 ⟨⟨t,rfl,ht⟩,l⟩
  have z1:=zB8 hp hs
  have z2:=zB8 hq ht
  refine⟨t,rfl,yC (c158 hs ht (by omega) _ (((hg.ext hx).ext d).ext l)) ?_⟩
  rintro v w5 ⟨⟨u,rfl,hu⟩,n⟩
  have z3:=zB8 (hp.mul hq) hu
  refine⟨u,rfl,yC (c104 hu (by omega) _ ((((hg.ext hx).ext d).ext l).ext n)) ?_⟩
  rintro v w6 ⟨rfl,a1⟩
  obtain⟨p1,p2,p3⟩:=qput (p*q) (b0.ext (((d.trans l).trans n).trans a1)) (hx.trans (((d.trans l).trans n).trans a1)) a5
  exact⟨_,_,_,rfl,p1,b1 _ ⟨_,_,_,p2,rfl,p3⟩⟩
 intro K2 b2
 have main : ∀ b,b=(fitsQ p&&fitsQ q)->K2 [.bool b] (((w.alloc (.cells (qc p).toArray 88)).alloc (.cells (qc q).toArray 88)).alloc (.cells zq.toArray 88)):=by
  rintro b hb
  refine b2 b (zAb (fun h=>?_) (fun _=>big _ (yE _)))
  rw [h] at hb
  have hb:fitsQ p=true/\fitsQ q=true:=by rw [<- Bool.and_eq_true];exact hb.symm
  obtain⟨e1,e2,e3⟩:=zAM hb.1
  obtain⟨g1,g2,g3⟩:=zAM hb.2
  obtain⟨f1,f2⟩:=zAF.1 hb.1
  obtain⟨f3,f4⟩:=zAF.1 hb.2
  have d1:=p.den_nz
  have d2:=q.den_nz
  have a2:i64.wrap (ql p+1)=(p.den:Int):=by rw [e2,zAd (by omega) (by omega)];omega
  have a4:i64.wrap (ql q+1)=(q.den:Int):=by rw [g2,zAd (by omega) (by omega)];omega
  refine⟨_,g.blk.cell (j:=0) rfl,_,i.blk.cell (j:=0) rfl,?_⟩
  refine yC (c154 (qn p) (qn q) (by rw [e1];omega) (by rw [g1];omega) _) ?_
  rintro v w7 ⟨⟨a,b4,rfl,h1⟩,rfl⟩
  refine⟨_,_,rfl,_,g.blk.cell (j:=1) rfl,_,i.blk.cell (j:=1) rfl,?_⟩
  refine yC (c154 (i64.wrap (ql p+1)) (i64.wrap (ql q+1)) (by rw [a2];omega) (by rw [a4];omega) _) ?_
  rintro v w9 ⟨⟨a3,b5,rfl,h3⟩,rfl⟩
  rw [a2,a4] at h3
  rw [e1,g1] at h1
  refine⟨_,_,rfl,zAb (fun f=>?_) (fun _=>big _ (yE _))⟩
  rw [Bool.and_eq_true] at f
  obtain⟨rfl,i1⟩:=h1 f.1
  obtain⟨rfl,i3⟩:=h3 f.2
  have b3:((p.den:Int)*(q.den:Int))=((p.den*q.den:Nat):Int):=(Int.natCast_mul _ _).symm
  rw [b3] at i3 ⊢
  refine yC (c156 _ (p.den*q.den) (Nat.mul_ne_zero d1 d2) i1 (by omega) _) ?_
  rintro v b6 ⟨rfl,m⟩
  rw [<- Rat.mul_def']
  obtain⟨p1,p2,p3⟩:=qput (p*q) (a0.ext m) (a7.trans m) a5
  exact⟨_,_,_,rfl,p1,_,_,_,p2,rfl,p3⟩
 refine⟨_,g.blk.cell (j:=2) rfl,?_⟩
 rw [zBf]
 refine zAb (fun h1=>⟨_,i.blk.cell (j:=2) rfl,?_⟩) (fun h1=>main _ (by rw [h1];rfl))
 rw [zBf]
 exact main _ (by rw [h1];rfl)
theorem c114 {p q:Rat} (hp:dg 90000000 p) (hq:dg 90000000 q) (w:World) (hg:Gl w):Ret prog 114 #[qv p,qv q] w fun v w'=>v=qv (p - q)/\Ext w w':=by
 have i:=(yE w).alloc (.cells (qc p).toArray 88)
 have d:=(yE (w.alloc (.cells (qc p).toArray 88))).alloc (.cells (qc q).toArray 88)
 have f:=(yE ((w.alloc (.cells (qc p).toArray 88)).alloc (.cells (qc q).toArray 88))).alloc (.cells zq.toArray 88)
 have j:=((yN w (qc p) 88).ext d).ext f.drew
 have k:=(yN (w.alloc (.cells (qc p).toArray 88)) (qc q) 88).ext f.drew
 have l:=(yN ((w.alloc (.cells (qc p).toArray 88)).alloc (.cells (qc q).toArray 88)) zq 88).ext (yE _).drew
 have g:=(i.trans d).trans f.drew
 have m:=(i.trans d).size
 refine run114 _ _ _ _ _ _ _ _ fun K hK=>⟨_,_,_,j.blk.all,_,_,_,k.blk.all,yC (c133 (hq.mono (by decide)) _ (hg.ext g)) ?_⟩
 rintro v w2 ⟨rfl,b⟩
 refine⟨_,_,_,rfl,b,yC (c112 hp hq.neg _ ((hg.ext g).ext b)) ?_⟩
 rintro v w3 ⟨rfl,h⟩
 rw [<- Rat.sub_eq_add_neg]
 obtain⟨p1,p2,p3⟩:=qput (p - q) (l.ext (b.trans h)) (g.trans (b.trans h)) m
 exact⟨_,_,_,rfl,p1,hK _ ⟨_,_,_,p2,rfl,p3⟩⟩
theorem c122 {q:Rat} (h:dg 90000000 q) (h0:q≠0) (w:World) (hg:Gl w):Ret prog 122 #[qv q] w fun v w'=>v=qv q⁻¹/\Ext w w':=by
 have l:=(yE w).alloc (.cells (qc q).toArray 88)
 have x:=(yE (w.alloc (.cells (qc q).toArray 88))).alloc (.cells zq.toArray 88)
 have b:=(yN w (qc q) 88).ext x
 have m:=yN (w.alloc (.cells (qc q).toArray 88)) zq 88
 have g:=l.trans x
 have a0:q.num≠0:=fun e=>h0 (Rat.num_eq_zero.1 e)
 have a1:=q.den_nz
 refine run122 _ _ _ _ _ ⟨_,b.blk.cell (j:=2) rfl,?_⟩
 rw [zBf]
 refine zAb (fun hf=>?_) (fun hf=>?_)
 ·have hf:fitsQ q=false:=by simpa using hf
  obtain⟨e1,e2,e3⟩:=zCB hf
  have o:bs (qb q)=txtQ q:=by rw [e3,bs_mk]
  have hz:=zB8 h o
  have h1:bs ({ data:=#[49] } : BA)=txtQ 1:=by
   rw [zA3,if_neg (by decide),if_pos (show (1:Rat).den=1 from rfl)]
   show [49]=[]++dec 1++[]
   rw [zAv (by omega)];rfl
  have a2:({ data:=#[49] } : BA).size=1:=rfl
  refine⟨_,b.blk.cell (j:=2) rfl,yC (c164 h1 o h0 (by omega) _ (hg.ext g)) ?_⟩
  rintro v w1 ⟨⟨s,rfl,hs⟩,k⟩
  rw [Rat.one_mul] at hs
  have a3:=zB8 h.inv hs
  refine⟨s,rfl,yC (c104 hs (by omega) w1 ((hg.ext g).ext k)) ?_⟩
  rintro v w2 ⟨rfl,p⟩
  obtain⟨p1,p2,p3⟩:=qput q⁻¹ ((m.ext k).ext p) ((g.trans k).trans p) l.size
  exact⟨_,_,_,rfl,p1,_,_,_,p2,rfl,p3⟩
 ·have hf:fitsQ q=true:=by simpa using hf
  obtain⟨e1,e2,e3⟩:=zAM hf
  obtain⟨f1,f2⟩:=zAF.1 hf
  have d:(q⁻¹).num=q.num.sign*q.den:=Rat.num_inv q
  have f:(q⁻¹).den=q.num.natAbs:=by rw [Rat.den_inv,if_neg a0]
  obtain⟨p1,p2,p3⟩:=qput q⁻¹ m g l.size
  refine⟨_,b.blk.cell (j:=0) rfl,zAe (fun i=>?_) (fun u=>?_)⟩
  ·rw [e1] at i
   rw [Int.sign_eq_neg_one_of_neg i] at d
   have e:[Value.int .i64 (i64.wrap (i64.wrap (0 - ql q) - 1)),.int .i64 (i64.wrap (i64.wrap (0 - qn q) - 1)),.string { data:=#[] }]=qc q⁻¹:=by
    obtain⟨g1,g2,g3⟩:=zAM (q:=q⁻¹) (zAF.2 ⟨by rw [d];omega,by rw [f];omega⟩)
    unfold qc
    rw [g1,g2,g3,e1,e2,d,f,zAd (n:=0 - ((q.den:Int) - 1)) (by omega) (by omega),zAd (n:=0 - q.num) (by omega) (by omega),zAd (by omega) (by omega),zAd (by omega) (by omega)]
    congr 2
    ·omega
    ·congr 2;omega
   refine⟨_,b.blk.cell (j:=1) rfl,_,b.blk.cell (j:=0) rfl,p1,?_⟩
   rw [e]
   exact⟨_,_,_,p2,rfl,p3⟩
  ·rw [e1] at u
   rw [Int.sign_eq_one_of_pos (by omega)] at d
   have e:[Value.int .i64 (i64.wrap (ql q+1)),.int .i64 (i64.wrap (qn q - 1)),.string { data:=#[] }]=qc q⁻¹:=by
    obtain⟨g1,g2,g3⟩:=zAM (q:=q⁻¹) (zAF.2 ⟨by rw [d];omega,by rw [f];omega⟩)
    unfold qc
    rw [g1,g2,g3,e1,e2,d,f,zAd (by omega) (by omega),zAd (by omega) (by omega)]
    congr 2
    ·omega
    ·congr 2;omega
   refine⟨_,b.blk.cell (j:=1) rfl,_,b.blk.cell (j:=0) rfl,p1,?_⟩
   rw [e]
   exact⟨_,_,_,p2,rfl,p3⟩
theorem c75 {q:Rat} (h:dg 400000000 q) (w:World) (hg:Gl w):Ret prog 75 #[qv q] w fun v w'=>v = .int .i64 (Tb.sgnQ q)/\Ext w w':=by
 have hx:=(yE w).alloc (.cells (qc q).toArray 88)
 have hB:=yN w (qc q) 88
 have b:q.num.sign=Tb.sgnQ q:=by
  unfold Tb.sgnQ
  by_cases h1:q<0
  ·rw [if_pos h1,Int.sign_eq_neg_one_of_neg]
   have h2 : ¬ 0<=q:=Rat.not_le.2 h1
   exact Int.not_le.1 fun h=>h2 (Rat.num_nonneg.1 h)
  ·rw [if_neg h1]
   have h2:0<=q.num:=Rat.num_nonneg.2 (Rat.not_lt.1 h1)
   by_cases h3:q=0
   ·rw [if_pos h3,h3];rfl
   ·rw [if_neg h3,Int.sign_eq_one_of_pos]
    have:q.num≠0:=fun e=>h3 (Rat.num_eq_zero.1 e)
    omega
 refine run75 _ _ _ _ _ ⟨_,hB.blk.cell (j:=2) rfl,?_⟩
 rw [zBf]
 refine zAb (fun hf=>?_) (fun hf=>?_)
 ·have hf:fitsQ q=false:=by simpa using hf
  obtain⟨e1,e2,e3⟩:=zCB hf
  have d:bs (qb q)=txtQ q:=by rw [e3,bs_mk]
  have hz:=zB8 h d
  refine⟨_,hB.blk.cell (j:=2) rfl,yC (c131 d (by omega) _ (hg.ext hx)) ?_⟩
  rintro v w1 ⟨rfl,he⟩
  exact⟨_,rfl,by rw [b],hx.trans he⟩
 ·have hf:fitsQ q=true:=by simpa using hf
  obtain⟨e1,e2,e3⟩:=zAM hf
  refine⟨_,hB.blk.cell (j:=0) rfl,zAe (fun hn=>⟨?_,hx⟩) (fun hn=>⟨_,hB.blk.cell (j:=0) rfl,zAe (fun hp=>⟨?_,hx⟩) (fun hp=>⟨?_,hx⟩)⟩)⟩
  ·rw [e1] at hn
   rw [<- b,Int.sign_eq_neg_one_of_neg hn]
  ·rw [e1] at hp
   rw [<- b,Int.sign_eq_one_of_pos hp]
  ·rw [e1] at hn hp
   have:q.num=0:=by omega
   rw [<- b,this];rfl
theorem c67 {p q:Rat} (hp:dg 90000000 p) (hq:dg 90000000 q) (w:World) (hg:Gl w):Ret prog 67 #[qv p,qv q] w fun v w'=>v = .int .i64 (Tb.cmpQ p q)/\Ext w w':=by
 have j:=(yE w).alloc (.cells (qc p).toArray 88)
 have f:=(yE (w.alloc (.cells (qc p).toArray 88))).alloc (.cells (qc q).toArray 88)
 have g:=(yN w (qc p) 88).ext f
 have h:=yN (w.alloc (.cells (qc p).toArray 88)) (qc q) 88
 have b:=j.trans f
 refine run67 _ _ _ _ _ _ _ _ ⟨_,_,_,g.blk.all,_,_,_,h.blk.all,yC (c114 hp hq _ (hg.ext b)) ?_⟩
 rintro v w1 ⟨rfl,d⟩
 refine⟨_,_,_,rfl,yC (c75 ((hp.sub hq).mono (by decide)) _ ((hg.ext b).ext d)) ?_⟩
 rintro v w2 ⟨rfl,i⟩
 exact⟨_,rfl,rfl,(b.trans d).trans i⟩
theorem c146 {p q:Rat} (hp:dg 90000000 p) (hq:dg 89999999 q) (h0:q≠0) (w:World) (hg:Gl w):Ret prog 146 #[qv p,qv q] w fun v w'=>v=qv (p*q⁻¹)/\Ext w w':=by
 have i:=(yE w).alloc (.cells (qc p).toArray 88)
 have d:=(yE (w.alloc (.cells (qc p).toArray 88))).alloc (.cells (qc q).toArray 88)
 have f:=(yE ((w.alloc (.cells (qc p).toArray 88)).alloc (.cells (qc q).toArray 88))).alloc (.cells zq.toArray 88)
 have j:=((yN w (qc p) 88).ext d).ext f.drew
 have k:=(yN (w.alloc (.cells (qc p).toArray 88)) (qc q) 88).ext f.drew
 have l:=(yN ((w.alloc (.cells (qc p).toArray 88)).alloc (.cells (qc q).toArray 88)) zq 88).ext (yE _).drew
 have g:=(i.trans d).trans f.drew
 have m:=(i.trans d).size
 refine run146 _ _ _ _ _ _ _ _ fun K hK=>⟨_,_,_,j.blk.all,_,_,_,k.blk.all,yC (c122 (hq.mono (by decide)) h0 _ (hg.ext g)) ?_⟩
 rintro v w2 ⟨rfl,b⟩
 refine⟨_,_,_,rfl,b,yC (c113 hp (hq.inv.mono (by decide)) _ ((hg.ext g).ext b)) ?_⟩
 rintro v w3 ⟨rfl,h⟩
 obtain⟨p1,p2,p3⟩:=qput (p*q⁻¹) (l.ext (b.trans h)) (g.trans (b.trans h)) m
 exact⟨_,_,_,rfl,p1,hK _ ⟨_,_,_,p2,rfl,p3⟩⟩
theorem c130 (n:Int) (h0:n.natAbs<=9223372036854775807) (w:World) (hg:Gl w):Ret prog 130 #[.int .i64 n] w fun v w'=>v=qv (n:Rat)/\Ext w w':=by
 have hx:=(yE w).alloc (.cells zq.toArray 88)
 have hB:=yN w zq 88
 refine run130 _ _ _ ?_
 unfold vc130
 have b:(n == -9223372036854775808)=false:=by rw [beq_eq_false_iff_ne];omega
 rw [b,cond_false]
 have e:[Value.int .i64 n,.int .i64 0,.string { data:=#[] }]=qc (n:Rat):=by
  obtain⟨g1,g2,g3⟩:=zAM (q:=(n:Rat)) (zAF.2 ⟨h0,by show 1<=_;omega⟩)
  unfold qc
  rw [g1,g2,g3];rfl
 obtain⟨p1,p2,p3⟩:=qput (n:Rat) hB hx yL
 refine⟨p1,?_⟩
 rw [e]
 exact⟨_,_,_,p2,rfl,p3⟩
end Go.Proofs.Si
namespace Go.Proofs.Si
open Go Go.V Go.Proofs Go.RowKit Go.Num Go.Tb Go.Proofs.Tryz
set_option maxRecDepth 100000
def QL (f:Nat->Rat):Nat->List Value
 | 0=>[]
 | n+1=>QL f n++qc (f n)
theorem zAL (f:Nat->Rat) : ∀ n,(QL f n).length=3*n
 | 0=>rfl
 | n+1=>by rw [QL,List.length_append,zAL f n];show 3*n+3=_;omega
theorem QL_get {f:Nat->Rat} : ∀ {n i:Nat},i<n->∀ j,j<3->(QL f n)[3*i+j]? = (qc (f i))[j]?
 | n+1,i,hi,j,hj=>by
  rw [QL]
  by_cases h:i<n
  ·rw [List.getElem?_append_left (by rw [zAL];omega)]
   exact QL_get h j hj
  ·have:i=n:=by omega
   subst this
   rw [List.getElem?_append_right (by rw [zAL];omega),zAL,Nat.add_sub_cancel_left]
theorem zAR {f g:Nat->Rat} : ∀ {n:Nat},(∀ i,i<n->f i=g i)->QL f n=QL g n
 | 0,_=>rfl
 | n+1,h=>by rw [QL,QL,zAR fun i hi=>h i (by omega),h n (by omega)]
theorem QL_ext {f:Nat->Rat} {n:Nat} {L:List Value} (hl:L.length=3*n) (h : ∀ i,i<n->∀ j,j<3->L[3*i+j]? = (qc (f i))[j]?):L=QL f n:=by
 apply List.ext_getElem?
 intro k
 by_cases hk:k<3*n
 ·have h1:=h (k / 3) (by omega) (k % 3) (by omega)
  have h2:=QL_get (f:=f) (show k / 3<n by omega) (k % 3) (by omega)
  rw [Nat.div_add_mod] at h1 h2
  rw [h1,h2]
 ·rw [List.getElem?_eq_none (by omega),List.getElem?_eq_none (by rw [zAL];omega)]
theorem QL_set {f:Nat->Rat} {n i:Nat} (hi:i<n) (x:Rat):setL (QL f n) (3*i) (qc x)=QL (upd f i x) n:=by
 apply QL_ext (by rw [zBG,zAL])
 intro k hk j hj
 rw [zD4 _ _ _ _ (by rw [zAL];omega)]
 show (if 3*i<=3*k+j/\3*k+j<3*i+3 then _ else _)=_
 by_cases e:k=i
 ·subst e
  rw [if_pos (by omega),zA1,show 3*k+j - 3*k=j by omega]
 ·rw [if_neg (by omega),zAs _ e]
  exact QL_get hk j hj
theorem zEd (n:Nat):madeCells zq.toArray (n*3)=(QL (fun _=>0) n).toArray:=by
 apply Array.ext'
 show _=QL _ n
 apply QL_ext
 ·simp [madeCells];omega
 ·intro i hi j hj
  rw [qc_zero]
  simp only [madeCells]
  have:(3*i+j)<n*3:=by omega
  have h3:(3*i+j) % 3=j:=by omega
  match j,hj with
  | 0,_=>simp [show 3*i<n*3 by omega]
  | 1,_=>simp [this,h3]
  | 2,_=>simp [this,h3]
def QS (w:World) (a:OA) (f:Nat->Rat) (n:Nat):Prop:=SlAt w a (QL f n)
theorem QS.ext {w w' : World} {a:OA} {f:Nat->Rat} {n:Nat} (h:QS w a f n) (he:Ext w w'):QS w' a f n:=SlAt.ext h he
theorem _root_.Go.V.SlAt.get {w:World} {a:OA} {L:List Value} (h:SlAt w a L) {k:Nat} {v:Value} (hk:L[k]? = some v) : ∃ b o,a=some ⟨b,o,none⟩/\w.cell? ⟨b,o+k,none⟩=some v:=by
 rcases h with rfl | ⟨ad,h1,h2,h3⟩
 ·cases hk
 ·obtain⟨b,o,s⟩:=ad
  cases h2
  have:=h3 k v hk
  rw [zAi] at this
  exact⟨b,o,h1,this⟩
theorem QS.get {w:World} {a:OA} {f:Nat->Rat} {n i:Nat} (h:QS w a f n) (hi:i<n) : ∃ b o,a=some ⟨b,o,none⟩/\vcells w ((⟨b,o,none⟩:Addr).add (i*3)) 0 (qc (f i)):=by
 obtain⟨b,o,ha,_⟩:=SlAt.get h (k:=3*i+0) (QL_get hi 0 (by omega))
 refine⟨b,o,ha,?_⟩
 rw [zAD]
 intro j v hj
 have g:j<3:=(List.getElem?_eq_some_iff.1 hj).1
 obtain⟨b',o',d,hc⟩:=SlAt.get h (k:=3*i+j) ((QL_get hi j g).trans hj)
 rw [ha] at d
 cases d
 rw [zAi,zAi,Nat.zero_add,show o+i*3+j=o+(3*i+j) by omega]
 exact hc
theorem _root_.Go.V.Box.qget {w:World} {b ty:Nat} {f:Nat->Rat} {n i:Nat} (h:Box w b ty (QL f n)) (hi:i<n):vcells w ((⟨b,0,none⟩:Addr).add (i*3)) 0 (qc (f i)):=by
 obtain⟨b',o',ha,hv⟩:=QS.get (a:=some ⟨b,0,none⟩) h.blk.sl hi
 cases ha
 exact hv
theorem _root_.Go.V.Box.qwr {w:World} {b ty:Nat} {f:Nat->Rat} {n i:Nat} (h:Box w b ty (QL f n)) (hi:i<n):writable w ((⟨b,0,none⟩:Addr).add (i*3)) 3:=by
 rw [zAi]
 exact h.blk.writable (by rw [zAL];omega)
theorem _root_.Go.V.Box.qset {w:World} {b ty:Nat} {f:Nat->Rat} {n i:Nat} (h:Box w b ty (QL f n)) (hi:i<n) (x:Rat):Box (setCells w ((⟨b,0,none⟩:Addr).add (i*3)) 0 (qc x)) b ty (QL (upd f i x) n):=by
 rw [zAi,<- QL_set hi]
 have:=h.setCells (o:=0+i*3) (qc x) 0
 rwa [show 0+i*3+0=3*i by omega] at this
theorem _root_.Go.V.Box.qs {w:World} {b ty:Nat} {f:Nat->Rat} {n:Nat} (h:Box w b ty (QL f n)):QS w (some ⟨b,0,none⟩) f n:=h.blk.sl
theorem zFx (n:Nat):n*siE.P.types[88].size=n*3:=rfl
theorem size9s (n:Nat):n*siE.P.types[9].size=n:=Nat.mul_one n
def SL (s:Nat->BA) (n:Nat):List Value:=upto (fun i => .string (s i)) n
theorem zAX {α:Type} {f:Nat->α} {n i:Nat} (h:i<n):(upto f n)[i]? = some (f i):=by
 unfold upto
 rw [List.getElem?_map,List.getElem?_range h];rfl
theorem zEq {α:Type} {f:Nat->α} {n:Nat} {L:List α} (hl:L.length=n) (h : ∀ i,i<n->L[i]? = some (f i)):L=upto f n:=by
 apply List.ext_getElem?
 intro k
 by_cases hk:k<n
 ·rw [h k hk,zAX hk]
 ·rw [List.getElem?_eq_none (by omega),List.getElem?_eq_none (by rw [zAB];omega)]
theorem zCm {α:Type} {f:Nat->α} {n i:Nat} (hi:i<n) (x:α):(upto f n).set i x=upto (upd f i x) n:=by
 apply zEq (by rw [List.length_set,zAB])
 intro k hk
 rw [List.getElem?_set]
 by_cases e:i=k
 ·subst e
  rw [if_pos rfl,if_pos (by rw [zAB];exact hi),zA1]
 ·rw [if_neg e,zAX hk,zAs _ (fun e2=>e e2.symm)]
theorem zA6 {α:Type} {f g:Nat->α} {n:Nat} (h : ∀ i,i<n->f i=g i):upto f n=upto g n :=
 zEq (zAB _ _) fun i hi=>by rw [zAX hi,h i hi]
def SS (w:World) (a:OA) (s:Nat->BA) (n:Nat):Prop:=SlAt w a (SL s n)
theorem SS.ext {w w' : World} {a:OA} {s:Nat->BA} {n:Nat} (h:SS w a s n) (he:Ext w w'):SS w' a s n:=SlAt.ext h he
theorem SS.get {w:World} {a:OA} {s:Nat->BA} {n i:Nat} (h:SS w a s n) (hi:i<n) : ∃ ad,a=some ad/\w.cell? (ad.add (i*1))=some (.string (s i)):=by
 obtain⟨b,o,ha,hc⟩:=SlAt.get h (k:=i) (zAX hi)
 refine⟨_,ha,?_⟩
 rw [zAi,Nat.mul_one]
 exact hc
theorem c62 {a:OA} {s:Nat->BA} {n c:Nat} (hn:n<=1099511627776) (w:World) (hs:SS w a s n) (hz : ∀ i,i<n->(s i).size<=1000000000) (hg:Gl w) :
  Ret prog 62 #[.slice a n c] w fun v w'=>(∃ b,v = .bool b/\(b=true↔∀ i,i<n->okQ (bs (s i))=true))/\Ext w w':=by
 refine run62 _ _ _ _ _ ⟨fun vals w1=>∃ i:Nat,vals=[.int .i64 i]/\i<=n/\(∀ k,k<i->okQ (bs (s k))=true)/\Ext w w1,mu1 n,⟨0,rfl,Nat.zero_le _,fun k hk=>by omega,yE _⟩,?_⟩
 rintro m w1 ⟨i,hv,hi,f,he⟩
 cases hv
 refine zAe (fun j=>?_) (fun l=>⟨⟨true,rfl,by simp only [true_iff];exact fun k hk=>f k (by omega)⟩,he⟩)
 have d:i<n:=by omega
 obtain⟨ad,ha,hc⟩:=(hs.ext he).get d
 refine⟨ad,ha,⟨by omega,j⟩,_,hc,yC (c111 (s i) (hz i d) w1 (hg.ext he)) ?_⟩
 rintro v w2 ⟨rfl,g⟩
 refine⟨_,rfl,zAb (fun hb=>⟨⟨false,rfl,?_⟩,he.trans g⟩) (fun hb=>?_)⟩
 ·have hb:okQ (bs (s i))=false:=by simpa using hb
  constructor
  ·intro h;cases h
  ·intro h;rw [h i d] at hb;cases hb
 ·have hb:okQ (bs (s i))=true:=by simpa using hb
  rw [zAf (by omega)]
  refine⟨⟨i+1,rfl,d,fun k hk=>?_,he.trans g⟩,by simp only [mu1,yT];omega⟩
  by_cases e:k=i
  ·rw [e];exact hb
  ·exact f k (by omega)
theorem c64 {a:OA} {s:Nat->BA} {f:Nat->Rat} {n c:Nat} (hn:n<=1048576) (w:World) (hs:SS w a s n) (hz : ∀ i,i<n->(s i).size<=1000000000) (hf : ∀ i,i<n->bs (s i)=txtQ (f i)) (hg:Gl w) :
  Ret prog 64 #[.slice a n c] w fun v w'=>v = .slice (some ⟨w.heap.size,0,none⟩) n n/\Box w' w.heap.size 88 (QL f n)/\Ext w w':=by
 refine run64 _ _ _ _ _ ⟨⟨by omega,by omega,by omega,by omega⟩,?_⟩
 simp only [yT,zFx]
 have e0:madeCells (Value.agg #[Value.int .i64 0,.int .i64 0,.string { data:=#[] }]).cells (n*3)=(QL (fun _=>0) n).toArray:=zEd n
 rw [e0]
 refine⟨fun vals w1=>∃ i:Nat,vals=[.int .i64 i]/\i<=n/\Box w1 w.heap.size 88 (QL (fun k=>if k<i then f k else 0) n)/\Ext w w1,mu1 n,⟨0,rfl,Nat.zero_le _,?_,(yE w).alloc _⟩,?_⟩
 ·rw [zAR (g:=fun _=>0) fun i _=>if_neg (by omega)]
  exact yN w _ 88
 rintro m w1 ⟨i,hv,hi,hB,he⟩
 cases hv
 refine zAe (fun l=>?_) (fun o=>⟨trivial,?_,he⟩)
 ·have b:i<n:=by omega
  obtain⟨ad,ha,hc⟩:=(hs.ext he).get b
  refine⟨ad,ha,⟨by omega,l⟩,_,hc,yC (c104 (hf i b) (hz i b) w1 (hg.ext he)) ?_⟩
  rintro v w2 ⟨rfl,j⟩
  have d:=hB.ext j
  refine⟨_,_,_,rfl,_,rfl,⟨by omega,l⟩,d.qwr b,?_⟩
  rw [zAf (by omega)]
  refine⟨⟨i+1,rfl,b,?_,?_⟩,by simp only [mu1,yT];omega⟩
  ·have:=d.qset b (f i)
   rw [zAR (g:=fun k=>if k<i+1 then f k else 0) fun k hk=>?_] at this
   ·exact this
   ·by_cases e:k=i
    ·subst e;rw [zA1,if_pos (by omega)]
    ·rw [zAs _ e]
     by_cases h:k<i
     ·rw [if_pos h,if_pos (by omega)]
     ·rw [if_neg h,if_neg (by omega)]
  ·rw [zAi]
   exact (he.trans j).put yL _ _
 ·rw [zAR (g:=f) fun k hk=>if_pos (by omega)] at hB
  exact hB
theorem made_str (n:Nat):madeCells (Value.string { data:=#[] }).cells n=(upto (fun _=>Value.string { data:=#[] }) n).toArray:=by
 apply Array.ext'
 show _=upto _ n
 apply zEq
 ·simp [madeCells]
 ·intro i hi
  simp [madeCells,Value.cells,hi,Nat.mod_one]
theorem c72 {a:OA} {f:Nat->Rat} {n c:Nat} (hn:n<=1048576) (w:World) (hs:QS w a f n) (hz : ∀ i,i<n->dg 400000000 (f i)) (hg:Gl w) :
  Ret prog 72 #[.slice a n c] w fun v w'=>v = .slice (some ⟨w.heap.size,0,none⟩) n n/\Box w' w.heap.size 9 (SL (fun i=>mk (txtQ (f i))) n)/\Ext w w':=by
 refine run72 _ _ _ _ _ ⟨⟨by omega,by omega,by omega,by omega⟩,?_⟩
 simp only [yT,size9s,made_str]
 refine⟨fun vals w1=>∃ i:Nat,vals=[.int .i64 i]/\i<=n/\Box w1 w.heap.size 9 (SL (fun k=>if k<i then mk (txtQ (f k)) else { data:=#[] }) n)/\Ext w w1,mu1 n,⟨0,rfl,Nat.zero_le _,?_,(yE w).alloc _⟩,?_⟩
 ·have:SL (fun k=>if k<0 then mk (txtQ (f k)) else { data:=#[] }) n=upto (fun _=>Value.string { data:=#[] }) n:=zA6 fun i _=>by (show Value.string (if i<0 then _ else _)=_;rw [if_neg (by omega)])
  rw [this]
  exact yN w _ 9
 rintro m w1 ⟨i,hv,hi,hB,he⟩
 cases hv
 refine zAe (fun p=>?_) (fun a1=>⟨trivial,?_,he⟩)
 ·have d:i<n:=by omega
  obtain⟨b,o,ha,hc⟩:=(hs.ext he).get d
  have hN:=yN w1 zq 88
  have x:=(hB.ext ((yE w1).alloc (.cells zq.toArray 88))).same (zAk (b:=w1.heap.size) (o:=0) (k:=w.heap.size) (by have:=hB.lt;omega) (qc (f i)) 0)
  have hx:Ext w (setCells (w1.alloc (.cells zq.toArray 88)) ⟨w1.heap.size,0,none⟩ 0 (qc (f i))):=(he.alloc _).put he.size _ _
  refine⟨_,ha,⟨by omega,p⟩,_,_,_,hc,hN.blk.writable (by decide),_,_,_,(hN.put (qc (f i)) (by rfl)).blk.all,yC (c76 (hz i d) _ (hg.ext hx)) ?_⟩
  rintro v w2 ⟨⟨s,rfl,a0⟩,l⟩
  have g:=x.ext l
  have j:((⟨w.heap.size,0,none⟩:Addr).add (i*1))=⟨w.heap.size,i,none⟩:=by rw [zAi,Nat.mul_one,Nat.zero_add]
  refine⟨s,rfl,_,rfl,⟨by omega,p⟩,?_⟩
  rw [yT,j,zAf (by omega)]
  refine⟨⟨⟨_,g.blk.cell (zAX d)⟩,g.blk.free⟩,⟨i+1,rfl,d,?_,(hx.trans l).setCell yL _⟩,by simp only [mu1,yT];omega⟩
  have:=g.set i (.string s)
  rw [SL,zCm d] at this
  have e:upto (upd (fun u=>Value.string (if u<i then mk (txtQ (f u)) else { data:=#[] })) i (Value.string s)) n=SL (fun k=>if k<i+1 then mk (txtQ (f k)) else { data:=#[] }) n:=by
   refine zA6 fun k hk=>?_
   by_cases e:k=i
   ·subst e
    rw [zA1]
    show _=Value.string (if k<k+1 then _ else _)
    rw [if_pos (by omega)]
    congr 1
    exact zDF (by rw [bs_mk,a0])
   ·rw [zAs _ e]
    show Value.string (if k<i then _ else _)=Value.string (if k<i+1 then _ else _)
    by_cases h:k<i
    ·rw [if_pos h,if_pos (by omega)]
    ·rw [if_neg h,if_neg (by omega)]
  rw [e] at this
  exact this
 ·have e:SL (fun k=>if k<i then mk (txtQ (f k)) else { data:=#[] }) n=SL (fun i=>mk (txtQ (f i))) n:=zA6 fun k hk=>by (show Value.string (if k<i then _ else _)=_;rw [if_pos (by omega)])
  rw [e] at hB
  exact hB
end Go.Proofs.Si
namespace Go.Proofs.Si
open Go Go.V Go.Proofs Go.RowKit Go.Num Go.Tb
set_option maxRecDepth 100000
def GL (g:Nat->List Value):Nat->List Value
 | 0=>[]
 | n+1=>GL g n++g n
theorem zBd {g:Nat->List Value} {m:Nat} (hm : ∀ i,(g i).length=m) : ∀ n,(GL g n).length=m*n
 | 0=>rfl
 | n+1=>by rw [GL,List.length_append,zBd hm n,hm,Nat.mul_succ]
theorem GL_get {g:Nat->List Value} {m:Nat} (hm : ∀ i,(g i).length=m) : ∀ {n i:Nat},i<n->∀ j,j<m->(GL g n)[m*i+j]? = (g i)[j]?
 | n+1,i,hi,j,hj=>by
  rw [GL]
  by_cases h:i<n
  ·have:m*i+m<=m*n:=by rw [<- Nat.mul_succ];exact Nat.mul_le_mul_left _ h
   rw [List.getElem?_append_left (by rw [zBd hm];omega)]
   exact GL_get hm h j hj
  ·have:i=n:=by omega
   subst this
   rw [List.getElem?_append_right (by rw [zBd hm];omega),zBd hm,Nat.add_sub_cancel_left]
theorem GL_ext {g:Nat->List Value} {m n:Nat} (hm0:0<m) (hm : ∀ i,(g i).length=m) {L:List Value} (hl:L.length=m*n) (h : ∀ i,i<n->∀ j,j<m->L[m*i+j]? = (g i)[j]?):L=GL g n:=by
 apply List.ext_getElem?
 intro k
 by_cases hk:k<m*n
 ·have hd:k / m<n:=Nat.div_lt_of_lt_mul hk
  have h1:=h (k / m) hd (k % m) (Nat.mod_lt _ hm0)
  have h2:=GL_get hm hd (k % m) (Nat.mod_lt _ hm0)
  rw [Nat.div_add_mod] at h1 h2
  rw [h1,h2]
 ·rw [List.getElem?_eq_none (by omega),List.getElem?_eq_none (by rw [zBd hm];omega)]
theorem zBQ {f g:Nat->List Value} : ∀ {n:Nat},(∀ i,i<n->f i=g i)->GL f n=GL g n
 | 0,_=>rfl
 | n+1,h=>by rw [GL,GL,zBQ fun i hi=>h i (by omega),h n (by omega)]
theorem GL_set {g:Nat->List Value} {m n i:Nat} (hm0:0<m) (hm : ∀ i,(g i).length=m) (hi:i<n) (x:List Value) (hx:x.length=m):setL (GL g n) (m*i) x=GL (upd g i x) n:=by
 have b : ∀ k,(upd g i x k).length=m:=fun k=>by
  unfold upd;split
  ·exact hx
  ·exact hm k
 apply GL_ext hm0 b (by rw [zBG,zBd hm])
 intro k hk j hj
 have f:m*k+m<=m*n:=by rw [<- Nat.mul_succ];exact Nat.mul_le_mul_left _ hk
 rw [zD4 _ _ _ _ (by rw [zBd hm];omega),hx]
 by_cases e:k=i
 ·subst e
  rw [if_pos (by omega),zA1,show m*k+j - m*k=j by omega]
 ·have d : ¬ (m*i<=m*k+j/\m*k+j<m*i+m):=by
   rintro⟨h1,h2⟩
   rcases Nat.lt_or_gt_of_ne e with h3 | h3
   ·have:m*k+m<=m*i:=by rw [<- Nat.mul_succ];exact Nat.mul_le_mul_left _ h3
    omega
   ·have:m*i+m<=m*k:=by rw [<- Nat.mul_succ];exact Nat.mul_le_mul_left _ h3
    omega
  rw [if_neg d,zAs _ e]
  exact GL_get hm hk j hj
theorem _root_.Go.V.SlAt.gget {w:World} {a:OA} {g:Nat->List Value} {m n i:Nat} (hm0:0<m) (hm : ∀ i,(g i).length=m) (h:SlAt w a (GL g n)) (hi:i<n) : ∃ b o,a=some ⟨b,o,none⟩/\vcells w ((⟨b,o,none⟩:Addr).add (i*m)) 0 (g i):=by
 have h0:(g i)[0]? = some ((g i)[0]'(by rw [hm];exact hm0)):=List.getElem?_eq_getElem (by rw [hm];exact hm0)
 obtain⟨b,o,ha,_⟩:=SlAt.get h (k:=m*i+0) ((GL_get hm hi 0 hm0).trans h0)
 refine⟨b,o,ha,?_⟩
 rw [zAD]
 intro j v hj
 have f:j<m:=by rw [<- hm i];exact (List.getElem?_eq_some_iff.1 hj).1
 obtain⟨b',o',d,hc⟩:=SlAt.get h (k:=m*i+j) ((GL_get hm hi j f).trans hj)
 rw [ha] at d
 cases d
 rw [zAi,zAi,Nat.zero_add,show o+i*m+j=o+(m*i+j) by rw [Nat.mul_comm i m,Nat.add_assoc]]
 exact hc
def vc2 (v:V2):List Value:=[.int .i64 (qn v.1),.int .i64 (ql v.1),.string (qb v.1),.int .i64 (qn v.2),.int .i64 (ql v.2),.string (qb v.2)]
def vv (v:V2):Value := .agg #[.int .i64 (qn v.1),.int .i64 (ql v.1),.string (qb v.1),.int .i64 (qn v.2),.int .i64 (ql v.2),.string (qb v.2)]
abbrev zv:List Value:=[.int .i64 0,.int .i64 0,.string { data:=#[] },.int .i64 0,.int .i64 0,.string { data:=#[] }]
theorem vc2_zero:vc2 zero2=zv:=by
 have:=qc_zero
 unfold qc at this
 injection this with h1 h2
 injection h2 with h2 h3
 injection h3 with h3 h4
 unfold vc2 zero2
 simp only [h1,h2,h3]
theorem _root_.Go.V.Box.r {w:World} {b ty:Nat} {v:V2} (h:Box w b ty (vc2 v)):vcells w ⟨b,0,none⟩ 0 (qc v.1):=h.blk.vcells fun j hj=>by
 have:j<3:=hj
 match j,this with
 | 0,_=>rfl
 | 1,_=>rfl
 | 2,_=>rfl
theorem _root_.Go.V.Box.e {w:World} {b ty:Nat} {v:V2} (h:Box w b ty (vc2 v)):vcells w ⟨b,3,none⟩ 0 (qc v.2):=h.blk.vcells fun j hj=>by
 have:j<3:=hj
 match j,this with
 | 0,_=>rfl
 | 1,_=>rfl
 | 2,_=>rfl
def dg2 (k:Nat) (v:V2):Prop:=dg k v.1/\dg k v.2
theorem dg2.mono {j k:Nat} {v:V2} (h:dg2 j v) (hj:j<=k):dg2 k v:=⟨h.1.mono hj,h.2.mono hj⟩
def VL (f:Nat->V2) (n:Nat):List Value:=GL (fun i=>vc2 (f i)) n
structure RowL where
 cA:Nat->Option Addr
 cC:Nat->Nat
def rowc (S:Tb.Sys) (R:RowL) (i:Nat):List Value:=[.slice (R.cA i) S.n (R.cC i),.int .i64 (S.rel i:Int),.int .i64 (qn (S.K i)),.int .i64 (ql (S.K i)),.string (qb (S.K i))]
def RowsR (w:World) (a:OA) (S:Tb.Sys) (R:RowL):Prop:=SlAt w a (GL (rowc S R) S.m)/\∀ i,i<S.m->QS w (R.cA i) (S.C i) S.n
theorem RowsR.ext {w w' : World} {a:OA} {S:Tb.Sys} {R:RowL} (h:RowsR w a S R) (he:Ext w w'):RowsR w' a S R:=⟨SlAt.ext h.1 he,fun i hi=>(h.2 i hi).ext he⟩
theorem RowsR.get {w:World} {a:OA} {S:Tb.Sys} {R:RowL} (h:RowsR w a S R) {i:Nat} (hi:i<S.m) : ∃ ad,a=some ad/\vcells w (ad.add (i*5)) 0 (rowc S R i)/\(∃ b o,ad=⟨b,o,none⟩):=by
 obtain⟨b,o,ha,hv⟩:=SlAt.gget (m:=5) (by omega) (fun _=>rfl) h.1 hi
 exact⟨_,ha,hv,b,o,rfl⟩
structure Lay where
 bt:Nat
 ra:OA
 rc:Nat
 R:RowL
 ba:OA
 bc:Nat
 ca:OA
 cc:Nat
 la:Nat
 aa:OA
 ac:Nat
 va:Nat
 rowA:Nat->Option Addr
 rowC:Nat->Nat
 xb:Nat
 xl:List Value
 yb:Nat
 yl:List Value
def OwnB (w:World) (B ty:Nat) (a:OA) (L:List Value):Prop:=L=[]\/∃ b,a=some ⟨b,0,none⟩/\B<=b/\Blk w b ty L
theorem OwnB.sl {w:World} {B ty:Nat} {a:OA} {L:List Value} (h:OwnB w B ty a L):SlAt w a L:=h.imp id fun ⟨b,h1,_,h2⟩=>⟨_,h1,rfl,h2.row⟩
theorem OwnB.ext {w w' : World} {B ty:Nat} {a:OA} {L:List Value} (h:OwnB w B ty a L) (he:Ext w w'):OwnB w' B ty a L:=h.imp id fun ⟨b,h1,hb,h2⟩=>⟨b,h1,hb,h2.ext he⟩
def lInt (f:Nat->Nat) (n:Nat):List Value:=upto (fun i => .int .i64 (f i:Int)) n
def lLine (f:Nat->Int) (n:Nat):List Value:=upto (fun i => .int .i64 (f i)) n
def lRow (T:Lay) (n m:Nat):List Value:=upto (fun i => .slice (T.rowA i) n (T.rowC i)) m
def tbox (S:Tb.Sys) (T:Lay):List Value:=[.int .i64 (S.n:Int),.slice T.ra S.m T.rc,.slice T.ba S.m T.bc,.slice T.ca S.n T.cc,.slice (some ⟨T.la,0,none⟩) (S.n+S.m) (S.n+S.m),.slice T.aa S.m T.ac,.slice (some ⟨T.va,0,none⟩) (S.n+S.m) (S.n+S.m)]
structure TabAt (S:Tb.Sys) (B:Nat) (w:World) (T:Lay) (s:Dy):Prop where
 box:Box w T.bt 140 (tbox S T)
 bt:B<=T.bt
 line:Box w T.la 3 (lLine s.line (S.n+S.m))
 la:B<=T.la
 val:Box w T.va 101 (VL s.val (S.n+S.m))
 va:B<=T.va
 basic:OwnB w B 3 T.ba (lInt s.basic S.m)
 cols:OwnB w B 3 T.ca (lInt s.cols S.n)
 a:OwnB w B 83 T.aa (lRow T S.n S.m)
 row : ∀ i,i<S.m->OwnB w B 88 (T.rowA i) (QL (s.a i) S.n)
 rows : ∀ w',Below B w w'->RowsR w' T.ra S T.R
 gl : ∀ w',Below B w w'->Gl w'
 xt:T.xl=[]\/Blk w T.xb 88 T.xl
 yt:T.yl=[]\/Blk w T.yb 103 T.yl
 d4 : ∀ i,i<S.m->T.xl≠[]->T.rowA i≠some ⟨T.xb,0,none⟩
 d1 : ∀ b,T.ba=some ⟨b,0,none⟩->T.ca≠some ⟨b,0,none⟩/\b≠T.la
 d2 : ∀ b,T.ca=some ⟨b,0,none⟩->b≠T.la
 d3 : ∀ i k b,i<S.m->k<S.m->i≠k->T.rowA i=some ⟨b,0,none⟩->T.rowA k≠some ⟨b,0,none⟩
theorem TabAt.ext {S:Tb.Sys} {B:Nat} {w w' : World} {T:Lay} {s:Dy} (h:TabAt S B w T s) (he:Ext w w') (hB:B<=w.heap.size):TabAt S B w' T s :=
 { h with box:=h.box.ext he,line:=h.line.ext he,val:=h.val.ext he,basic:=h.basic.ext he,cols:=h.cols.ext he,a:=h.a.ext he,row:=fun i hi=>(h.row i hi).ext he,rows:=fun w2 h2=>h.rows w2 (Below.trans (Below.mono he hB) h2),gl:=fun w2 h2=>h.gl w2 (Below.trans (Below.mono he hB) h2),xt:=h.xt.imp id fun hx=>hx.ext he,yt:=h.yt.imp id fun hx=>hx.ext he }
theorem TabAt.hB {S:Tb.Sys} {B:Nat} {w:World} {T:Lay} {s:Dy} (h:TabAt S B w T s):B<=w.heap.size:=Nat.le_trans h.bt (Nat.le_of_lt h.box.lt)
theorem TabAt.gg {S:Tb.Sys} {B:Nat} {w:World} {T:Lay} {s:Dy} (h:TabAt S B w T s):Gl w:=h.gl w (Below.refl _ _)
theorem TabAt.congr {S:Tb.Sys} {B:Nat} {w:World} {T:Lay} {s s' : Dy} (h:TabAt S B w T s) (h1 : ∀ i,i<S.m->s'.basic i=s.basic i) (h2 : ∀ j,j<S.n->s'.cols j=s.cols j) (h3 : ∀ v,v<S.n+S.m->s'.line v=s.line v) (h4 : ∀ i,i<S.m->∀ j,j<S.n->s'.a i j=s.a i j) (h5 : ∀ v,v<S.n+S.m->s'.val v=s.val v):TabAt S B w T s':=by
 have e1:lInt s'.basic S.m=lInt s.basic S.m:=zA6 fun i hi=>by rw [h1 i hi]
 have e2:lInt s'.cols S.n=lInt s.cols S.n:=zA6 fun i hi=>by rw [h2 i hi]
 have e3:lLine s'.line (S.n+S.m)=lLine s.line (S.n+S.m):=zA6 fun i hi=>by rw [h3 i hi]
 have e5:VL s'.val (S.n+S.m)=VL s.val (S.n+S.m):=zBQ fun i hi=>by rw [h5 i hi]
 exact { h with
  line:=e3▸h.line
  val:=e5▸h.val
  basic:=e1▸h.basic
  cols:=e2▸h.cols
  row:=fun i hi=>by rw [zAR fun j hj=>h4 i hi j hj];exact h.row i hi }
theorem TabAt.drew {S:Tb.Sys} {B:Nat} {w:World} {T:Lay} {s:Dy} (h:TabAt S B w T s) (hB:B<=w.heap.size):TabAt S B w.drew T s:=h.ext (yE w).drew hB
section
variable {S:Tb.Sys} {B:Nat} {w:World} {T:Lay} {s:Dy}
theorem TabAt.f0 (h:TabAt S B w T s):w.cell? ⟨T.bt,0,none⟩=some (.int .i64 (S.n:Int)):=h.box.blk.cell (j:=0) rfl
theorem TabAt.f1 (h:TabAt S B w T s):w.cell? ((⟨T.bt,0,none⟩:Addr).add 1)=some (.slice T.ra S.m T.rc):=h.box.blk.cell (j:=1) rfl
theorem TabAt.f2 (h:TabAt S B w T s):w.cell? ((⟨T.bt,0,none⟩:Addr).add 2)=some (.slice T.ba S.m T.bc):=h.box.blk.cell (j:=2) rfl
theorem TabAt.f3 (h:TabAt S B w T s):w.cell? ((⟨T.bt,0,none⟩:Addr).add 3)=some (.slice T.ca S.n T.cc):=h.box.blk.cell (j:=3) rfl
theorem TabAt.f4 (h:TabAt S B w T s):w.cell? ((⟨T.bt,0,none⟩:Addr).add 4)=some (.slice (some ⟨T.la,0,none⟩) (S.n+S.m) (S.n+S.m)):=h.box.blk.cell (j:=4) rfl
theorem TabAt.f5 (h:TabAt S B w T s):w.cell? ((⟨T.bt,0,none⟩:Addr).add 5)=some (.slice T.aa S.m T.ac):=h.box.blk.cell (j:=5) rfl
theorem TabAt.f6 (h:TabAt S B w T s):w.cell? ((⟨T.bt,0,none⟩:Addr).add 6)=some (.slice (some ⟨T.va,0,none⟩) (S.n+S.m) (S.n+S.m)):=h.box.blk.cell (j:=6) rfl
theorem slGet {w:World} {a:OA} {f:Nat->Value} {n i:Nat} (h:SlAt w a (upto f n)) (hi:i<n) : ∃ ad,a=some ad/\w.cell? (ad.add (i*1))=some (f i):=by
 obtain⟨b,o,ha,hc⟩:=SlAt.get h (k:=i) (zAX hi)
 refine⟨_,ha,?_⟩
 rw [zAi,Nat.mul_one]
 exact hc
theorem TabAt.basicAt (h:TabAt S B w T s) {i:Nat} (hi:i<S.m) : ∃ ad,T.ba=some ad/\w.cell? (ad.add (i*1))=some (.int .i64 (s.basic i:Int)):=slGet h.basic.sl hi
theorem TabAt.colsAt (h:TabAt S B w T s) {j:Nat} (hj:j<S.n) : ∃ ad,T.ca=some ad/\w.cell? (ad.add (j*1))=some (.int .i64 (s.cols j:Int)):=slGet h.cols.sl hj
theorem TabAt.lineAt (h:TabAt S B w T s) {v:Nat} (hv:v<S.n+S.m):w.cell? ((⟨T.la,0,none⟩:Addr).add (v*1))=some (.int .i64 (s.line v)):=by
 obtain⟨ad,ha,hc⟩:=slGet (a:=some ⟨T.la,0,none⟩) h.line.blk.sl hv
 cases ha;exact hc
theorem TabAt.aAt (h:TabAt S B w T s) {i:Nat} (hi:i<S.m) : ∃ ad,T.aa=some ad/\w.cell? (ad.add (i*1))=some (.slice (T.rowA i) S.n (T.rowC i)):=slGet h.a.sl hi
theorem TabAt.qAt (h:TabAt S B w T s) {i j:Nat} (hi:i<S.m) (hj:j<S.n) : ∃ ad,T.rowA i=some ad/\vcells w (ad.add (j*3)) 0 (qc (s.a i j)):=by
 obtain⟨b,o,ha,hv⟩:=QS.get (h.row i hi).sl hj
 exact⟨_,ha,hv⟩
theorem TabAt.valAt (h:TabAt S B w T s) {v:Nat} (hv:v<S.n+S.m):vcells w ((⟨T.va,0,none⟩:Addr).add (v*6)) 0 (vc2 (s.val v)):=by
 obtain⟨b,o,ha,hc⟩:=SlAt.gget (m:=6) (by omega) (fun _=>rfl) (a:=some ⟨T.va,0,none⟩) h.val.blk.sl hv
 cases ha;exact hc
theorem TabAt.valWr (h:TabAt S B w T s) {v:Nat} (hv:v<S.n+S.m):writable w ((⟨T.va,0,none⟩:Addr).add (v*6)) 6:=by
 rw [zAi]
 exact h.val.blk.writable (by rw [VL,zBd (m:=6) fun _=>rfl];omega)
theorem TabAt.rowAt (h:TabAt S B w T s) {i:Nat} (hi:i<S.m) : ∃ ad,T.ra=some ad/\vcells w (ad.add (i*5)) 0 (rowc S T.R i)/\∃ b o,ad=⟨b,o,none⟩:=(h.rows w (Below.refl _ _)).get hi
end
theorem boxNe {w:World} {b c ty ty' : Nat} {L L' : List Value} (h:Blk w b ty L) (h' : Blk w c ty' L') (hne:ty≠ty'):b≠c:=by
 rintro rfl
 obtain⟨t1,h1⟩:=h
 obtain⟨t2,h2⟩:=h'
 rw [h1] at h2
 injection h2 with h2
 injection h2 with _ h2
 exact hne h2
theorem _root_.Go.V.Box.away {w w' : World} {b c ty:Nat} {L:List Value} (h:Box w b ty L) (hw : ∀ k,k≠c->w'.heap[k]? = w.heap[k]?) (hne:b≠c):Box w' b ty L:=h.same (hw b hne)
theorem OwnB.away {w w' : World} {B c ty:Nat} {a:OA} {L:List Value} (h:OwnB w B ty a L) (hw : ∀ k,k≠c->w'.heap[k]? = w.heap[k]?) (hne : ∀ b,a=some ⟨b,0,none⟩->Blk w b ty L->b≠c):OwnB w' B ty a L :=
 h.imp id fun ⟨b,h1,hb,h2⟩=>⟨b,h1,hb,h2.same (hw b (hne b h1 h2))⟩
theorem zAh {w:World} {b o i:Nat} {L:List Value} : ∀ k,k≠b->(setCells w ⟨b,o,none⟩ i L).heap[k]? = w.heap[k]?:=fun k hk=>zAk hk L i
theorem TabAt.valSet {S:Tb.Sys} {B:Nat} {w:World} {T:Lay} {s:Dy} (h:TabAt S B w T s) {v:Nat} (hv:v<S.n+S.m) (x:V2) :
  TabAt S B (setCells w ((⟨T.va,0,none⟩:Addr).add (v*6)) 0 (vc2 x)) T { s with val:=upd s.val v x }:=by
 rw [zAi]
 have hb:=h.val.blk
 have d:Box (setCells w ⟨T.va,0+v*6,none⟩ 0 (vc2 x)) T.va 101 (VL (upd s.val v x) (S.n+S.m)):=by
  have h1:=h.val.setCells (o:=0+v*6) (vc2 x) 0
  rw [VL,show 0+v*6+0=6*v by omega,GL_set (m:=6) (by omega) (fun _=>rfl) hv (vc2 x) rfl] at h1
  have e:GL (upd (fun i=>vc2 (s.val i)) v (vc2 x)) (S.n+S.m)=VL (upd s.val v x) (S.n+S.m):=zBQ fun k _=>by
   unfold upd;split <;> rfl
  rw [e] at h1
  exact h1
 exact { h with
  box:=h.box.away zAh (boxNe h.box.blk hb (by decide))
  line:=h.line.away zAh (boxNe h.line.blk hb (by decide))
  val:=d
  basic:=h.basic.away zAh fun b _ hx=>boxNe hx hb (by decide)
  cols:=h.cols.away zAh fun b _ hx=>boxNe hx hb (by decide)
  a:=h.a.away zAh fun b _ hx=>boxNe hx hb (by decide)
  row:=fun i hi=>(h.row i hi).away zAh fun b _ hx=>boxNe hx hb (by decide)
  rows:=fun w2 h2=>h.rows w2 (Below.trans (zAx h.va _ _) h2)
  xt:=h.xt.imp id fun hx=>hx.same (zAh _ (boxNe hx hb (by decide)))
  yt:=h.yt.imp id fun hx=>hx.same (zAh _ (boxNe hx hb (by decide)))
  gl:=fun w2 h2=>h.gl w2 (Below.trans (zAx h.va _ _) h2) }
theorem zAg {w:World} {b o:Nat} {v:Value} : ∀ k,k≠b->(w.setCell ⟨b,o,none⟩ v).heap[k]? = w.heap[k]?:=fun k hk=>zAk (L:=[v]) (i:=0) (o:=o) hk
theorem TabAt.rowBlk {S:Tb.Sys} {B:Nat} {w:World} {T:Lay} {s:Dy} (h:TabAt S B w T s) {i j:Nat} (hi:i<S.m) (hj:j<S.n) : ∃ b,T.rowA i=some ⟨b,0,none⟩/\B<=b/\Blk w b 88 (QL (s.a i) S.n):=by
 rcases h.row i hi with h1 | h1
 ·have:=congrArg List.length h1
  rw [zAL] at this
  simp only [List.length_nil] at this
  omega
 ·exact h1
theorem TabAt.qSet {S:Tb.Sys} {B:Nat} {w:World} {T:Lay} {s:Dy} (h:TabAt S B w T s) {i j b:Nat} (hi:i<S.m) (hj:j<S.n) (hb:T.rowA i=some ⟨b,0,none⟩) (x:Rat) :
  TabAt S B (setCells w ((⟨b,0,none⟩:Addr).add (j*3)) 0 (qc x)) T { s with a:=upd s.a i (upd (s.a i) j x) }:=by
 obtain⟨b',d,hB,hk⟩:=h.rowBlk hi hj
 rw [hb] at d;cases d
 rw [zAi]
 have g:Blk (setCells w ⟨b,0+j*3,none⟩ 0 (qc x)) b 88 (QL (upd (s.a i) j x) S.n):=by
  have h1:=hk.setCells (o:=0+j*3) (qc x) 0 (by rw [zAL];show 0+j*3+0+3<=_;omega)
  rw [show 0+j*3+0=3*j by omega,QL_set hj] at h1
  exact h1
 exact { h with
  box:=h.box.away zAh (boxNe h.box.blk hk (by decide))
  line:=h.line.away zAh (boxNe h.line.blk hk (by decide))
  val:=h.val.away zAh (boxNe h.val.blk hk (by decide))
  basic:=h.basic.away zAh fun b _ hx=>boxNe hx hk (by decide)
  cols:=h.cols.away zAh fun b _ hx=>boxNe hx hk (by decide)
  a:=h.a.away zAh fun b _ hx=>boxNe hx hk (by decide)
  row:=fun k f=>by
   by_cases e:k=i
   ·subst e
    exact .inr ⟨b,hb,hB,by
     show Blk _ b 88 (QL (upd s.a k (upd (s.a k) j x) k) S.n)
     rw [zA1];exact g⟩
   ·show OwnB _ B 88 (T.rowA k) (QL (upd s.a i (upd (s.a i) j x) k) S.n)
    rw [zAs _ e]
    exact (h.row k f).away zAh fun b2 h2 _ hx=>by
     subst hx
     exact h.d3 k i b2 f hi e h2 hb
  rows:=fun w2 h2=>h.rows w2 (Below.trans (zAx hB _ _) h2)
  xt:=by
   by_cases e:T.xl=[]
   ·exact .inl e
   ·rcases h.xt with e1 | hx
    ·exact .inl e1
    ·exact .inr (hx.same (zAh _ (fun e2=>h.d4 i hi e (by rw [e2];exact hb))))
  yt:=h.yt.imp id fun hx=>hx.same (zAh _ (boxNe hx hk (by decide)))
  gl:=fun w2 h2=>h.gl w2 (Below.trans (zAx hB _ _) h2) }
theorem TabAt.qWr {S:Tb.Sys} {B:Nat} {w:World} {T:Lay} {s:Dy} (h:TabAt S B w T s) {i j b:Nat} (hi:i<S.m) (hj:j<S.n) (hb:T.rowA i=some ⟨b,0,none⟩):writable w ((⟨b,0,none⟩:Addr).add (j*3)) 3:=by
 obtain⟨b',d,hB,hk⟩:=h.rowBlk hi hj
 rw [hb] at d;cases d
 rw [zAi]
 exact hk.writable (by rw [zAL];omega)
theorem TabAt.basicSet {S:Tb.Sys} {B:Nat} {w:World} {T:Lay} {s:Dy} (h:TabAt S B w T s) {i:Nat} (hi:i<S.m) (x:Nat) :
  ∃ b,T.ba=some ⟨b,0,none⟩/\B<=b/\((∃ v,w.cell? ((⟨b,0,none⟩:Addr).add (i*1))=some v)/\w.frozen? ((⟨b,0,none⟩:Addr).add (i*1))=false) /\
   TabAt S B (w.setCell ((⟨b,0,none⟩:Addr).add (i*1)) (.int .i64 x)) T { s with basic:=upd s.basic i x }:=by
 rcases h.basic with h1 | ⟨b,hb,hB,hk⟩
 ·have:=congrArg List.length h1
  rw [lInt,zAB] at this
  simp only [List.length_nil] at this
  omega
 refine⟨b,hb,hB,?_,?_⟩
 ·rw [zAi,Nat.zero_add,Nat.mul_one]
  exact⟨⟨_,hk.cell (zAX hi)⟩,hk.free⟩
 rw [zAi,Nat.zero_add,Nat.mul_one]
 have d:=hk.set i (.int .i64 x) (by rw [lInt,zAB];exact hi)
 rw [lInt,zCm hi] at d
 have e:upto (upd (fun i=>Value.int .i64 (s.basic i:Int)) i (.int .i64 x)) S.m=lInt (upd s.basic i x) S.m:=zA6 fun k _=>by unfold upd;split <;> rfl
 rw [e] at d
 exact { h with
  box:=h.box.away zAg (boxNe h.box.blk hk (by decide))
  line:=h.line.away zAg fun e=>(h.d1 b hb).2 e.symm
  val:=h.val.away zAg (boxNe h.val.blk hk (by decide))
  basic := .inr ⟨b,hb,hB,d⟩
  cols:=h.cols.away zAg fun b2 h2 _ hx=>by subst hx;exact (h.d1 b2 hb).1 h2
  a:=h.a.away zAg fun b _ hx=>boxNe hx hk (by decide)
  row:=fun k f=>(h.row k f).away zAg fun b _ hx=>boxNe hx hk (by decide)
  rows:=fun w2 h2=>h.rows w2 (Below.trans (Below.setCell (Below.refl _ _) (p:=⟨b,i,none⟩) hB _) h2)
  xt:=h.xt.imp id fun hx=>hx.same (zAg _ (boxNe hx hk (by decide)))
  yt:=h.yt.imp id fun hx=>hx.same (zAg _ (boxNe hx hk (by decide)))
  gl:=fun w2 h2=>h.gl w2 (Below.trans (Below.setCell (Below.refl _ _) (p:=⟨b,i,none⟩) hB _) h2) }
theorem TabAt.colsSet {S:Tb.Sys} {B:Nat} {w:World} {T:Lay} {s:Dy} (h:TabAt S B w T s) {i:Nat} (hi:i<S.n) (x:Nat) :
  ∃ b,T.ca=some ⟨b,0,none⟩/\B<=b/\((∃ v,w.cell? ((⟨b,0,none⟩:Addr).add (i*1))=some v)/\w.frozen? ((⟨b,0,none⟩:Addr).add (i*1))=false) /\
   TabAt S B (w.setCell ((⟨b,0,none⟩:Addr).add (i*1)) (.int .i64 x)) T { s with cols:=upd s.cols i x }:=by
 rcases h.cols with h1 | ⟨b,hb,hB,hk⟩
 ·have:=congrArg List.length h1
  rw [lInt,zAB] at this
  simp only [List.length_nil] at this
  omega
 refine⟨b,hb,hB,?_,?_⟩
 ·rw [zAi,Nat.zero_add,Nat.mul_one]
  exact⟨⟨_,hk.cell (zAX hi)⟩,hk.free⟩
 rw [zAi,Nat.zero_add,Nat.mul_one]
 have d:=hk.set i (.int .i64 x) (by rw [lInt,zAB];exact hi)
 rw [lInt,zCm hi] at d
 have e:upto (upd (fun i=>Value.int .i64 (s.cols i:Int)) i (.int .i64 x)) S.n=lInt (upd s.cols i x) S.n:=zA6 fun k _=>by unfold upd;split <;> rfl
 rw [e] at d
 exact { h with
  box:=h.box.away zAg (boxNe h.box.blk hk (by decide))
  line:=h.line.away zAg fun e=>(h.d2 b hb) e.symm
  val:=h.val.away zAg (boxNe h.val.blk hk (by decide))
  cols := .inr ⟨b,hb,hB,d⟩
  basic:=h.basic.away zAg fun b2 h2 _ hx=>by subst hx;exact (h.d1 b2 h2).1 hb
  a:=h.a.away zAg fun b _ hx=>boxNe hx hk (by decide)
  row:=fun k f=>(h.row k f).away zAg fun b _ hx=>boxNe hx hk (by decide)
  rows:=fun w2 h2=>h.rows w2 (Below.trans (Below.setCell (Below.refl _ _) (p:=⟨b,i,none⟩) hB _) h2)
  xt:=h.xt.imp id fun hx=>hx.same (zAg _ (boxNe hx hk (by decide)))
  yt:=h.yt.imp id fun hx=>hx.same (zAg _ (boxNe hx hk (by decide)))
  gl:=fun w2 h2=>h.gl w2 (Below.trans (Below.setCell (Below.refl _ _) (p:=⟨b,i,none⟩) hB _) h2) }
theorem TabAt.lineSet {S:Tb.Sys} {B:Nat} {w:World} {T:Lay} {s:Dy} (h:TabAt S B w T s) {i:Nat} (hi:i<S.n+S.m) (x:Int) :
  ((∃ v,w.cell? ((⟨T.la,0,none⟩:Addr).add (i*1))=some v)/\w.frozen? ((⟨T.la,0,none⟩:Addr).add (i*1))=false) /\
   TabAt S B (w.setCell ((⟨T.la,0,none⟩:Addr).add (i*1)) (.int .i64 x)) T { s with line:=upd s.line i x }:=by
 have hk:=h.line.blk
 rw [zAi,Nat.zero_add,Nat.mul_one]
 refine⟨⟨⟨_,hk.cell (zAX hi)⟩,hk.free⟩,?_⟩
 have d:=h.line.set i (.int .i64 x)
 rw [lLine,zCm hi] at d
 have e:upto (upd (fun i=>Value.int .i64 (s.line i)) i (.int .i64 x)) (S.n+S.m)=lLine (upd s.line i x) (S.n+S.m):=zA6 fun k _=>by unfold upd;split <;> rfl
 rw [e] at d
 exact { h with
  box:=h.box.away zAg (boxNe h.box.blk hk (by decide))
  line:=d
  val:=h.val.away zAg (boxNe h.val.blk hk (by decide))
  cols:=h.cols.away zAg fun b2 h2 _ hx=>by subst hx;exact h.d2 _ h2 rfl
  basic:=h.basic.away zAg fun b2 h2 _ hx=>by subst hx;exact (h.d1 _ h2).2 rfl
  a:=h.a.away zAg fun b _ hx=>boxNe hx hk (by decide)
  row:=fun k f=>(h.row k f).away zAg fun b _ hx=>boxNe hx hk (by decide)
  rows:=fun w2 h2=>h.rows w2 (Below.trans (Below.setCell (Below.refl _ _) (p:=⟨T.la,i,none⟩) h.la _) h2)
  xt:=h.xt.imp id fun hx=>hx.same (zAg _ (boxNe hx hk (by decide)))
  yt:=h.yt.imp id fun hx=>hx.same (zAg _ (boxNe hx hk (by decide)))
  gl:=fun w2 h2=>h.gl w2 (Below.trans (Below.setCell (Below.refl _ _) (p:=⟨T.la,i,none⟩) h.la _) h2) }
end Go.Proofs.Si
namespace Go.Proofs.Si
open Go Go.V Go.Proofs Go.RowKit Go.Num Go.Tb Go.Proofs.Tryz
open Go.IntKind (i64 u64 u32 u8)
set_option maxRecDepth 100000
theorem vput {w w' : World} {B:Nat} (x:V2) (hB:Box w' B 101 zv) (hx:Ext w w') (hb:w.heap.size<=B) :
  writable w' ⟨B,0,none⟩ 6/\vcells (setCells w' ⟨B,0,none⟩ 0 (vc2 x)) ⟨B,0,none⟩ 0 (vc2 x)/\Ext w (setCells w' ⟨B,0,none⟩ 0 (vc2 x)) :=
 ⟨hB.blk.writable (by decide),(hB.put (vc2 x) (by rfl)).blk.all,hx.put hb _ _⟩
theorem c163 {x y:V2} (hp:dg2 90000000 x) (hq:dg2 90000000 y) (w:World) (hg:Gl w):Ret prog 163 #[vv x,vv y] w fun v w'=>v=vv (add2 x y)/\Ext w w':=by
 have k:=(yE w).alloc (.cells (vc2 x).toArray 101)
 have d:=(yE (w.alloc (.cells (vc2 x).toArray 101))).alloc (.cells (vc2 y).toArray 101)
 have f:=(yE ((w.alloc (.cells (vc2 x).toArray 101)).alloc (.cells (vc2 y).toArray 101))).alloc (.cells zv.toArray 101)
 have h:=(((yN w (vc2 x) 101).ext d).ext f).ext (yE _).drew
 have i:=((yN (w.alloc (.cells (vc2 x).toArray 101)) (vc2 y) 101).ext f).ext (yE _).drew
 have l:=(yN ((w.alloc (.cells (vc2 x).toArray 101)).alloc (.cells (vc2 y).toArray 101)) zv 101).ext (yE _).drew
 have g:=((k.trans d).trans f).drew
 have m:=(k.trans d).size
 refine run163 _ _ _ _ _ _ _ _ _ _ _ _ _ _ fun K hK=>⟨_,_,_,h.r,_,_,_,i.r,_,_,_,h.e,_,_,_,i.e,yC (c112 hp.1 hq.1 _ (hg.ext g)) ?_⟩
 rintro v w2 ⟨rfl,b⟩
 refine⟨_,_,_,rfl,b,yC (c112 hp.2 hq.2 w2 ((hg.ext g).ext b)) ?_⟩
 rintro v w3 ⟨rfl,j⟩
 obtain⟨p1,p2,p3⟩:=vput (add2 x y) ((l.ext b).ext j) ((g.trans b).trans j) m
 exact⟨_,_,_,rfl,p1,hK _ ⟨_,_,_,_,_,_,p2,rfl,p3⟩⟩
theorem c120 {x y:V2} (hp:dg2 90000000 x) (hq:dg2 90000000 y) (w:World) (hg:Gl w):Ret prog 120 #[vv x,vv y] w fun v w'=>v=vv (sub2 x y)/\Ext w w':=by
 have k:=(yE w).alloc (.cells (vc2 x).toArray 101)
 have d:=(yE (w.alloc (.cells (vc2 x).toArray 101))).alloc (.cells (vc2 y).toArray 101)
 have f:=(yE ((w.alloc (.cells (vc2 x).toArray 101)).alloc (.cells (vc2 y).toArray 101))).alloc (.cells zv.toArray 101)
 have h:=(((yN w (vc2 x) 101).ext d).ext f).ext (yE _).drew
 have i:=((yN (w.alloc (.cells (vc2 x).toArray 101)) (vc2 y) 101).ext f).ext (yE _).drew
 have l:=(yN ((w.alloc (.cells (vc2 x).toArray 101)).alloc (.cells (vc2 y).toArray 101)) zv 101).ext (yE _).drew
 have g:=((k.trans d).trans f).drew
 have m:=(k.trans d).size
 refine run120 _ _ _ _ _ _ _ _ _ _ _ _ _ _ fun K hK=>⟨_,_,_,h.r,_,_,_,i.r,_,_,_,h.e,_,_,_,i.e,yC (c114 hp.1 hq.1 _ (hg.ext g)) ?_⟩
 rintro v w2 ⟨rfl,b⟩
 refine⟨_,_,_,rfl,b,yC (c114 hp.2 hq.2 w2 ((hg.ext g).ext b)) ?_⟩
 rintro v w3 ⟨rfl,j⟩
 obtain⟨p1,p2,p3⟩:=vput (sub2 x y) ((l.ext b).ext j) ((g.trans b).trans j) m
 exact⟨_,_,_,rfl,p1,hK _ ⟨_,_,_,_,_,_,p2,rfl,p3⟩⟩
theorem c121 {x:V2} {q:Rat} (hp:dg2 90000000 x) (hq:dg 90000000 q) (w:World) (hg:Gl w):Ret prog 121 #[vv x,qv q] w fun v w'=>v=vv (zAA x q)/\Ext w w':=by
 have k:=(yE w).alloc (.cells (vc2 x).toArray 101)
 have d:=(yE (w.alloc (.cells (vc2 x).toArray 101))).alloc (.cells (qc q).toArray 88)
 have f:=(yE ((w.alloc (.cells (vc2 x).toArray 101)).alloc (.cells (qc q).toArray 88))).alloc (.cells zv.toArray 101)
 have h:=(((yN w (vc2 x) 101).ext d).ext f).ext (yE _).drew
 have i:=((yN (w.alloc (.cells (vc2 x).toArray 101)) (qc q) 88).ext f).ext (yE _).drew
 have l:=(yN ((w.alloc (.cells (vc2 x).toArray 101)).alloc (.cells (qc q).toArray 88)) zv 101).ext (yE _).drew
 have g:=((k.trans d).trans f).drew
 have m:=(k.trans d).size
 refine run121 _ _ _ _ _ _ _ _ _ _ _ fun K hK=>⟨_,_,_,h.r,_,_,_,i.blk.all,_,_,_,h.e,_,_,_,i.blk.all,yC (c113 hp.1 hq _ (hg.ext g)) ?_⟩
 rintro v w2 ⟨rfl,b⟩
 refine⟨_,_,_,rfl,b,yC (c113 hp.2 hq w2 ((hg.ext g).ext b)) ?_⟩
 rintro v w3 ⟨rfl,j⟩
 obtain⟨p1,p2,p3⟩:=vput (zAA x q) ((l.ext b).ext j) ((g.trans b).trans j) m
 exact⟨_,_,_,rfl,p1,hK _ ⟨_,_,_,_,_,_,p2,rfl,p3⟩⟩
theorem c160 {x y:V2} (hp:dg2 90000000 x) (hq:dg2 90000000 y) (w:World) (hg:Gl w):Ret prog 160 #[vv x,vv y] w fun v w'=>v = .int .i64 (cmp2 x y)/\Ext w w':=by
 have k:=(yE w).alloc (.cells (vc2 x).toArray 101)
 have i:=(yE (w.alloc (.cells (vc2 x).toArray 101))).alloc (.cells (vc2 y).toArray 101)
 have f:=(yN w (vc2 x) 101).ext i
 have g:=yN (w.alloc (.cells (vc2 x).toArray 101)) (vc2 y) 101
 have d:=k.trans i
 refine run160 _ _ _ _ _ _ _ _ _ _ _ _ _ _ ⟨_,_,_,f.r,_,_,_,g.r,yC (c67 hp.1 hq.1 _ (hg.ext d)) ?_⟩
 rintro v w1 ⟨rfl,b⟩
 refine⟨_,rfl,zAb (fun h=>⟨?_,d.trans b⟩) (fun h=>?_)⟩
 ·rw [cmp2,if_pos (by simpa using h)]
 ·refine⟨_,_,_,(f.ext b).e,_,_,_,(g.ext b).e,yC (c67 hp.2 hq.2 _ ((hg.ext d).ext b)) ?_⟩
  rintro v w2 ⟨rfl,j⟩
  refine⟨_,rfl,?_,(d.trans b).trans j⟩
  rw [cmp2,if_neg (by simpa using h)]
def ov (o:Option V2):Value:=match o with | none => .tuple #[vv zero2,.bool false] | some x => .tuple #[vv x,.bool true]
theorem rowK {w:World} {b o k:Nat} {S:Tb.Sys} {R:RowL} {i:Nat} (h:vcells w ((⟨b,o,none⟩:Addr).add k) 0 (rowc S R i)):vcells w (((⟨b,o,none⟩:Addr).add k).add 2) 0 (qc (S.K i)):=by
 rw [zAi] at h ⊢
 rw [zAD] at h ⊢
 intro j v hj
 have d:j<3:=(List.getElem?_eq_some_iff.1 hj).1
 have:=h (2+j) v (by
  match j,d with
  | 0,_=>exact hj
  | 1,_=>exact hj
  | 2,_=>exact hj)
 rw [<- this,zAi,zAi,zAi,show o+k+2+(0+j)=o+k+(0+(2+j)) by omega]
theorem rowRel {w:World} {ad:Addr} {S:Tb.Sys} {R:RowL} {i:Nat} (h:vcells w ad 0 (rowc S R i)):w.cell? (ad.add 1)=some (.int .i64 (S.rel i:Int)):=by
 rw [zAD] at h
 have:=h 1 _ rfl
 rw [Nat.zero_add] at this
 exact this
theorem rowC {w:World} {ad:Addr} {S:Tb.Sys} {R:RowL} {i:Nat} (h:vcells w ad 0 (rowc S R i)):w.cell? ad=some (.slice (R.cA i) S.n (R.cC i)):=by
 rw [zAD] at h
 have:=h 0 _ rfl
 rw [Nat.zero_add] at this
 exact this
def Few (S:Tb.Sys):Prop:=S.n+S.m<=1048576
theorem wr_row {S:Tb.Sys} (hf:Few S) {v:Nat} (hv:S.n<=v) (hv2:v<S.n+S.m):i64.wrap ((v:Int) - (S.n:Int))=((v - S.n:Nat):Int):=by
 unfold Few at hf
 rw [zAd (by omega) (by omega)]
 omega
theorem zDK:vv zero2 = .agg #[.int .i64 0,.int .i64 0,.string { data:=#[] },.int .i64 0,.int .i64 0,.string { data:=#[] }]:=by
 have:=vc2_zero
 unfold vc2 at this
 unfold vv
 rw [this]
theorem vc2_real (q:Rat):vc2 (q,0)=[.int .i64 (qn q),.int .i64 (ql q),.string (qb q),.int .i64 0,.int .i64 0,.string { data:=#[] }]:=by
 have:=qc_zero
 unfold qc at this
 injection this with h1 h2
 injection h2 with h2 h3
 injection h3 with h3 h4
 unfold vc2
 simp only [h1,h2,h3]
theorem vv_real (q:Rat):vv (q,0) = .agg #[.int .i64 (qn q),.int .i64 (ql q),.string (qb q),.int .i64 0,.int .i64 0,.string { data:=#[] }]:=by
 have:=vc2_real q
 unfold vc2 at this
 unfold vv
 rw [this]
set_option maxHeartbeats 1000000 in
theorem c159 {S:Tb.Sys} {B:Nat} {T:Lay} {s:Dy} {v:Nat} (hf:Few S) (hv:v<S.n+S.m) (w:World) (hT:TabAt S B w T s) (hB:B<=w.heap.size) (hg:Gl w) :
  Ret prog 159 #[.pointer (some ⟨T.bt,0,none⟩),.int .i64 v] w fun r w'=>r=ov (upper S v)/\Ext w w':=by
 have d:=(yE w).alloc (.cells zv.toArray 101)
 have j:=yN w zv 101
 have u:=hT.ext d hB
 refine run159 _ _ _ _ ⟨_,u.f0,zAe (fun a5=>?_) (fun x=>?_)⟩
 ·obtain⟨p1,p2,p3⟩:=vput zero2 j d yL
  rw [vc2_zero] at p2 p3
  refine⟨p1,_,_,_,_,_,_,p2,?_,p3⟩
  rw [upper,if_pos (by omega),ov,zDK]
 ·have x:S.n<=v:=by omega
  have a0:upper S v=some (ub S v):=by rw [upper,if_neg (by omega)]
  have f:=u.drew (Nat.le_trans hB d.size)
  have hi:v - S.n<S.m:=by omega
  obtain⟨ad,ha,hc,_⟩:=f.rowAt hi
  have h:=(yE (w.alloc (.cells zv.toArray 101)).drew).alloc (.cells [Value.slice none 0 0,.int .i64 0,.int .i64 0,.int .i64 0,.string { data:=#[] }].toArray 90)
  have p:=yN (w.alloc (.cells zv.toArray 101)).drew [Value.slice none 0 0,.int .i64 0,.int .i64 0,.int .i64 0,.string { data:=#[] }] 90
  have l:=(j.ext (yE _).drew).ext h
  have a4:=d.drew.trans h
  refine fun K hK=>⟨_,_,_,f.f1,_,f.f0,ad,ha,?_⟩
  rw [wr_row hf x hv,yT]
  refine⟨⟨by omega,by omega⟩,_,_,_,_,_,_,_,hc,h,p.blk.writable (by decide),hK _ _ ?_⟩
  have hP:=p.put (rowc S T.R (v - S.n)) (by rfl)
  have a2:w.heap.size≠(w.alloc (.cells zv.toArray 101)).drew.heap.size:=by
   show w.heap.size≠(w.alloc (.cells zv.toArray 101)).heap.size
   rw [size_alloc];omega
  have hQ:=l.same (zAk a2 (rowc S T.R (v - S.n)) 0 (b:=(w.alloc (.cells zv.toArray 101)).drew.heap.size) (o:=0))
  have i:Ext w (setCells ((w.alloc (.cells zv.toArray 101)).drew.alloc (.cells [Value.slice none 0 0,.int .i64 0,.int .i64 0,.int .i64 0,.string { data:=#[] }].toArray 90)) ⟨(w.alloc (.cells zv.toArray 101)).drew.heap.size,0,none⟩ 0 (rowc S T.R (v - S.n))):=a4.put d.drew.size _ _
  have hR:=hP.blk.all
  refine⟨_,rowRel hR,?_⟩
  refine zAb (fun h2=>?_) (fun h2=>?_)
  ·have h2:(S.rel (v - S.n):Int)=2:=by simpa using h2
   have h2:S.rel (v - S.n)=2:=by omega
   refine fun K1 a1=>⟨_,_,_,rowK (k:=0) (hP.ext (yE _).drew).blk.all,yC (c130 (-1) (by decide) _ (hg.ext i.drew)) ?_⟩
   rintro r w3 ⟨rfl,g⟩
   have a3:=i.drew.trans g
   obtain⟨p1,p2,p3⟩:=vput (S.K (v - S.n),-1) ((hQ.ext (yE _).drew).ext g) a3 yL
   refine⟨_,_,_,rfl,g,p1,a1 _ _ ⟨_,_,_,_,_,_,p2,?_,p3⟩⟩
   rw [a0,ub,if_pos h2];rfl
  ·have h2 : ¬ (S.rel (v - S.n):Int)=2:=by simpa using h2
   have h2:S.rel (v - S.n)≠2:=by omega
   obtain⟨p1,p2,p3⟩:=vput (S.K (v - S.n),0) hQ i yL
   have e:=vc2_real (S.K (v - S.n))
   rw [e] at p2 p3
   refine⟨_,_,_,rowK (k:=0) hR,p1,_,_,_,_,_,_,p2,?_,p3⟩
   rw [a0,ub,if_neg h2,ov,vv_real]
set_option maxHeartbeats 1000000 in
theorem c161 {S:Tb.Sys} {B:Nat} {T:Lay} {s:Dy} {v:Nat} (hf:Few S) (hv:v<S.n+S.m) (w:World) (hT:TabAt S B w T s) (hB:B<=w.heap.size) (hg:Gl w) :
  Ret prog 161 #[.pointer (some ⟨T.bt,0,none⟩),.int .i64 v] w fun r w'=>r=ov (lower S v)/\Ext w w':=by
 have g:=((yE w).alloc (.cells zv.toArray 101)).drew
 have h:=(yN w zv 101).ext (yE _).drew
 have b:=hT.ext g hB
 refine run161 _ _ _ _ fun K hK=>⟨_,b.f0,?_⟩
 have miss:lower S v=none->K [.bool true] (w.alloc (.cells zv.toArray 101)).drew:=by
  intro hl
  refine hK true ?_
  rw [cond_true]
  obtain⟨p1,p2,p3⟩:=vput zero2 h g yL
  rw [vc2_zero] at p2 p3
  refine⟨p1,_,_,_,_,_,_,p2,?_,p3⟩
  rw [hl,ov,zDK]
 refine zAe (fun p=>miss (by rw [lower,if_pos (.inl (by omega))])) (fun f=>?_)
 have f:S.n<=v:=by omega
 have hi:v - S.n<S.m:=by omega
 obtain⟨ad,ha,hc,_,_,rfl⟩:=b.rowAt hi
 have i:=g.drew
 have d:=hT.ext i hB
 have j:=h.ext (yE _).drew
 obtain⟨o,k,l,_,_,rfl⟩:=d.rowAt hi
 refine⟨_,_,_,b.f1,_,b.f0,_,ha,?_⟩
 rw [wr_row hf f hv,yT]
 refine⟨⟨by omega,by omega⟩,_,rowRel hc,?_⟩
 by_cases h3:S.rel (v - S.n)=3
 ·have e:((S.rel (v - S.n):Int) != 3)=false:=by rw [h3];rfl
  rw [e]
  refine hK false ?_
  rw [cond_false]
  refine⟨_,_,_,d.f1,_,d.f0,_,k,?_⟩
  rw [wr_row hf f hv,yT]
  obtain⟨p1,p2,p3⟩:=vput (S.K (v - S.n),0) j i yL
  rw [vc2_real] at p2 p3
  refine⟨⟨by omega,by omega⟩,_,_,_,rowK l,p1,_,_,_,_,_,_,p2,?_,p3⟩
  rw [lower,if_neg (by omega),ov,vv_real]
 ·have e:((S.rel (v - S.n):Int) != 3)=true:=by rw [bne_iff_ne];omega
  rw [e]
  exact miss (by rw [lower,if_pos (.inr h3)])
def Short (S:Tb.Sys) (k:Nat):Prop:=(∀ i,i<S.m->dg k (S.K i))/\1<=k
theorem ub_dg {S:Tb.Sys} {k v:Nat} (h:Short S k) (hv:S.n<=v) (hv2:v<S.n+S.m):dg2 k (ub S v):=by
 refine⟨h.1 _ (by omega),?_⟩
 unfold ub
 split
 ·exact (dg_one h.2).neg
 ·exact zBs h.2
theorem upper_dg {S:Tb.Sys} {k v:Nat} (h:Short S k) (hv2:v<S.n+S.m) {x:V2} (hx:upper S v=some x):dg2 k x:=by
 unfold upper at hx
 split at hx
 ·cases hx
 ·cases hx;exact ub_dg h (by omega) hv2
theorem zEy {S:Tb.Sys} {k v:Nat} (h:Short S k) (hv2:v<S.n+S.m) {x:V2} (hx:lower S v=some x):dg2 k x:=by
 unfold lower at hx
 split at hx
 ·cases hx
 ·cases hx;exact⟨h.1 _ (by omega),zBs h.2⟩
set_option maxHeartbeats 1000000 in
theorem c162 {S:Tb.Sys} {B:Nat} {T:Lay} {s:Dy} {v:Nat} {up:Bool} (hf:Few S) (hS:Short S 90000000) (hv:v<S.n+S.m) (hd:dg2 90000000 (s.val v)) (w:World) (hT:TabAt S B w T s) (hB:B<=w.heap.size) (hg:Gl w) :
  Ret prog 162 #[.pointer (some ⟨T.bt,0,none⟩),.int .i64 v,.bool up] w fun r w'=>r = .bool (free S s.val v up)/\Ext w w':=by
 have go : ∀ (o:Option V2) (w1:World),Ext w w1->∀ x,x=(match o with | none=>zero2 | some x=>x) ->
   Ext w (setCells (w1.alloc (.cells zv.toArray 101)) ⟨w1.heap.size,0,none⟩ 0 (vc2 x)).drew/\Box (setCells (w1.alloc (.cells zv.toArray 101)) ⟨w1.heap.size,0,none⟩ 0 (vc2 x)).drew w1.heap.size 101 (vc2 x):=by
  intro o w1 g x _
  exact⟨((g.alloc _).put g.size _ _).drew,((yN w1 zv 101).put (vc2 x) (by rfl)).ext (yE _).drew⟩
 refine run162 _ _ _ _ _ ?_
 cases up
 ·unfold vc162
  rw [cond_false]
  refine yC (c161 hf hv w hT hB hg) ?_
  rintro r w4 ⟨rfl,d⟩
  cases hl:lower S v with
  | none =>
   obtain⟨h1,h2⟩:=go none w4 d zero2 rfl
   have:=vc2_zero
   rw [vc2_zero] at h1
   have h0:=(yN w4 zv 101).blk.writable (o:=0) (n:=6) (by decide)
   rw [ov,zDK]
   refine⟨_,_,_,_,_,_,_,rfl,h0,fun K hK=>?_⟩
   exact hK true _ ⟨by rw [free,hl];rfl,h1⟩
  | some x =>
   obtain⟨h1,h2⟩:=go (some x) w4 d x rfl
   have h0:=(yN w4 zv 101).blk.writable (o:=0) (n:=6) (by decide)
   refine⟨_,_,_,_,_,_,_,rfl,h0,fun K hK=>?_⟩
   have b:=hT.ext h1 hB
   refine⟨_,_,_,b.f6,_,rfl,⟨by omega,by omega⟩,_,_,_,_,_,_,b.valAt hv,_,_,_,_,_,_,h2.blk.all,yC (c160 hd (zEy hS hv hl) _ (hg.ext h1)) ?_⟩
   rintro r w6 ⟨rfl,f⟩
   refine⟨_,rfl,hK _ _ ⟨?_,h1.trans f⟩⟩
   rw [free,hl]
   congr 1
 ·unfold vc162
  rw [cond_true]
  refine yC (c159 hf hv w hT hB hg) ?_
  rintro r w4 ⟨rfl,d⟩
  cases hl:upper S v with
  | none =>
   obtain⟨h1,h2⟩:=go none w4 d zero2 rfl
   rw [vc2_zero] at h1
   have h0:=(yN w4 zv 101).blk.writable (o:=0) (n:=6) (by decide)
   rw [ov,zDK]
   refine⟨_,_,_,_,_,_,_,rfl,h0,fun K hK=>?_⟩
   exact hK true _ ⟨by rw [free,hl];rfl,h1⟩
  | some x =>
   obtain⟨h1,h2⟩:=go (some x) w4 d x rfl
   have h0:=(yN w4 zv 101).blk.writable (o:=0) (n:=6) (by decide)
   refine⟨_,_,_,_,_,_,_,rfl,h0,fun K hK=>?_⟩
   have b:=hT.ext h1 hB
   refine⟨_,_,_,b.f6,_,rfl,⟨by omega,by omega⟩,_,_,_,_,_,_,b.valAt hv,_,_,_,_,_,_,h2.blk.all,yC (c160 hd (upper_dg hS hv hl) _ (hg.ext h1)) ?_⟩
   rintro r w6 ⟨rfl,f⟩
   refine⟨_,rfl,hK _ _ ⟨?_,h1.trans f⟩⟩
   rw [free,hl]
   congr 1
end Go.Proofs.Si
