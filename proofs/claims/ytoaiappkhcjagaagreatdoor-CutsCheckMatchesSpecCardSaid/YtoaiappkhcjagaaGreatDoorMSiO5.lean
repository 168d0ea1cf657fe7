/- Part of the proof: SiO5, TbA, TbB, TbC, TbD. -/
import Derived.Test.YtoaiappkhcjagaaGreatDoorMSiX
set_option linter.unusedVariables false
set_option linter.unusedSimpArgs false
namespace Go.Proofs.Si
open Go Go.V Go.Proofs Go.RowKit Go.Num Go.Proofs.Tryz
set_option maxRecDepth 100000
theorem c190_191{a b:BA}{p q:Rat}(ha:bs a=txtQ p)(hb:bs b=txtQ q)(hz:a.size+b.size<=400000000)(w)(hg:Gl w) :
  Ret prog 190 #[Sv a,Sv b,.func (.func 191) #[] #[],.func (.func 193) #[] #[]] w fun v w'=>TxtV (p+q) v/\Ext w w':=by
 refine run190_191_193 _ _ _ _ (yC (c152 a (by omega) w hg) ?_);rintro v w1 ⟨hv,a8⟩
 have d9 : ∃ n d b1,v = .tuple #[.agg #[Iv n,Iv d],Bv b1]/\(b1=true->n=p.num/\d=(p.den:Int)/\Sm p):=by
  rcases hv with ⟨p',hp',rfl,h1,h2⟩ | ⟨n,d,rfl⟩
  ·rw [ha] at hp'
   obtain rfl:=zA3 hp';exact⟨_,_,_,rfl,fun _=>⟨rfl,rfl,Sm.of h1 h2⟩⟩
  ·exact⟨_,_,_,rfl,fun h=>by cases h⟩
 obtain⟨n,d,b1,rfl,d6⟩:=d9;have l:=(yN w1 [Iv 0,Iv 0] 178).put [Iv n,Iv d] rfl;have a0:Ext w (setCells (w1.alloc (.cells #[Iv 0,Iv 0] 178)) ⟨w1.heap.size,0,none⟩ 0 [Iv n,Iv d]):=(a8.alloc _).put (by exact a8.size) _ _;refine⟨_,_,_,rfl,(yN w1 [Iv 0,Iv 0] 178).blk.writable (by decide),?_⟩;generalize setCells (w1.alloc (.cells #[Iv 0,Iv 0] 178)) ⟨w1.heap.size,0,none⟩ 0 [Iv n,Iv d]=W1 at l a0 ⊢;have d1:w.heap.size<=w1.heap.size:=a8.size;generalize w1.heap.size=B1 at l d1 ⊢;refine yC (c152 b (by omega) W1 (hg.ext a0)) ?_;rintro v w2 ⟨hv,x⟩
 have e0 : ∃ n d b2,v = .tuple #[.agg #[Iv n,Iv d],Bv b2]/\(b2=true->n=q.num/\d=(q.den:Int)/\Sm q):=by
  rcases hv with ⟨p',hp',rfl,h1,h2⟩ | ⟨n,d,rfl⟩
  ·rw [hb] at hp'
   obtain rfl:=zA3 hp';exact⟨_,_,_,rfl,fun _=>⟨rfl,rfl,Sm.of h1 h2⟩⟩
  ·exact⟨_,_,_,rfl,fun h=>by cases h⟩
 obtain⟨n2,d2,b2,rfl,d7⟩:=e0;have a6:=(yN w2 [Iv 0,Iv 0] 178).put [Iv n2,Iv d2] rfl;have a5:=(l.ext (x.trans ((yE w2).alloc (.cells #[Iv 0,Iv 0] 178)))).same (zAk (b:=w2.heap.size) (o:=0) (k:=B1) (by have:=(l.ext x).lt;omega) [Iv n2,Iv d2] 0);have i:Ext w (setCells (w2.alloc (.cells #[Iv 0,Iv 0] 178)) ⟨w2.heap.size,0,none⟩ 0 [Iv n2,Iv d2]):=((a0.trans x).alloc _).put (by exact (a0.trans x).size) _ _;refine⟨_,_,_,rfl,(yN w2 [Iv 0,Iv 0] 178).blk.writable (by decide),?_⟩;generalize setCells (w2.alloc (.cells #[Iv 0,Iv 0] 178)) ⟨w2.heap.size,0,none⟩ 0 [Iv n2,Iv d2]=W2 at a5 a6 i ⊢;generalize w2.heap.size=B2 at a6 ⊢;refine zAb (fun f=>?_) (fun e7=>?_)
 ·rw [Bool.and_eq_true] at f
  obtain⟨rfl,rfl,sp⟩:=d6 f.1;obtain⟨rfl,rfl,sq⟩:=d7 f.2;refine⟨_,_,a5.blk.all,_,_,a6.blk.all,yC (c191 sp sq W2 (hg.ext i)) ?_⟩;rintro v w3 ⟨⟨s,rfl,hs⟩,a9⟩;exact⟨s,rfl,⟨s,rfl,hs⟩,i.trans a9⟩
 ·have zp:nd p.num.natAbs<=a.size/\nd p.den<=a.size:=by rw [zAc,ha];exact zF4 p
  have zq:nd q.num.natAbs<=b.size/\nd q.den<=b.size:=by rw [zAc,hb];exact zF4 q
  refine yC (c153 a (by omega) W2 (hg.ext i)) ?_;rintro v w3 ⟨hv,a9⟩
  have e1 : ∃ u,v = .tuple #[u,Bv true]/\RatQ w3 u p:=by
   rcases hv with ⟨p',u,hp',rfl,hu⟩ | ⟨hno,_⟩
   ·rw [ha] at hp'
    obtain rfl:=zA3 hp';exact⟨u,rfl,hu⟩
   ·exact absurd ⟨p,ha⟩ hno
  obtain⟨u,rfl,hu⟩:=e1;obtain⟨a1,m1,c1,a2,m2,c2,rfl,e3,e4⟩:=hu;have d3:=i.trans a9;have hY:=yN w3 [Bv false,N0,N0] 184;have m:=hY.put [Bv (decide (p.num<0)),Lv a1 m1 c1,Lv a2 m2 c2] rfl;have d5:=(yE w3).alloc (.cells #[Bv false,N0,N0] 184);have b4:=(e3.ext d5).put hY (zAo _ _ _ _ _ _ _) [Bv (decide (p.num<0)),Lv a1 m1 c1,Lv a2 m2 c2] 0 0;have b5:=(e4.ext d5).put hY (zAo _ _ _ _ _ _ _) [Bv (decide (p.num<0)),Lv a1 m1 c1,Lv a2 m2 c2] 0 0;have b0:Ext w (setCells (w3.alloc (.cells #[Bv false,N0,N0] 184)) ⟨w3.heap.size,0,none⟩ 0 [Bv (decide (p.num<0)),Lv a1 m1 c1,Lv a2 m2 c2]):=(d3.alloc _).put (by exact d3.size) _ _;refine⟨_,_,_,_,_,_,_,_,rfl,hY.blk.writable (by decide),?_⟩;generalize setCells (w3.alloc (.cells #[Bv false,N0,N0] 184)) ⟨w3.heap.size,0,none⟩ 0 [Bv (decide (p.num<0)),Lv a1 m1 c1,Lv a2 m2 c2]=W3 at m b4 b5 b0 ⊢;generalize w3.heap.size=B3 at m ⊢;refine yC (c153 b (by omega) W3 (hg.ext b0)) ?_;rintro v w4 ⟨hv,g⟩
  have e2 : ∃ u,v = .tuple #[u,Bv true]/\RatQ w4 u q:=by
   rcases hv with ⟨p',u,hp',rfl,hu⟩ | ⟨hno,_⟩
   ·rw [hb] at hp'
    obtain rfl:=zA3 hp';exact⟨u,rfl,hu⟩
   ·exact absurd ⟨q,hb⟩ hno
  obtain⟨u,rfl,hu⟩:=e2;obtain⟨a3,m3,c3,a4,m4,c4,rfl,e5,e6⟩:=hu;have d4:=b0.trans g;have hZ:=yN w4 [Bv false,N0,N0] 184;have a7:=hZ.put [Bv (decide (q.num<0)),Lv a3 m3 c3,Lv a4 m4 c4] rfl;have j:=(yE w4).alloc (.cells #[Bv false,N0,N0] 184);have b6:=((b4.ext g).ext j).put hZ (zAo _ _ _ _ _ _ _) [Bv (decide (q.num<0)),Lv a3 m3 c3,Lv a4 m4 c4] 0 0;have b7:=((b5.ext g).ext j).put hZ (zAo _ _ _ _ _ _ _) [Bv (decide (q.num<0)),Lv a3 m3 c3,Lv a4 m4 c4] 0 0;have b8:=(e5.ext j).put hZ (zAo _ _ _ _ _ _ _) [Bv (decide (q.num<0)),Lv a3 m3 c3,Lv a4 m4 c4] 0 0;have b9:=(e6.ext j).put hZ (zAo _ _ _ _ _ _ _) [Bv (decide (q.num<0)),Lv a3 m3 c3,Lv a4 m4 c4] 0 0;have d0:=(m.ext (g.trans j)).same (zAk (b:=w4.heap.size) (o:=0) (k:=B3) (by have:=(m.ext g).lt;omega) [Bv (decide (q.num<0)),Lv a3 m3 c3,Lv a4 m4 c4] 0);have b3:Ext w (setCells (w4.alloc (.cells #[Bv false,N0,N0] 184)) ⟨w4.heap.size,0,none⟩ 0 [Bv (decide (q.num<0)),Lv a3 m3 c3,Lv a4 m4 c4]):=(d4.alloc _).put (by exact d4.size) _ _;refine⟨_,_,_,_,_,_,_,_,rfl,hZ.blk.writable (by decide),?_⟩;generalize setCells (w4.alloc (.cells #[Bv false,N0,N0] 184)) ⟨w4.heap.size,0,none⟩ 0 [Bv (decide (q.num<0)),Lv a3 m3 c3,Lv a4 m4 c4]=W4 at a7 b6 b7 b8 b9 d0 b3 ⊢;generalize w4.heap.size=B4 at a7 ⊢;rw [Bool.not_true,Bool.or_self,cond_false];refine⟨_,_,_,_,_,_,_,d0.blk.all,_,_,_,_,_,_,_,a7.blk.all,yC (c193 W4 ⟨_,_,_,_,_,_,rfl,b6,b7⟩ ⟨_,_,_,_,_,_,rfl,b8,b9⟩ (by omega) (hg.ext b3)) ?_⟩;rintro v w5 ⟨⟨s,rfl,hs⟩,d8⟩;exact⟨s,rfl,⟨s,rfl,hs⟩,b3.trans d8⟩
theorem c190_196{a b:BA}{p q:Rat}(ha:bs a=txtQ p)(hb:bs b=txtQ q)(hz:a.size+b.size<=400000000)(w)(hg:Gl w) :
  Ret prog 190 #[Sv a,Sv b,.func (.func 196) #[] #[],.func (.func 197) #[] #[]] w fun v w'=>TxtV (p*q) v/\Ext w w':=by
 refine run190_196_197 _ _ _ _ (yC (c152 a (by omega) w hg) ?_);rintro v w1 ⟨hv,a8⟩
 have d9 : ∃ n d b1,v = .tuple #[.agg #[Iv n,Iv d],Bv b1]/\(b1=true->n=p.num/\d=(p.den:Int)/\Sm p):=by
  rcases hv with ⟨p',hp',rfl,h1,h2⟩ | ⟨n,d,rfl⟩
  ·rw [ha] at hp'
   obtain rfl:=zA3 hp';exact⟨_,_,_,rfl,fun _=>⟨rfl,rfl,Sm.of h1 h2⟩⟩
  ·exact⟨_,_,_,rfl,fun h=>by cases h⟩
 obtain⟨n,d,b1,rfl,d6⟩:=d9;have l:=(yN w1 [Iv 0,Iv 0] 178).put [Iv n,Iv d] rfl;have a0:Ext w (setCells (w1.alloc (.cells #[Iv 0,Iv 0] 178)) ⟨w1.heap.size,0,none⟩ 0 [Iv n,Iv d]):=(a8.alloc _).put (by exact a8.size) _ _;refine⟨_,_,_,rfl,(yN w1 [Iv 0,Iv 0] 178).blk.writable (by decide),?_⟩;generalize setCells (w1.alloc (.cells #[Iv 0,Iv 0] 178)) ⟨w1.heap.size,0,none⟩ 0 [Iv n,Iv d]=W1 at l a0 ⊢;have d1:w.heap.size<=w1.heap.size:=a8.size;generalize w1.heap.size=B1 at l d1 ⊢;refine yC (c152 b (by omega) W1 (hg.ext a0)) ?_;rintro v w2 ⟨hv,x⟩
 have e0 : ∃ n d b2,v = .tuple #[.agg #[Iv n,Iv d],Bv b2]/\(b2=true->n=q.num/\d=(q.den:Int)/\Sm q):=by
  rcases hv with ⟨p',hp',rfl,h1,h2⟩ | ⟨n,d,rfl⟩
  ·rw [hb] at hp'
   obtain rfl:=zA3 hp';exact⟨_,_,_,rfl,fun _=>⟨rfl,rfl,Sm.of h1 h2⟩⟩
  ·exact⟨_,_,_,rfl,fun h=>by cases h⟩
 obtain⟨n2,d2,b2,rfl,d7⟩:=e0;have a6:=(yN w2 [Iv 0,Iv 0] 178).put [Iv n2,Iv d2] rfl;have a5:=(l.ext (x.trans ((yE w2).alloc (.cells #[Iv 0,Iv 0] 178)))).same (zAk (b:=w2.heap.size) (o:=0) (k:=B1) (by have:=(l.ext x).lt;omega) [Iv n2,Iv d2] 0);have i:Ext w (setCells (w2.alloc (.cells #[Iv 0,Iv 0] 178)) ⟨w2.heap.size,0,none⟩ 0 [Iv n2,Iv d2]):=((a0.trans x).alloc _).put (by exact (a0.trans x).size) _ _;refine⟨_,_,_,rfl,(yN w2 [Iv 0,Iv 0] 178).blk.writable (by decide),?_⟩;generalize setCells (w2.alloc (.cells #[Iv 0,Iv 0] 178)) ⟨w2.heap.size,0,none⟩ 0 [Iv n2,Iv d2]=W2 at a5 a6 i ⊢;generalize w2.heap.size=B2 at a6 ⊢;refine zAb (fun f=>?_) (fun e7=>?_)
 ·rw [Bool.and_eq_true] at f
  obtain⟨rfl,rfl,sp⟩:=d6 f.1;obtain⟨rfl,rfl,sq⟩:=d7 f.2;refine⟨_,_,a5.blk.all,_,_,a6.blk.all,yC (c196 sp sq W2 (hg.ext i)) ?_⟩;rintro v w3 ⟨⟨s,rfl,hs⟩,a9⟩;exact⟨s,rfl,⟨s,rfl,hs⟩,i.trans a9⟩
 ·have zp:nd p.num.natAbs<=a.size/\nd p.den<=a.size:=by rw [zAc,ha];exact zF4 p
  have zq:nd q.num.natAbs<=b.size/\nd q.den<=b.size:=by rw [zAc,hb];exact zF4 q
  refine yC (c153 a (by omega) W2 (hg.ext i)) ?_;rintro v w3 ⟨hv,a9⟩
  have e1 : ∃ u,v = .tuple #[u,Bv true]/\RatQ w3 u p:=by
   rcases hv with ⟨p',u,hp',rfl,hu⟩ | ⟨hno,_⟩
   ·rw [ha] at hp'
    obtain rfl:=zA3 hp';exact⟨u,rfl,hu⟩
   ·exact absurd ⟨p,ha⟩ hno
  obtain⟨u,rfl,hu⟩:=e1;obtain⟨a1,m1,c1,a2,m2,c2,rfl,e3,e4⟩:=hu;have d3:=i.trans a9;have hY:=yN w3 [Bv false,N0,N0] 184;have m:=hY.put [Bv (decide (p.num<0)),Lv a1 m1 c1,Lv a2 m2 c2] rfl;have d5:=(yE w3).alloc (.cells #[Bv false,N0,N0] 184);have b4:=(e3.ext d5).put hY (zAo _ _ _ _ _ _ _) [Bv (decide (p.num<0)),Lv a1 m1 c1,Lv a2 m2 c2] 0 0;have b5:=(e4.ext d5).put hY (zAo _ _ _ _ _ _ _) [Bv (decide (p.num<0)),Lv a1 m1 c1,Lv a2 m2 c2] 0 0;have b0:Ext w (setCells (w3.alloc (.cells #[Bv false,N0,N0] 184)) ⟨w3.heap.size,0,none⟩ 0 [Bv (decide (p.num<0)),Lv a1 m1 c1,Lv a2 m2 c2]):=(d3.alloc _).put (by exact d3.size) _ _;refine⟨_,_,_,_,_,_,_,_,rfl,hY.blk.writable (by decide),?_⟩;generalize setCells (w3.alloc (.cells #[Bv false,N0,N0] 184)) ⟨w3.heap.size,0,none⟩ 0 [Bv (decide (p.num<0)),Lv a1 m1 c1,Lv a2 m2 c2]=W3 at m b4 b5 b0 ⊢;generalize w3.heap.size=B3 at m ⊢;refine yC (c153 b (by omega) W3 (hg.ext b0)) ?_;rintro v w4 ⟨hv,g⟩
  have e2 : ∃ u,v = .tuple #[u,Bv true]/\RatQ w4 u q:=by
   rcases hv with ⟨p',u,hp',rfl,hu⟩ | ⟨hno,_⟩
   ·rw [hb] at hp'
    obtain rfl:=zA3 hp';exact⟨u,rfl,hu⟩
   ·exact absurd ⟨q,hb⟩ hno
  obtain⟨u,rfl,hu⟩:=e2;obtain⟨a3,m3,c3,a4,m4,c4,rfl,e5,e6⟩:=hu;have d4:=b0.trans g;have hZ:=yN w4 [Bv false,N0,N0] 184;have a7:=hZ.put [Bv (decide (q.num<0)),Lv a3 m3 c3,Lv a4 m4 c4] rfl;have j:=(yE w4).alloc (.cells #[Bv false,N0,N0] 184);have b6:=((b4.ext g).ext j).put hZ (zAo _ _ _ _ _ _ _) [Bv (decide (q.num<0)),Lv a3 m3 c3,Lv a4 m4 c4] 0 0;have b7:=((b5.ext g).ext j).put hZ (zAo _ _ _ _ _ _ _) [Bv (decide (q.num<0)),Lv a3 m3 c3,Lv a4 m4 c4] 0 0;have b8:=(e5.ext j).put hZ (zAo _ _ _ _ _ _ _) [Bv (decide (q.num<0)),Lv a3 m3 c3,Lv a4 m4 c4] 0 0;have b9:=(e6.ext j).put hZ (zAo _ _ _ _ _ _ _) [Bv (decide (q.num<0)),Lv a3 m3 c3,Lv a4 m4 c4] 0 0;have d0:=(m.ext (g.trans j)).same (zAk (b:=w4.heap.size) (o:=0) (k:=B3) (by have:=(m.ext g).lt;omega) [Bv (decide (q.num<0)),Lv a3 m3 c3,Lv a4 m4 c4] 0);have b3:Ext w (setCells (w4.alloc (.cells #[Bv false,N0,N0] 184)) ⟨w4.heap.size,0,none⟩ 0 [Bv (decide (q.num<0)),Lv a3 m3 c3,Lv a4 m4 c4]):=(d4.alloc _).put (by exact d4.size) _ _;refine⟨_,_,_,_,_,_,_,_,rfl,hZ.blk.writable (by decide),?_⟩;generalize setCells (w4.alloc (.cells #[Bv false,N0,N0] 184)) ⟨w4.heap.size,0,none⟩ 0 [Bv (decide (q.num<0)),Lv a3 m3 c3,Lv a4 m4 c4]=W4 at a7 b6 b7 b8 b9 d0 b3 ⊢;generalize w4.heap.size=B4 at a7 ⊢;rw [Bool.not_true,Bool.or_self,cond_false];refine⟨_,_,_,_,_,_,_,d0.blk.all,_,_,_,_,_,_,_,a7.blk.all,yC (c197 W4 ⟨_,_,_,_,_,_,rfl,b6,b7⟩ ⟨_,_,_,_,_,_,rfl,b8,b9⟩ (by omega) (hg.ext b3)) ?_⟩;rintro v w5 ⟨⟨s,rfl,hs⟩,d8⟩;exact⟨s,rfl,⟨s,rfl,hs⟩,b3.trans d8⟩
theorem c190_199{a b:BA}{p q:Rat}(ha:bs a=txtQ p)(hb:bs b=txtQ q)(h0:q≠0)(hz:a.size+b.size<=400000000)(w)(hg:Gl w) :
  Ret prog 190 #[Sv a,Sv b,.func (.func 199) #[] #[],.func (.func 200) #[] #[]] w fun v w'=>TxtV (p*q⁻¹) v/\Ext w w':=by
 refine run190_199_200 _ _ _ _ (yC (c152 a (by omega) w hg) ?_);rintro v w1 ⟨hv,a8⟩
 have d9 : ∃ n d b1,v = .tuple #[.agg #[Iv n,Iv d],Bv b1]/\(b1=true->n=p.num/\d=(p.den:Int)/\Sm p):=by
  rcases hv with ⟨p',hp',rfl,h1,h2⟩ | ⟨n,d,rfl⟩
  ·rw [ha] at hp'
   obtain rfl:=zA3 hp';exact⟨_,_,_,rfl,fun _=>⟨rfl,rfl,Sm.of h1 h2⟩⟩
  ·exact⟨_,_,_,rfl,fun h=>by cases h⟩
 obtain⟨n,d,b1,rfl,d6⟩:=d9;have l:=(yN w1 [Iv 0,Iv 0] 178).put [Iv n,Iv d] rfl;have a0:Ext w (setCells (w1.alloc (.cells #[Iv 0,Iv 0] 178)) ⟨w1.heap.size,0,none⟩ 0 [Iv n,Iv d]):=(a8.alloc _).put (by exact a8.size) _ _;refine⟨_,_,_,rfl,(yN w1 [Iv 0,Iv 0] 178).blk.writable (by decide),?_⟩;generalize setCells (w1.alloc (.cells #[Iv 0,Iv 0] 178)) ⟨w1.heap.size,0,none⟩ 0 [Iv n,Iv d]=W1 at l a0 ⊢;have d1:w.heap.size<=w1.heap.size:=a8.size;generalize w1.heap.size=B1 at l d1 ⊢;refine yC (c152 b (by omega) W1 (hg.ext a0)) ?_;rintro v w2 ⟨hv,x⟩
 have e0 : ∃ n d b2,v = .tuple #[.agg #[Iv n,Iv d],Bv b2]/\(b2=true->n=q.num/\d=(q.den:Int)/\Sm q):=by
  rcases hv with ⟨p',hp',rfl,h1,h2⟩ | ⟨n,d,rfl⟩
  ·rw [hb] at hp'
   obtain rfl:=zA3 hp';exact⟨_,_,_,rfl,fun _=>⟨rfl,rfl,Sm.of h1 h2⟩⟩
  ·exact⟨_,_,_,rfl,fun h=>by cases h⟩
 obtain⟨n2,d2,b2,rfl,d7⟩:=e0;have a6:=(yN w2 [Iv 0,Iv 0] 178).put [Iv n2,Iv d2] rfl;have a5:=(l.ext (x.trans ((yE w2).alloc (.cells #[Iv 0,Iv 0] 178)))).same (zAk (b:=w2.heap.size) (o:=0) (k:=B1) (by have:=(l.ext x).lt;omega) [Iv n2,Iv d2] 0);have i:Ext w (setCells (w2.alloc (.cells #[Iv 0,Iv 0] 178)) ⟨w2.heap.size,0,none⟩ 0 [Iv n2,Iv d2]):=((a0.trans x).alloc _).put (by exact (a0.trans x).size) _ _;refine⟨_,_,_,rfl,(yN w2 [Iv 0,Iv 0] 178).blk.writable (by decide),?_⟩;generalize setCells (w2.alloc (.cells #[Iv 0,Iv 0] 178)) ⟨w2.heap.size,0,none⟩ 0 [Iv n2,Iv d2]=W2 at a5 a6 i ⊢;generalize w2.heap.size=B2 at a6 ⊢;refine zAb (fun f=>?_) (fun e7=>?_)
 ·rw [Bool.and_eq_true] at f
  obtain⟨rfl,rfl,sp⟩:=d6 f.1;obtain⟨rfl,rfl,sq⟩:=d7 f.2;refine⟨_,_,a5.blk.all,_,_,a6.blk.all,yC (c199 sp sq h0 W2 (hg.ext i)) ?_⟩;rintro v w3 ⟨⟨s,rfl,hs⟩,a9⟩;exact⟨s,rfl,⟨s,rfl,hs⟩,i.trans a9⟩
 ·have zp:nd p.num.natAbs<=a.size/\nd p.den<=a.size:=by rw [zAc,ha];exact zF4 p
  have zq:nd q.num.natAbs<=b.size/\nd q.den<=b.size:=by rw [zAc,hb];exact zF4 q
  refine yC (c153 a (by omega) W2 (hg.ext i)) ?_;rintro v w3 ⟨hv,a9⟩
  have e1 : ∃ u,v = .tuple #[u,Bv true]/\RatQ w3 u p:=by
   rcases hv with ⟨p',u,hp',rfl,hu⟩ | ⟨hno,_⟩
   ·rw [ha] at hp'
    obtain rfl:=zA3 hp';exact⟨u,rfl,hu⟩
   ·exact absurd ⟨p,ha⟩ hno
  obtain⟨u,rfl,hu⟩:=e1;obtain⟨a1,m1,c1,a2,m2,c2,rfl,e3,e4⟩:=hu;have d3:=i.trans a9;have hY:=yN w3 [Bv false,N0,N0] 184;have m:=hY.put [Bv (decide (p.num<0)),Lv a1 m1 c1,Lv a2 m2 c2] rfl;have d5:=(yE w3).alloc (.cells #[Bv false,N0,N0] 184);have b4:=(e3.ext d5).put hY (zAo _ _ _ _ _ _ _) [Bv (decide (p.num<0)),Lv a1 m1 c1,Lv a2 m2 c2] 0 0;have b5:=(e4.ext d5).put hY (zAo _ _ _ _ _ _ _) [Bv (decide (p.num<0)),Lv a1 m1 c1,Lv a2 m2 c2] 0 0;have b0:Ext w (setCells (w3.alloc (.cells #[Bv false,N0,N0] 184)) ⟨w3.heap.size,0,none⟩ 0 [Bv (decide (p.num<0)),Lv a1 m1 c1,Lv a2 m2 c2]):=(d3.alloc _).put (by exact d3.size) _ _;refine⟨_,_,_,_,_,_,_,_,rfl,hY.blk.writable (by decide),?_⟩;generalize setCells (w3.alloc (.cells #[Bv false,N0,N0] 184)) ⟨w3.heap.size,0,none⟩ 0 [Bv (decide (p.num<0)),Lv a1 m1 c1,Lv a2 m2 c2]=W3 at m b4 b5 b0 ⊢;generalize w3.heap.size=B3 at m ⊢;refine yC (c153 b (by omega) W3 (hg.ext b0)) ?_;rintro v w4 ⟨hv,g⟩
  have e2 : ∃ u,v = .tuple #[u,Bv true]/\RatQ w4 u q:=by
   rcases hv with ⟨p',u,hp',rfl,hu⟩ | ⟨hno,_⟩
   ·rw [hb] at hp'
    obtain rfl:=zA3 hp';exact⟨u,rfl,hu⟩
   ·exact absurd ⟨q,hb⟩ hno
  obtain⟨u,rfl,hu⟩:=e2;obtain⟨a3,m3,c3,a4,m4,c4,rfl,e5,e6⟩:=hu;have d4:=b0.trans g;have hZ:=yN w4 [Bv false,N0,N0] 184;have a7:=hZ.put [Bv (decide (q.num<0)),Lv a3 m3 c3,Lv a4 m4 c4] rfl;have j:=(yE w4).alloc (.cells #[Bv false,N0,N0] 184);have b6:=((b4.ext g).ext j).put hZ (zAo _ _ _ _ _ _ _) [Bv (decide (q.num<0)),Lv a3 m3 c3,Lv a4 m4 c4] 0 0;have b7:=((b5.ext g).ext j).put hZ (zAo _ _ _ _ _ _ _) [Bv (decide (q.num<0)),Lv a3 m3 c3,Lv a4 m4 c4] 0 0;have b8:=(e5.ext j).put hZ (zAo _ _ _ _ _ _ _) [Bv (decide (q.num<0)),Lv a3 m3 c3,Lv a4 m4 c4] 0 0;have b9:=(e6.ext j).put hZ (zAo _ _ _ _ _ _ _) [Bv (decide (q.num<0)),Lv a3 m3 c3,Lv a4 m4 c4] 0 0;have d0:=(m.ext (g.trans j)).same (zAk (b:=w4.heap.size) (o:=0) (k:=B3) (by have:=(m.ext g).lt;omega) [Bv (decide (q.num<0)),Lv a3 m3 c3,Lv a4 m4 c4] 0);have b3:Ext w (setCells (w4.alloc (.cells #[Bv false,N0,N0] 184)) ⟨w4.heap.size,0,none⟩ 0 [Bv (decide (q.num<0)),Lv a3 m3 c3,Lv a4 m4 c4]):=(d4.alloc _).put (by exact d4.size) _ _;refine⟨_,_,_,_,_,_,_,_,rfl,hZ.blk.writable (by decide),?_⟩;generalize setCells (w4.alloc (.cells #[Bv false,N0,N0] 184)) ⟨w4.heap.size,0,none⟩ 0 [Bv (decide (q.num<0)),Lv a3 m3 c3,Lv a4 m4 c4]=W4 at a7 b6 b7 b8 b9 d0 b3 ⊢;generalize w4.heap.size=B4 at a7 ⊢;rw [Bool.not_true,Bool.or_self,cond_false];refine⟨_,_,_,_,_,_,_,d0.blk.all,_,_,_,_,_,_,_,a7.blk.all,yC (c200 W4 ⟨_,_,_,_,_,_,rfl,b6,b7⟩ ⟨_,_,_,_,_,_,rfl,b8,b9⟩ h0 (by omega) (hg.ext b3)) ?_⟩;rintro v w5 ⟨⟨s,rfl,hs⟩,d8⟩;exact⟨s,rfl,⟨s,rfl,hs⟩,b3.trans d8⟩
theorem c157{a b:BA}{p q:Rat}(ha:bs a=txtQ p)(hb:bs b=txtQ q)(hz:a.size+b.size<=400000000)(w)(hg:Gl w):Ret prog 157 #[Sv a,Sv b] w fun v w'=>TxtV (p+q) v/\Ext w w':=by
 refine run157 _ _ _ _ (yC (c190_191 ha hb hz w hg) ?_);rintro v w1 ⟨⟨s,rfl,hs⟩,he⟩;exact⟨s,rfl,⟨s,rfl,hs⟩,he⟩
theorem c158{a b:BA}{p q:Rat}(ha:bs a=txtQ p)(hb:bs b=txtQ q)(hz:a.size+b.size<=400000000)(w)(hg:Gl w):Ret prog 158 #[Sv a,Sv b] w fun v w'=>TxtV (p*q) v/\Ext w w':=by
 refine run158 _ _ _ _ (yC (c190_196 ha hb hz w hg) ?_);rintro v w1 ⟨⟨s,rfl,hs⟩,he⟩;exact⟨s,rfl,⟨s,rfl,hs⟩,he⟩
theorem zEA(q:Rat):txtQ q=[48]↔q=0:=by
 have h0:txtQ 0=[48]:=by rw [zA2,if_neg (by decide),if_pos (show (0:Rat).den=1 from rfl)];exact congrArg (· ++ []) zBc
 exact⟨fun h=>zA3 (by rw [h,h0]),fun h=>by rw [h,h0]⟩
theorem c164{a b:BA}{p q:Rat}(ha:bs a=txtQ p)(hb:bs b=txtQ q)(h0:q≠0)(hz:a.size+b.size<=400000000)(w)(hg:Gl w):Ret prog 164 #[Sv a,Sv b] w fun v w'=>TxtV (p*q⁻¹) v/\Ext w w':=by
 refine run164 _ _ _ _ ?_;unfold vc164;rw [zAv,hb];have : ¬ txtQ q=bs { data:=#[48] }:=fun e=>h0 ((zEA q).1 e);rw [decide_eq_false this,cond_false];refine yC (c190_199 ha hb h0 hz w hg) ?_;rintro v w1 ⟨⟨s,rfl,hs⟩,he⟩;exact⟨s,rfl,⟨s,rfl,hs⟩,he⟩
theorem c111(a:BA)(hz:a.size<=1000000000)(w)(hg:Gl w):Ret prog 111 #[Sv a] w fun v w'=>v=Bv (okQ (bs a))/\Ext w w':=by
 refine run111 _ _ _ (yC (c152 a hz w hg) ?_);rintro v w1 ⟨hv,i⟩
 have k : ∃ n d b1,v = .tuple #[.agg #[Iv n,Iv d],Bv b1]/\(b1=true->okQ (bs a)=true):=by
  rcases hv with ⟨p',hp',rfl,h1,h2⟩ | ⟨n,d,rfl⟩
  ·exact⟨_,_,_,rfl,fun _=>zBE.2 ⟨_,hp'⟩⟩
  ·exact⟨_,_,_,rfl,fun h=>by cases h⟩
 obtain⟨n,d,b1,rfl,j⟩:=k;have f:Ext w (setCells (w1.alloc (.cells #[Iv 0,Iv 0] 178)) ⟨w1.heap.size,0,none⟩ 0 [Iv n,Iv d]):=(i.alloc _).put (by exact i.size) _ _;refine⟨_,_,_,rfl,(yN w1 [Iv 0,Iv 0] 178).blk.writable (by decide),?_⟩;refine zAb (fun h=>⟨by rw [j h],f⟩) (fun _=>?_);refine yC (c153 a hz _ (hg.ext f)) ?_;rintro v w2 ⟨hv,g⟩
 rcases hv with ⟨q,u,hq,rfl,a1,m1,c1,a2,m2,c2,rfl,hu1,hu2⟩ | ⟨hno,b,a1,m1,c1,a2,m2,c2,rfl⟩
 ·exact⟨_,_,_,_,_,_,_,_,rfl,(yN w2 [Bv false,N0,N0] 184).blk.writable (by decide),by rw [zBE.2 ⟨q,hq⟩],((f.trans g).alloc _).put (by exact (f.trans g).size) _ _⟩
 ·refine⟨_,_,_,_,_,_,_,_,rfl,(yN w2 [Bv false,N0,N0] 184).blk.writable (by decide),?_,((f.trans g).alloc _).put (by exact (f.trans g).size) _ _⟩
  cases h:okQ (bs a) with
  | false=>rfl
  | true=>exact absurd (zBE.1 h) hno
theorem txt_head(q:Rat) : ∃ c r,txtQ q=c::r/\(c=45↔q.num<0):=by
 rw [zA2]
 by_cases h:q.num<0
 ·rw [if_pos h]
  exact⟨45,_,rfl,by simp [h]⟩
 ·rw [if_neg h]
  obtain⟨c,l,e,hc⟩:=zE6 q.num.natAbs;rw [e];exact⟨c,_,rfl,fun e=>absurd e (dig_ne hc).1,fun h2=>absurd h2 h⟩
theorem c131{a:BA}{q:Rat}(ha:bs a=txtQ q)(hz:a.size<=1000000000)(w)(hg:Gl w):Ret prog 131 #[Sv a] w fun v w'=>v=Iv q.num.sign/\Ext w w':=by
 refine run131 _ _ _ (yC (c111 a hz w hg) ?_);rintro v w1 ⟨rfl,he⟩;refine⟨_,rfl,?_⟩;rw [zBE.2 ⟨q,ha⟩,Bool.not_true,Bool.false_or,zAv,ha];obtain⟨c,r,hc,hn⟩:=txt_head q;refine zAd (fun h=>⟨?_,he⟩) (fun h=>⟨⟨by omega,?_⟩,?_⟩)
 ·rw [(zEA q).1 h];rfl
 ·have:0<a.size:=by rw [zAc,ha,hc];simp
  omega
 ·have d:q.num≠0:=fun e=>h ((zEA q).2 (Rat.num_eq_zero.1 e))
  have hb:bt a 0=(c.toNat:Int):=by
   show (((bs a).getD 0 0).toNat:Int)=_;rw [ha,hc];rfl
  have b:=u8_beq c 45 (by omega);rw [hb,show ((45:Nat):Int)=45 from rfl] at *;rw [b];refine zAb (fun h2=>⟨?_,he⟩) (fun h2=>⟨?_,he⟩)
  ·have:q.num<0:=hn.1 (by simpa using h2)
   rw [Int.sign_eq_neg_one_of_neg this]
  ·have : ¬ q.num<0:=fun h3=>by have:=hn.2 h3;rw [this] at h2;exact absurd h2 (by decide)
   rw [Int.sign_eq_one_of_pos (by omega)]
theorem txt_neg(q:Rat):(q.num<0->txtQ q=45::txtQ (-q)):=by
 intro h;rw [zA2,zA2,if_pos h,Rat.neg_num,Rat.neg_den,if_neg (show ¬ -q.num<0 by omega),Int.natAbs_neg];rfl
theorem c169{a:BA}{q:Rat}(ha:bs a=txtQ q)(hz:a.size<=1000000000)(w)(hg:Gl w):Ret prog 169 #[Sv a] w fun v w'=>TxtV (-q) v/\Ext w w':=by
 refine run169 _ _ _ (yC (c131 ha hz w hg) ?_);rintro v w1 ⟨rfl,b⟩;refine⟨_,rfl,zAd (fun hn=>?_) (fun hn=>?_)⟩
 ·have f:q.num<0:=Int.sign_neg_iff.1 hn
  have h1:=txt_neg q f
  have hs:1<=a.size:=by rw [zAc,ha,h1];simp
  refine⟨⟨by omega,by omega⟩,⟨_,rfl,?_⟩,b⟩;rw [zBe,rest,ha,h1];rw [zAc,ha,h1];simp
 ·refine yC (c131 ha hz w1 (hg.ext b)) ?_
  rintro v w2 ⟨rfl,d⟩;refine⟨_,rfl,zAd (fun hp=>?_) (fun hp=>?_)⟩
  ·have g:0<q.num:=Int.sign_pos_iff.1 hp
   refine⟨by omega,⟨_,rfl,?_⟩,b.trans d⟩;have:=txt_neg (-q) (by rw [Rat.neg_num];omega);rw [Rat.neg_neg] at this;rw [zBa,ha,this];rfl
  ·have h0:q.num=0:=by
    have h1 : ¬ q.num<0:=fun h=>hn (Int.sign_neg_iff.2 h);have h2 : ¬ 0<q.num:=fun h=>hp (Int.sign_pos_iff.2 h);omega
   have hq:q=0:=Rat.num_eq_zero.1 h0;rw [zAv,ha];refine zAd (fun _=>⟨⟨a,rfl,by rw [ha,hq,Rat.neg_zero]⟩,b.trans d⟩) (fun h=>absurd ((zEA q).2 hq) h)
end Go.Proofs.Si
namespace Go.Tb
def sumN:Nat->(Nat->Rat)->Rat
 | 0,_=>0
 | k+1,f=>sumN k f+f k
theorem zBM(f:Nat->Rat):sumN 0 f=0:=rfl
theorem zAq(k:Nat)(f:Nat->Rat):sumN (k+1) f=sumN k f+f k:=rfl
theorem zAn{f g:Nat->Rat} : ∀ {k:Nat},(∀ i,i<k->f i=g i)->sumN k f=sumN k g
 | 0,_=>rfl
 | k+1,h=>by rw [zAq,zAq,zAn fun i hi=>h i (by omega),h k (by omega)]
theorem zDN(k:Nat)(f g:Nat->Rat):sumN k (fun i=>f i+g i)=sumN k f+sumN k g:=by
 induction k with
 | zero=>simp only [sumN];grind
 | succ k ih=>rw [zAq,zAq,zAq,ih];grind
theorem zGy(k:Nat)(f g:Nat->Rat):sumN k (fun i=>f i - g i)=sumN k f - sumN k g:=by
 induction k with
 | zero=>simp only [sumN];grind
 | succ k ih=>rw [zAq,zAq,zAq,ih];grind
theorem zCg(k:Nat)(c:Rat)(f:Nat->Rat):sumN k (fun i=>c*f i)=c*sumN k f:=by
 induction k with
 | zero=>simp [sumN]
 | succ k ih=>rw [zAq,zAq,ih];grind
theorem zEB(k:Nat)(f:Nat->Rat):sumN k (fun i => - f i) = - sumN k f:=by
 induction k with
 | zero=>simp [sumN]
 | succ k ih=>rw [zAq,zAq,ih];grind
theorem zBh{k:Nat}{f:Nat->Rat}(h : ∀ i,i<k->f i=0):sumN k f=0:=by
 rw [zAn (g:=fun _=>0) h];clear h
 induction k with
 | zero=>rfl
 | succ k ih=>rw [zAq,ih];grind
theorem zCX{k j:Nat}(hj:j<k)(f:Nat->Rat):sumN k f=f j+sumN k (fun i=>if i=j then 0 else f i):=by
 induction k with
 | zero=>omega
 | succ k ih =>
  rw [zAq,zAq]
  by_cases h:j=k
  ·subst h
   rw [if_pos rfl,zAn (k:=j) (g:=fun i=>if i=j then 0 else f i) fun i hi=>by rw [if_neg (by omega)]]
   grind
  ·rw [ih (by omega),if_neg (fun e=>h e.symm)];grind
theorem zC7{k j:Nat}(hj:j<k)(f:Nat->Rat)(h : ∀ i,i<k->i≠j->f i=0):sumN k f=f j:=by
 rw [zCX hj,zBh fun i hi=>?_]
 ·grind
 ·split
  ·rfl
  ·exact h i hi (by assumption)
theorem sumN_comm(a b:Nat)(f:Nat->Nat->Rat):sumN a (fun i=>sumN b fun j=>f i j)=sumN b (fun j=>sumN a fun i=>f i j):=by
 induction a with
 | zero=>rw [zBM];exact (zBh fun _ _=>rfl).symm
 | succ a ih=>rw [zAq,ih,<- zDN];rfl
theorem zFf{k:Nat}{f:Nat->Rat}(h : ∀ i,i<k->0<=f i):0<=sumN k f:=by
 induction k with
 | zero=>rw [zBM];grind
 | succ k ih=>rw [zAq];have:=ih fun i hi=>h i (by omega);have:=h k (by omega);grind
theorem sumN_pos_ex{k:Nat}{f:Nat->Rat}(h:0<sumN k f) : ∃ i,i<k/\0<f i:=by
 induction k with
 | zero=>rw [zBM] at h;grind
 | succ k ih =>
  rw [zAq] at h
  by_cases hk:0<f k
  ·exact⟨k,by omega,hk⟩
  ·obtain⟨i,hi,hp⟩:=ih (by grind)
   exact⟨i,by omega,hp⟩
abbrev V2:=Rat × Rat
def lt2(v w:V2):Prop:=v.1<w.1\/v.1=w.1/\v.2<w.2
def le2(v w:V2):Prop:=v.1<w.1\/v.1=w.1/\v.2<=w.2
instance (v w:V2):Decidable (lt2 v w):=inferInstanceAs (Decidable (_\/_))
instance (v w:V2):Decidable (le2 v w):=inferInstanceAs (Decidable (_\/_))
theorem not_lt2{v w:V2} : ¬ lt2 v w↔le2 w v:=by unfold lt2 le2;grind
def sum2(k:Nat)(f:Nat->V2):V2:=(sumN k fun i=>(f i).1,sumN k fun i=>(f i).2)
def zero2:V2:=(0,0)
theorem sum2_nonneg{k:Nat}{f:Nat->V2}(h : ∀ i,i<k->le2 zero2 (f i)):le2 zero2 (sum2 k f):=by
 induction k with
 | zero=>right;exact⟨rfl,by show (0:Rat)<=0;grind⟩
 | succ k ih =>
  have h1:=ih fun i hi=>h i (by omega);have h2:=h k (by omega);simp only [sum2,le2,zero2,zAq] at h1 h2 ⊢
  grind
theorem sum2_pos{k j:Nat}{f:Nat->V2}(h : ∀ i,i<k->le2 zero2 (f i))(hj:j<k)(hp:lt2 zero2 (f j)):lt2 zero2 (sum2 k f):=by
 induction k with
 | zero=>omega
 | succ k ih =>
  have h2:=h k (by omega);have h3:=sum2_nonneg (k:=k) fun i hi=>h i (by omega)
  by_cases hk:j=k
  ·subst hk
   simp only [sum2,le2,lt2,zero2,zAq] at h2 h3 hp ⊢
   grind
  ·have h1:=ih (fun i hi=>h i (by omega)) (by omega)
   simp only [sum2,le2,lt2,zero2,zAq] at h1 h2 ⊢
   grind
def hgt(H:Nat)(q:Rat):Prop:=q.num.natAbs<=H/\q.den<=H
theorem hgt.mono{H J:Nat}{q:Rat}(h:hgt H q)(hj:H<=J):hgt J q:=⟨Nat.le_trans h.1 hj,Nat.le_trans h.2 hj⟩
theorem hgt.neg{H:Nat}{q:Rat}(h:hgt H q):hgt H (-q):=by
 refine⟨?_,?_⟩
 ·rw [Rat.neg_num,Int.natAbs_neg];exact h.1
 ·rw [Rat.neg_den];exact h.2
theorem hgt_mkRat{H:Nat}{a:Int}{b:Nat}(ha:a.natAbs<=H)(hb:b<=H)(h1:1<=H):hgt H (mkRat a b):=by
 by_cases h0:b=0
 ·subst h0
  rw [Rat.mkRat_zero];exact⟨Nat.zero_le _,h1⟩
 ·refine⟨?_,?_⟩
  ·rw [Rat.num_mkRat,if_neg h0]
   refine Nat.le_trans ?_ ha
   rw [Int.natAbs_ediv_of_dvd (by
    exact Int.ofNat_dvd_left.2 (Nat.gcd_dvd_right _ _))]
   exact Nat.div_le_self _ _
  ·rw [Rat.den_mkRat,if_neg h0]
   exact Nat.le_trans (Nat.div_le_self _ _) hb
theorem hgt.pos{H:Nat}{q:Rat}(h:hgt H q):1<=H:=Nat.le_trans (Nat.pos_of_ne_zero q.den_nz) h.2
theorem hgt.mul{H J:Nat}{p q:Rat}(hp:hgt H p)(hq:hgt J q):hgt (H*J) (p*q):=by
 rw [Rat.mul_def'];refine hgt_mkRat ?_ (Nat.mul_le_mul hp.2 hq.2) (Nat.mul_pos hp.pos hq.pos);rw [Int.natAbs_mul];exact Nat.mul_le_mul hp.1 hq.1
theorem hgt.add{H J:Nat}{p q:Rat}(hp:hgt H p)(hq:hgt J q):hgt (2*(H*J)) (p+q):=by
 rw [Rat.add_def']
 have h1:(p.num*q.den).natAbs<=H*J:=by rw [Int.natAbs_mul];exact Nat.mul_le_mul hp.1 hq.2
 have h2:(q.num*p.den).natAbs<=H*J:=by rw [Int.natAbs_mul,Nat.mul_comm];exact Nat.mul_le_mul hp.2 hq.1
 have h3:p.den*q.den<=H*J:=Nat.mul_le_mul hp.2 hq.2;have h4:0<H*J:=Nat.mul_pos hp.pos hq.pos;refine hgt_mkRat ?_ (by omega) (by omega);have:=Int.natAbs_add_le (p.num*q.den) (q.num*p.den);omega
theorem hgt.inv{H:Nat}{q:Rat}(h:hgt H q):hgt H q⁻¹:=by
 refine⟨?_,?_⟩
 ·rw [Rat.num_inv,Int.natAbs_mul]
  have h1:q.num.sign.natAbs<=1:=by rw [Int.natAbs_sign];split <;> omega
  have:=Nat.mul_le_mul h1 h.2
  simpa using this
 ·rw [Rat.den_inv]
  split
  ·exact h.pos
  ·exact h.1
theorem hgt_zero{H:Nat}(h:1<=H):hgt H 0:=⟨Nat.zero_le _,h⟩
def sbnd(H:Nat):Nat->Nat
 | 0=>1
 | k+1=>2*(sbnd H k*H)
theorem hgt_sum{H:Nat}{f:Nat->Rat} : ∀ {k:Nat},(∀ i,i<k->hgt H (f i))->hgt (sbnd H k) (sumN k f)
 | 0,_=>hgt_zero (Nat.le_refl 1)
 | k+1,h=>by
  rw [zAq,sbnd]
  exact (hgt_sum fun i hi=>h i (by omega)).add (h k (by omega))
structure Sys where
 n:Nat
 m:Nat
 C:Nat->Nat->Rat
 rel:Nat->Nat
 K:Nat->Rat
structure Dy where
 basic:Nat->Nat
 cols:Nat->Nat
 line:Nat->Int
 a:Nat->Nat->Rat
 val:Nat->V2
def Sol(S:Sys)(x:Nat->Rat):Prop:=∀ i,i<S.m->x (S.n+i)=sumN S.n fun j=>S.C i j*x j
def DSol(S:Sys)(s:Dy)(x:Nat->Rat):Prop:=∀ i,i<S.m->x (s.basic i)=sumN S.n fun k=>s.a i k*x (s.cols k)
structure Perm (S:Sys) (s:Dy):Prop where
 bas : ∀ i,i<S.m->s.basic i<S.n+S.m/\s.line (s.basic i)=i
 col : ∀ j,j<S.n->s.cols j<S.n+S.m/\s.line (s.cols j) = -1
 inj : ∀ j k,j<S.n->k<S.n->s.cols j=s.cols k->j=k
 lin : ∀ v,v<S.n+S.m->(0<=s.line v->s.line v<S.m/\s.basic (s.line v).toNat=v)/\(s.line v<0->s.line v = -1/\∃ j,j<S.n/\s.cols j=v)
structure Dict (S:Sys) (s:Dy):Prop where
 perm:Perm S s
 sol : ∀ x,Sol S x↔DSol S s x
theorem Perm.basInj{S:Sys}{s:Dy}(h:Perm S s){i k:Nat}(hi:i<S.m)(hk:k<S.m)(e:s.basic i=s.basic k):i=k:=by
 have h1:=(h.bas i hi).2;have h2:=(h.bas k hk).2;rw [e,h2] at h1;omega
theorem Perm.ne{S:Sys}{s:Dy}(h:Perm S s){i j:Nat}(hi:i<S.m)(hj:j<S.n):s.basic i≠s.cols j:=by
 intro e;have h1:=(h.bas i hi).2;have h2:=(h.col j hj).2;rw [e,h2] at h1;omega
def upd{α:Type}(f:Nat->α)(i:Nat)(x:α):Nat->α:=fun k=>if k=i then x else f k
theorem zA4{α:Type}(f:Nat->α)(i:Nat)(x:α):upd f i x i=x:=by simp [upd]
theorem zAt{α:Type}(f:Nat->α){i k:Nat}(h:k≠i)(x:α):upd f i x k=f k:=by simp [upd,h]
def pivA(a:Nat->Nat->Rat)(i j:Nat):Nat->Nat->Rat:=fun l k =>
 if l=i then (if k=j then (a i j)⁻¹ else - (a i k*(a i j)⁻¹))
 else if k=j then a l j*(a i j)⁻¹ else a l k+a l j*(- (a i k*(a i j)⁻¹))
def pivot(s:Dy)(i j:Nat):Dy :=
 { s with a:=pivA s.a i j,basic:=upd s.basic i (s.cols j),cols:=upd s.cols j (s.basic i),line:=upd (upd s.line (s.basic i) (-1)) (s.cols j) i }
theorem zFW{S:Sys}{s:Dy}(h:Perm S s){i j:Nat}(hi:i<S.m)(hj:j<S.n):Perm S (pivot s i j):=by
 have b:=h.ne hi hj;have hb:=h.bas i hi;have hc:=h.col j hj;refine⟨fun l hl=>?_,fun k hk=>?_,fun k l hk hl e=>?_,fun v hv=>?_⟩
 ·simp only [pivot] at hl ⊢
  by_cases e:l=i
  ·subst e
   rw [zA4,zA4];exact⟨hc.1,rfl⟩
  ·rw [zAt _ e]
   have h1:=h.bas l hl;rw [zAt _ (h.ne hl hj),zAt _ (fun e2=>e (h.basInj hl hi e2))];exact h1
 ·simp only [pivot] at hk ⊢
  by_cases e:k=j
  ·subst e
   rw [zA4,zAt _ b,zA4];exact⟨hb.1,rfl⟩
  ·rw [zAt _ e]
   have h1:=h.col k hk;rw [zAt _ (fun e2=>e (h.inj k j hk hj e2)),zAt _ (fun e2=>h.ne hi hk e2.symm)];exact h1
 ·simp only [pivot] at hk hl e
  by_cases e1:k=j
  ·by_cases e2:l=j
   ·rw [e1,e2]
   ·rw [e1,zA4,zAt _ e2] at e
    exact absurd e (h.ne hi hl)
  ·by_cases e2:l=j
   ·rw [e2,zA4,zAt _ e1] at e
    exact absurd e.symm (h.ne hi hk)
   ·rw [zAt _ e1,zAt _ e2] at e
    exact h.inj k l hk hl e
 ·simp only [pivot] at hv ⊢
  by_cases e1:v=s.cols j
  ·subst e1
   rw [zA4];refine⟨fun _=>⟨by omega,?_⟩,fun h0=>by omega⟩;rw [Int.toNat_natCast,zA4]
  ·rw [zAt _ e1]
   by_cases e2:v=s.basic i
   ·subst e2
    rw [zA4];refine⟨fun h0=>by omega,fun _=>⟨rfl,j,hj,by rw [zA4]⟩⟩
   ·rw [zAt _ e2]
    obtain⟨h1,h2⟩:=h.lin v hv;refine⟨fun h0=>?_,fun h0=>?_⟩
    ·obtain⟨h3,h4⟩:=h1 h0
     refine⟨h3,?_⟩;rw [zAt _ (fun e=>e2 (by rw [<- h4,e]))];exact h4
    ·obtain⟨h3,k,hk,h4⟩:=h2 h0
     refine⟨h3,k,hk,?_⟩;rw [zAt _ (fun e=>e1 (by rw [<- h4,e]))];exact h4
theorem zFX{S:Sys}{s:Dy}{i j:Nat}(hi:i<S.m)(hj:j<S.n)(hp:Perm S s)(h0:s.a i j≠0)(x:Nat->Rat):DSol S s x->DSol S (pivot s i j) x:=by
 intro h l hl;simp only [pivot] at hl ⊢;have hI:=h i hi;rw [zCX hj] at hI
 have hJ:x (s.cols j)=(s.a i j)⁻¹*x (s.basic i)+sumN S.n (fun k=>if k=j then 0 else - (s.a i k*(s.a i j)⁻¹)*x (s.cols k)):=by
  have e:(sumN S.n fun k=>if k=j then 0 else - (s.a i k*(s.a i j)⁻¹)*x (s.cols k)) = - (s.a i j)⁻¹*sumN S.n (fun k=>if k=j then 0 else s.a i k*x (s.cols k)):=by
   rw [<- zCg];refine zAn fun k _=>?_
   split <;> grind
  rw [e,hI];have:=Rat.inv_mul_cancel _ h0
  grind
 have hS : ∀ f:Nat->Rat,(sumN S.n fun k=>f k*x (upd s.cols j (s.basic i) k))=f j*x (s.basic i)+sumN S.n (fun k=>if k=j then 0 else f k*x (s.cols k)):=by
  intro f;rw [zCX hj,zA4]
  congr 1
  refine zAn fun k _=>?_;split
  ·rfl
  ·rename_i e;rw [zAt _ e]
 rw [hS]
 by_cases e:l=i
 ·subst e
  rw [zA4,hJ]
  congr 1
  ·rw [pivA,if_pos rfl,if_pos rfl]
  ·refine zAn fun k _=>?_
   split
   ·rfl
   ·rename_i e;rw [pivA,if_pos rfl,if_neg e]
 ·rw [zAt _ e,h l hl,zCX hj,hJ]
  have e1:(sumN S.n fun k=>if k=j then 0 else pivA s.a i j l k*x (s.cols k))=sumN S.n (fun k=>if k=j then 0 else s.a l k*x (s.cols k))+s.a l j*sumN S.n (fun k=>if k=j then 0 else - (s.a i k*(s.a i j)⁻¹)*x (s.cols k)):=by
   rw [<- zCg,<- zDN];refine zAn fun k _=>?_;split
   ·grind
   ·rename_i e2;rw [pivA,if_neg e,if_neg e2];grind
  rw [e1,pivA,if_neg e,if_pos rfl]
  grind
theorem pivA_ne{s:Dy}{i j:Nat}(h0:s.a i j≠0):(pivot s i j).a i j≠0:=by
 simp only [pivot,pivA,if_true];intro e;have:=Rat.inv_mul_cancel _ h0;rw [e] at this
 grind
theorem pivA_pivA{a:Nat->Nat->Rat}{i j:Nat}(h0:a i j≠0)(l k:Nat):pivA (pivA a i j) i j l k=a l k:=by
 have h1:=Rat.inv_mul_cancel _ h0;have h2:(a i j)⁻¹⁻¹=a i j:=Rat.inv_inv _;unfold pivA;simp only [if_true,h2]
 by_cases e1:l=i
 ·subst e1
  rw [if_pos rfl]
  by_cases e2:k=j
  ·subst e2;rw [if_pos rfl]
  ·rw [if_neg e2]
   simp only [if_neg e2]
   grind
 ·rw [if_neg e1]
  simp only [if_neg e1]
  by_cases e2:k=j
  ·subst e2
   simp only [if_true]
   grind
  ·simp only [if_neg e2]
   grind
theorem zFY{S:Sys}{s:Dy}(h:Dict S s){i j:Nat}(hi:i<S.m)(hj:j<S.n)(h0:s.a i j≠0):Dict S (pivot s i j):=by
 refine⟨zFW h.perm hi hj,fun x=>?_⟩;have e:Sol S x↔Sol S x:=Iff.rfl;rw [e,h.sol];refine⟨zFX hi hj h.perm h0 x,fun hd=>?_⟩;have:=zFX (s:=pivot s i j) hi hj (zFW h.perm hi hj) (pivA_ne h0) x hd;intro l hl;have h2:=this l hl;simp only [pivot] at h2
 rw [show upd (upd s.basic i (s.cols j)) i (upd s.cols j (s.basic i) j) l=s.basic l by
  by_cases e:l=i
  ·subst e;rw [zA4,zA4]
  ·rw [zAt _ e,zAt _ e]] at h2
 rw [h2];refine zAn fun k hk=>?_;rw [pivA_pivA h0]
 congr 2
 by_cases e:k=j
 ·subst e;rw [zA4,zA4]
 ·rw [zAt _ e,zAt _ e]
def ext(S:Sys)(y:Nat->Rat):Nat->Rat:=fun v=>if v<S.n then y v else sumN S.n fun j=>S.C (v - S.n) j*y j
theorem ext_sol(S:Sys)(y:Nat->Rat):Sol S (ext S y):=by
 intro i hi;unfold ext;rw [if_neg (by omega),Nat.add_sub_cancel_left];refine zAn fun j hj=>?_;rw [if_pos hj]
theorem zF0{S:Sys}{y:Nat->Rat}{v:Nat}(h:v<S.n):ext S y v=y v:=if_pos h
theorem cols_lt{S:Sys}{s:Dy}(h:Dict S s)(hz : ∀ v,v<S.n->s.line v<0)(c:Nat)(hcn:c<S.n):s.cols c<S.n:=by
  refine Decidable.byContradiction fun d=>?_;have b : ∀ v,v<S.n->∃ j,j<S.n/\s.cols j=v:=fun v hv=>((h.perm.lin v (by omega)).2 (hz v hv)).2
  let y:Nat->Rat:=fun v=>if v=s.cols c then 1 else if ∃ l,l<S.m/\s.basic l=v then sumN S.n (fun k=>s.a ((s.line v).toNat) k*(if k=c then 1 else 0)) else 0
  have hy:DSol S s y:=by
   intro i hi
   have e1:y (s.basic i)=sumN S.n (fun k=>s.a i k*(if k=c then 1 else 0)):=by
    show (if _ then _ else _)=_;rw [if_neg (h.perm.ne hi hcn),if_pos ⟨i,hi,rfl⟩,(h.perm.bas i hi).2];rfl
   rw [e1];refine zAn fun k hk=>?_
   congr 1
   show _=(if _ then _ else _)
   by_cases e:k=c
   ·subst e;rw [if_pos rfl,if_pos rfl]
   ·rw [if_neg e,if_neg (fun e2=>e (h.perm.inj k c hk hcn e2)),if_neg]
    rintro⟨l,hl,e2⟩;exact h.perm.ne hl hk e2
  have o:=(h.sol y).2 hy
  have g : ∀ v,v<S.n->y v=0:=by
   intro v hv;obtain⟨j,hj,e⟩:=b v hv;have f:j≠c:=fun e2=>d (by rw [<- e2,e];exact hv);show (if _ then _ else _)=_;rw [if_neg (fun e2=>f (h.perm.inj j c hj hcn (by rw [e,e2]))),if_neg];rintro⟨l,hl,e2⟩;exact h.perm.ne hl hj (by rw [e2,e])
  have hv:=(h.perm.col c hcn).1
  have h1:y (s.cols c)=1:=by show (if _ then _ else _)=_;rw [if_pos rfl]
  have h2:=o (s.cols c - S.n) (by omega);rw [show S.n+(s.cols c - S.n)=s.cols c by omega,h1,zBh fun j hj=>by rw [g j hj,Rat.mul_zero]] at h2
  grind
def cntB(line:Nat->Int):Nat->Nat
 | 0=>0
 | k+1=>cntB line k+if 0<=line k then 1 else 0
theorem cntB_le(line:Nat->Int) : ∀ k,cntB line k<=k
 | 0=>Nat.le_refl _
 | k+1=>by have:=cntB_le line k;rw [cntB];split <;> omega
theorem cntB_zero{line:Nat->Int} : ∀ {k:Nat},cntB line k=0->∀ v,v<k->line v<0
 | k+1,h,v,hv=>by
  rw [cntB] at h
  by_cases e:v=k
  ·subst e
   split at h <;> omega
  ·exact cntB_zero (k:=k) (by omega) v (by omega)
theorem cntB_pos{line:Nat->Int} : ∀ {k:Nat},0<cntB line k->∃ v,v<k/\0<=line v
 | k+1,h=>by
  rw [cntB] at h
  by_cases e:0<=line k
  ·exact⟨k,by omega,e⟩
  ·rw [if_neg e] at h
   obtain⟨v,h1,h2⟩:=cntB_pos (k:=k) (by omega)
   exact⟨v,by omega,h2⟩
theorem zGi{l l' : Nat->Int} : ∀ {k:Nat},(∀ v,v<k->(0<=l v↔0<=l' v))->cntB l k=cntB l' k
 | 0,_=>rfl
 | k+1,h=>by
  rw [cntB,cntB,zGi fun v hv=>h v (by omega)]
  have:=h k (by omega)
  by_cases e:0<=l k
  ·rw [if_pos e,if_pos (this.1 e)]
  ·rw [if_neg e,if_neg (fun e2=>e (this.2 e2))]
theorem cntB_drop{l l' : Nat->Int}{u:Nat} : ∀ {k:Nat},u<k->0<=l u->l' u<0->(∀ v,v<k->v≠u->(0<=l v↔0<=l' v))->cntB l k=cntB l' k+1
 | k+1,hu,h1,h2,h=>by
  rw [cntB,cntB]
  by_cases e:u=k
  ·subst e
   rw [if_pos h1,if_neg (by omega),zGi fun v hv=>h v (by omega) (by omega)]
  ·rw [cntB_drop (k:=k) (u:=u) (by omega) h1 h2 fun v hv=>h v (by omega)]
   have:=h k (by omega) (fun e2=>e e2.symm)
   by_cases e2:0<=l k
   ·rw [if_pos e2,if_pos (this.1 e2)]
   ·rw [if_neg e2,if_neg (fun e3=>e2 (this.2 e3))]
def bnd(H:Nat):Nat->Nat
 | 0=>H
 | k+1=>2*(bnd H k*(bnd H k*(bnd H k*bnd H k)))
theorem bnd_ge{H:Nat}(h1:1<=H) : ∀ k,1<=bnd H k
 | 0=>h1
 | k+1=>by
  have:=bnd_ge h1 k
  have h2:0<bnd H k*(bnd H k*(bnd H k*bnd H k)):=Nat.mul_pos this (Nat.mul_pos this (Nat.mul_pos this this))
  rw [bnd];omega
theorem bnd_mono{H:Nat}(h1:1<=H){j k:Nat}(h:j<=k):bnd H j<=bnd H k:=by
 induction h with
 | refl=>exact Nat.le_refl _
 | step _ ih =>
  refine Nat.le_trans ih ?_;rename_i k _;have h2:=bnd_ge h1 k;rw [bnd];have h3:bnd H k*1<=bnd H k*(bnd H k*(bnd H k*bnd H k)):=Nat.mul_le_mul_left _ (Nat.mul_pos h2 (Nat.mul_pos h2 h2));omega
theorem hgt_pivA{H:Nat}{a:Nat->Nat->Rat}{m n i j:Nat}(hi:i<m)(hj:j<n)(h : ∀ l k,l<m->k<n->hgt H (a l k)) : ∀ l k,l<m->k<n->hgt (2*(H*(H*(H*H)))) (pivA a i j l k):=by
 intro l k hl hk;have h1:1<=H:=(h i j hi hj).pos;have h2:1<=H*H:=Nat.mul_pos h1 h1;have h3:1<=H*(H*H):=Nat.mul_pos h1 h2;have g1:H*1<=H*(H*(H*H)):=Nat.mul_le_mul_left _ h3;have g2:H*H*1<=H*H*(H*H):=Nat.mul_le_mul_left _ h2;have g3:H*H*(H*H)=H*(H*(H*H)):=Nat.mul_assoc _ _ _;have hp:hgt (H*H) (- (a i k*(a i j)⁻¹)):=((h i k hi hk).mul (h i j hi hj).inv).neg;unfold pivA;split
 ·split
  ·exact (h i j hi hj).inv.mono (by omega)
  ·exact hp.mono (by omega)
 ·split
  ·exact ((h l j hl hj).mul (h i j hi hj).inv).mono (by omega)
  ·exact (h l k hl hk).add ((h l j hl hj).mul hp)
theorem dict_hgt{H:Nat} : ∀ (k:Nat) {S:Sys} {s:Dy},Dict S s->cntB s.line S.n=k->(∀ i j,i<S.m->j<S.n->hgt H (S.C i j))->∀ l c,l<S.m->c<S.n->hgt (bnd H k) (s.a l c)
 | 0,S,s,h,hc,hC,l,c,hl,hcn=>by
  have hz:=cntB_zero hc
  have hlt:s.cols c<S.n:=cols_lt h hz c hcn
  have hlin : ∀ l,l<S.m->S.n<=s.basic l:=by
   intro l hl;refine Decidable.byContradiction fun a5=>?_;have h1:=hz (s.basic l) (by omega);have:=(h.perm.bas l hl).2;omega
  let x:=ext S fun v=>if v=s.cols c then 1 else 0
  have hx:Sol S x:=ext_sol _ _;have h1:=(h.sol x).1 hx l hl;have hb:=h.perm.bas l hl;have a4:=hlin l hl;have h2:=hx (s.basic l - S.n) (by omega);rw [show S.n+(s.basic l - S.n)=s.basic l by omega] at h2;have p:x (s.cols c)=1:=(zF0 hlt).trans (if_pos rfl)
  rw [zC7 hlt _ fun j hj b=>by
   rw [show x j=0 from (zF0 hj).trans (if_neg b),Rat.mul_zero],p,Rat.mul_one] at h2
  have a2 : ∀ k,k<S.n->k≠c->x (s.cols k)=0:=by
   intro k hk b;have a7:=(h.perm.col k hk).1;have a0:s.cols k<S.n:=cols_lt h hz k hk;exact (zF0 a0).trans (if_neg (fun e=>b (h.perm.inj k c hk hcn e)))
  rw [zC7 hcn _ fun k hk b=>by rw [a2 k hk b,Rat.mul_zero],p,Rat.mul_one,h2] at h1;rw [<- h1];exact hC _ _ (by omega) hlt
 | k+1,S,s,h,hc,hC,l,c,hl,hcn=>by
  obtain⟨v,hv,o⟩:=cntB_pos (line:=s.line) (k:=S.n) (by omega);obtain⟨h3,h4⟩:=(h.perm.lin v (by omega)).1 o;obtain⟨i,hi,d⟩ : ∃ i,i<S.m/\s.basic i=v:=⟨(s.line v).toNat,by omega,h4⟩
  obtain⟨j,hj,a6,g⟩ : ∃ j,j<S.n/\S.n<=s.cols j/\s.a i j≠0:=by
   refine Decidable.byContradiction fun a1=>?_
   let x:=ext S fun u=>if u=v then 1 else 0
   have hx:Sol S x:=ext_sol _ _;have h1:=(h.sol x).1 hx i hi
   have a3:x (s.basic i)=1:=by
    rw [d];exact (zF0 hv).trans (if_pos rfl)
   rw [a3,zBh fun j hj=>?_] at h1
   ·grind
   ·by_cases e:S.n<=s.cols j
    ·have:s.a i j=0:=Decidable.byContradiction fun h0=>a1 ⟨j,hj,e,h0⟩
     rw [this,Rat.zero_mul]
    ·have:x (s.cols j)=0:=(zF0 (by omega)).trans (if_neg (fun e2=>h.perm.ne hi hj (by rw [d,e2])))
     rw [this,Rat.mul_zero]
  have hd:=zFY h hi hj g
  have f:cntB (pivot s i j).line S.n=k:=by
   have h5:cntB s.line S.n=cntB (pivot s i j).line S.n+1:=by
    refine cntB_drop hv o ?_ fun u hu b=>?_
    ·simp only [pivot]
     rw [zAt _ (by omega),<- d,zA4];omega
    ·simp only [pivot]
     rw [zAt _ (by omega),d,zAt _ b]
   omega
  have ih:=dict_hgt (H:=H) k hd f hC;have h6:=hgt_pivA (a:=(pivot s i j).a) (i:=i) (j:=j) (m:=S.m) (n:=S.n) hi hj (fun l k hl hk=>ih l k hl hk) l c hl hcn;simp only [pivot] at h6;rw [pivA_pivA g] at h6;exact h6
theorem dict_bound{H:Nat}(h1:1<=H){S:Sys}{s:Dy}(h:Dict S s)(hC : ∀ i j,i<S.m->j<S.n->hgt H (S.C i j)) : ∀ l c,l<S.m->c<S.n->hgt (bnd H S.n) (s.a l c) :=
 fun l c hl hc=>(dict_hgt _ h rfl hC l c hl hc).mono (bnd_mono h1 (cntB_le _ _))
structure Walk (p q:Nat) (enter leave:Nat->Nat) (nb:Nat->Nat->Prop):Prop where
 ein : ∀ t,p<=t->t<q->nb t (enter t)
 lout : ∀ t,p<=t->t<q->¬ nb t (leave t)
 step : ∀ t v,p<=t->t<q->(nb (t+1) v↔(nb t v/\v≠enter t)\/v=leave t)
 bland : ∀ t1 t2,p<=t1->t1<q->p<=t2->t2<q->leave t1=enter t2->enter t1<enter t2->leave t2<enter t2->(∀ v,enter t2<v->(nb t1 v↔nb t2 v))->False
theorem Walk.sub{p q p' q' : Nat}{enter leave:Nat->Nat}{nb:Nat->Nat->Prop}(h:Walk p q enter leave nb)(hp:p<=p')(hq:q'<=q):Walk p' q' enter leave nb :=
 ⟨fun t h1 h2=>h.ein t (by omega) (by omega),fun t h1 h2=>h.lout t (by omega) (by omega),fun t v h1 h2=>h.step t v (by omega) (by omega),
  fun t1 t2 h1 h2 h3 h4=>h.bland t1 t2 (by omega) (by omega) (by omega) (by omega)⟩
theorem Walk.same{p q r:Nat}{enter leave:Nat->Nat}{nb:Nat->Nat->Prop}(h:Walk p q enter leave nb)(he : ∀ t,p<=t->t<q->enter t≠r/\leave t≠r) : ∀ t,p<=t->t<=q->(nb t r↔nb p r):=by
 intro t h1 h2
 induction h1 with
 | refl=>exact Iff.rfl
 | step h1 ih =>
  rename_i t;have b:p<=t:=h1;have:=he t b (by omega);rw [h.step t r b (by omega),<- ih (by omega)];constructor
  ·rintro (h3 | h3)
   ·exact h3.1
   ·exact absurd h3.symm this.2
  ·exact fun h3 => .inl ⟨h3,fun e=>this.1 e.symm⟩
theorem Walk.short : ∀ (r:Nat) {p q:Nat} {enter leave:Nat->Nat} {nb:Nat->Nat->Prop},Walk p q enter leave nb->p<=q->(∀ t,p<=t->t<q->enter t<r/\leave t<r)->q<p+2 ^ r
 | 0,p,q,enter,leave,nb,h,hpq,hr=>by
  have : ¬ p<q:=fun hlt=>by have:=(hr p (Nat.le_refl _) hlt).1;omega
  have h2:2 ^ 0=1:=rfl
  omega
 | r+1,p,q,enter,leave,nb,h,hpq,hr=>by
  have hpow:2 ^ (r+1)=2 ^ r+2 ^ r:=by rw [Nat.pow_succ];omega
  have n:1<=2 ^ r:=Nat.one_le_pow _ _ (by omega)
  have i : ∀ t,p<=t->t<q->enter t≠leave t:=fun t h1 h2 e=>h.lout t h1 h2 (by rw [<- e];exact h.ein t h1 h2)
  have f : ∀ v,r<v->∀ t1 t2,p<=t1->t1<q->p<=t2->t2<q->(nb t1 v↔nb t2 v):=by
   intro v hv t1 t2 h1 h2 h3 h4
   have j : ∀ t,p<=t->t<q->enter t≠v/\leave t≠v:=fun t h1 h2=>by have:=hr t h1 h2;omega
   rw [h.same j t1 h1 (by omega),h.same j t2 h3 (by omega)]
  have key : ∀ t,p<=t->t<q->(∀ u,p<=u->u<q->u≠t->enter u≠r/\leave u≠r)->q<p+2 ^ (r+1):=by
   intro t h1 h2 ho
   have a1:=Walk.short r (h.sub (Nat.le_refl p) (q':=t) (by omega)) h1 fun u h3 h4=>by
    have:=hr u h3 (by omega);have:=ho u h3 (by omega) (by omega);omega
   have a2:=Walk.short r (h.sub (p':=t+1) (by omega) (Nat.le_refl q)) (by omega) fun u h3 h4=>by
    have:=hr u (by omega) h4;have:=ho u (by omega) h4 (by omega);omega
   omega
  by_cases hE : ∃ t,p<=t/\t<q/\enter t=r
  ·obtain⟨t,h1,h2,h3⟩:=hE
   have d : ∀ u,p<=u->u<q->leave u≠r:=by
    intro u h4 h5 e;refine h.bland u t h4 h5 h1 h2 (by rw [e,h3]) ?_ ?_ fun v hv=>f v (by omega) u t h4 h5 h1 h2
    ·have:=hr u h4 h5;have:=i u h4 h5;omega
    ·have:=hr t h1 h2;have:=i t h1 h2;omega
   refine key t h1 h2 fun u h4 h5 g=>⟨fun e=>?_,d u h4 h5⟩
   have once : ∀ x y,p<=x->x<y->y<q->enter x=r->enter y=r->False:=by
    intro x y hx k hy ex ey
    have stay : ∀ z,x+1<=z->z<=y->¬ nb z r:=by
     intro z hz
     induction hz with
     | refl =>
      intro _;rw [h.step x r hx (by omega)];rintro (⟨_,h6⟩ | h6)
      ·exact h6 ex.symm
      ·exact d x hx (by omega) h6.symm
     | step hz ih =>
      rename_i z;intro m;have l:x+1<=z:=hz;rw [h.step z r (by omega) (by omega)];rintro (⟨h6,_⟩ | h6)
      ·exact ih (by omega) h6
      ·exact d z (by omega) (by omega) h6.symm
    exact stay y (by omega) (Nat.le_refl _) (by rw [<- ey];exact h.ein y (by omega) hy)
   rcases Nat.lt_or_gt_of_ne g with hlt | hlt
   ·exact once u t h4 hlt h2 e h3
   ·exact once t u h1 hlt h5 h3 e
  ·have b : ∀ u,p<=u->u<q->enter u≠r:=fun u h1 h2 e=>hE ⟨u,h1,h2,e⟩
   by_cases hL : ∃ t,p<=t/\t<q/\leave t=r
   ·obtain⟨t,h1,h2,h3⟩:=hL
    refine key t h1 h2 fun u h4 h5 g=>⟨b u h4 h5,fun e=>?_⟩
    have once : ∀ x y,p<=x->x<y->y<q->leave x=r->leave y=r->False:=by
     intro x y hx k hy ex ey
     have stay : ∀ z,x+1<=z->z<=y->nb z r:=by
      intro z hz
      induction hz with
      | refl=>intro _;rw [h.step x r hx (by omega)];exact .inr ex.symm
      | step hz ih =>
       rename_i z;intro m;have l:x+1<=z:=hz;rw [h.step z r (by omega) (by omega)];exact .inl ⟨ih (by omega),fun e=>b z (by omega) (by omega) e.symm⟩
     exact h.lout y (by omega) hy (by rw [ey];exact stay y (by omega) (Nat.le_refl _))
    rcases Nat.lt_or_gt_of_ne g with hlt | hlt
    ·exact once u t h4 hlt h2 e h3
    ·exact once t u h1 hlt h5 h3 e
   ·have:=Walk.short r h hpq fun t h1 h2=>by
     have:=hr t h1 h2;have:=b t h1 h2;have:leave t≠r:=fun e=>hL ⟨t,h1,h2,e⟩;omega
    omega
def sgnQ(q:Rat):Int:=if q<0 then -1 else if q=0 then 0 else 1
def cmpQ(p q:Rat):Int:=sgnQ (p - q)
def cmp2(v w:V2):Int:=if cmpQ v.1 w.1≠0 then cmpQ v.1 w.1 else cmpQ v.2 w.2
theorem sgnQ_neg{q:Rat} : sgnQ q<0↔q<0:=by unfold sgnQ;grind
theorem sgnQ_pos{q:Rat} : 0<sgnQ q↔0<q:=by unfold sgnQ;grind
theorem sgnQ_zero{q:Rat} : sgnQ q=0↔q=0:=by unfold sgnQ;grind
theorem zDD{p q:Rat} : cmpQ p q<0↔p<q:=by unfold cmpQ;rw [sgnQ_neg];grind
theorem zF8{p q:Rat} : 0<cmpQ p q↔q<p:=by unfold cmpQ;rw [sgnQ_pos];grind
theorem zF9{p q:Rat} : cmpQ p q=0↔p=q:=by unfold cmpQ;rw [sgnQ_zero];grind
theorem cmp2_lt{v w:V2} : cmp2 v w<0↔lt2 v w:=by
 unfold cmp2 lt2;have h1 := @zDD v.1 w.1;have h2 := @zF9 v.1 w.1;have h3 := @zDD v.2 w.2
 split <;> grind
theorem cmp2_gt{v w:V2} : 0<cmp2 v w↔lt2 w v:=by
 unfold cmp2 lt2;have h1 := @zF8 v.1 w.1;have h2 := @zF9 v.1 w.1;have h3 := @zF8 v.2 w.2
 split <;> grind
theorem cmp2_eq{v w:V2} : cmp2 v w=0↔v=w:=by
 unfold cmp2;have h2 := @zF9 v.1 w.1;have h3 := @zF9 v.2 w.2;rw [Prod.ext_iff]
 split <;> grind
def add2(v w:V2):V2:=(v.1+w.1,v.2+w.2)
def sub2(v w:V2):V2:=(v.1 - w.1,v.2 - w.2)
def zAC(v:V2)(q:Rat):V2:=(v.1*q,v.2*q)
def ub(S:Sys)(v:Nat):V2:=(S.K (v - S.n),if S.rel (v - S.n)=2 then -1 else 0)
def upper(S:Sys)(v:Nat):Option V2:=if v<S.n then none else some (ub S v)
def lower(S:Sys)(v:Nat):Option V2:=if v<S.n\/S.rel (v - S.n)≠3 then none else some (S.K (v - S.n),0)
def free(S:Sys)(val:Nat->V2)(v:Nat)(up:Bool):Bool :=
 if up then (match upper S v with | none=>true | some u=>decide (cmp2 (val v) u<0))
 else (match lower S v with | none=>true | some l=>decide (cmp2 (val v) l>0))
def move(s:Dy)(j:Nat)(d:V2):Dy :=
 { s with val:=fun u=>if u=s.cols j then add2 (s.val u) d else if 0<=s.line u then add2 (s.val u) (zAC d (s.a (s.line u).toNat j)) else s.val u }
def zCw(S:Sys)(s:Dy)(v:Nat):Option (V2 × Bool) :=
 match upper S v with
 | some u=>if cmp2 (s.val v) u>0 then some (u,false) else (match lower S v with
  | some l=>if cmp2 (s.val v) l<0 then some (l,true) else none
  | none=>none)
 | none=>(match lower S v with
  | some l=>if cmp2 (s.val v) l<0 then some (l,true) else none
  | none=>none)
def violF(S:Sys)(s:Dy):Nat->Nat->Option (Nat × V2 × Bool)
 | 0,_=>none
 | f+1,v=>if s.line v<0 then violF S s f (v+1) else match zCw S s v with
  | some (b,up)=>some ((s.line v).toNat,b,up)
  | none=>violF S s f (v+1)
def viol(S:Sys)(s:Dy):Option (Nat × V2 × Bool):=violF S s S.m S.n
def suits(S:Sys)(s:Dy)(i:Nat)(up:Bool)(k:Nat):Bool:=decide (s.a i k≠0)&&free S s.val (s.cols k) (decide (0<s.a i k)==up)
def zEc(cols:Nat->Nat)(k:Nat)(b:Option Nat):Bool:=match b with | none=>true | some b=>decide (cols k<cols b)
def first(cols:Nat->Nat)(p:Nat->Bool):Nat->Option Nat
 | 0=>none
 | k+1=>bif p k&&zEc cols k (first cols p k) then some k else first cols p k
def zB7(S:Sys)(s:Dy)(i:Nat)(up:Bool):Option Nat:=first s.cols (suits S s i up) S.n
inductive Res | sat | unsat (i:Nat) (up:Bool) | go (i j:Nat) (s:Dy)
def stepS(S:Sys)(s:Dy):Res :=
 match viol S s with
 | none => .sat
 | some (i,b,up)=>match zB7 S s i up with
  | none => .unsat i up
  | some j => .go i j (pivot (move s j (zAC (sub2 b (s.val (s.basic i))) (s.a i j)⁻¹)) i j)
def zBd(S:Sys):Nat->Dy->Option (Dy × Option (Nat × Bool))
 | 0,_=>none
 | f+1,s=>match stepS S s with
  | .sat=>some (s,none)
  | .unsat i up=>some (s,some (i,up))
  | .go _ _ s'=>zBd S f s'
theorem zEw{cols:Nat->Nat}{p:Nat->Bool} : ∀ {k:Nat},first cols p k=none->∀ l,l<k->p l=false
 | k+1,h,l,hl=>by
  rw [first] at h
  cases hb:(p k&&zEc cols k (first cols p k)) with
  | true=>rw [hb] at h;cases h
  | false =>
   rw [hb,cond_false] at h
   by_cases e:l=k
   ·subst e
    rw [h,zEc,Bool.and_true] at hb
    exact hb
   ·exact zEw h l (by omega)
theorem zCy{cols:Nat->Nat}{p:Nat->Bool} : ∀ {k j:Nat},first cols p k=some j->j<k/\p j=true/\∀ l,l<k->p l=true->cols j<=cols l
 | k+1,j,h=>by
  rw [first] at h
  cases hb:(p k&&zEc cols k (first cols p k)) with
  | true =>
   rw [hb,cond_true] at h
   cases h
   rw [Bool.and_eq_true] at hb
   refine⟨by omega,hb.1,fun l hl hp=>?_⟩
   by_cases e:l=k
   ·subst e;exact Nat.le_refl _
   ·cases hf:first cols p k with
    | none=>rw [zEw hf l (by omega)] at hp;cases hp
    | some b =>
     have h3:=hb.2
     rw [hf,zEc,decide_eq_true_eq] at h3
     exact Nat.le_trans (Nat.le_of_lt h3) ((zCy hf).2.2 l (by omega) hp)
  | false =>
   rw [hb,cond_false] at h
   obtain⟨h1,h2,h3⟩:=zCy h
   refine⟨by omega,h2,fun l hl hp=>?_⟩
   by_cases e:l=k
   ·subst e
    rw [hp,h,zEc,Bool.true_and,decide_eq_false_iff_not] at hb
    omega
   ·exact h3 l (by omega) hp
structure Inv (S:Sys) (s:Dy):Prop where
 dict:Dict S s
 sol1:Sol S fun v=>(s.val v).1
 sol2:Sol S fun v=>(s.val v).2
 non : ∀ j,j<S.n->s.val (s.cols j)=if s.cols j<S.n then zero2 else ub S (s.cols j)
def zEU(S:Sys)(s:Dy)(v:Nat):Prop:=le2 (s.val v) (ub S v)/\(S.rel (v - S.n)=3->s.val v=ub S v)
theorem passed_none{S:Sys}{s:Dy}{v:Nat}(hv:S.n<=v)(h:zCw S s v=none):zEU S s v:=by
 unfold zCw at h;rw [upper,if_neg (by omega)] at h;simp only at h
 by_cases h1:cmp2 (s.val v) (ub S v)>0
 ·rw [if_pos h1] at h;cases h
 ·rw [if_neg h1] at h
  have h2:le2 (s.val v) (ub S v):=by
   rw [<- not_lt2,<- cmp2_gt];exact h1
  refine⟨h2,fun h3=>?_⟩
  have hl:lower S v=some (ub S v):=by
   rw [lower,if_neg (by omega),ub,if_neg (by omega)]
  rw [hl] at h;simp only at h;split at h
  ·cases h
  ·rename_i h4
   exact cmp2_eq.1 (by omega)
theorem passed_some{S:Sys}{s:Dy}{v:Nat}(hv:S.n<=v){b:V2}{up:Bool}(h:zCw S s v=some (b,up)):b=ub S v/\(up=false->lt2 (ub S v) (s.val v))/\(up=true->S.rel (v - S.n)=3/\lt2 (s.val v) (ub S v)):=by
 unfold zCw at h;rw [upper,if_neg (by omega)] at h;simp only at h
 by_cases h1:cmp2 (s.val v) (ub S v)>0
 ·rw [if_pos h1] at h
  cases h;exact⟨rfl,fun _=>cmp2_gt.1 h1,fun h=>by cases h⟩
 ·rw [if_neg h1] at h
  by_cases h3:S.rel (v - S.n)=3
  ·have hl:lower S v=some (ub S v):=by
    rw [lower,if_neg (by omega),ub,if_neg (by omega)]
   rw [hl] at h;simp only at h;split at h
   ·rename_i h4
    cases h;exact⟨rfl,fun h=>by (cases h),fun _=>⟨h3,cmp2_lt.1 h4⟩⟩
   ·cases h
  ·rw [lower,if_pos (.inr h3)] at h
   cases h
theorem zEh{S:Sys}{s:Dy} : ∀ (f v:Nat),S.n<=v ->
  (∀ i b up,violF S s f v=some (i,b,up)->∃ u,v<=u/\u<v+f/\0<=s.line u/\i=(s.line u).toNat/\zCw S s u=some (b,up)/\∀ x,v<=x->x<u->0<=s.line x->zEU S s x) /\
  (violF S s f v=none->∀ x,v<=x->x<v+f->0<=s.line x->zEU S s x)
 | 0,v,_=>⟨fun i b up h=>(by cases h),fun _ x h1 h2=>by omega⟩
 | f+1,v,hv=>by
  obtain⟨h1,h2⟩:=zEh (S:=S) (s:=s) f (v+1) (by omega)
  unfold violF
  by_cases h0:s.line v<0
  ·rw [if_pos h0]
   refine⟨fun i b up h=>?_,fun h x h3 h4 h5=>?_⟩
   ·obtain⟨u,g1,g2,g3,g4,g5,g6⟩:=h1 i b up h
    refine⟨u,by omega,by omega,g3,g4,g5,fun x h3 h4 h5=>?_⟩
    by_cases e:x=v
    ·subst e;omega
    ·exact g6 x (by omega) h4 h5
   ·by_cases e:x=v
    ·subst e;omega
    ·exact h2 h x (by omega) (by omega) h5
  ·rw [if_neg h0]
   cases hp:zCw S s v with
   | some r =>
    obtain⟨b',up'⟩:=r
    refine⟨fun i b up h=>?_,fun h=>by cases h⟩
    cases h
    exact⟨v,Nat.le_refl _,by omega,by omega,rfl,hp,fun x h3 h4=>by omega⟩
   | none =>
    have hw:=passed_none hv hp
    refine⟨fun i b up h=>?_,fun h x h3 h4 h5=>?_⟩
    ·obtain⟨u,g1,g2,g3,g4,g5,g6⟩:=h1 i b up h
     refine⟨u,by omega,by omega,g3,g4,g5,fun x h3 h4 h5=>?_⟩
     by_cases e:x=v
     ·subst e;exact hw
     ·exact g6 x (by omega) h4 h5
    ·by_cases e:x=v
     ·subst e;exact hw
     ·exact h2 h x (by omega) (by omega) h5
theorem zCb{S:Sys}{s:Dy}(hp:Perm S s){i:Nat}{b:V2}{up:Bool}(h:viol S s=some (i,b,up)) :
  i<S.m/\S.n<=s.basic i/\b=ub S (s.basic i)/\(up=false->lt2 (ub S (s.basic i)) (s.val (s.basic i)))/\(up=true->S.rel (s.basic i - S.n)=3/\lt2 (s.val (s.basic i)) (ub S (s.basic i))) /\
   ∀ x,S.n<=x->x<s.basic i->0<=s.line x->zEU S s x:=by
 obtain⟨u,g1,g2,g3,g4,g5,g6⟩:=(zEh _ _ (Nat.le_refl _)).1 i b up h;obtain⟨h1,h2⟩:=(hp.lin u (by omega)).1 g3;rw [<- g4] at h2;subst h2;obtain⟨k1,k2,k3⟩:=passed_some g1 g5;exact⟨by omega,g1,k1,k2,k3,g6⟩
theorem viol_none{S:Sys}{s:Dy}(h:viol S s=none) : ∀ x,S.n<=x->x<S.n+S.m->0<=s.line x->zEU S s x :=
 (zEh _ _ (Nat.le_refl _)).2 h
theorem zDP{S:Sys}{s:Dy}(h:Inv S s){i k:Nat}(hk:k<S.n){up:Bool} : suits S s i up k=true↔s.a i k≠0/\(S.n<=s.cols k->S.rel (s.cols k - S.n)≠3/\(decide (0<s.a i k)==up)=false):=by
 unfold suits;rw [Bool.and_eq_true,decide_eq_true_eq];refine and_congr_right fun h0=>?_
 by_cases hn:s.cols k<S.n
 ·refine⟨fun _ h2=>by omega,fun _=>?_⟩
  unfold free;rw [upper,if_pos hn,lower,if_pos (Or.inl hn)]
  cases (decide (0<s.a i k)==up) <;> rfl
 ·have b:=h.non k hk
  rw [if_neg hn] at b;have hz:cmp2 (ub S (s.cols k)) (ub S (s.cols k))=0:=cmp2_eq.2 rfl;unfold free;rw [b,upper,if_neg hn];generalize hd:(decide (0<s.a i k)==up)=d
  cases d with
  | true =>
   simp only [if_true,hz];refine⟨fun h2=>by simp at h2,fun h2=>absurd (h2 (by omega)).2 (by simp)⟩
  | false =>
   simp only [Bool.false_eq_true,if_false]
   by_cases h3:S.rel (s.cols k - S.n)=3
   ·have hl:lower S (s.cols k)=some (ub S (s.cols k)):=by
     rw [lower,if_neg (by omega),ub,if_neg (by omega)]
    rw [hl];simp only [hz];refine⟨fun h2=>by simp at h2,fun h2=>absurd h3 (h2 (by omega)).1⟩
   ·rw [lower,if_pos (.inr h3)]
    exact⟨fun _ _=>⟨h3,trivial⟩,fun _=>rfl⟩
theorem move_sol{S:Sys}{s:Dy}(h:Dict S s){j:Nat}(hj:j<S.n)(d:V2):(Sol S (fun v=>(s.val v).1)->Sol S fun v=>((move s j d).val v).1)/\(Sol S (fun v=>(s.val v).2)->Sol S fun v=>((move s j d).val v).2):=by
 have key : ∀ (x:Nat->Rat) (e:Rat) (y:Nat->Rat),(∀ v,y v=if v=s.cols j then x v+e else if 0<=s.line v then x v+e*s.a (s.line v).toNat j else x v)->Sol S x->Sol S y:=by
  intro x e y hy hx;rw [h.sol] at hx ⊢;intro i hi;have h1:=hx i hi;have hb:=(h.perm.bas i hi).2;rw [hy,if_neg (h.perm.ne hi hj),hb,if_pos (by omega),h1,Int.toNat_natCast]
  have e1:(sumN S.n fun k=>s.a i k*y (s.cols k))=(sumN S.n fun k=>s.a i k*x (s.cols k))+sumN S.n fun k=>if k=j then e*s.a i j else 0:=by
   rw [<- zDN];refine zAn fun k hk=>?_;rw [hy]
   by_cases ek:k=j
   ·subst ek;rw [if_pos rfl,if_pos rfl];grind
   ·rw [if_neg (fun e2=>ek (h.perm.inj k j hk hj e2)),(h.perm.col k hk).2,if_neg (by omega),if_neg ek];grind
  rw [e1,zC7 (j:=j) hj (fun k=>if k=j then e*s.a i j else 0) (fun k _ b=>if_neg b),if_pos rfl]
 refine⟨key _ d.1 _ fun v=>?_,key _ d.2 _ fun v=>?_⟩ <;>
 ·simp only [move]
  split
  ·rfl
  ·split <;> rfl
def nextS(S:Sys)(s:Dy)(b:V2)(i j:Nat):Dy:=pivot (move s j (zAC (sub2 b (s.val (s.basic i))) (s.a i j)⁻¹)) i j
theorem next_inv{S:Sys}{s:Dy}(h:Inv S s){i j:Nat}(hi:i<S.m)(hj:j<S.n)(h0:s.a i j≠0)(hb:S.n<=s.basic i):Inv S (nextS S s (ub S (s.basic i)) i j):=by
 have hm:Dict S (move s j (zAC (sub2 (ub S (s.basic i)) (s.val (s.basic i))) (s.a i j)⁻¹)):=⟨⟨h.dict.perm.bas,h.dict.perm.col,h.dict.perm.inj,h.dict.perm.lin⟩,h.dict.sol⟩;have hs:=move_sol h.dict hj (zAC (sub2 (ub S (s.basic i)) (s.val (s.basic i))) (s.a i j)⁻¹);refine⟨zFY hm hi hj h0,hs.1 h.sol1,hs.2 h.sol2,fun k hk=>?_⟩;have b:=h.dict.perm.ne hi hj
 show (move s j _).val (upd s.cols j (s.basic i) k)=if upd s.cols j (s.basic i) k<S.n then zero2 else ub S (upd s.cols j (s.basic i) k)
 by_cases e:k=j
 ·subst e
  rw [zA4,if_neg (by omega)];simp only [move];rw [if_neg b,(h.dict.perm.bas i hi).2,if_pos (by omega),Int.toNat_natCast];have h1:=Rat.inv_mul_cancel _ h0;simp only [add2,zAC,sub2]
  refine Prod.ext ?_ ?_ <;> simp only <;> grind
 ·rw [zAt _ e,<- h.non k hk]
  simp only [move];rw [if_neg (fun e2=>e (h.dict.perm.inj k j hk hj e2)),(h.dict.perm.col k hk).2,if_neg (by omega)]
theorem zC8{S:Sys}{s s' : Dy}(h:Inv S s){i j:Nat}(hg:stepS S s = .go i j s') : ∃ b up,viol S s=some (i,b,up)/\zB7 S s i up=some j/\i<S.m/\j<S.n/\S.n<=s.basic i/\s.a i j≠0/\s' = nextS S s (ub S (s.basic i)) i j/\Inv S s':=by
 unfold stepS at hg
 cases hv:viol S s with
 | none=>rw [hv] at hg;cases hg
 | some r =>
  obtain⟨i',b,up⟩:=r;rw [hv] at hg;simp only at hg
  cases he:zB7 S s i' up with
  | none=>rw [he] at hg;cases hg
  | some j' =>
   rw [he] at hg;simp only at hg;cases hg;obtain⟨h1,h2,h3,_⟩:=zCb h.dict.perm hv;obtain⟨h4,h5,_⟩:=zCy he;have h6:=((zDP h h4).1 h5).1;subst h3;exact⟨_,up,rfl,he,h1,h4,h2,h6,rfl,next_inv h h1 h4 h6 h2⟩
def nbv(S:Sys)(s:Dy)(v:Nat):Prop:=v<S.n+S.m/\s.line v<0
theorem nbv_col{S:Sys}{s:Dy}(h:Perm S s){j:Nat}(hj:j<S.n):nbv S s (s.cols j):=⟨(h.col j hj).1,by rw [(h.col j hj).2];decide⟩
theorem zFv{S:Sys}{s:Dy}(h:Inv S s){v:Nat}(hv:nbv S s v):s.val v=if v<S.n then zero2 else ub S v:=by
 obtain⟨_,j,hj,e⟩:=(h.dict.perm.lin v hv.1).2 hv.2;rw [<- e];exact h.non j hj
theorem pivot_nbv{S:Sys}{s:Dy}(h:Perm S s){i j:Nat}(hi:i<S.m)(hj:j<S.n)(v:Nat):nbv S (pivot s i j) v↔(nbv S s v/\v≠s.cols j)\/v=s.basic i:=by
 have h1:=h.bas i hi;have h2:=h.col j hj;unfold nbv;simp only [pivot]
 by_cases e1:v=s.cols j
 ·subst e1
  rw [zA4];constructor
  ·intro h3;omega
  ·rintro (h3 | h3)
   ·exact absurd rfl h3.2
   ·exact absurd h3.symm (h.ne hi hj)
 ·rw [zAt _ e1]
  by_cases e2:v=s.basic i
  ·subst e2
   rw [zA4];exact⟨fun _ => .inr rfl,fun _=>⟨h1.1,by decide⟩⟩
  ·rw [zAt _ e2]
   constructor
   ·exact fun h3 => .inl ⟨h3,e1⟩
   ·rintro (h3 | h3)
    ·exact h3.1
    ·exact absurd h3 e2
theorem solve_bland{S:Sys}{s1 s2:Dy}(h1:Inv S s1)(h2:Inv S s2){i1 i2 j2:Nat}{b1 b2:V2}{up1 up2:Bool}(hv1:viol S s1=some (i1,b1,up1))(hv2:viol S s2=some (i2,b2,up2))
  (he2:zB7 S s2 i2 up2=some j2)(hr:s1.basic i1=s2.cols j2)(hl:s2.basic i2<s2.cols j2)(hsame : ∀ v,s2.cols j2<v->(nbv S s1 v↔nbv S s2 v)):False:=by
 obtain⟨a1,a2,a3,a4,a5,a6⟩:=zCb h1.dict.perm hv1;obtain⟨c1,c2,c3,c4,c5,c6⟩:=zCb h2.dict.perm hv2;obtain⟨d1,d2,d3⟩:=zCy he2;obtain⟨d4,d5⟩:=(zDP h2 d1).1 d2;rw [hr] at a2 a4 a5 a6;obtain⟨d6,d7⟩:=d5 a2
 have b4:up1=false:=by
  cases hu:up1 with
  | false=>rfl
  | true=>exact absurd (a5 hu).1 d6
 have hgt:=a4 b4
 have a0:s2.val (s2.cols j2)=ub S (s2.cols j2):=by rw [h2.non j2 d1,if_neg (by omega)]
 have a7 : ∀ v,S.n<=v->v<s2.cols j2->zEU S s1 v:=by
  intro v hv u
  by_cases h0:0<=s1.line v
  ·exact a6 v hv u h0
  ·have hN:v<S.n+S.m:=by have:=(h2.dict.perm.col j2 d1).1;omega
   have:=zFv h1 (v:=v) ⟨hN,by omega⟩;rw [if_neg (by omega)] at this;refine⟨?_,fun _=>this⟩;rw [this];right;exact⟨rfl,Rat.le_refl⟩
 let D:Nat->V2:=fun k=>sub2 (s1.val (s2.cols k)) (s2.val (s2.cols k))
 have f : ∀ (c:Nat->Rat),Sol S c->c (s2.basic i2)=sumN S.n fun k=>s2.a i2 k*c (s2.cols k):=fun c hc=>(h2.dict.sol c).1 hc i2 c1
 have s:sub2 (s1.val (s2.basic i2)) (s2.val (s2.basic i2))=sum2 S.n fun k=>zAC (D k) (s2.a i2 k):=by
  refine Prod.ext ?_ ?_
  ·show (s1.val _).1 - (s2.val _).1=sumN S.n _
   rw [f _ h1.sol1,f _ h2.sol1,<- zGy];refine zAn fun k _=>?_;show _=((s1.val _).1 - (s2.val _).1)*_
   grind
  ·show (s1.val _).2 - (s2.val _).2=sumN S.n _
   rw [f _ h1.sol2,f _ h2.sol2,<- zGy];refine zAn fun k _=>?_;show _=((s1.val _).2 - (s2.val _).2)*_
   grind
 have i : ∀ k,k<S.n->k≠j2->s2.a i2 k=0\/D k=zero2\/(le2 (D k) zero2/\(up2=false->s2.a i2 k<0)/\(up2=true->0<s2.a i2 k)):=by
  intro k hk b5
  by_cases ha:s2.a i2 k=0
  ·exact .inl ha
  right;have b7:=h2.dict.perm.col k hk;have x:=nbv_col h2.dict.perm hk
  by_cases hgt2:s2.cols j2<s2.cols k
  ·left
   have a9:=(hsame _ hgt2).2 x;show sub2 _ _=_;rw [zFv h1 a9,zFv h2 x];exact Prod.ext (by show _ - _=(0:Rat);grind) (by show _ - _=(0:Rat);grind)
  ·have u:s2.cols k<s2.cols j2:=by
    have:s2.cols k≠s2.cols j2:=fun e=>b5 (h2.dict.perm.inj k j2 hk d1 e);omega
   have b6:suits S s2 i2 up2 k=false:=by
    cases hs:suits S s2 i2 up2 k with
    | false=>rfl
    | true=>have:=d3 k hk hs;omega
   have p : ¬ (s2.a i2 k≠0/\(S.n<=s2.cols k->S.rel (s2.cols k - S.n)≠3/\(decide (0<s2.a i2 k)==up2)=false)):=by
    rw [<- zDP h2 hk,b6];decide
   have b3:S.n<=s2.cols k:=by
    refine Decidable.byContradiction fun h3=>p ⟨ha,fun h4=>absurd h4 h3⟩
   have l:=zFv h2 x;rw [if_neg (by omega)] at l;obtain⟨w1,w2⟩:=a7 _ b3 u
   by_cases heq:S.rel (s2.cols k - S.n)=3
   ·left
    show sub2 _ _=_;rw [w2 heq,l];exact Prod.ext (by show _ - _=(0:Rat);grind) (by show _ - _=(0:Rat);grind)
   ·right
    have o:(decide (0<s2.a i2 k)==up2)=true:=by
     cases hd:(decide (0<s2.a i2 k)==up2) with
     | true=>rfl
     | false=>exact absurd ⟨ha,fun _=>⟨heq,hd⟩⟩ p
    refine⟨?_,fun hu=>?_,fun hu=>?_⟩
    ·show le2 (sub2 _ _) _
     rw [l];unfold le2 at w1 ⊢;simp only [sub2,zero2]
     grind
    ·subst hu
     have : ¬ 0<s2.a i2 k:=by simpa using o
     grind
    ·subst hu
     simpa using o
 have g:lt2 zero2 (D j2):=by
  show lt2 _ (sub2 _ _);rw [a0];unfold lt2 at hgt ⊢;simp only [sub2,zero2]
  grind
 have a8:=a7 _ c2 hl
 cases hu:up2 with
 | false =>
  have h:0<s2.a i2 j2:=by
   rw [hu] at d7
   have : ¬ ¬ 0<s2.a i2 j2:=by simpa using d7
   grind
  have d:lt2 zero2 (sum2 S.n fun k=>zAC (D k) (s2.a i2 k)):=by
   refine sum2_pos (j:=j2) (fun k hk=>?_) d1 ?_
   ·by_cases e:k=j2
    ·subst e
     have:=g;unfold lt2 at this;unfold le2;simp only [zAC,zero2] at this ⊢
     rcases this with h3 | ⟨h3,h4⟩
     ·left;exact Rat.mul_pos h3 h
     ·right
      rw [<- h3,Rat.zero_mul];exact⟨rfl,Rat.le_of_lt (Rat.mul_pos h4 h)⟩
    ·rcases i k hk e with h3 | h3 | ⟨h3,h4,_⟩
     ·right;simp only [zAC,zero2,h3,Rat.mul_zero];exact⟨trivial,Rat.le_refl⟩
     ·right;simp only [zAC,h3,zero2,Rat.zero_mul];exact⟨trivial,Rat.le_refl⟩
     ·have h5:=h4 hu
      unfold le2 at h3 ⊢;simp only [zAC,zero2] at h3 ⊢
      have g1:0 < - s2.a i2 k:=by grind
      rcases h3 with h6 | ⟨h6,h7⟩
      ·left
       have:=Rat.mul_pos (a := - (D k).1) (b := - s2.a i2 k) (by grind) g1
       grind
      ·right
       rw [h6,Rat.zero_mul];refine⟨rfl,?_⟩;have:=Rat.mul_nonneg (a := - (D k).2) (b := - s2.a i2 k) (by grind) (by grind)
       grind
   ·unfold lt2 at g ⊢
    simp only [zAC,zero2] at g ⊢
    rcases g with h3 | ⟨h3,h4⟩
    ·left;exact Rat.mul_pos h3 h
    ·right
     rw [<- h3,Rat.zero_mul];exact⟨rfl,Rat.mul_pos h4 h⟩
  rw [<- s] at d;have h3:=c4 hu;have h4:=a8.1;unfold lt2 at d h3;unfold le2 at h4;simp only [sub2,zero2] at d
  grind
 | true =>
  have h:s2.a i2 j2<0:=by
   rw [hu] at d7
   have : ¬ 0<s2.a i2 j2:=by simpa using d7
   grind
  have d:lt2 zero2 (sum2 S.n fun k=>zAC (D k) (- s2.a i2 k)):=by
   have gj:0 < - s2.a i2 j2:=by grind
   refine sum2_pos (j:=j2) (fun k hk=>?_) d1 ?_
   ·by_cases e:k=j2
    ·subst e
     have:=g;unfold lt2 at this;unfold le2;simp only [zAC,zero2] at this ⊢
     rcases this with h3 | ⟨h3,h4⟩
     ·left;exact Rat.mul_pos h3 gj
     ·right
      rw [<- h3,Rat.zero_mul];exact⟨rfl,Rat.le_of_lt (Rat.mul_pos h4 gj)⟩
    ·rcases i k hk e with h3 | h3 | ⟨h3,_,h4⟩
     ·right;simp only [zAC,zero2,h3,Rat.neg_zero,Rat.mul_zero];exact⟨trivial,Rat.le_refl⟩
     ·right;simp only [zAC,h3,zero2,Rat.zero_mul];exact⟨trivial,Rat.le_refl⟩
     ·have h5:=h4 hu
      unfold le2 at h3 ⊢;simp only [zAC,zero2] at h3 ⊢
      rcases h3 with h6 | ⟨h6,h7⟩
      ·left
       have:=Rat.mul_pos (a := - (D k).1) (b:=s2.a i2 k) (by grind) h5
       grind
      ·right
       rw [h6,Rat.zero_mul];refine⟨rfl,?_⟩;have:=Rat.mul_nonneg (a := - (D k).2) (b:=s2.a i2 k) (by grind) (by grind)
       grind
   ·unfold lt2 at g ⊢
    simp only [zAC,zero2] at g ⊢
    rcases g with h3 | ⟨h3,h4⟩
    ·left;exact Rat.mul_pos h3 gj
    ·right
     rw [<- h3,Rat.zero_mul];exact⟨rfl,Rat.mul_pos h4 gj⟩
  have b0:(sum2 S.n fun k=>zAC (D k) (- s2.a i2 k))=sub2 (s2.val (s2.basic i2)) (s1.val (s2.basic i2)):=by
   have e1:(sum2 S.n fun k=>zAC (D k) (- s2.a i2 k))=(- (sum2 S.n fun k=>zAC (D k) (s2.a i2 k)).1,- (sum2 S.n fun k=>zAC (D k) (s2.a i2 k)).2):=by
    refine Prod.ext ?_ ?_
    ·simp only [sum2,zAC]
     rw [<- zEB]
     exact zAn fun k _=>by grind
    ·simp only [sum2,zAC]
     rw [<- zEB]
     exact zAn fun k _=>by grind
   rw [e1,<- s];simp only [sub2];exact Prod.ext (by show _=_;grind) (by show _=_;grind)
  rw [b0] at d;obtain⟨h3,h4⟩:=c5 hu;have h5:=a8.2 h3;rw [h5] at d;unfold lt2 at d h4;simp only [sub2,zero2] at d
  grind
theorem solve_ends{S:Sys}{s:Dy}(h:Inv S s) : ∃ f r,zBd S f s=some r:=by
 refine Classical.byContradiction fun p=>?_
 have k : ∀ f,zBd S f s=none:=fun f=>by
  cases hf:zBd S f s with
  | none=>rfl
  | some r=>exact absurd ⟨f,r,hf⟩ p
 let nx:Dy->Dy:=fun s=>match stepS S s with | .go _ _ s'=>s' | _=>s
 let run:Nat->Dy:=fun t=>Nat.rec s (fun _ s=>nx s) t
 have o : ∀ t,run (t+1)=nx (run t):=fun t=>rfl
 have d : ∀ t,Inv S (run t)/\(∀ f,zBd S f (run t)=none)/\∃ i j,stepS S (run t) = .go i j (run (t+1)):=by
  have l : ∀ u,Inv S u->(∀ f,zBd S f u=none)->∃ i j,stepS S u = .go i j (nx u)/\Inv S (nx u)/\∀ f,zBd S f (nx u)=none:=by
   intro u hu hf;have h1:=hf 1
   cases hs:stepS S u with
   | sat=>simp only [zBd,hs] at h1;cases h1
   | unsat i up=>simp only [zBd,hs] at h1;cases h1
   | go i j u' =>
    have e:nx u=u':=by show (match stepS S u with | .go _ _ s'=>s' | _=>u)=_;rw [hs]
    rw [e];obtain⟨b,up,_,_,_,_,_,_,_,hi⟩:=zC8 hu hs;refine⟨i,j,rfl,hi,fun f=>?_⟩;have h2:=hf (f+1);simp only [zBd,hs] at h2;exact h2
  intro t
  induction t with
  | zero =>
   obtain⟨i,j,h1,h2,h3⟩:=l s h k;exact⟨h,k,i,j,h1⟩
  | succ t ih =>
   obtain⟨h1,h2,i,j,h3⟩:=ih;obtain⟨i0,j0,k1,k2,k3⟩:=l _ h1 h2;rw [o];obtain⟨i',j',g1,g2,g3⟩:=l _ k2 k3;exact⟨k2,k3,i',j',g1⟩
 have g : ∀ t,∃ i j,stepS S (run t) = .go i j (run (t+1)):=fun t=>(d t).2.2;obtain⟨fi,g⟩:=Classical.axiomOfChoice g;obtain⟨fj,g⟩:=Classical.axiomOfChoice g
 have hw:Walk 0 (2 ^ (S.n+S.m)) (fun t=>(run t).cols (fj t)) (fun t=>(run t).basic (fi t)) (fun t v=>nbv S (run t) v):=by
  refine⟨fun t _ _=>?_,fun t _ _=>?_,fun t v _ _=>?_,fun t1 t2 _ _ _ _ e1 e2 e3 e4=>?_⟩
  ·obtain⟨b,up,_,_,h3,h4,_⟩:=zC8 (d t).1 (g t)
   exact nbv_col (d t).1.dict.perm h4
  ·obtain⟨b,up,_,_,h3,h4,_⟩:=zC8 (d t).1 (g t)
   intro h5;have:=((d t).1.dict.perm.bas _ h3).2;have:=h5.2;omega
  ·obtain⟨b,up,_,_,h3,h4,_,_,h5,_⟩:=zC8 (d t).1 (g t)
   have hm:Perm S (move (run t) (fj t) (zAC (sub2 (ub S ((run t).basic (fi t))) ((run t).val ((run t).basic (fi t)))) ((run t).a (fi t) (fj t))⁻¹)) :=
    ⟨(d t).1.dict.perm.bas,(d t).1.dict.perm.col,(d t).1.dict.perm.inj,(d t).1.dict.perm.lin⟩
   show nbv S (run (t+1)) v↔_;rw [h5];exact pivot_nbv hm h3 h4 v
  ·obtain⟨b1,x,h1,_⟩:=zC8 (d t1).1 (g t1)
   obtain⟨b2,a0,h2,h3,_⟩:=zC8 (d t2).1 (g t2);exact solve_bland (d t1).1 (d t2).1 h1 h2 h3 e1 e3 e4
 have:=hw.short (S.n+S.m) (Nat.zero_le _) fun t _ _=>by
  obtain⟨b,up,_,_,h3,h4,_⟩:=zC8 (d t).1 (g t);exact⟨((d t).1.dict.perm.col _ h4).1,((d t).1.dict.perm.bas _ h3).1⟩
 omega
end Go.Tb
