/- Part of the proof: SiZ2, SiZ3, SiZ4. -/
import Derived.Test.YtoaiappkhcjagaaGreatDoorMSiS15
import Derived.Test.YtoaiappkhcjagaaGreatDoorSiV10
set_option linter.unusedVariables false
set_option linter.unusedSimpArgs false
namespace Go.Proofs.Si
open Go Go.V Go.Proofs Go.RowKit Go.Num Go.Tb Go.Proofs.Tryz
set_option maxRecDepth 100000
theorem c178 {s:BA} {q:Rat} (hs:bs s=txtQ q) (hz:s.size<=1000000000) (w:World):Ret prog 178 #[.string s] w fun v w'=>v = .bool (decide (q.den=1))/\Ext w w':=by
 refine run178 _ _ _ (yC (c183 s w) ?_)
 rintro v w1 ⟨⟨t,rfl,ht⟩,rfl⟩
 have hp:=(zEH q).1
 rw [hs,hp] at ht ⊢
 have hl:=zD3 (bs s)
 rw [hs,hp] at hl
 have b:(txtQ q).length=s.size:=by rw [zAc,hs]
 refine⟨t,_,rfl,yC (c184 t (by rw [zAc,ht];omega) w1) ?_⟩
 rintro v w2 ⟨rfl,he⟩
 refine⟨_,rfl,?_,he⟩
 congr 1
 rw [ht,zAt,ht]
 by_cases h1:q.den=1
 ·rw [if_pos h1,List.append_nil,zFk,decide_eq_true h1]
  by_cases hn:q.num<0
  ·have : ¬ dec q.num.natAbs=[48]:=fun e=>by have:=zDr.1 e;omega
   simp [hn,show ¬ dec q.num.natAbs=bs { data:=#[48] } from this]
  ·simp [hn]
 ·rw [if_neg h1,decide_eq_false h1]
  have:canon (dec q.num.natAbs++47::dec q.den)=false:=by
   cases h:canon (dec q.num.natAbs++47::dec q.den) with
   | false=>rfl
   | true =>
    have:=(zCg h).1
    rw [List.all_append,List.all_cons] at this
    simp [show isDig 47=false from rfl] at this
  rw [this,Bool.false_and]
theorem cut_txt {s t u:BA} {q:Rat} (hs:bs s=txtQ q) (ht:bs t=(dqCut (bs s)).1) (hu:if ((bs s).takeWhile (· != 47)).length<(bs s).length then bs u=(dqCut (bs s)).2 else bs u=[]) :
  bs t=txtQ ((q.num:Int):Rat)/\decide (((bs s).takeWhile (· != 47)).length<(bs s).length)=decide (q.den≠1)/\(q.den≠1->bs u=dec q.den):=by
 have hd:q.den=1\/q.den≠1:=by omega
 have hX:((if q.num<0 then [45] else [])++dec q.num.natAbs:List UInt8).takeWhile (· != 47)=(if q.num<0 then [45] else [])++dec q.num.natAbs:=by
  by_cases h:q.num<0
  ·rw [if_pos h]
   show (45::dec q.num.natAbs).takeWhile (· != 47)=_
   rw [List.takeWhile_cons,if_pos (by decide),zBY (zAC _)];rfl
  ·rw [if_neg h,List.nil_append,zBY (zAC _)]
 have hY : ∀ r:List UInt8,((if q.num<0 then [45] else [])++dec q.num.natAbs++47::r:List UInt8).takeWhile (· != 47)=(if q.num<0 then [45] else [])++dec q.num.natAbs:=by
  intro r
  by_cases h:q.num<0
  ·rw [if_pos h]
   show (45::(dec q.num.natAbs++47::r)).takeWhile (· != 47)=_
   rw [List.takeWhile_cons,if_pos (by decide),zCV (zAC _)];rfl
  ·rw [if_neg h,List.nil_append,zCV (zAC _)]
 have b:=zA3 q
 rw [zAP]
 rw [hs,b] at ht hu ⊢
 unfold dqCut at ht hu
 rcases hd with h1 | h1
 ·rw [if_pos h1,List.append_nil,hX,if_neg (Nat.lt_irrefl _)] at ht
  rw [if_pos h1,List.append_nil,hX]
  refine⟨ht,?_,fun h=>absurd h1 h⟩
  rw [decide_eq_false (Nat.lt_irrefl _),decide_eq_false (fun h=>h h1)]
 ·rw [if_neg h1,hY] at ht hu
  have hl:((if q.num<0 then [45] else [])++dec q.num.natAbs:List UInt8).length<((if q.num<0 then [45] else [])++dec q.num.natAbs++47::dec q.den:List UInt8).length:=by
   rw [List.length_append (bs:=47::dec q.den),List.length_cons];omega
  rw [if_neg h1,hY]
  rw [if_pos hl] at ht
  rw [if_pos hl,if_pos hl] at hu
  refine⟨ht,by rw [decide_eq_true hl,decide_eq_true h1],fun _=>?_⟩
  rw [hu]
  show List.drop (_+1) _=_
  rw [<- List.drop_drop,List.drop_left];rfl
theorem c174 {s:BA} {q:Rat} (hs:bs s=txtQ q) (hz:s.size<=1000000000) (w:World) (hg:Gl w):Ret prog 174 #[.string s] w fun v w'=>TxtV ((q.den:Nat):Rat) v/\Ext w w':=by
 refine run174 _ _ _ (yC (c111 s hz w hg) ?_)
 rintro v w1 ⟨rfl,b⟩
 refine⟨_,rfl,?_⟩
 rw [ok_of hs,Bool.not_true,cond_false]
 refine yC (c149 s (by omega) w1 (hg.ext b)) ?_
 rintro v w2 ⟨⟨t,u,rfl,ht,hu⟩,d⟩
 obtain⟨_,h2,h3⟩:=cut_txt hs ht hu
 rw [h2]
 refine⟨_,_,_,rfl,zAe (fun h=>⟨⟨_,rfl,?_⟩,b.trans d⟩) (fun h=>⟨⟨_,rfl,?_⟩,b.trans d⟩)⟩
 ·rw [h3 h,zBe]
 ·have:q.den=1:=by omega
  rw [this,zBe,zBx];rfl
theorem c210 {s:BA} {q:Rat} (hs:bs s=txtQ q) (hz:s.size<=1000000000) (w:World) (hg:Gl w):Ret prog 210 #[.string s] w fun v w'=>TxtV ((q.num:Int):Rat) v/\Ext w w':=by
 refine run210 _ _ _ (yC (c111 s hz w hg) ?_)
 rintro v w1 ⟨rfl,b⟩
 refine⟨_,rfl,?_⟩
 rw [ok_of hs,Bool.not_true,cond_false]
 refine yC (c149 s (by omega) w1 (hg.ext b)) ?_
 rintro v w2 ⟨⟨t,u,rfl,ht,hu⟩,d⟩
 exact⟨_,_,_,rfl,⟨_,rfl,(cut_txt hs ht hu).1⟩,b.trans d⟩
abbrev zrat:List Value:=[.bool false,.slice none 0 0,.slice none 0 0]
theorem c261 {x0 y0:Bool} {xa xa2 ya ya2:OA} {xn xc xn2 xc2 yn yc yn2 yc2 m n:Nat} (w:World) (hx1:NatV w (.slice xa xn xc) m) (hy1:NatV w (.slice ya yn yc) n) (h0:0<n) (hz:nd m<=1000000000/\nd n<=1000000000) :
  Ret prog 261 #[.agg #[.bool x0,.slice xa xn xc,.slice xa2 xn2 xc2],.agg #[.bool y0,.slice ya yn yc,.slice ya2 yn2 yc2]] w fun v w' =>
   (∃ b1 p1 k1 c1 p2 k2 c2 b3 p3 k3 c3 p4 k4 c4,v = .tuple #[.agg #[.bool b1,.slice p1 k1 c1,.slice p2 k2 c2],.agg #[.bool b3,.slice p3 k3 c3,.slice p4 k4 c4]] /\
    RatM w' (.agg #[.bool b1,.slice p1 k1 c1,.slice p2 k2 c2]) (x0 != y0) (if x0=true/\m % n≠0 then m / n+1 else m / n) 1 /\
    RatM w' (.agg #[.bool b3,.slice p3 k3 c3,.slice p4 k4 c4]) false (if x0=true/\m % n≠0 then n - m % n else m % n) 1)/\Ext w w':=by
 have z1:=(yE w).alloc (.cells #[.bool x0,.slice xa xn xc,.slice xa2 xn2 xc2] 184)
 have bX:=yN w [.bool x0,.slice xa xn xc,.slice xa2 xn2 xc2] 184
 refine run261 _ _ _ _ _ _ _ _ _ _ _ _ _ _ _ _ ?_
 unfold vc261
 generalize eW1:w.alloc (.cells #[.bool x0,.slice xa xn xc,.slice xa2 xn2 xc2] 184)=W1 at z1 ⊢
 have d5:Box W1 w.heap.size 184 [.bool x0,.slice xa xn xc,.slice xa2 xn2 xc2]:=by rw [<- eW1];exact bX
 have s1:W1.heap.size=w.heap.size+1:=by rw [<- eW1];exact size_alloc ..
 have z2:=(yE W1).alloc (.cells #[.bool y0,.slice ya yn yc,.slice ya2 yn2 yc2] 184)
 have bY:=yN W1 [.bool y0,.slice ya yn yc,.slice ya2 yn2 yc2] 184
 generalize eW2:W1.alloc (.cells #[.bool y0,.slice ya yn yc,.slice ya2 yn2 yc2] 184)=W2 at z2 ⊢
 have d8:Box W2 W1.heap.size 184 [.bool y0,.slice ya yn yc,.slice ya2 yn2 yc2]:=by rw [<- eW2];exact bY
 have s2:W2.heap.size=W1.heap.size+1:=by rw [<- eW2];exact size_alloc ..
 have z3:=(yE W2).alloc (.cells #[.bool false,.slice none 0 0,.slice none 0 0] 184)
 have bQ:=yN W2 zrat 184
 generalize eW3:W2.alloc (.cells #[.bool false,.slice none 0 0,.slice none 0 0] 184)=W3 at z3 ⊢
 have b7:Box W3 W2.heap.size 184 zrat:=by rw [<- eW3];exact bQ
 have s3:W3.heap.size=W2.heap.size+1:=by rw [<- eW3];exact size_alloc ..
 have z4:=(yE W3).alloc (.cells #[.bool false,.slice none 0 0,.slice none 0 0] 184)
 have bR:=yN W3 zrat 184
 generalize eW4:W3.alloc (.cells #[.bool false,.slice none 0 0,.slice none 0 0] 184)=W4 at z4 ⊢
 have d1:Box W4 W3.heap.size 184 zrat:=by rw [<- eW4];exact bR
 have b8:=b7.ext z4
 have a6:=(d8.ext z3).ext z4
 have a5:=((d5.ext z2).ext z3).ext z4
 have a7:=((z1.trans z2).trans z3).trans z4
 refine⟨_,_,_,a5.blk.cell (j:=1) rfl,_,_,_,a6.blk.cell (j:=1) rfl,yC (quoV W4 (hx1.ext a7) (hy1.ext a7) h0 ⟨by omega,by omega⟩) ?_⟩
 rintro v w1 ⟨⟨a1,n1,c1,a2,n2,c2,rfl,hq,hr⟩,l⟩
 have b5:=a7.trans l
 refine⟨_,_,_,_,_,_,rfl,fun K hK=>?_⟩
 have fin : ∀ p4 k8 k9 p5 f g w2 r q,NatV w2 (.slice p4 k8 k9) r->NatV w2 (.slice p5 f g) q->Ext w1 w2->q=(if x0=true/\m % n≠0 then m / n+1 else m / n)->r=(if x0=true/\m % n≠0 then n - m % n else m % n)->K [.slice p4 k8 k9,.slice p5 f g] w2:=by
  intro p4 k8 k9 p5 f g w2 r q e8 e6 u e2 e3
  subst e2 e3
  refine hK _ _ _ _ _ _ _ ?_
  have f7:=b5.trans u
  have d7:=(a5.ext l).ext u
  have e0:=(a6.ext l).ext u
  have b9:=(b8.ext l).ext u
  have d2:=(d1.ext l).ext u
  have i : ∀ x:Nat,u32v x∉[Value.bool false,.slice none 0 0,.slice none 0 0]:=fun x=>by simp [u32v]
  have zo:=(yE w2).alloc (.cells #[.int .u32 1] 209)
  have b6:=natOne w2
  have p:=(yE (w2.alloc (.cells #[.int .u32 1] 209))).alloc (.cells #[.int .u32 1] 209)
  have a4:=natOne (w2.alloc (.cells #[.int .u32 1] 209))
  generalize (w2.alloc (.cells #[.int .u32 1] 209)).alloc (.cells #[.int .u32 1] 209)=U at p a4 ⊢
  have a8:=b6.ext p
  have f8:=f7.trans (zo.trans p)
  have s:=b9.ext (zo.trans p)
  have d4:=d2.ext (zo.trans p)
  have d0:=s.put [.bool (!(x0==y0)),.slice p5 f g,.slice (some ⟨w2.heap.size,0,none⟩) 1 1] (by rfl)
  have q1:=(e6.ext (zo.trans p)).put s i [.bool (!(x0==y0)),.slice p5 f g,.slice (some ⟨w2.heap.size,0,none⟩) 1 1] 0 0
  have o1:=a8.put s i [.bool (!(x0==y0)),.slice p5 f g,.slice (some ⟨w2.heap.size,0,none⟩) 1 1] 0 0
  have r1:=(e8.ext (zo.trans p)).put s i [.bool (!(x0==y0)),.slice p5 f g,.slice (some ⟨w2.heap.size,0,none⟩) 1 1] 0 0
  have o2:=a4.put s i [.bool (!(x0==y0)),.slice p5 f g,.slice (some ⟨w2.heap.size,0,none⟩) 1 1] 0 0
  have d:Box (setCells U ⟨W2.heap.size,0,none⟩ 0 [.bool (!(x0==y0)),.slice p5 f g,.slice (some ⟨w2.heap.size,0,none⟩) 1 1]) W3.heap.size 184 zrat:=d4.same (zAk (b:=W2.heap.size) (o:=0) (k:=W3.heap.size) (by omega) _ 0)
  have d3:=d.put [.bool false,.slice p4 k8 k9,.slice (some ⟨(w2.alloc (.cells #[.int .u32 1] 209)).heap.size,0,none⟩) 1 1] (by rfl)
  have a9:=d0.same (zAk (b:=W3.heap.size) (o:=0) (k:=W2.heap.size) (by omega) [.bool false,.slice p4 k8 k9,.slice (some ⟨(w2.alloc (.cells #[.int .u32 1] 209)).heap.size,0,none⟩) 1 1] 0)
  refine⟨_,d7.blk.cell (j:=0) rfl,_,e0.blk.cell (j:=0) rfl,s.blk.writable (by decide),d.blk.writable (by decide),_,_,_,_,_,_,_,a9.blk.all,_,_,_,_,_,_,_,d3.blk.all,?_⟩
  refine⟨⟨_,_,_,_,_,_,_,_,_,_,_,_,_,_,rfl,⟨_,_,_,_,_,_,rfl,q1.put d i _ 0 0,o1.put d i _ 0 0⟩,⟨_,_,_,_,_,_,rfl,r1.put d i _ 0 0,o2.put d i _ 0 0⟩⟩,?_⟩
  exact (f8.put (by omega) _ _).put (by omega) _ _
 intro K1 b0
 have d6:=a5.ext l
 have d9:=a6.ext l
 refine⟨_,d6.blk.cell (j:=0) rfl,?_⟩
 have a3:=hr.pos
 have plain : ¬ (x0=true/\m % n≠0)->K [.slice a2 n2 c2,.slice a1 n1 c1] w1:=fun h=>fin _ _ _ _ _ _ _ _ _ hr hq (yE _) (by rw [if_neg h]) (by rw [if_neg h])
 cases x0 with
 | false =>
  rw [cond_false]
  refine b0 false ?_
  rw [cond_false]
  exact plain (by simp)
 | true =>
  rw [cond_true]
  refine b0 _ (zAe (fun h=>?_) (fun h=>?_))
  ·have a0:m % n≠0:=a3.1 (by omega)
   intro K2 e5
   have hd:=(yE w1).drew
   have e1:=d9.ext hd
   have zo:=(yE w1.drew).alloc (.cells #[.int .u32 1] 209)
   have f9:=Nat.mod_lt m h0
   have zm:nd (m / n)<=1000000000000:=Nat.le_trans (zBp (Nat.div_le_self m n)) (by omega)
   refine⟨_,_,_,e1.blk.cell (j:=1) rfl,zo,yC (addV _ ((hq.ext hd).ext zo) (natOne w1.drew) ⟨zm,Nat.le_trans (zBp h0) (by omega)⟩) ?_⟩
   rintro v w4 ⟨⟨g4,g0,g1,rfl⟩,e7,b2⟩
   have e4:=hd.trans (zo.trans b2)
   refine⟨_,_,_,rfl,zo.trans b2,yC (subV w4 ((hy1.ext b5).ext e4) (hr.ext e4) (by omega) (by omega)) ?_⟩
   rintro v w5 ⟨⟨g5,g2,g3,rfl⟩,e9,b4⟩
   refine⟨_,_,_,rfl,e5 _ _ _ _ _ _ _ (fin _ _ _ _ _ _ _ _ _ e9 (e7.ext b4) (e4.trans b4) (by rw [if_pos ⟨rfl,a0⟩]) (by rw [if_pos ⟨rfl,a0⟩]))⟩
  ·have a0:m % n=0:=by
    by_cases e:m % n=0
    ·exact e
    ·exact absurd (a3.2 e) (by omega)
   exact plain (by simp [a0])
theorem zF1 {n:Nat} : nd n=(dec n).length:=rfl
theorem zFX {s:BA} {q:Rat} {w:World} {v:Value} (hs:bs s=txtQ q) (h:ReadR w (bs s) v) : ∃ a1 m1 c1 a2 m2 c2,v = .tuple #[.agg #[.bool (decide (q.num<0)),.slice a1 m1 c1,.slice a2 m2 c2],.bool true]/\NatV w (.slice a1 m1 c1) q.num.natAbs/\NatV w (.slice a2 m2 c2) q.den:=by
 rcases h with ⟨p',u,hp',rfl,a1,m1,c1,a2,m2,c2,rfl,h1,h2⟩ | ⟨hno,_⟩
 ·rw [hs] at hp'
  obtain rfl:=zA0 hp'
  exact⟨_,_,_,_,_,_,rfl,h1,h2⟩
 ·exact absurd ⟨q,hs⟩ hno
theorem zFB (x y:Int) (hy:y≠0):x / y=sgn (decide (x<0) != decide (y<0)) (if decide (x<0)=true/\x.natAbs % y.natAbs≠0 then x.natAbs / y.natAbs+1 else x.natAbs / y.natAbs) /\
  x % y=((if decide (x<0)=true/\x.natAbs % y.natAbs≠0 then y.natAbs - x.natAbs % y.natAbs else x.natAbs % y.natAbs:Nat):Int):=by
 have key : ∀ (n:Nat),0<n->x / (n:Int)=sgn (decide (x<0)) (if decide (x<0)=true/\x.natAbs % n≠0 then x.natAbs / n+1 else x.natAbs / n) /\
   x % (n:Int)=((if decide (x<0)=true/\x.natAbs % n≠0 then n - x.natAbs % n else x.natAbs % n:Nat):Int):=by
  intro n hn
  have h1:=Nat.div_add_mod x.natAbs n
  have h2:=Nat.mod_lt x.natAbs hn
  generalize x.natAbs / n=u at h1 ⊢
  generalize x.natAbs % n=r at h1 h2 ⊢
  have h3:((n:Int)*u)+r=x.natAbs:=by exact_mod_cast h1
  by_cases hx:x<0
  ·have ex:x = -((n:Int)*u) - r:=by omega
   by_cases hr:r=0
   ·subst hr
    rw [if_neg (by simp),if_neg (by simp),decide_eq_true hx]
    rw [Int.ediv_emod_unique (by omega)]
    exact⟨by simp only [sgn];grind,by simp,by omega⟩
   ·rw [if_pos ⟨by simpa using hx,hr⟩,if_pos ⟨by simpa using hx,hr⟩,decide_eq_true hx]
    rw [Int.ediv_emod_unique (by omega)]
    refine⟨?_,by omega,by omega⟩
    simp only [sgn]
    rw [show ((n - r:Nat):Int)=(n:Int) - r by omega]
    grind
  ·rw [if_neg (by simp [hx]),if_neg (by simp [hx]),decide_eq_false hx]
   rw [Int.ediv_emod_unique (by omega)]
   refine⟨?_,by omega,by omega⟩
   simp only [sgn]
   grind
 by_cases h:y<0
 ·obtain⟨n,hn⟩ : ∃ n:Nat,y = -(n:Int):=⟨y.natAbs,by omega⟩
  subst hn
  rw [Int.natAbs_neg,Int.natAbs_natCast,Int.ediv_neg,Int.emod_neg]
  obtain⟨k1,k2⟩:=key n (by omega)
  refine⟨?_,k2⟩
  rw [k1,decide_eq_true h]
  cases decide (x<0) <;> simp [sgn]
 ·obtain⟨n,hn⟩ : ∃ n:Nat,y=(n:Int):=⟨y.natAbs,by omega⟩
  subst hn
  rw [Int.natAbs_natCast]
  obtain⟨k1,k2⟩:=key n (by omega)
  refine⟨?_,k2⟩
  rw [k1,decide_eq_false h]
  cases decide (x<0) <;> rfl
theorem RatM.parts {w:World} {b:Bool} {p p2:OA} {k c k2 c2:Nat} {neg:Bool} {m n:Nat} (h:RatM w (.agg #[.bool b,.slice p k c,.slice p2 k2 c2]) neg m n):b=neg/\NatV w (.slice p k c) m/\NatV w (.slice p2 k2 c2) n:=by
 obtain⟨_,_,_,_,_,_,e,h1,h2⟩:=h
 cases e
 exact⟨rfl,h1,h2⟩
theorem txt_sgn (neg:Bool) (m:Nat):txt3 (neg&&decide (m≠0)) m 1=txtQ ((sgn neg m:Int):Rat):=by
 rw [zAP,txt3,if_pos rfl,List.append_nil,zB6]
 cases neg with
 | false=>simp [sgn]
 | true =>
  by_cases h:m=0
  ·subst h;simp [sgn]
  ·simp only [sgn,Bool.true_and]
   rw [decide_eq_true h,if_pos rfl,if_pos (by simp;omega)]
set_option maxHeartbeats 1000000 in
theorem c240 {a b:BA} {x y:Int} (ha:bs a=txtQ (x:Rat)) (hb:bs b=txtQ (y:Rat)) (hy:y≠0) (hz:a.size<=400000000/\b.size<=400000000) (w:World) (hg:Gl w) :
  Ret prog 240 #[.string a,.string b] w fun v w'=>(∃ s t,v = .tuple #[.string s,.string t]/\bs s=txtQ ((x / y:Int):Rat)/\bs t=txtQ ((x % y:Int):Rat))/\Ext w w':=by
 refine run240 _ _ _ _ fun K hK=>yC (c178 ha (by omega) w) ?_
 rintro v w8 ⟨rfl,e3⟩
 have nzb:(b.toList==({ data:=#[48] } : BA).toList)=false:=by
  rw [zAt,decide_eq_false_iff_not]
  intro e
  rw [hb] at e
  have:(y:Rat)=0:=zA0 (e.trans (txtQ_zero.symm))
  exact hy (by exact_mod_cast this)
 refine⟨_,rfl,?_⟩
 rw [Rat.den_intCast,decide_eq_true rfl,Bool.not_true,cond_false]
 refine yC (c178 hb (by omega) w8) ?_
 rintro v w9 ⟨rfl,e4⟩
 have b7:=e3.trans e4
 refine⟨_,rfl,?_⟩
 rw [Rat.den_intCast,decide_eq_true rfl,nzb]
 refine hK (!true||false) w9 ?_
 rw [show (!true||false)=false from rfl,cond_false]
 refine yC (c153 a (by omega) w9 (hg.ext b7)) ?_
 rintro v w3 ⟨hv,d8⟩
 obtain⟨a1,m1,c1,a2,m2,c2,rfl,e6,e9⟩:=zFX ha hv
 have b4:=b7.trans d8
 have hY:=yN w3 [.bool false,.slice none 0 0,.slice none 0 0] 184
 have d:=hY.put [.bool (decide ((x:Rat).num<0)),.slice a1 m1 c1,.slice a2 m2 c2] rfl
 have e8:=(yE w3).alloc (.cells #[.bool false,.slice none 0 0,.slice none 0 0] 184)
 have b0:=(e6.ext e8).put hY (zAo _ _ _ _ _ _ _) [.bool (decide ((x:Rat).num<0)),.slice a1 m1 c1,.slice a2 m2 c2] 0 0
 have a5:Ext w (setCells (w3.alloc (.cells #[.bool false,.slice none 0 0,.slice none 0 0] 184)) ⟨w3.heap.size,0,none⟩ 0 [.bool (decide ((x:Rat).num<0)),.slice a1 m1 c1,.slice a2 m2 c2]):=(b4.alloc _).put (by exact b4.size) _ _
 refine⟨_,_,_,_,_,_,_,_,rfl,hY.blk.writable (by decide),?_⟩
 generalize setCells (w3.alloc (.cells #[.bool false,.slice none 0 0,.slice none 0 0] 184)) ⟨w3.heap.size,0,none⟩ 0 [.bool (decide ((x:Rat).num<0)),.slice a1 m1 c1,.slice a2 m2 c2]=W3 at d b0 a5 ⊢
 generalize w3.heap.size=B3 at d ⊢
 refine yC (c153 b (by omega) W3 (hg.ext a5)) ?_
 rintro v w4 ⟨hv,i⟩
 obtain⟨a3,m3,c3,a4,m4,c4,rfl,e7,f7⟩:=zFX hb hv
 have b5:=a5.trans i
 have hZ:=yN w4 [.bool false,.slice none 0 0,.slice none 0 0] 184
 have g:=hZ.put [.bool (decide ((y:Rat).num<0)),.slice a3 m3 c3,.slice a4 m4 c4] rfl
 have a8:=(yE w4).alloc (.cells #[.bool false,.slice none 0 0,.slice none 0 0] 184)
 have n:=((b0.ext i).ext a8).put hZ (zAo _ _ _ _ _ _ _) [.bool (decide ((y:Rat).num<0)),.slice a3 m3 c3,.slice a4 m4 c4] 0 0
 have u:=(e7.ext a8).put hZ (zAo _ _ _ _ _ _ _) [.bool (decide ((y:Rat).num<0)),.slice a3 m3 c3,.slice a4 m4 c4] 0 0
 have a0:=(d.ext (i.trans a8)).same (zAk (b:=w4.heap.size) (o:=0) (k:=B3) (by have:=(d.ext i).lt;omega) [.bool (decide ((y:Rat).num<0)),.slice a3 m3 c3,.slice a4 m4 c4] 0)
 have b6:Ext w (setCells (w4.alloc (.cells #[.bool false,.slice none 0 0,.slice none 0 0] 184)) ⟨w4.heap.size,0,none⟩ 0 [.bool (decide ((y:Rat).num<0)),.slice a3 m3 c3,.slice a4 m4 c4]):=(b5.alloc _).put (by exact b5.size) _ _
 refine⟨_,_,_,_,_,_,_,_,rfl,hZ.blk.writable (by decide),?_⟩
 generalize setCells (w4.alloc (.cells #[.bool false,.slice none 0 0,.slice none 0 0] 184)) ⟨w4.heap.size,0,none⟩ 0 [.bool (decide ((y:Rat).num<0)),.slice a3 m3 c3,.slice a4 m4 c4]=W4 at g n u a0 b6 ⊢
 generalize w4.heap.size=B4 at g ⊢
 rw [Rat.num_intCast] at n u a0 g d
 have l1:=(zAq (x:Rat)).1
 have l2:=(zAq (y:Rat)).1
 rw [Rat.num_intCast,<- ha,<- zAc] at l1
 rw [Rat.num_intCast,<- hb,<- zAc] at l2
 have zx:nd x.natAbs<=400000000:=by rw [zF1];omega
 have zy:nd y.natAbs<=400000000:=by rw [zF1];omega
 have a9:0<y.natAbs:=Int.natAbs_pos.2 hy
 refine⟨_,_,_,_,_,_,_,a0.blk.all,_,_,_,_,_,_,_,g.blk.all,yC (c261 W4 n u a9 ⟨by omega,by omega⟩) ?_⟩
 rintro v w5 ⟨⟨b1,p1,k1,d1,p2,k2,d2,b3,p3,k3,d3,p4,k4,d4,rfl,hq,hr⟩,d9⟩
 obtain⟨e1,e2⟩:=zFB x y hy
 have a6:=b6.trans d9
 obtain⟨f1,q1,q2⟩:=hq.parts
 obtain⟨f2,r1,r2⟩:=hr.parts
 subst f1 f2
 have y1:=(yE w5).alloc (.cells #[.bool false,.slice none 0 0,.slice none 0 0] 184)
 have t1:(w5.alloc (.cells #[.bool false,.slice none 0 0,.slice none 0 0] 184)).heap.size=w5.heap.size+1:=size_alloc ..
 have bq:=yN w5 [.bool false,.slice none 0 0,.slice none 0 0] 184
 have y2:=(yE (w5.alloc (.cells #[.bool false,.slice none 0 0,.slice none 0 0] 184))).alloc (.cells #[.bool false,.slice none 0 0,.slice none 0 0] 184)
 have br:=yN (w5.alloc (.cells #[.bool false,.slice none 0 0,.slice none 0 0] 184)) [.bool false,.slice none 0 0,.slice none 0 0] 184
 have l:=bq.ext y2
 have b2 : ∀ x:Nat,u32v x∉[Value.bool false,.slice none 0 0,.slice none 0 0]:=fun x=>by simp [u32v]
 have bqp:=l.put [.bool (decide (x<0) != decide (y<0)),.slice p1 k1 d1,.slice p2 k2 d2] (by rfl)
 have m:=br.same (zAk (b:=w5.heap.size) (o:=0) (k:=(w5.alloc (.cells #[.bool false,.slice none 0 0,.slice none 0 0] 184)).heap.size) (by omega) [.bool (decide (x<0) != decide (y<0)),.slice p1 k1 d1,.slice p2 k2 d2] 0)
 have brp:=m.put [.bool false,.slice p3 k3 d3,.slice p4 k4 d4] (by rfl)
 have j:=bqp.same (zAk (b:=(w5.alloc (.cells #[.bool false,.slice none 0 0,.slice none 0 0] 184)).heap.size) (o:=0) (k:=w5.heap.size) (by omega) [.bool false,.slice p3 k3 d3,.slice p4 k4 d4] 0)
 have mv : ∀ {p k c z},NatV w5 (.slice p k c) z->NatV (setCells (setCells ((w5.alloc (.cells #[.bool false,.slice none 0 0,.slice none 0 0] 184)).alloc (.cells #[.bool false,.slice none 0 0,.slice none 0 0] 184)) ⟨w5.heap.size,0,none⟩ 0 [.bool (decide (x<0) != decide (y<0)),.slice p1 k1 d1,.slice p2 k2 d2]) ⟨(w5.alloc (.cells #[.bool false,.slice none 0 0,.slice none 0 0] 184)).heap.size,0,none⟩ 0 [.bool false,.slice p3 k3 d3,.slice p4 k4 d4]) (.slice p k c) z :=
  fun h=>((h.ext (y1.trans y2)).put l b2 _ 0 0).put m b2 _ 0 0
 have b8:Ext w (setCells (setCells ((w5.alloc (.cells #[.bool false,.slice none 0 0,.slice none 0 0] 184)).alloc (.cells #[.bool false,.slice none 0 0,.slice none 0 0] 184)) ⟨w5.heap.size,0,none⟩ 0 [.bool (decide (x<0) != decide (y<0)),.slice p1 k1 d1,.slice p2 k2 d2]) ⟨(w5.alloc (.cells #[.bool false,.slice none 0 0,.slice none 0 0] 184)).heap.size,0,none⟩ 0 [.bool false,.slice p3 k3 d3,.slice p4 k4 d4]) :=
  ((a6.trans (y1.trans y2)).put a6.size _ _).put (Nat.le_trans a6.size (by omega)) _ _
 refine⟨_,_,_,_,_,_,_,_,_,_,_,_,_,_,rfl,l.blk.writable (by decide),m.blk.writable (by decide),?_⟩
 have b9:=mv q1
 have d0:=mv q2
 have d5:=mv r1
 have d6:=mv r2
 generalize setCells (setCells ((w5.alloc (.cells #[.bool false,.slice none 0 0,.slice none 0 0] 184)).alloc (.cells #[.bool false,.slice none 0 0,.slice none 0 0] 184)) ⟨w5.heap.size,0,none⟩ 0 [.bool (decide (x<0) != decide (y<0)),.slice p1 k1 d1,.slice p2 k2 d2]) ⟨(w5.alloc (.cells #[.bool false,.slice none 0 0,.slice none 0 0] 184)).heap.size,0,none⟩ 0 [.bool false,.slice p3 k3 d3,.slice p4 k4 d4]=W5 at j brp b9 d0 d5 d6 b8 ⊢
 intro K1 d7
 have hd:=(yE W5).drew
 have a7:=b8.trans hd
 have e5:=Nat.mod_lt x.natAbs a9
 have z1:nd (if decide (x<0)=true/\x.natAbs % y.natAbs≠0 then x.natAbs / y.natAbs+1 else x.natAbs / y.natAbs)<=1000000000:=by
  have h2:nd (x.natAbs / y.natAbs+1)<=400000001:=by
   have h3:nd (x.natAbs / y.natAbs+1)<=nd (x.natAbs+1):=zBp (by have:=Nat.div_le_self x.natAbs y.natAbs;omega)
   have h4:=zBy x.natAbs 1
   rw [zBx] at h4
   simp only [List.length_singleton] at h4
   rw [zF1] at h3 zx ⊢
   rw [zF1] at h3
   omega
  have h5:nd (x.natAbs / y.natAbs)<=nd x.natAbs:=zBp (Nat.div_le_self _ _)
  split <;> omega
 have z2:nd (if decide (x<0)=true/\x.natAbs % y.natAbs≠0 then y.natAbs - x.natAbs % y.natAbs else x.natAbs % y.natAbs)<=1000000000:=by
  have h6:nd (y.natAbs - x.natAbs % y.natAbs)<=nd y.natAbs:=zBp (Nat.sub_le _ _)
  have h7:nd (x.natAbs % y.natAbs)<=nd y.natAbs:=zBp (Nat.le_of_lt e5)
  split <;> omega
 have zo:nd 1<=1000000000:=Nat.le_trans (zBp a9) (by omega)
 refine⟨_,_,_,_,_,_,_,(j.ext hd).blk.all,_,_,_,_,_,_,_,(brp.ext hd).blk.all,yC (c195 _ ⟨_,_,_,_,_,_,rfl,b9.ext hd,d0.ext hd⟩ ⟨z1,zo⟩ (hg.ext a7)) ?_⟩
 rintro v w6 ⟨⟨s,rfl,hs⟩,f⟩
 refine⟨_,rfl,f,yC (c195 w6 ⟨_,_,_,_,_,_,rfl,(d5.ext hd).ext f,(d6.ext hd).ext f⟩ ⟨z2,zo⟩ (hg.ext (a7.trans f))) ?_⟩
 rintro v w7 ⟨⟨t,rfl,ht⟩,e0⟩
 refine⟨_,rfl,d7 _ _ _ ⟨⟨s,t,rfl,?_,?_⟩,(a7.trans f).trans e0⟩⟩
 ·rw [hs,txt_sgn,e1]
 ·rw [ht,txt_sgn,e2];rfl
theorem c209 {a b:BA} {x y:Int} (ha:bs a=txtQ (x:Rat)) (hb:bs b=txtQ (y:Rat)) (hy:y≠0) (hz:a.size<=400000000/\b.size<=400000000) (w:World) (hg:Gl w) :
  Ret prog 209 #[.string a,.string b] w fun v w'=>TxtV ((x / y:Int):Rat) v/\Ext w w':=by
 refine run209 _ _ _ _ (yC (c240 ha hb hy hz w hg) ?_)
 rintro v w1 ⟨⟨s,t,rfl,hs,ht⟩,he⟩
 exact⟨_,_,rfl,⟨_,rfl,hs⟩,he⟩
theorem c179 {a:BA} {q:Rat} (ha:bs a=txtQ q) (hz:a.size<=399999990) (w:World) (hg:Gl w):Ret prog 179 #[.string a] w fun v w'=>TxtV ((flo q:Int):Rat) v/\Ext w w':=by
 refine run179 _ _ _ (yC (c210 ha (by omega) w hg) ?_)
 rintro v w1 ⟨⟨s,rfl,hs⟩,b⟩
 refine⟨_,rfl,yC (c174 ha (by omega) w1 (hg.ext b)) ?_⟩
 rintro v w2 ⟨⟨t,rfl,ht⟩,d⟩
 have hl:=zAq q
 rw [<- ha,<- zAc] at hl
 have z1:s.size<=400000000:=by
  have:=zGe q.num
  rw [zAc,hs];omega
 have z2:t.size<=400000000:=by rw [zAc,ht,zBe];omega
 refine⟨_,rfl,yC (c209 (y:=(q.den:Int)) hs (by rw [ht,Rat.intCast_natCast]) (by have:=q.den_pos;omega) ⟨z1,z2⟩ w2 (hg.ext (b.trans d))) ?_⟩
 rintro v w3 ⟨⟨u,rfl,hu⟩,f⟩
 exact⟨_,rfl,⟨u,rfl,hu⟩,(b.trans d).trans f⟩
end Go.Proofs.Si
namespace Go.Proofs.Si
open Go Go.V Go.Proofs Go.RowKit Go.Num Go.Tb Go.Proofs.Tryz
open Go.IntKind (i64 u64 u32 u8)
set_option maxRecDepth 100000
set_option maxHeartbeats 1000000 in
theorem c177 {a b:BA} {x y:Int} (ha:bs a=txtQ (x:Rat)) (hb:bs b=txtQ (y:Rat)) (hz:a.size<=400000000/\b.size<=400000000) (w:World) (hg:Gl w) :
  Ret prog 177 #[.string a,.string b] w fun v w'=>(∃ t,v = .string t/\bs t=dec (Nat.gcd x.natAbs y.natAbs))/\Ext w w':=by
 refine run177 _ _ _ _ fun K hK=>yC (c178 ha (by omega) w) ?_
 rintro v w8 ⟨rfl,b1⟩
 refine⟨_,rfl,?_⟩
 rw [Rat.den_intCast,decide_eq_true rfl,Bool.not_true,cond_false]
 refine yC (c178 hb (by omega) w8) ?_
 rintro v w9 ⟨rfl,b2⟩
 have a8:=b1.trans b2
 refine⟨_,rfl,?_⟩
 rw [Rat.den_intCast,decide_eq_true rfl]
 refine hK (!true) w9 ?_
 rw [Bool.not_true,cond_false]
 refine yC (c153 a (by omega) w9 (hg.ext a8)) ?_
 rintro v w3 ⟨hv,a9⟩
 obtain⟨a1,m1,c1,a2,m2,c2,rfl,b4,b7⟩:=zFX ha hv
 have a6:=a8.trans a9
 have hY:=yN w3 [.bool false,.slice none 0 0,.slice none 0 0] 184
 have d:=hY.put [.bool (decide ((x:Rat).num<0)),.slice a1 m1 c1,.slice a2 m2 c2] rfl
 have b6:=(yE w3).alloc (.cells #[.bool false,.slice none 0 0,.slice none 0 0] 184)
 have u:=(b4.ext b6).put hY (zAo _ _ _ _ _ _ _) [.bool (decide ((x:Rat).num<0)),.slice a1 m1 c1,.slice a2 m2 c2] 0 0
 have m:Ext w (setCells (w3.alloc (.cells #[.bool false,.slice none 0 0,.slice none 0 0] 184)) ⟨w3.heap.size,0,none⟩ 0 [.bool (decide ((x:Rat).num<0)),.slice a1 m1 c1,.slice a2 m2 c2]):=(a6.alloc _).put (by exact a6.size) _ _
 refine⟨_,_,_,_,_,_,_,_,rfl,hY.blk.writable (by decide),?_⟩
 generalize setCells (w3.alloc (.cells #[.bool false,.slice none 0 0,.slice none 0 0] 184)) ⟨w3.heap.size,0,none⟩ 0 [.bool (decide ((x:Rat).num<0)),.slice a1 m1 c1,.slice a2 m2 c2]=W3 at d u m ⊢
 generalize w3.heap.size=B3 at d ⊢
 refine yC (c153 b (by omega) W3 (hg.ext m)) ?_
 rintro v w4 ⟨hv,f⟩
 obtain⟨a3,m3,c3,a4,m4,c4,rfl,b5,b8⟩:=zFX hb hv
 have a7:=m.trans f
 have hZ:=yN w4 [.bool false,.slice none 0 0,.slice none 0 0] 184
 have l:=hZ.put [.bool (decide ((y:Rat).num<0)),.slice a3 m3 c3,.slice a4 m4 c4] rfl
 have p:=(yE w4).alloc (.cells #[.bool false,.slice none 0 0,.slice none 0 0] 184)
 have g:=((u.ext f).ext p).put hZ (zAo _ _ _ _ _ _ _) [.bool (decide ((y:Rat).num<0)),.slice a3 m3 c3,.slice a4 m4 c4] 0 0
 have i:=(b5.ext p).put hZ (zAo _ _ _ _ _ _ _) [.bool (decide ((y:Rat).num<0)),.slice a3 m3 c3,.slice a4 m4 c4] 0 0
 have a0:=(d.ext (f.trans p)).same (zAk (b:=w4.heap.size) (o:=0) (k:=B3) (by have:=(d.ext f).lt;omega) [.bool (decide ((y:Rat).num<0)),.slice a3 m3 c3,.slice a4 m4 c4] 0)
 have n:Ext w (setCells (w4.alloc (.cells #[.bool false,.slice none 0 0,.slice none 0 0] 184)) ⟨w4.heap.size,0,none⟩ 0 [.bool (decide ((y:Rat).num<0)),.slice a3 m3 c3,.slice a4 m4 c4]):=(a7.alloc _).put (by exact a7.size) _ _
 refine⟨_,_,_,_,_,_,_,_,rfl,hZ.blk.writable (by decide),?_⟩
 generalize setCells (w4.alloc (.cells #[.bool false,.slice none 0 0,.slice none 0 0] 184)) ⟨w4.heap.size,0,none⟩ 0 [.bool (decide ((y:Rat).num<0)),.slice a3 m3 c3,.slice a4 m4 c4]=W4 at l g i a0 n ⊢
 generalize w4.heap.size=B4 at l ⊢
 rw [Rat.num_intCast] at g i
 have l1:=(zAq (x:Rat)).1
 have l2:=(zAq (y:Rat)).1
 rw [Rat.num_intCast,<- ha,<- zAc] at l1
 rw [Rat.num_intCast,<- hb,<- zAc] at l2
 have zx:nd x.natAbs<=400000000:=by rw [zF1];omega
 have zy:nd y.natAbs<=400000000:=by rw [zF1];omega
 refine⟨_,_,_,a0.blk.cell (j:=1) rfl,_,_,_,l.blk.cell (j:=1) rfl,yC (c187 W4 g i ⟨by omega,by omega⟩) ?_⟩
 rintro v w5 ⟨⟨p6,b9,d0,rfl⟩,b3,a5⟩
 have zg:nd (Nat.gcd x.natAbs y.natAbs)<=1000000000000:=by
  by_cases h:x.natAbs=0
  ·rw [h,Nat.gcd_zero_left];omega
  ·exact Nat.le_trans (zBp (Nat.gcd_le_left _ (Nat.pos_of_ne_zero h))) (by omega)
 refine⟨_,_,_,rfl,yC (textV w5 b3 zg (hg.ext (n.trans a5))) ?_⟩
 rintro v w6 ⟨⟨s,rfl,hs⟩,b0⟩
 exact⟨_,rfl,⟨s,rfl,hs⟩,(n.trans a5).trans b0⟩
theorem c147 {q:Rat} (h:dg 400000000 q) (w:World):Ret prog 147 #[qv q] w fun v w'=>v = .bool (decide (q.den=1))/\Ext w w':=by
 have hx:=(yE w).alloc (.cells (qc q).toArray 88)
 have hB:=yN w (qc q) 88
 refine run147 _ _ _ _ _ ⟨_,hB.blk.cell (j:=2) rfl,?_⟩
 rw [zBf]
 refine zAb (fun hf=>?_) (fun hf=>?_)
 ·have hf:fitsQ q=false:=by simpa using hf
  obtain⟨e1,e2,e3⟩:=zCB hf
  have b:bs (qb q)=txtQ q:=by rw [e3,bs_mk]
  have hz:=zB8 h b
  refine⟨_,hB.blk.cell (j:=2) rfl,yC (c178 b (by omega) _) ?_⟩
  rintro v w1 ⟨rfl,he⟩
  exact⟨_,rfl,rfl,hx.trans he⟩
 ·have hf:fitsQ q=true:=by simpa using hf
  obtain⟨e1,e2,e3⟩:=zAM hf
  refine⟨_,hB.blk.cell (j:=1) rfl,?_,hx⟩
  rw [e2]
  congr 1
  rw [Bool.eq_iff_iff,beq_iff_eq,decide_eq_true_eq]
  omega
theorem c144 {q:Rat} (h:dg 400000000 q) (w:World) (hg:Gl w):Ret prog 144 #[qv q] w fun v w'=>v=qv ((q.den:Nat):Rat)/\Ext w w':=by
 have g:=(yE w).alloc (.cells (qc q).toArray 88)
 have m:=(yE (w.alloc (.cells (qc q).toArray 88))).alloc (.cells zq.toArray 88)
 have d:=(yN w (qc q) 88).ext m
 have i:=yN (w.alloc (.cells (qc q).toArray 88)) zq 88
 have b:=g.trans m
 refine run144 _ _ _ _ _ ⟨_,d.blk.cell (j:=2) rfl,?_⟩
 rw [zBf]
 refine zAb (fun hf=>?_) (fun hf=>?_)
 ·have hf:fitsQ q=false:=by simpa using hf
  obtain⟨e1,e2,e3⟩:=zCB hf
  have k:bs (qb q)=txtQ q:=by rw [e3,bs_mk]
  have hz:=zB8 h k
  refine⟨_,d.blk.cell (j:=2) rfl,yC (c174 k (by omega) _ (hg.ext b)) ?_⟩
  rintro v w1 ⟨⟨s,rfl,hs⟩,f⟩
  have n:s.size<=1000000000:=by
   have:=h.2
   rw [zAc,hs,zBe];omega
  refine⟨s,rfl,yC (c104 hs n w1 ((hg.ext b).ext f)) ?_⟩
  rintro v w2 ⟨rfl,l⟩
  obtain⟨p1,p2,p3⟩:=qput ((q.den:Nat):Rat) ((i.ext f).ext l) ((b.trans f).trans l) g.size
  exact⟨_,_,_,rfl,p1,_,_,_,p2,rfl,p3⟩
 ·have hf:fitsQ q=true:=by simpa using hf
  obtain⟨e1,e2,e3⟩:=zAM hf
  obtain⟨f1,f2⟩:=zAF.1 hf
  obtain⟨p1,p2,p3⟩:=qput ((q.den:Nat):Rat) i b g.size
  have e:[Value.int .i64 (i64.wrap (ql q+1)),.int .i64 0,.string { data:=#[] }]=qc ((q.den:Nat):Rat):=by
   have hn:(((q.den:Nat):Rat)).num=q.den:=by rw [<- Rat.intCast_natCast,Rat.num_intCast]
   have hd:(((q.den:Nat):Rat)).den=1:=by rw [<- Rat.intCast_natCast,Rat.den_intCast]
   obtain⟨g1,g2,g3⟩:=zAM (q:=((q.den:Nat):Rat)) (zAF.2 ⟨by rw [hn];omega,by rw [hd];omega⟩)
   unfold qc
   rw [g1,g2,g3,e2,hn,hd,zAd (by omega) (by omega)]
   congr 2;omega
  refine⟨_,d.blk.cell (j:=1) rfl,p1,?_⟩
  rw [e]
  exact⟨_,_,_,p2,rfl,p3⟩
set_option maxHeartbeats 1000000 in
theorem c148 {q:Rat} (h:dg 190000000 q) (w:World) (hg:Gl w):Ret prog 148 #[qv q] w fun v w'=>v=qv ((flo q:Int):Rat)/\Ext w w':=by
 have l:=(yE w).alloc (.cells (qc q).toArray 88)
 have u:=(yE (w.alloc (.cells (qc q).toArray 88))).alloc (.cells zq.toArray 88)
 have d:=(yN w (qc q) 88).ext u
 have m:=yN (w.alloc (.cells (qc q).toArray 88)) zq 88
 have f:=l.trans u
 refine run148 _ _ _ _ _ ⟨_,d.blk.cell (j:=2) rfl,?_⟩
 rw [zBf]
 refine zAb (fun hf=>?_) (fun hf=>?_)
 ·have hf:fitsQ q=false:=by simpa using hf
  obtain⟨e1,e2,e3⟩:=zCB hf
  have g:bs (qb q)=txtQ q:=by rw [e3,bs_mk]
  have hz:=zB8 h g
  refine⟨_,d.blk.cell (j:=2) rfl,yC (c179 g (by omega) _ (hg.ext f)) ?_⟩
  rintro v w1 ⟨⟨s,rfl,hs⟩,i⟩
  have a2:s.size<=1000000000:=by
   have h1:=flo_len q
   rw [<- hs,<- g,<- zAc,<- zAc] at h1
   omega
  refine⟨s,rfl,yC (c104 hs a2 w1 ((hg.ext f).ext i)) ?_⟩
  rintro v w2 ⟨rfl,o⟩
  obtain⟨p1,p2,p3⟩:=qput ((flo q:Int):Rat) ((m.ext i).ext o) ((f.trans i).trans o) l.size
  exact⟨_,_,_,rfl,p1,_,_,_,p2,rfl,p3⟩
 ·have hf:fitsQ q=true:=by simpa using hf
  obtain⟨e1,e2,e3⟩:=zAM hf
  obtain⟨f1,f2⟩:=zAF.1 hf
  obtain⟨p1,p2,p3⟩:=qput ((flo q:Int):Rat) m f l.size
  have x:=q.den_pos
  have ew:i64.wrap (ql q+1)=(q.den:Int):=by rw [e2,zAd (by omega) (by omega)];omega
  have a3:=zCP q
  have p:qc ((flo q:Int):Rat)=[.int .i64 (flo q),.int .i64 0,.string { data:=#[] }]:=by
   obtain⟨g1,g2,g3⟩:=zAM (q:=((flo q:Int):Rat)) (zAF.2 ⟨by rw [Rat.num_intCast];omega,by rw [Rat.den_intCast];omega⟩)
   unfold qc
   rw [g1,g2,g3,Rat.num_intCast,Rat.den_intCast];rfl
  have h1:=Nat.div_add_mod q.num.natAbs q.den
  have h2:=Nat.mod_lt q.num.natAbs x
  have a4:=Nat.div_le_self q.num.natAbs q.den
  obtain⟨k1,k2⟩:=zFB q.num q.den (by omega)
  rw [Int.natAbs_natCast,decide_eq_false (show ¬ ((q.den:Int)<0) by omega)] at k1
  have a0:q.num.tdiv (q.den:Int)=sgn (decide (q.num<0)) (q.num.natAbs / q.den):=by
   by_cases hn:q.num<0
   ·obtain⟨k,hk⟩ : ∃ k:Nat,q.num = -(k:Int):=⟨q.num.natAbs,by omega⟩
    rw [decide_eq_true hn,hk,Int.neg_tdiv,Int.natAbs_neg,Int.natAbs_natCast]
    rfl
   ·obtain⟨k,hk⟩ : ∃ k:Nat,q.num=(k:Int):=⟨q.num.natAbs,by omega⟩
    rw [decide_eq_false hn,hk,Int.natAbs_natCast]
    rfl
  have a1:q.num.tmod (q.den:Int)=sgn (decide (q.num<0)) (q.num.natAbs % q.den):=by
   by_cases hn:q.num<0
   ·obtain⟨k,hk⟩ : ∃ k:Nat,q.num = -(k:Int):=⟨q.num.natAbs,by omega⟩
    rw [decide_eq_true hn,hk,Int.neg_tmod,Int.natAbs_neg,Int.natAbs_natCast]
    rfl
   ·obtain⟨k,hk⟩ : ∃ k:Nat,q.num=(k:Int):=⟨q.num.natAbs,by omega⟩
    rw [decide_eq_false hn,hk,Int.natAbs_natCast]
    rfl
  have c0:((w.alloc (.cells (qc q).toArray 88)).alloc (.cells zq.toArray 88)).cell? ⟨w.heap.size,0,none⟩=some (.int .i64 q.num):=by
   have:=d.blk.cell (j:=0) (v := .int .i64 (qn q)) rfl
   rw [<- e1];exact this
  refine⟨_,d.blk.cell (j:=1) rfl,q.num,c0,?_⟩
  rw [ew,decide_eq_false (show ¬ ((q.den:Int)=0) by omega),cond_false]
  refine⟨q.num,c0,?_⟩
  rw [cond_false,a1,a0]
  have a5:(sgn (decide (q.num<0)) (q.num.natAbs / q.den)).natAbs=q.num.natAbs / q.den:=zB6 _ _
  rw [zAd (n:=sgn (decide (q.num<0)) (q.num.natAbs / q.den)) (by omega) (by omega)]
  refine zAe (fun b=>?_) (fun b=>?_)
  ·have hn:q.num<0:=by
    by_cases hn:q.num<0
    ·exact hn
    ·rw [decide_eq_false hn] at b;simp only [sgn] at b;simp at b;omega
   have hr:q.num.natAbs % q.den≠0:=by
    intro e;rw [e,decide_eq_true hn] at b;simp [sgn] at b
   have ef:flo q=sgn (decide (q.num<0)) (q.num.natAbs / q.den) - 1:=by
    show q.num / (q.den:Int)=_
    rw [k1,if_pos ⟨by simpa using hn,hr⟩,decide_eq_true hn]
    simp only [sgn]
    simp;omega
   rw [zAd (by omega) (by omega),<- ef,<- p]
   exact⟨p1,_,_,_,p2,rfl,p3⟩
  ·have ef:flo q=sgn (decide (q.num<0)) (q.num.natAbs / q.den):=by
    show q.num / (q.den:Int)=_
    have : ¬ (decide (q.num<0)=true/\q.num.natAbs % q.den≠0):=by
     rintro⟨hn,hr⟩
     rw [hn] at b;simp [sgn] at b;omega
    rw [k1,if_neg this,Bool.bne_false]
   rw [<- ef,<- p]
   exact⟨p1,_,_,_,p2,rfl,p3⟩
theorem zGg {z:Int} : fitsQ (z:Rat)=true↔z.natAbs<=9223372036854775807:=by
 rw [zAF,Rat.num_intCast,Rat.den_intCast]
 exact⟨fun h=>h.1,fun h=>⟨h,by decide⟩⟩
theorem qc_int {z:Int} (h:z.natAbs<=9223372036854775807):qc (z:Rat)=[.int .i64 z,.int .i64 0,.string { data:=#[] }]:=by
 obtain⟨g1,g2,g3⟩:=zAM (zGg.2 h)
 unfold qc
 rw [g1,g2,g3,Rat.num_intCast,Rat.den_intCast];rfl
theorem zCR {k:Nat} {z:Int} (h:(dec z.natAbs).length<=k):dg k (z:Rat):=by
 have h1:1<=(dec z.natAbs).length:=List.length_pos_iff.2 (zBa _)
 refine⟨by rw [Rat.num_intCast];exact h,?_⟩
 rw [Rat.den_intCast,zBx];simp only [List.length_singleton];omega
theorem int_dg {k:Nat} {z:Int} (h:dg k (z:Rat)):(dec z.natAbs).length<=k:=by
 have:=h.1;rw [Rat.num_intCast] at this;exact this
set_option maxHeartbeats 1000000 in
theorem c145 {x y:Int} (hx:dg 190000000 (x:Rat)) (hy:dg 190000000 (y:Rat)) (w:World) (hg:Gl w):Ret prog 145 #[qv (x:Rat),qv (y:Rat)] w fun v w'=>v=qv ((Nat.gcd x.natAbs y.natAbs:Nat):Rat)/\Ext w w':=by
 have a3:=(yE w).alloc (.cells (qc (x:Rat)).toArray 88)
 have g:=(yE (w.alloc (.cells (qc (x:Rat)).toArray 88))).alloc (.cells (qc (y:Rat)).toArray 88)
 have i:=(yE ((w.alloc (.cells (qc (x:Rat)).toArray 88)).alloc (.cells (qc (y:Rat)).toArray 88))).alloc (.cells zq.toArray 88)
 have n:=((yN w (qc (x:Rat)) 88).ext g).ext i
 have o:=(yN (w.alloc (.cells (qc (x:Rat)).toArray 88)) (qc (y:Rat)) 88).ext i
 have a5:=yN ((w.alloc (.cells (qc (x:Rat)).toArray 88)).alloc (.cells (qc (y:Rat)).toArray 88)) zq 88
 have a9:=(a3.trans g).trans i
 have a2:=(a3.trans g).size
 have hd:=(yE (((w.alloc (.cells (qc (x:Rat)).toArray 88)).alloc (.cells (qc (y:Rat)).toArray 88)).alloc (.cells zq.toArray 88))).drew
 have d:=a9.trans hd
 have k:=n.ext hd
 have l:=o.ext hd
 have m:=a5.ext hd
 have cN:(((Nat.gcd x.natAbs y.natAbs:Nat):Rat))=((((Nat.gcd x.natAbs y.natAbs:Nat):Int)):Rat):=(Rat.intCast_natCast _).symm
 refine run145 _ _ _ _ _ _ _ _ fun K hK=>?_
 have big:K [.bool false] (((w.alloc (.cells (qc (x:Rat)).toArray 88)).alloc (.cells (qc (y:Rat)).toArray 88)).alloc (.cells zq.toArray 88)):=by
  refine hK false ?_
  rw [cond_false]
  intro K2 a7
  refine⟨_,_,_,k.blk.all,_,_,_,l.blk.all,yC (c76 (hx.mono (by decide)) _ (hg.ext d)) ?_⟩
  rintro v w6 ⟨⟨s,rfl,hs⟩,b⟩
  refine⟨s,rfl,b,yC (c76 (hy.mono (by decide)) w6 (hg.ext (d.trans b))) ?_⟩
  rintro v w7 ⟨⟨t,rfl,ht⟩,f⟩
  have zs:=zB8 hx hs
  have zt:=zB8 hy ht
  refine⟨t,rfl,yC (c177 hs ht ⟨by omega,by omega⟩ w7 (hg.ext ((d.trans b).trans f))) ?_⟩
  rintro v w8 ⟨⟨u,rfl,hu⟩,a0⟩
  have a4:=((d.trans b).trans f).trans a0
  rw [<- zBe] at hu
  have zu:u.size<=1000000000:=by
   rw [zAc,hu,zBe]
   have l1:=int_dg hx
   have l2:=int_dg hy
   by_cases h:x.natAbs=0
   ·rw [h,Nat.gcd_zero_left];omega
   ·have:=zAu (Nat.gcd_le_left y.natAbs (Nat.pos_of_ne_zero h));omega
  refine⟨u,rfl,yC (c104 hu zu w8 (hg.ext a4)) ?_⟩
  rintro v w9 ⟨rfl,a1⟩
  obtain⟨p1,p2,p3⟩:=qput ((Nat.gcd x.natAbs y.natAbs:Nat):Rat) ((((m.ext b).ext f).ext a0).ext a1) (a4.trans a1) a2
  exact⟨_,_,_,rfl,p1,a7 _ ⟨_,_,_,p2,rfl,p3⟩⟩
 refine⟨_,n.blk.cell (j:=2) rfl,?_⟩
 rw [zBf]
 refine zAb (fun hf=>?_) (fun hf=>big)
 have fx:=zGg.1 hf
 refine⟨_,o.blk.cell (j:=2) rfl,?_⟩
 rw [zBf]
 cases hf2:fitsQ (y:Rat) with
 | false=>exact big
 | true =>
 have fy:=zGg.1 hf2
 refine hK true ?_
 rw [cond_true]
 intro K1 a6
 have c1:=k.blk.cell (j:=0) (v := .int .i64 x) (by rw [qc_int fx];rfl)
 have c2:=l.blk.cell (j:=0) (v := .int .i64 y) (by rw [qc_int fy];rfl)
 refine⟨x,c1,y,c2,yC (c176 x fx _) ?_⟩
 rintro v w2 ⟨rfl,rfl⟩
 refine⟨_,rfl,yE _,yC (c176 y fy _) ?_⟩
 rintro v w3 ⟨rfl,rfl⟩
 refine⟨_,rfl,yC (c175 x.natAbs y.natAbs _) ?_⟩
 rintro v w4 ⟨rfl,p⟩
 have a8:Nat.gcd x.natAbs y.natAbs<=9223372036854775807:=by
  by_cases h:x.natAbs=0
  ·rw [h,Nat.gcd_zero_left];omega
  ·exact Nat.le_trans (Nat.gcd_le_left _ (Nat.pos_of_ne_zero h)) fx
 obtain⟨p1,p2,p3⟩:=qput ((Nat.gcd x.natAbs y.natAbs:Nat):Rat) (m.ext p) (d.trans p) a2
 refine⟨_,rfl,p1,?_⟩
 rw [zAd (by omega) (by omega)]
 have e:=qc_int (z:=((Nat.gcd x.natAbs y.natAbs:Nat):Int)) (by rw [Int.natAbs_natCast];exact a8)
 rw [<- cN] at e
 rw [<- e]
 exact a6 _ ⟨_,_,_,p2,rfl,p3⟩
theorem zCF {k:Nat} {n:Nat} (h:(dec n).length<=k):dg k ((n:Nat):Rat):=by
 rw [<- Rat.intCast_natCast];exact zCR (by rw [Int.natAbs_natCast];exact h)
theorem dg_nat {k:Nat} {n:Nat} (h:dg k ((n:Nat):Rat)):(dec n).length<=k:=by
 rw [<- Rat.intCast_natCast] at h
 have:=int_dg h
 rw [Int.natAbs_natCast] at this;exact this
set_option maxHeartbeats 1000000 in
theorem c143 {x y:Nat} (hx:dg 80000000 ((x:Nat):Rat)) (hy:dg 80000000 ((y:Nat):Rat)) (h0:x≠0) (w:World) (hg:Gl w):Ret prog 143 #[qv ((x:Nat):Rat),qv ((y:Nat):Rat)] w fun v w'=>v=qv ((Nat.lcm x y:Nat):Rat)/\Ext w w':=by
 have s:=(yE w).alloc (.cells (qc ((x:Nat):Rat)).toArray 88)
 have i:=(yE (w.alloc (.cells (qc ((x:Nat):Rat)).toArray 88))).alloc (.cells (qc ((y:Nat):Rat)).toArray 88)
 have j:=(yE ((w.alloc (.cells (qc ((x:Nat):Rat)).toArray 88)).alloc (.cells (qc ((y:Nat):Rat)).toArray 88))).alloc (.cells zq.toArray 88)
 have a0:=((yN w (qc ((x:Nat):Rat)) 88).ext i).ext j
 have a1:=(yN (w.alloc (.cells (qc ((x:Nat):Rat)).toArray 88)) (qc ((y:Nat):Rat)) 88).ext j
 have a2:=yN ((w.alloc (.cells (qc ((x:Nat):Rat)).toArray 88)).alloc (.cells (qc ((y:Nat):Rat)).toArray 88)) zq 88
 have a5:=(s.trans i).trans j
 have a4:=(s.trans i).size
 have hd:=(yE (((w.alloc (.cells (qc ((x:Nat):Rat)).toArray 88)).alloc (.cells (qc ((y:Nat):Rat)).toArray 88)).alloc (.cells zq.toArray 88))).drew
 have f:=a5.trans hd
 have l:=a0.ext hd
 have m:=a1.ext hd
 have u:=a2.ext hd
 refine run143 _ _ _ _ _ _ _ _ fun K hK=>?_
 refine⟨_,_,_,l.blk.all,_,_,_,l.blk.all,_,_,_,m.blk.all,_,_,_,m.blk.all,?_⟩
 have hI:=c145 (x:=(x:Int)) (y:=(y:Int)) (by rw [Rat.intCast_natCast];exact hx.mono (by decide)) (by rw [Rat.intCast_natCast];exact hy.mono (by decide)) _ (hg.ext f)
 rw [Rat.intCast_natCast,Rat.intCast_natCast,Int.natAbs_natCast,Int.natAbs_natCast] at hI
 refine yC hI ?_
 rintro v w2 ⟨rfl,b⟩
 have g:Nat.gcd x y≠0:=fun h=>h0 (Nat.eq_zero_of_gcd_eq_zero_left h)
 have p:((Nat.gcd x y:Nat):Rat)≠0:=fun h=>g (by exact_mod_cast h)
 have dgg:dg 80000000 ((Nat.gcd x y:Nat):Rat):=zCF (by
  have:=zAu (Nat.gcd_le_left y (Nat.pos_of_ne_zero h0))
  have:=dg_nat hx;omega)
 refine⟨_,_,_,rfl,b,yC (c146 (hx.mono (by decide)) (dgg.mono (by decide)) p w2 (hg.ext (f.trans b))) ?_⟩
 rintro v w3 ⟨rfl,d⟩
 obtain⟨k,hk⟩:=Nat.gcd_dvd_left x y
 have ek:((x:Nat):Rat)*(((Nat.gcd x y:Nat):Rat))⁻¹=((k:Nat):Rat):=by
  have h1:((x:Nat):Rat)=((Nat.gcd x y:Nat):Rat)*((k:Nat):Rat):=by
   have:=congrArg (fun n:Nat=>(n:Rat)) hk
   simp only [Rat.natCast_mul] at this
   exact this
  rw [h1,Rat.mul_comm _ ((k:Nat):Rat),Rat.mul_assoc,Rat.mul_inv_cancel _ p,Rat.mul_one]
 rw [ek]
 have a3:k<=x:=by
  have:1*k<=Nat.gcd x y*k:=Nat.mul_le_mul_right _ (Nat.pos_of_ne_zero g)
  omega
 have dk:dg 80000000 ((k:Nat):Rat):=zCF (by
  have:=zAu a3
  have:=dg_nat hx;omega)
 refine⟨_,_,_,rfl,b.trans d,yC (c113 (dk.mono (by decide)) (hy.mono (by decide)) w3 (hg.ext ((f.trans b).trans d))) ?_⟩
 rintro v w4 ⟨rfl,o⟩
 have el:((k:Nat):Rat)*((y:Nat):Rat)=((Nat.lcm x y:Nat):Rat):=by
  rw [<- Rat.natCast_mul]
  congr 1
  unfold Nat.lcm
  have:x*y=Nat.gcd x y*(k*y):=by
   conv=>lhs;rw [hk]
   rw [Nat.mul_assoc]
  rw [this,Nat.mul_div_cancel_left _ (Nat.pos_of_ne_zero g)]
 rw [el]
 obtain⟨p1,p2,p3⟩:=qput ((Nat.lcm x y:Nat):Rat) (((u.ext b).ext d).ext o) (((f.trans b).trans d).trans o) a4
 exact⟨_,_,_,rfl,p1,hK _ ⟨_,_,_,p2,rfl,p3⟩⟩
end Go.Proofs.Si
namespace Go.Proofs.Si
open Go Go.V Go.Proofs Go.RowKit Go.Num Go.Tb Go.Proofs.Tryz
set_option maxRecDepth 100000
theorem zDA {C:Nat->Rat} {d:Nat} : ∀ {n:Nat},(∀ k,k<n->dg d (C k))->(dec (lcmD C n)).length<=1+n*d
 | 0,_=>by rw [lcmD,zAv (by omega)];simp
 | n+1,h=>by
  have ih:=zDA (C:=C) (d:=d) (n:=n) fun k hk=>h k (by omega)
  have h1:lcmD C (n+1)<=lcmD C n*(C n).den:=Nat.div_le_self _ _
  have h2:=(h n (by omega)).2
  have h3:=zBh (lcmD C n)
  have h4:=zBh (C n).den
  have h5:lcmD C (n+1)<10 ^ ((dec (lcmD C n)).length+(dec (C n).den).length):=by
   rw [Nat.pow_add]
   exact Nat.lt_of_le_of_lt h1 (Nat.mul_lt_mul'' h3 h4)
  have hp:0<(dec (lcmD C n)).length:=List.length_pos_iff.2 (zBa _)
  have:=(zA8 (by omega)).2 h5
  rw [Nat.add_mul,Nat.one_mul]
  omega
theorem zDE {C:Nat->Rat} {l D:Nat} (hD:0<D) : ∀ {n:Nat},(∀ k,k<n->dg D (C k*((l:Nat):Rat)))->(dec (gcdD C l n)).length<=D
 | 0,_=>by rw [gcdD,zAv (by omega)];simp;omega
 | n+1,h=>by
  have ih:=zDE (C:=C) (l:=l) hD (n:=n) fun k hk=>h k (by omega)
  rw [gcdD]
  by_cases e:gcdD C l n=0
  ·rw [e,Nat.gcd_zero_left];exact (h n (by omega)).1
  ·have hle:=Nat.gcd_le_left (C n*(l:Nat)).num.natAbs (Nat.pos_of_ne_zero e)
   have h1:=Nat.lt_of_le_of_lt hle (zBh (gcdD C l n))
   have hp:0<(dec (gcdD C l n)).length:=List.length_pos_iff.2 (zBa _)
   have:=(zA8 hp).2 h1
   omega
theorem c141 {a:OA} {f:Nat->Rat} {n c:Nat} (hn:n<=1048576) (hd : ∀ j,j<n->dg 400000000 (f j)) (w:World) (hs:QS w a f n) (hg:Gl w) :
  Ret prog 141 #[.slice a n c] w fun v w'=>(∃ b,v = .bool b/\(b=true↔∀ j,j<n->f j=0))/\Ext w w':=by
 refine run141 _ _ _ _ _ ⟨fun vals w1=>∃ i:Nat,vals=[.int .i64 i]/\i<=n/\(∀ k,k<i->f k=0)/\Ext w w1,mu1 n,⟨0,rfl,Nat.zero_le _,fun k hk=>by omega,yE _⟩,?_⟩
 rintro m w1 ⟨i,hv,hi,g,he⟩
 cases hv
 refine zAe (fun p=>?_) (fun s=>⟨⟨true,rfl,by simp only [true_iff];exact fun k hk=>g k (by omega)⟩,he⟩)
 have d:i<n:=by omega
 obtain⟨b,o,ha,hc⟩:=(hs.ext he).get d
 have hN:=yN w1 zq 88
 have hx:Ext w (setCells (w1.alloc (.cells zq.toArray 88)) ⟨w1.heap.size,0,none⟩ 0 (qc (f i))):=(he.alloc _).put he.size _ _
 refine⟨_,ha,⟨by omega,p⟩,_,_,_,hc,hN.blk.writable (by decide),_,_,_,(hN.put (qc (f i)) (by rfl)).blk.all,yC (c75 (hd i d) _ (hg.ext hx)) ?_⟩
 rintro v w2 ⟨rfl,l⟩
 refine⟨_,rfl,?_⟩
 by_cases h0:f i=0
 ·rw [Tb.sgnQ_zero.2 h0,show ((0:Int) != 0)=false from rfl,cond_false,zAf (by omega)]
  refine⟨⟨i+1,rfl,d,fun k hk=>?_,hx.trans l⟩,by simp only [mu1,yT];omega⟩
  by_cases e:k=i
  ·rw [e];exact h0
  ·exact g k (by omega)
 ·rw [show (Tb.sgnQ (f i) != 0)=true by simpa using fun h=>h0 (Tb.sgnQ_zero.1 h),cond_true]
  exact⟨⟨false,rfl,by simp only [Bool.false_eq_true,false_iff];exact fun h=>h0 (h i d)⟩,hx.trans l⟩
abbrev z90:List Value:=[.slice none 0 0,.int .i64 0,.int .i64 0,.int .i64 0,.string { data:=#[] }]
def r90 (p:OA) (n c:Nat) (rel:Int) (K:Rat):List Value:=[.slice p n c,.int .i64 rel,.int .i64 (qn K),.int .i64 (ql K),.string (qb K)]
def v90 (p:OA) (n c:Nat) (rel:Int) (K:Rat):Value := .agg #[.slice p n c,.int .i64 rel,.int .i64 (qn K),.int .i64 (ql K),.string (qb K)]
theorem c142 {n:Nat} {k:Int} (hn:n<=1048576) (hk:k.natAbs<=9223372036854775807) (w:World) (hg:Gl w) :
  Ret prog 142 #[.int .i64 n,.int .i64 k] w fun v w'=>∃ b,v=v90 (some ⟨b,0,none⟩) n n 1 (k:Rat)/\w.heap.size<b/\Box w' b 88 (QL (fun _=>0) n)/\Ext w w':=by
 have z1:=(yE w).alloc (.cells z90.toArray 90)
 have hN:=yN w z90 90
 have zd:=(yE (w.alloc (.cells z90.toArray 90))).drew
 have e0:madeCells (Value.agg #[Value.int .i64 0,.int .i64 0,.string { data:=#[] }]).cells (n*3)=(QL (fun _=>0) n).toArray:=zEd n
 refine run142 _ _ _ _ fun K hK=>?_
 simp only [yT,zFx]
 rw [e0]
 have fin : ∀ w2 b,Box w2 w.heap.size 90 z90->Box w2 b 88 (QL (fun _=>0) n)->w.heap.size<b->Ext w w2->K [] (setCells w2 ⟨w.heap.size,0,none⟩ 0 (r90 (some ⟨b,0,none⟩) n n 1 (k:Rat))):=by
  intro w2 b hB hQ h hx
  have hP:=hB.put (r90 (some ⟨b,0,none⟩) n n 1 (k:Rat)) (by rfl)
  refine hK _ ⟨_,_,_,_,_,_,_,hP.blk.all,_,rfl,h,?_,hx.put yL _ _⟩
  exact hQ.same (zAk (b:=w.heap.size) (o:=0) (k:=b) (by omega) _ 0)
 have bnd:(0<=(n:Int)/\(n:Int)<=(n:Int)/\32*(n:Int)<=281474976710656/\(n:Int)<=9223372036854775807):=⟨by omega,by omega,by omega,by omega⟩
 refine⟨⟨bnd,?_⟩,?_⟩
 ·have zz:=(yE (w.alloc (.cells z90.toArray 90)).drew).alloc (.cells (QL (fun _=>0) n).toArray 88)
  have hQ:=yN (w.alloc (.cells z90.toArray 90)).drew (QL (fun _=>0) n) 88
  refine yC (c130 k hk _ (hg.ext ((z1.trans zd).trans zz))) ?_
  rintro v w2 ⟨rfl,d⟩
  exact⟨_,_,_,rfl,(((hN.ext zd).ext zz).ext d).blk.writable (by decide),fin _ _ (((hN.ext zd).ext zz).ext d) (hQ.ext d) (hN.ext zd).lt (((z1.trans zd).trans zz).trans d)⟩
 ·refine yC (c130 k hk _ (hg.ext (z1.trans zd))) ?_
  rintro v w3 ⟨rfl,f⟩
  have zz:=(yE w3).alloc (.cells (QL (fun _=>0) n).toArray 88)
  have hQ:=yN w3 (QL (fun _=>0) n) 88
  have g:=((hN.ext zd).ext f).ext zz
  exact⟨_,_,_,rfl,bnd,g.blk.writable (by decide),fin _ _ g hQ ((hN.ext zd).ext f).lt (((z1.trans zd).trans f).trans zz)⟩
theorem r90_len (p:OA) (n c:Nat) (rel:Int) (K:Rat):(r90 p n c rel K).length=5:=rfl
theorem r90_k {w:World} {b ty:Nat} {p:OA} {n c:Nat} {rel:Int} {K:Rat} (h:Box w b ty (r90 p n c rel K)):vcells w ⟨b,2,none⟩ 0 (qc K):=h.blk.vcells fun j hj=>by
 have:j<3:=hj
 match j,this with
 | 0,_=>rfl
 | 1,_=>rfl
 | 2,_=>rfl
theorem r90_put {w:World} {b ty:Nat} {p:OA} {n c:Nat} {rel:Int} {K K' : Rat} (h:Box w b ty (r90 p n c rel K)):writable w ⟨b,2,none⟩ 3/\Box (setCells w ⟨b,2,none⟩ 0 (qc K')) b ty (r90 p n c rel K'):=by
 refine⟨h.blk.writable (by rw [r90_len];decide),?_⟩
 exact h.setCells (o:=2) (qc K') 0
set_option maxHeartbeats 4000000 in
theorem c97 {C:Nat->Rat} {n rel d cc:Nat} {K:Rat} {ra:OA} (hn:n<=40) (hrel:1<=rel/\rel<=3) (hd:0<d/\d<=20000) (hC : ∀ j,j<n->dg d (C j)) (hK:dg 1000000 K) (w:World) (hQ:QS w ra C n) (hg:Gl w) :
  Ret prog 97 #[v90 ra n cc (rel:Int) K] w fun v w'=>∃ p c' b,v = .tuple #[v90 p n c' (tRel n C rel:Nat) (tK n C rel K),.bool b]/\(b=true↔tOk n C rel K)/\w'.ownsRow w.heap.size 88 3 (.slice p n c') n (QL (tC n C) n)/\Ext w w':=by
 have z1:=(yE w).alloc (.cells (r90 ra n cc rel K).toArray 90)
 have bA:=yN w (r90 ra n cc rel K) 90
 refine run97 _ _ _ _ _ _ _ _ _ ?_
 unfold vc97
 rw [show (Obj.cells #[Value.slice ra n cc,.int .i64 (rel:Int),.int .i64 (qn K),.int .i64 (ql K),.string (qb K)] 90) = .cells (r90 ra n cc rel K).toArray 90 from rfl]
 generalize w.alloc (.cells (r90 ra n cc rel K).toArray 90)=W1 at z1 bA ⊢
 have z2:=(yE W1).alloc (.cells z90.toArray 90)
 have bO:=yN W1 z90 90
 rw [show (Obj.cells #[Value.slice none 0 0,.int .i64 0,.int .i64 0,.int .i64 0,.string { data:=#[] }] 90) = .cells z90.toArray 90 from rfl]
 have l0:=bA.ext z2
 have lA:=bA.lt
 generalize W1.alloc (.cells z90.toArray 90)=W2 at z2 bO l0 ⊢
 have lO:=bO.lt
 have m9:=z1.trans z2
 have p3:n<=1048576:=by omega
 refine⟨_,_,_,l0.blk.cell (j:=0) rfl,yC (c141 p3 (fun j hj=>(hC j hj).mono (by omega)) W2 (hQ.ext m9) (hg.ext m9)) ?_⟩
 rintro v w1 ⟨⟨b,rfl,hb⟩,m1⟩
 have h5:=m9.trans m1
 have l1:=l0.ext m1
 have o2:=bO.ext m1
 refine⟨_,rfl,zAb (fun s3=>?_) (fun p0=>?_)⟩
 ·
  have hz:=hb.1 s3
  refine⟨_,_,_,r90_k l1,yC (c75 (hK.mono (by decide)) w1 (hg.ext h5)) ?_⟩
  rintro v w2 ⟨rfl,m2⟩
  have n0:=h5.trans m2
  have h9:=l1.ext m2
  have o3:=o2.ext m2
  refine⟨_,rfl,fun K1 f9=>?_⟩
  have main : ∀ b1:Bool,(b1=true↔tOk n C rel K)->K1 [.bool b1] w2:=by
   intro b1 s2
   refine f9 b1 ⟨_,_,_,h9.blk.cell (j:=0) rfl,yC (c142 (k:=0) p3 (by decide) w2 (hg.ext n0)) ?_⟩
   rintro v w3 ⟨bz,rfl,d9,hq,p2⟩
   have f7:=o3.ext p2
   have hP:=f7.put (r90 (some ⟨bz,0,none⟩) n n 1 ((0:Int):Rat)) (by rfl)
   have j1:=n0.trans p2
   refine⟨_,_,_,_,_,_,_,rfl,f7.blk.writable (by decide),_,_,_,_,_,_,_,hP.blk.all,some ⟨bz,0,none⟩,n,b1,?_,s2,?_,j1.put (by omega) _ _⟩
   ·have e1:tRel n C rel=1:=by unfold tRel;rw [if_pos hz]
    have e2:tK n C rel K=((0:Int):Rat):=by unfold tK;rw [if_pos hz];rfl
    rw [e1,e2];rfl
   ·have e3:tC n C=fun _=>0:=by funext j;unfold tC;rw [if_pos hz]
    rw [e3]
    have b9:bz≠W1.heap.size:=by have:=o3.lt;omega
    have hB:=hq.same (zAk (b:=W1.heap.size) (o:=0) (k:=bz) b9 (r90 (some ⟨bz,0,none⟩) n n 1 ((0:Int):Rat)) 0)
    exact zBo (zET (n:=n) (size:=3) hB (by rw [zAL,Nat.mul_comm]) (by unfold maxLen;omega)) (by have:=n0.size;omega)
  have ht:tOk n C rel K↔(rel=1/\0<=K)\/(rel=2/\0<K)\/(rel=3/\K=0):=by unfold tOk;rw [if_pos hz]
  have g7:(0<=Tb.sgnQ K)↔0<=K:=by
   rw [<- Rat.not_lt,<- Tb.sgnQ_neg];omega
  have hgt:(0<Tb.sgnQ K)↔0<K:=⟨fun h=>Tb.sgnQ_pos.1 h,fun h=>Tb.sgnQ_pos.2 h⟩
  refine⟨_,h9.blk.cell (j:=1) rfl,zAb (fun h=>main true ?_) (fun h1=>⟨_,h9.blk.cell (j:=1) rfl,zAb (fun h=>main true ?_) (fun h2=>⟨_,h9.blk.cell (j:=1) rfl,main _ ?_⟩)⟩)⟩
  ·simp only [Bool.and_eq_true,beq_iff_eq,decide_eq_true_eq] at h
   rw [ht]
   simp only [true_iff]
   exact .inl ⟨by omega,g7.1 h.2⟩
  ·simp only [Bool.and_eq_true,beq_iff_eq,decide_eq_true_eq] at h
   rw [ht]
   simp only [true_iff]
   exact .inr (.inl ⟨by omega,hgt.1 h.2⟩)
  ·rw [ht]
   simp only [Bool.and_eq_true,beq_iff_eq,Tb.sgnQ_zero]
   simp only [Bool.and_eq_false_iff,beq_eq_false_iff_ne,decide_eq_false_iff_not] at h1 h2
   constructor
   ·rintro⟨h3,h4⟩;exact .inr (.inr ⟨by omega,h4⟩)
   ·rintro (⟨h3,h4⟩ | ⟨h3,h4⟩ | ⟨h3,h4⟩)
    ·rcases h1 with h1 | h1
     ·omega
     ·exact absurd (g7.2 h4) h1
    ·rcases h2 with h2 | h2
     ·omega
     ·exact absurd (hgt.2 h4) h2
    ·exact⟨by omega,h4⟩
 have p5 : ∃ j,j<n/\C j≠0:=Classical.byContradiction fun h=>by
  have:b=true:=hb.2 fun j hj=>Classical.byContradiction fun e=>h ⟨j,hj,e⟩
  rw [this] at p0;cases p0
 have a7 : ¬ ∀ j,j<n->C j=0:=fun h=>by obtain⟨j,hj,e⟩:=p5;exact e (h j hj)
 obtain⟨l,hl⟩ : ∃ l,l=lcmD C n:=⟨_,rfl⟩
 obtain⟨g,g6⟩ : ∃ g,g=gcdD C l n:=⟨_,rfl⟩
 have s6:0<l:=by rw [hl];exact zCu C n
 have s4:g≠0:=by rw [g6];exact zFa s6 p5
 have g2 : ∀ k,k<=n->dg 800001 ((lcmD C k:Nat):Rat):=fun k hk=>zCF (by
  have h1:=zDA (C:=C) (d:=d) (n:=k) fun j hj=>hC j (by omega)
  have h2:k*d<=40*20000:=Nat.mul_le_mul (by omega) hd.2
  omega)
 have o8 : ∀ j,j<n->dg 820002 (C j*((l:Nat):Rat)):=fun j hj=>((hC j hj).mul (hl▸g2 n yL)).mono (by omega)
 have g1 : ∀ k,k<=n->dg 820002 ((gcdD C l k:Nat):Rat):=fun k hk=>zCF (zDE (by decide) fun j hj=>o8 j (by omega))
 obtain⟨f,hf⟩ : ∃ f,f=((l:Nat):Rat)*(((g:Nat):Rat))⁻¹:=⟨_,rfl⟩
 have m5:f=facT n C:=by rw [hf,g6,hl];rfl
 have i8:dg 1620005 f:=by
  rw [hf,g6]
  exact ((hl▸g2 n yL).mul (g1 n yL).inv).mono (by decide)
 refine yC (c130 1 (by decide) w1 (hg.ext h5)) ?_
 rintro v w4 ⟨rfl,j0⟩
 refine⟨_,_,_,rfl,yC (c130 0 (by decide) w4 (hg.ext (h5.trans j0))) ?_⟩
 rintro v w5 ⟨rfl,m3⟩
 have j1:=(h5.trans j0).trans m3
 have n5:=(l1.ext j0).ext m3
 have f7:=(o2.ext j0).ext m3
 refine⟨_,_,_,rfl,?_⟩
 have zL:=(yE w5).alloc (.cells zq.toArray 88)
 have bL:=yN w5 zq 88
 have sL:(w5.alloc (.cells zq.toArray 88)).heap.size=w5.heap.size+1:=size_alloc ..
 generalize eE:w5.alloc (.cells zq.toArray 88)=E at zL bL sL ⊢
 have zG:=(yE E).alloc (.cells zq.toArray 88)
 have bG:=yN E zq 88
 have o1:=bL.ext zG
 have r7:=o1.put (qc ((1:Int):Rat)) (by rfl)
 have n9:=bG.same (zAk (b:=w5.heap.size) (o:=0) (k:=E.heap.size) (by omega) (qc ((1:Int):Rat)) 0)
 have l4:=n9.put (qc ((0:Int):Rat)) (by rfl)
 have l5:=r7.same (zAk (b:=E.heap.size) (o:=0) (k:=w5.heap.size) (by omega) (qc ((0:Int):Rat)) 0)
 have x1:Ext w5 (setCells (E.alloc (.cells zq.toArray 88)) ⟨w5.heap.size,0,none⟩ 0 (qc ((1:Int):Rat))):=(zL.trans zG).put yL _ _
 have x2:Ext w5 (setCells (setCells (E.alloc (.cells zq.toArray 88)) ⟨w5.heap.size,0,none⟩ 0 (qc ((1:Int):Rat))) ⟨E.heap.size,0,none⟩ 0 (qc ((0:Int):Rat))):=x1.put (by omega) _ _
 refine⟨o1.blk.writable (by decide),n9.blk.writable (by decide),?_⟩
 have e1:(((1:Int):Rat))=((lcmD C 0:Nat):Rat):=rfl
 have e0:(((0:Int):Rat))=((gcdD C l 0:Nat):Rat):=rfl
 rw [e1,e0] at l5 x2 l4
 rw [e1,e0]
 change ∃ p4 k8 k9,(setCells (setCells (E.alloc (.cells zq.toArray 88)) ⟨w5.heap.size,0,none⟩ 0 (qc ((lcmD C 0:Nat):Rat))) ⟨E.heap.size,0,none⟩ 0 (qc ((gcdD C l 0:Nat):Rat))).cell? _=some (.slice p4 k8 k9)/\∃ (I:List Value->World->Prop) (μ:List Value->World->Nat),I [.int .i64 0] (setCells (setCells (E.alloc (.cells zq.toArray 88)) ⟨w5.heap.size,0,none⟩ 0 (qc ((lcmD C 0:Nat):Rat))) ⟨E.heap.size,0,none⟩ 0 (qc ((gcdD C l 0:Nat):Rat)))/\_
 generalize setCells (setCells (E.alloc (.cells zq.toArray 88)) ⟨w5.heap.size,0,none⟩ 0 (qc ((lcmD C 0:Nat):Rat))) ⟨E.heap.size,0,none⟩ 0 (qc ((gcdD C l 0:Nat):Rat))=W6 at l5 x2 l4 ⊢
 have n6:=n5.ext x2
 have r8:=f7.ext x2
 have s9:=j1.trans x2
 have u7:=n5.lt
 have u8:=f7.lt
 have u9:=j1.size
 generalize hbl:w5.heap.size=bl at *
 generalize hbg:E.heap.size=bg at *
 refine⟨_,_,_,n6.blk.cell (j:=0) rfl,fun vals w6=>∃ j:Nat,vals=[.int .i64 j]/\j<=n/\Box w6 bl 88 (qc ((lcmD C j:Nat):Rat))/\Box w6 bg 88 (qc ((gcdD C l 0:Nat):Rat))/\Box w6 w.heap.size 90 (r90 ra n cc rel K)/\Box w6 W1.heap.size 90 z90/\Ext w w6,mu1 n,⟨0,rfl,Nat.zero_le _,l5,l4,n6,r8,s9⟩,?_⟩
 rintro m w6 ⟨j,hv,hj,i5,o0,l2,o5,j2⟩
 cases hv
 refine zAe (fun d9=>?_) (fun g7=>?_)
 ·have d8:j<n:=by omega
  obtain⟨q9,qo,ha,hc⟩:=(hQ.ext j2).get d8
  have bN:=yN w6 zq 88
  have s:Ext w6 (setCells (w6.alloc (.cells zq.toArray 88)) ⟨w6.heap.size,0,none⟩ 0 (qc (C j))).drew:=(((yE w6).alloc _).put yL _ _).drew
  have e6:=(bN.put (qc (C j)) (by rfl)).ext (yE _).drew
  refine⟨_,ha,⟨by omega,d9⟩,_,_,_,hc,bN.blk.writable (by decide),fun K1 f9=>?_⟩
  have l6:=i5.ext s
  have h7:=j2.trans s
  refine⟨_,_,_,l6.blk.all,_,_,_,e6.blk.all,yC (c144 ((hC j d8).mono (by omega)) _ (hg.ext h7)) ?_⟩
  rintro v w8 ⟨rfl,b7⟩
  refine⟨_,_,_,rfl,b7,yC (c143 ((g2 j (by omega)).mono (by decide)) ((zCF (hC j d8).2).mono (by omega)) (Nat.ne_of_gt (zCu C j)) w8 (hg.ext (h7.trans b7))) ?_⟩
  rintro v w9 ⟨rfl,m4⟩
  have a1:=s.trans (b7.trans m4)
  have i1:=i5.ext a1
  have lL:=i5.lt
  have i0:=o0.ext a1
  refine⟨_,_,_,rfl,i1.blk.writable (Nat.le_refl 3),f9 _ ?_⟩
  rw [zAf (by omega)]
  refine⟨⟨j+1,rfl,d8,i1.put _ (by rfl),i0.same (zAk (b:=bl) (o:=0) (k:=bg) (by omega) _ 0),(l2.ext a1).same (zAk (b:=bl) (o:=0) (k:=w.heap.size) (by omega) _ 0),(o5.ext a1).same (zAk (b:=bl) (o:=0) (k:=W1.heap.size) (by omega) _ 0),(j2.trans a1).put (by omega) _ _⟩,by simp only [mu1,yT];omega⟩
 have d8:j=n:=by omega
 subst d8
 refine⟨_,_,_,l2.blk.cell (j:=0) rfl,fun vals w7=>∃ i:Nat,vals=[.int .i64 i]/\i<=j/\Box w7 bl 88 (qc ((l:Nat):Rat))/\Box w7 bg 88 (qc ((gcdD C l i:Nat):Rat))/\Box w7 w.heap.size 90 (r90 ra j cc rel K)/\Box w7 W1.heap.size 90 z90/\Ext w w7,mu1 j,⟨0,rfl,Nat.zero_le _,hl▸i5,o0,l2,o5,j2⟩,?_⟩
 rintro m w7 ⟨i,hv,hi,i2,e5,n7,o4,h6⟩
 cases hv
 refine zAe (fun d9=>?_) (fun g7=>?_)
 ·have b8:i<j:=by omega
  obtain⟨q9,qo,ha,hc⟩:=(hQ.ext h6).get b8
  have bN:=yN w7 zq 88
  have s:Ext w7 (setCells (w7.alloc (.cells zq.toArray 88)) ⟨w7.heap.size,0,none⟩ 0 (qc (C i))).drew:=(((yE w7).alloc _).put yL _ _).drew
  have e6:=(bN.put (qc (C i)) (by rfl)).ext (yE _).drew
  refine⟨_,ha,⟨by omega,d9⟩,_,_,_,hc,bN.blk.writable (by decide),fun K1 f9=>?_⟩
  have l6:=i2.ext s
  have r6:=e5.ext s
  have h7:=h6.trans s
  refine⟨_,_,_,r6.blk.all,_,_,_,e6.blk.all,_,_,_,l6.blk.all,yC (c113 ((hC i b8).mono (by omega)) ((hl▸g2 j yL).mono (by decide)) _ (hg.ext h7)) ?_⟩
  rintro v w8 ⟨rfl,b7⟩
  have ez:((((C i*((l:Nat):Rat)).num:Int)):Rat)=C i*((l:Nat):Rat):=int_num (zDY (hl▸zEz C b8))
  have j7:=c145 (x:=((gcdD C l i:Nat):Int)) (y:=(C i*((l:Nat):Rat)).num) (by rw [Rat.intCast_natCast];exact (g1 i (by omega)).mono (by decide)) (by rw [ez];exact (o8 i b8).mono (by decide)) w8 (hg.ext (h7.trans b7))
  rw [Rat.intCast_natCast,ez,Int.natAbs_natCast] at j7
  refine⟨_,_,_,rfl,b7,yC j7 ?_⟩
  rintro v w9 ⟨rfl,m4⟩
  have a1:=s.trans (b7.trans m4)
  have i1:=i2.ext a1
  have lL:=i2.lt
  have lG:=e5.lt
  have i0:=e5.ext a1
  refine⟨_,_,_,rfl,i0.blk.writable (Nat.le_refl 3),f9 _ ?_⟩
  rw [zAf (by omega)]
  refine⟨⟨i+1,rfl,b8,i1.same (zAk (b:=bg) (o:=0) (k:=bl) (by omega) _ 0),i0.put _ (by rfl),(n7.ext a1).same (zAk (b:=bg) (o:=0) (k:=w.heap.size) (by omega) _ 0),(o4.ext a1).same (zAk (b:=bg) (o:=0) (k:=W1.heap.size) (by omega) _ 0),(h6.trans a1).put (by omega) _ _⟩,by simp only [mu1,yT];omega⟩
 have b8:i=j:=by omega
 subst b8
 rw [<- g6] at e5
 have s5:((g:Nat):Rat)≠0:=fun h=>s4 (by exact_mod_cast h)
 refine⟨_,_,_,i2.blk.all,_,_,_,e5.blk.all,yC (c146 ((hl▸g2 i yL).mono (by decide)) ((g6▸g1 i yL).mono (by decide)) s5 w7 (hg.ext h6)) ?_⟩
 rintro v a3 ⟨rfl,g4⟩
 rw [<- hf]
 have p9:=h6.trans g4
 have bF:=yN a3 zq 88
 have r5:=bF.put (qc f) (by rfl)
 refine⟨_,_,_,rfl,bF.blk.writable (by decide),fun K3 r9=>?_⟩
 have i6:Ext a3 (setCells (a3.alloc (.cells zq.toArray 88)) ⟨a3.heap.size,0,none⟩ 0 (qc f)).drew:=(((yE a3).alloc _).put yL _ _).drew
 have l3:=r5.ext (yE _).drew
 obtain⟨W3,o9⟩ : ∃ W3,W3=(setCells (a3.alloc (.cells zq.toArray 88)) ⟨a3.heap.size,0,none⟩ 0 (qc f)).drew:=⟨_,rfl⟩
 rw [<- o9] at i6 l3
 have d2:=(n7.ext g4).ext i6
 have j6:=(o4.ext g4).ext i6
 have d0:=p9.trans i6
 have b3:dg 2620006 (K*f):=(hK.mul i8).mono (by decide)
 have s7 : ∀ j,tC i C j=C j*f:=fun j=>by unfold tC;rw [if_neg a7,<- m5]
 have u6:=j6.lt
 have main : ∀ a4 b,Box a4 b 90 (r90 none 0 0 rel (K*f))->W3.heap.size<=b->Ext W3 a4->K3 [.pointer (some ⟨b,0,none⟩)] a4:=by
  intro a4 b o6 i7 d5
  refine r9 _ a4 ⟨_,_,_,(d2.ext d5).blk.cell (j:=0) rfl,fun vals a0=>∃ (j:Nat) (p:OA) (c' : Nat),vals=[.int .i64 j]/\j<=i/\Box a0 b 90 (r90 p j c' rel (K*f))/\a0.ownsRow a4.heap.size 88 3 (.slice p j c') j (QL (tC i C) j)/\a4.heap.size<=a0.heap.size/\Ext W3 a0,mu1 i,⟨0,none,0,rfl,Nat.zero_le _,o6,World.ownsRow_nil _ _ _ _,yL,d5⟩,?_⟩
  rintro m a0 ⟨j,p,c',hv,hj,a5,d7,p7,b6⟩
  cases hv
  have n4:=d2.ext b6
  have e7:=j6.ext b6
  have u:=d0.trans b6
  refine zAe (fun d9=>?_) (fun g7=>?_)
  ·have g8:j<i:=by omega
   obtain⟨q9,qo,ha,hc⟩:=(hQ.ext u).get g8
   have bN:=yN a0 zq 88
   have s:Ext a0 (setCells (a0.alloc (.cells zq.toArray 88)) ⟨a0.heap.size,0,none⟩ 0 (qc (C j))).drew:=(((yE a0).alloc _).put yL _ _).drew
   have e6:=(bN.put (qc (C j)) (by rfl)).ext (yE _).drew
   refine⟨_,ha,⟨by omega,d9⟩,_,_,_,hc,bN.blk.writable (by decide),fun K4 s0=>?_⟩
   have j8:=a5.ext s
   have n8:=(l3.ext b6).ext s
   have n1:=u.trans s
   refine⟨_,_,_,j8.blk.cell (j:=0) rfl,_,_,_,e6.blk.all,_,_,_,n8.blk.all,yC (c113 ((hC j g8).mono (by omega)) (i8.mono (by decide)) _ (hg.ext n1)) ?_⟩
   rintro v e4 ⟨rfl,a6⟩
   have k7:=b6.trans (s.trans a6)
   have a8:=zAm d7 (s.trans a6)
   have f8:=j8.ext a6
   have r0:a4.heap.size<=e4.heap.size:=Nat.le_trans p7 (s.trans a6).size
   refine⟨_,_,_,rfl,a6,a6.alloc _,_,_,_,AppOk.one (L:=qc (C j*f)) a8 rfl rfl (by unfold maxLen;omega) (by omega) r0,?_⟩
   intro p8 j3 j4 r
   have za:=(yE e4).alloc (.cells (qc (C j*f)).toArray 88)
   have sa:(e4.alloc (.cells (qc (C j*f)).toArray 88)).heap.size=e4.heap.size+1:=size_alloc ..
   have g3 : ∀ k,k<e4.heap.size->(Value.slice p j c').ownBlock≠some k->j4.heap[k]? = e4.heap[k]?:=fun k hk b9 =>
    (r.grown.block k (Nat.lt_of_lt_of_le hk za.size) (Ne.symm b9)).trans (za.block k hk)
   have d3:Box j4 b 90 _:=f8.same (g3 _ f8.lt (zA2 a8 f8 (by decide)))
   have q7:Ext W3 j4:=r.below (zAm a8 za) (k7.trans za) (Nat.le_trans k7.size za.size) d5.size
   refine⟨⟨⟨_,d3.blk.cell (j:=0) rfl⟩,d3.blk.free⟩,s0 _ ?_⟩
   rw [zAf (by omega)]
   have hr:=r.own
   have e:QL (tC i C) j++qc (C j*f)=QL (tC i C) (j+1):=by rw [QL,s7]
   rw [e] at hr
   have t3:=r.grown.size
   have b9:(Value.slice p8 (j+1) j3).ownBlock≠some b:=zA2 hr d3 (by decide)
   have o7:Box (j4.setCell ⟨b,0,none⟩ (.slice p8 (j+1) j3)) b 90 (r90 p8 (j+1) j3 rel (K*f)):=d3.set 0 _
   refine⟨⟨j+1,p8,j3,rfl,g8,o7,zAK hr b9 _,?_,q7.setCell i7 _⟩,by simp only [mu1,yT];omega⟩
   rw [zB3]
   exact Nat.le_trans r0 (Nat.le_trans za.size t3)
  ·have g8:j=i:=by omega
   subst g8
   have m0:b≠W1.heap.size:=by omega
   have q8 : ∀ {w' : World},w'.ownsRow a4.heap.size 88 3 (.slice p j c') j (QL (tC j C) j)->w'.ownsRow w.heap.size 88 3 (.slice p j c') j (QL (tC j C) j):=fun h=>zBo h (Nat.le_trans d0.size d5.size)
   have key : ∀ (w' : World) (rel' : Int) (K' : Rat) (b1:Bool),Box w' b 90 (r90 p j c' rel' K')->Box w' W1.heap.size 90 z90->w'.ownsRow a4.heap.size 88 3 (.slice p j c') j (QL (tC j C) j)->Ext w w'->rel' = (tRel j C rel:Nat)->K' = tK j C rel K->(b1=true↔tOk j C rel K) ->
     writable w' ⟨W1.heap.size,0,none⟩ 5/\Box (setCells w' ⟨W1.heap.size,0,none⟩ 0 (r90 p j c' rel' K')) W1.heap.size 90 (r90 p j c' rel' K')/\(∃ p1 c1 b2,Value.tuple #[v90 p j c' rel' K',.bool b1] = .tuple #[v90 p1 j c1 (tRel j C rel:Nat) (tK j C rel K),.bool b2]/\(b2=true↔tOk j C rel K)/\(setCells w' ⟨W1.heap.size,0,none⟩ 0 (r90 p j c' rel' K')).ownsRow w.heap.size 88 3 (.slice p1 j c1) j (QL (tC j C) j))/\Ext w (setCells w' ⟨W1.heap.size,0,none⟩ 0 (r90 p j c' rel' K')):=by
    intro w' rel' K' b1 u5 l9 p6 s8 e1 e2 e3
    have hP:=l9.put (r90 p j c' rel' K') (by rfl)
    refine⟨l9.blk.writable (by decide),hP,⟨p,c',b1,by rw [e1,e2],e3,?_⟩,s8.put (by omega) _ _⟩
    exact q8 (zAZ p6 fun k' g9=>zAh k' fun e=>zA2 p6 l9 (by decide) (e▸g9))
   have m8:tRel j C rel=if rel=3 then 3 else 1:=by unfold tRel;rw [if_neg a7]
   have m6:tK j C rel K=if rel=3 then K*f else if rel=2 then ((-(flo (-(K*f))) - 1:Int):Rat) else ((flo (K*f):Int):Rat):=by unfold tK;rw [if_neg a7,<- m5]
   have m7:tOk j C rel K↔(rel=3->(K*f).den=1):=by unfold tOk;rw [if_neg a7,<- m5]
   refine⟨_,n4.blk.cell (j:=1) rfl,?_⟩
   rcases (show rel=3\/rel=2\/rel=1 by omega) with h3 | h2 | h1
   ·subst h3
    rw [show ((((3:Nat):Int))==(3:Int))=true from rfl,cond_true]
    intro K5 s1
    have i9:=(yE a0).drew
    have l8:=a5.ext i9
    refine⟨_,_,_,_,_,_,_,l8.blk.all,_,_,_,r90_k l8,yC (c147 (b3.mono (by decide)) _) ?_⟩
    rintro v t4 ⟨rfl,b4⟩
    obtain⟨k1,k2,⟨p1,c1,b2,e,g0,h0⟩,k4⟩:=key t4 ((3:Nat):Int) (K*f) (decide ((K*f).den=1)) (l8.ext b4) ((e7.ext i9).ext b4) (zAm d7 (i9.trans b4)) (u.trans (i9.trans b4)) (by rw [m8,if_pos rfl]) (by rw [m6,if_pos rfl]) (by rw [m7];simp)
    exact⟨_,rfl,b4,k1,s1 _ _ ⟨_,_,_,_,_,_,_,k2.blk.all,p1,c1,b2,e,g0,h0,k4⟩⟩
   ·subst h2
    rw [show ((((2:Nat):Int))==(3:Int))=false from rfl,cond_false,show ((((2:Nat):Int))==(2:Int))=true from rfl,cond_true]
    refine⟨_,_,_,r90_k a5,yC (c133 (b3.mono (by decide)) a0 (hg.ext u)) ?_⟩
    rintro v t6 ⟨rfl,j9⟩
    have r1:=u.trans j9
    refine⟨_,_,_,rfl,yC (c148 (b3.neg.mono (by decide)) t6 (hg.ext r1)) ?_⟩
    rintro v t7 ⟨rfl,k0⟩
    have r2:=r1.trans k0
    have dfl:dg 2620006 ((flo (-(K*f)):Int):Rat):=zCR (Nat.le_trans (zAu (zCP _)) b3.neg.1)
    refine⟨_,_,_,rfl,yC (c133 (dfl.mono (by decide)) t7 (hg.ext r2)) ?_⟩
    rintro v t8 ⟨rfl,k3⟩
    have r3:=r2.trans k3
    refine⟨_,_,_,rfl,yC (c130 1 (by decide) t8 (hg.ext r3)) ?_⟩
    rintro v t9 ⟨rfl,k5⟩
    have r4:=r3.trans k5
    refine⟨_,_,_,rfl,yC (c114 (dfl.neg.mono (by decide)) ((zCR (z:=1) (k:=1) (by rw [show (1:Int).natAbs=1 from rfl,zBx];decide)).mono (by decide)) t9 (hg.ext r4)) ?_⟩
    rintro v j5 ⟨rfl,k6⟩
    have u2:=r4.trans k6
    have l7:=(((j9.trans k0).trans k3).trans k5).trans k6
    have eK : -((flo (-(K*f)):Int):Rat) - ((1:Int):Rat)=((-(flo (-(K*f))) - 1:Int):Rat):=by rw [Rat.intCast_sub,Rat.intCast_neg]
    rw [eK]
    have d4:=a5.ext l7
    have h8:=zAm d7 l7
    have b9:=zA2 h8 d4 (by decide)
    have a9:Box (j5.setCell ⟨b,1,none⟩ (.int .i64 1)) b 90 (r90 p j c' 1 (K*f)):=d4.set 1 _
    have a2:=zAK (a:=⟨b,1,none⟩) h8 b9 (.int .i64 1)
    have e8:=(e7.ext l7).away (w':=j5.setCell ⟨b,1,none⟩ (.int .i64 1)) zAg (fun e=>m0 e.symm)
    have n2:Ext w (j5.setCell ⟨b,1,none⟩ (.int .i64 1)):=u2.setCell (Nat.le_trans d0.size i7) _
    obtain⟨wr,b0⟩:=r90_put (K':=((-(flo (-(K*f))) - 1:Int):Rat)) a9
    have d1:=zAZ (w':=setCells (j5.setCell ⟨b,1,none⟩ (.int .i64 1)) ⟨b,2,none⟩ 0 (qc ((-(flo (-(K*f))) - 1:Int):Rat))) a2 fun k' g9=>zAh k' fun e=>zA2 a2 a9 (by decide) (e▸g9)
    have e9:=e8.same (zAk (b:=b) (o:=2) (k:=W1.heap.size) (fun e=>m0 e.symm) (qc ((-(flo (-(K*f))) - 1:Int):Rat)) 0)
    have n3:=n2.put (b:=b) (o:=2) (Nat.le_trans d0.size i7) (qc ((-(flo (-(K*f))) - 1:Int):Rat)) 0
    obtain⟨k1,k2,⟨p1,c1,b2,e,g0,h0⟩,k4⟩:=key _ 1 _ true b0 e9 d1 n3 (by rw [m8];rfl) (by rw [m6,if_neg (by decide),if_pos rfl]) (by rw [m7];simp)
    exact⟨_,_,_,rfl,⟨⟨_,d4.blk.cell (j:=1) rfl⟩,d4.blk.free⟩,wr,_,_,_,_,_,_,_,b0.blk.all,k1,_,_,_,_,_,_,_,k2.blk.all,p1,c1,b2,e,g0,h0,k4⟩
   ·subst h1
    rw [show ((((1:Nat):Int))==(3:Int))=false from rfl,cond_false,show ((((1:Nat):Int))==(2:Int))=false from rfl,cond_false,show ((((1:Nat):Int))==(1:Int))=true from rfl,cond_true]
    refine⟨_,_,_,r90_k a5,yC (c148 (b3.mono (by decide)) a0 (hg.ext u)) ?_⟩
    rintro v u0 ⟨rfl,d6⟩
    have n2:=u.trans d6
    have a9:=a5.ext d6
    have a2:=zAm d7 d6
    have e8:=e7.ext d6
    obtain⟨wr,b0⟩:=r90_put (K':=((flo (K*f):Int):Rat)) a9
    have d1:=zAZ (w':=setCells u0 ⟨b,2,none⟩ 0 (qc ((flo (K*f):Int):Rat))) a2 fun k' g9=>zAh k' fun e=>zA2 a2 a9 (by decide) (e▸g9)
    have e9:=e8.same (zAk (b:=b) (o:=2) (k:=W1.heap.size) (fun e=>m0 e.symm) (qc ((flo (K*f):Int):Rat)) 0)
    have n3:=n2.put (b:=b) (o:=2) (Nat.le_trans d0.size i7) (qc ((flo (K*f):Int):Rat)) 0
    obtain⟨k1,k2,⟨p1,c1,b2,e,g0,h0⟩,k4⟩:=key _ 1 _ true b0 e9 d1 n3 (by rw [m8];rfl) (by rw [m6,if_neg (by decide),if_neg (by decide)]) (by rw [m7];simp)
    exact⟨_,_,_,rfl,wr,_,_,_,_,_,_,_,b0.blk.all,k1,_,_,_,_,_,_,_,k2.blk.all,p1,c1,b2,e,g0,h0,k4⟩
 subst o9
 refine⟨_,d2.blk.cell (j:=1) rfl,_,_,_,r90_k d2,_,_,_,l3.blk.all,?_,(yE _).alloc _,?_⟩
 ·refine yC (c113 (hK.mono (by decide)) (i8.mono (by decide)) _ (hg.ext d0)) ?_
  rintro v u1 ⟨rfl,b5⟩
  have bN:=yN u1 z90 90
  have hP:=bN.put (r90 none 0 0 rel (K*f)) (by rfl)
  exact⟨_,_,_,rfl,b5,b5.alloc _,bN.blk.writable (by decide),main _ _ hP b5.size ((b5.alloc _).put b5.size _ _)⟩
 ·have zz:=(yE (setCells (a3.alloc (.cells zq.toArray 88)) ⟨a3.heap.size,0,none⟩ 0 (qc f)).drew).alloc (.cells z90.toArray 90)
  refine yC (c113 (hK.mono (by decide)) (i8.mono (by decide)) _ (hg.ext (d0.trans zz))) ?_
  rintro v v0 ⟨rfl,g5⟩
  have bN:=(yN (setCells (a3.alloc (.cells zq.toArray 88)) ⟨a3.heap.size,0,none⟩ 0 (qc f)).drew z90 90).ext g5
  have hP:=bN.put (r90 none 0 0 rel (K*f)) (by rfl)
  exact⟨_,_,_,rfl,zz.trans g5,bN.blk.writable (by decide),main _ _ hP yL ((zz.trans g5).put yL _ _)⟩
end Go.Proofs.Si
