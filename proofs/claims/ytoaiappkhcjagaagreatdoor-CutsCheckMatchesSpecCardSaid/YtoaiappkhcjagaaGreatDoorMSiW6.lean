/- Part of the proof: SiW6, SiW7, SiW8, SiW9, SiY1, SiY2, SiY3, SiY4, SiY5, SiY6, SiY7, SiY8, SiS1, SiS2, SiS3, SiS4, SiS5, SiS6, SiS7, SiS8, SiS9, SiS10, SiS11. -/
import Derived.Test.YtoaiappkhcjagaaGreatDoorMSiM
import Derived.Test.YtoaiappkhcjagaaGreatDoorMV7
import Derived.Test.YtoaiappkhcjagaaGreatDoorSiV6
import Derived.Test.YtoaiappkhcjagaaGreatDoorMTbE
import Derived.Test.YtoaiappkhcjagaaGreatDoorSiV7
set_option linter.unusedVariables false
set_option linter.unusedSimpArgs false
namespace Go.Proofs.Si
open Go Go.V Go.Proofs Go.RowKit Go.Num Go.Tb Go.Proofs.Tryz
set_option maxRecDepth 100000
structure Fits (S:Tb.Sys):Prop where
 few:Few S
 short:Short S 2000000
 a : ∀ s,Inv S s->∀ i,i<S.m->∀ j,j<S.n->dg 2000000 (s.a i j)
 val : ∀ s,Inv S s->∀ v,v<S.n+S.m->dg2 2000000 (s.val v)
theorem Fits.short9{S:Tb.Sys}(h:Fits S):Short S 90000000:=⟨fun i hi=>(h.short.1 i hi).mono (by decide),by decide⟩
def SolV(S:Tb.Sys)(B:Nat)(w:World)(s:Dy)(r:Option (Nat × Bool))(v:Value):Prop :=
 match r with
 | none=>v = .tuple #[N0,Bv true]
 | some (i,up)=>∃ b,v = .tuple #[Lv (some ⟨b,0,none⟩) S.m S.m,Bv false]/\B<=b/\Box w b 88 (QL (refv S s i up) S.m)
set_option maxHeartbeats 4000000 in
theorem c71{S}{B:Nat}{T s0}(hF:Fits S)(hI:Inv S s0)(w)(hT:TabAt S B w T s0) :
  Ret prog 71 #[.pointer (some ⟨T.bt,0,none⟩)] w fun v w'=>∃ f s' r,zBd S f s0=some (s',r)/\Inv S s'/\SolV S B w' s' r v/\TabAt S B w' T s'/\Below B w w':=by
 have e3:=hF.few;unfold Few at e3;obtain⟨f0,r0,x⟩:=solve_ends hI;obtain⟨I',μ',d1,a5⟩:=ghost (G:=Nat × Dy) (fun g vals w1=>vals=[]/\TabAt S B w1 T g.2/\Inv S g.2/\zBd S g.1 g.2=some r0/\Below B w w1) (fun g=>g.1);refine run71 _ _ _ ⟨I',μ',d1 (f0,s0) _ _ ⟨rfl,hT,hI,x,Below.refl _ _⟩,?_⟩;intro w1 b4;obtain⟨⟨f,s⟩,⟨_,d,l,k,u⟩,a0⟩:=a5 _ _ b4;simp only at d l k a0;clear b4 d1 a5
 cases f with
 | zero=>rw [zBd] at k;cases k
 | succ f =>
 have hp:=l.dict.perm;have n:=hF.val s l;have o:=hF.a s l;refine yC (c116 hF.few hF.short9 hp (fun v hv=>(n v hv).mono (by decide)) w1 d) ?_;rintro r w2 ⟨rfl,a4⟩;have hN:=yN w2 zv 101
 cases hvi:viol S s with
 | none =>
  rw [vioV,zEf];refine⟨_,_,_,_,_,_,_,_,rfl,hN.blk.writable (by decide),?_⟩;have hx:Ext w1 (setCells (w2.alloc (.cells zv.toArray 101)) ⟨w2.heap.size,0,none⟩ 0 zv):=(a4.alloc _).put a4.size _ _;rw [show decide ((-1:Int)<0)=true from rfl,cond_true]
  have p:stepS S s = .sat:=by unfold stepS;rw [hvi]
  rw [zBd,p] at k;cases k;exact⟨f0,s,none,x,l,rfl,d.ext hx d.hB,Below.trans u (Below.mono hx d.hB)⟩
 | some r =>
  obtain⟨i,b,up⟩:=r;obtain⟨hi,a9,rfl,_,_,_⟩:=zCb hp hvi;have m:=hp.bas i hi;refine⟨_,_,_,_,_,_,_,_,rfl,hN.blk.writable (by decide),?_⟩;have hx:Ext w1 (setCells (w2.alloc (.cells zv.toArray 101)) ⟨w2.heap.size,0,none⟩ 0 (vc2 (ub S (s.basic i)))):=(a4.alloc _).put a4.size _ _;have hU:=hN.put (vc2 (ub S (s.basic i))) (by rfl);have a6:=d.ext hx d.hB;rw [show decide ((i:Int)<0)=false from decide_eq_false (by omega),cond_false];refine yC (c117 hF.few hF.short9 hp hi (fun v hv=>(n v hv).mono (by decide)) (fun j hj=>(o i hi j hj).mono (by decide)) _ a6) ?_;rintro r w3 ⟨rfl,b2⟩;have a1:=a6.ext b2 a6.hB;have d2:=hx.trans b2
  cases hen:zB7 S s i up with
  | none =>
   refine⟨_,rfl,?_⟩;rw [show decide (bestV none<0)=true from rfl,cond_true]
   have p:stepS S s = .unsat i up:=by unfold stepS;rw [hvi];simp only [hen]
   rw [zBd,p] at k;cases k;refine yC (c118 hF.few hp hi a9 (fun j hj h0=>(zFn l hen j hj h0).1) (fun j hj=>(o i hi j hj).mono (by decide)) _ a1) ?_;rintro r w4 ⟨rfl,hM,b8⟩;refine⟨_,_,_,rfl,f0,s,some (i,up),x,l,⟨_,rfl,a1.hB,hM⟩,a1.ext b8 a1.hB,Below.trans u (Below.mono (d2.trans b8) d.hB)⟩
  | some j =>
   have p:stepS S s = .go i j (nextS S s (ub S (s.basic i)) i j):=by unfold stepS;rw [hvi];simp only [hen];rfl
   obtain⟨_,_,_,_,_,hj,_,h0,_,b5⟩:=zC8 l p;rw [zBd,p] at k;refine⟨_,rfl,?_⟩;rw [show decide (bestV (some j)<0)=false from decide_eq_false (by show ¬ (j:Int)<0;omega),cond_false];intro K hK;have d3:=d2.drew;have h:=d.ext d3 d.hB;have d5:=(hU.ext b2).ext (yE _).drew;obtain⟨a,d7,e1⟩:=h.basicAt (i:=i) hi;obtain⟨a2,d6,e0⟩:=h.aAt (i:=i) hi;obtain⟨a3,d8,e2⟩:=h.qAt (i:=i) (j:=j) hi hj;have dS:dg2 5000000 (sub2 (ub S (s.basic i)) (s.val (s.basic i))):=((ub_dg hF.short a9 m.1).sub (n _ m.1)).mono (by decide);have dI:dg 3000000 (s.a i j)⁻¹:=(o i hi j hj).inv.mono (by decide);have dD:=dS.scale dI;refine⟨_,_,_,_,_,_,d5.blk.all,_,_,_,h.f6,_,_,_,h.f2,a,d7,⟨by omega,by omega⟩,_,e1,_,rfl,⟨by omega,by omega⟩,_,_,_,_,_,_,h.valAt (v:=s.basic i) m.1,_,_,_,h.f5,a2,d6,⟨by omega,by omega⟩,_,_,_,e0,a3,d8,⟨by show 0<=(j:Int);omega,by show (j:Int)<_;omega⟩,_,_,_,e2,yC (c120 ((ub_dg hF.short a9 m.1).mono (by decide)) ((n _ m.1).mono (by decide)) _ h.gg) ?_⟩;rintro r w7 ⟨rfl,b3⟩;have a7:=h.ext b3 h.hB;refine⟨_,_,_,_,_,_,rfl,b3,yC (c122 ((o i hi j hj).mono (by decide)) h0 _ a7.gg) ?_⟩;rintro r w8 ⟨rfl,b9⟩;have a8:=a7.ext b9 a7.hB;refine⟨_,_,_,rfl,yC (c121 (dS.mono (by decide)) (dI.mono (by decide)) _ a8.gg) ?_⟩;rintro r w9 ⟨rfl,d0⟩;have d4:=a8.ext d0 a8.hB;refine⟨_,_,_,_,_,_,rfl,yC (c119 hF.few hp hj (fun v hv=>(n v hv).mono (by decide)) (dD.mono (by decide)) (fun i hi=>(o i hi j hj).mono (by decide)) _ d4) ?_⟩;rintro r e5 ⟨rfl,b6,b0⟩;have d9:Below B w e5:=Below.trans (Below.trans u (Below.mono (((d3.trans b3).trans b9).trans d0) d.hB)) b0;refine⟨rfl,hK _ ?_⟩;have e4:Perm S (Tb.move s j (zAC (sub2 (ub S (s.basic i)) (s.val (s.basic i))) (s.a i j)⁻¹)):=⟨hp.bas,hp.col,hp.inj,hp.lin⟩;refine yC (c123 hF.few e4 hi hj h0 (fun i hi j hj=>(o i hi j hj).mono (by decide)) _ b6) ?_;rintro r e6 ⟨rfl,b7,b1⟩;exact⟨rfl,a0 (f,nextS S s (ub S (s.basic i)) i j) _ _ ⟨rfl,b7,b5,k,Below.trans d9 b1⟩ (Nat.lt_succ_self f)⟩
end Go.Proofs.Si
namespace Go.Proofs.Si
open Go Go.V Go.Proofs Go.RowKit Go.Num Go.Tb
set_option maxRecDepth 100000
theorem zCW{α:Type}(f:Nat->α)(n:Nat):upto f (n+1)=upto f n++[f n]:=by
 simp [upto,List.range_succ]
theorem zDV{w:World}{B e size n c:Nat}{a:OA}{xs:List Value}(h:w.ownsRow B e size (Lv a n c) n xs):OwnB w B e a xs:=by
 rcases h.2 with ⟨hv,h0⟩ | ⟨g,cap,cur,hv,hb,hg,_,_,_,ht⟩
 ·left
  have:=h.1;rw [h0,Nat.zero_mul] at this;exact List.length_eq_zero_iff.1 this
 ·cases hv
  refine .inr ⟨g,rfl,hb,cur.toList.drop (n*size),?_⟩;rw [hg,<- ht,List.take_append_drop]
structure NewAt (S:Tb.Sys) (B:Nat) (T:Lay) (L:Nat->Int) (w:World) (j i x:Nat):Prop where
 box:Box w T.bt 140 [Iv (S.n:Int),Lv T.ra S.m T.rc,Lv T.ba i T.bc,Lv T.ca j T.cc,Lv (some ⟨T.la,0,none⟩) (S.n+S.m) (S.n+S.m),Lv T.aa x T.ac,Lv (some ⟨T.va,0,none⟩) (S.n+S.m) (S.n+S.m)]
 bt:B<=T.bt
 line:Box w T.la 3 (lLine L (S.n+S.m))
 la:B<=T.la
 val:Box w T.va 101 (VL (fun _=>zero2) (S.n+S.m))
 va:B<=T.va
 basic:w.ownsRow B 3 1 (Lv T.ba i T.bc) i (lInt (fun i=>S.n+i) i)
 cols:w.ownsRow B 3 1 (Lv T.ca j T.cc) j (lInt (fun j=>j) j)
 a:w.ownsRow B 83 1 (Lv T.aa x T.ac) x (lRow T S.n x)
 row : ∀ y,y<x->w.ownsRow B 88 3 (Lv (T.rowA y) S.n (T.rowC y)) S.n (QL (S.C y) S.n)
 nc:(Lv T.ca j T.cc).ownBlock≠some T.la
 nb:(Lv T.ba i T.bc).ownBlock≠some T.la
 ncb : ∀ b,(Lv T.ca j T.cc).ownBlock=some b->(Lv T.ba i T.bc).ownBlock≠some b
 rr : ∀ y z,y<x->z<x->y≠z->∀ b,(Lv (T.rowA y) S.n (T.rowC y)).ownBlock=some b->(Lv (T.rowA z) S.n (T.rowC z)).ownBlock≠some b
theorem NewAt.ext{S}{B:Nat}{T}{L:Nat->Int}{w w'}{j i x:Nat}(h:NewAt S B T L w j i x)(he:Ext w w'):NewAt S B T L w' j i x :=
 { h with box:=h.box.ext he,line:=h.line.ext he,val:=h.val.ext he,basic:=zAm h.basic he,cols:=zAm h.cols he,a:=zAm h.a he,row:=fun y hy=>zAm (h.row y hy) he }
theorem zD1{w w' : World}{B e size n:Nat}{v:Value}{xs:List Value}(h:w.ownsRow B e size v n xs)(hk : ∀ k,k<w.heap.size->v.ownBlock=some k->w'.heap[k]? = w.heap[k]?):w'.ownsRow B e size v n xs :=
 zAV h fun k hv=>hk k (World.ownsRow.lt h k hv).2 hv
theorem zFB{v u:Value}{w w3:World}{k:Nat}(hb:v.ownBlock=u.ownBlock\/∀ k,v.ownBlock=some k->w.heap.size<=k)(hu:u.ownBlock≠some k)(hk:k<w.heap.size):v.ownBlock≠some k:=by
 intro hv
 rcases hb with h | h
 ·exact hu (h▸hv)
 ·have:=h k hv;omega
theorem NewAt.col{S:Tb.Sys}{B:Nat}{T:Lay}{L:Nat->Int}{w w3:World}{j i x:Nat}{p:OA}{k:Nat}(h:NewAt S B T L w j i x)
  (r:AppRes (w.alloc (.cells #[Iv (j:Int)] 3)) w3 B 3 1 T.ca j T.cc (lInt (fun j=>j) j) 1 [Iv (j:Int)] p k)(y:Int) :
  NewAt S B { T with ca:=p,cc:=k } (upd L j y) ((w3.setCell ⟨T.bt,3,none⟩ (Lv p (j+1) k)).setCell ⟨T.la,j,none⟩ (Iv y)) (j+1) i x:=by
 have a3:(w.alloc (.cells #[Iv (j:Int)] 3)).heap.size=w.heap.size+1:=size_alloc ..;have hx:=(yE w).alloc (.cells #[Iv (j:Int)] 3)
 have g3 : ∀ k,k<w.heap.size->(Lv T.ca j T.cc).ownBlock≠some k->w3.heap[k]? = w.heap[k]?:=fun k hk a2 =>
  (r.grown.block k (by omega) (Ne.symm a2)).trans (hx.block k hk)
 have a0:=h.box.lt;have a1:=h.line.lt;have c1:(Lv T.ca j T.cc).ownBlock≠some T.bt:=zAs h.cols h.box (by decide);have c2:(Lv T.ca j T.cc).ownBlock≠some T.va:=zAs h.cols h.val (by decide);have n1:T.bt≠T.la:=boxNe h.box.blk h.line.blk (by decide);have n2:T.va≠T.bt:=boxNe h.val.blk h.box.blk (by decide);have n3:T.va≠T.la:=boxNe h.val.blk h.line.blk (by decide);have q1:(Lv p (j+1) k).ownBlock≠some T.bt:=zFB (w3:=w) r.blk c1 (by omega);have q2:(Lv p (j+1) k).ownBlock≠some T.la:=zFB (w3:=w) r.blk h.nc (by omega)
 have g : ∀ k,k<w.heap.size->(Lv T.ca j T.cc).ownBlock≠some k->k≠T.bt->k≠T.la->((w3.setCell ⟨T.bt,3,none⟩ (Lv p (j+1) k)).setCell ⟨T.la,j,none⟩ (Iv y)).heap[k]? = w.heap[k]?:=fun k hk h1 h2 h3 =>
  (zA6 h3).trans ((zA6 h2).trans (g3 k hk h1))
 have g' : ∀ k u,k<w.heap.size->(Lv T.ca j T.cc).ownBlock≠some k->k≠T.bt->k≠T.la->((w3.setCell ⟨T.bt,3,none⟩ u).setCell ⟨T.la,j,none⟩ (Iv y)).heap[k]? = w.heap[k]?:=fun k u hk h1 h2 h3 =>
  (zA6 h3).trans ((zA6 h2).trans (g3 k hk h1))
 have s:Box w3 T.bt 140 _:=h.box.same (g3 _ a0 c1);have f:Box w3 T.la 3 _:=h.line.same (g3 _ a1 h.nc);have d:=(f.away (zAh (o:=3) (v:=Lv p (j+1) k)) (fun e=>n1 e.symm)).set j (Iv y)
 exact {
  box:=(s.set 3 (Lv p (j+1) k)).away zAh n1
  bt:=h.bt
  line:=by
   by_cases hj:j<S.n+S.m
   ·rw [lLine,zC6 hj] at d
    have e:upto (upd (fun i=>Iv (L i)) j (Iv y)) (S.n+S.m)=lLine (upd L j y) (S.n+S.m):=zA5 fun k _=>by unfold upd;split <;> rfl
    rw [e] at d;exact d
   ·rw [List.set_eq_of_length_le (by rw [lLine,zAD];omega)] at d
    have e:lLine (upd L j y) (S.n+S.m)=lLine L (S.n+S.m):=zA5 fun k hk=>by rw [zAt _ (by omega)]
    rw [e];exact d
  la:=h.la
  val:=h.val.same (g' _ _ h.val.lt c2 n2 n3)
  va:=h.va
  basic:=zD1 h.basic fun k hk hv=>g' _ _ hk (fun e=>h.ncb k e hv) (fun e=>zAs h.basic h.box (by decide) (e▸hv)) (fun e=>h.nb (e▸hv))
  cols:=by
   have:=r.own;rw [lInt,<- zCW (fun i=>Iv ((i:Nat):Int)) j] at this;exact zAK (zAK this q1 _) q2 _
  a:=zD1 h.a fun k hk hv=>g' _ _ hk (fun e=>zBT h.cols h.a (by decide) k e hv) (fun e=>zAs h.a h.box (by decide) (e▸hv)) (fun e=>zAs h.a h.line (by decide) (e▸hv))
  row:=fun z hz=>zD1 (h.row z hz) fun k hk hv=>g' _ _ hk (fun e=>zBT h.cols (h.row z hz) (by decide) k e hv) (fun e=>zAs (h.row z hz) h.box (by decide) (e▸hv)) (fun e=>zAs (h.row z hz) h.line (by decide) (e▸hv))
  nc:=q2
  nb:=h.nb
  ncb:=fun b hb l=>zFB (w3:=w) r.blk (fun e=>h.ncb b e l) (by have:=(World.ownsRow.lt h.basic b l).2;omega) hb
  rr:=h.rr }
theorem NewAt.bas{S:Tb.Sys}{B:Nat}{T:Lay}{L:Nat->Int}{w w3:World}{j i x:Nat}{p:OA}{k:Nat}(h:NewAt S B T L w j i x)
  (r:AppRes (w.alloc (.cells #[Iv ((S.n+i:Nat):Int)] 3)) w3 B 3 1 T.ba i T.bc (lInt (fun i=>S.n+i) i) 1 [Iv ((S.n+i:Nat):Int)] p k)(v:Nat)(y:Int) :
  NewAt S B { T with ba:=p,bc:=k } (upd L v y) ((w3.setCell ⟨T.bt,2,none⟩ (Lv p (i+1) k)).setCell ⟨T.la,v,none⟩ (Iv y)) j (i+1) x:=by
 have a2:(w.alloc (.cells #[Iv ((S.n+i:Nat):Int)] 3)).heap.size=w.heap.size+1:=size_alloc ..;have hx:=(yE w).alloc (.cells #[Iv ((S.n+i:Nat):Int)] 3)
 have g3 : ∀ k,k<w.heap.size->(Lv T.ba i T.bc).ownBlock≠some k->w3.heap[k]? = w.heap[k]?:=fun k hk a1 =>
  (r.grown.block k (by omega) (Ne.symm a1)).trans (hx.block k hk)
 have s:=h.box.lt;have a0:=h.line.lt;have c1:(Lv T.ba i T.bc).ownBlock≠some T.bt:=zAs h.basic h.box (by decide);have c2:(Lv T.ba i T.bc).ownBlock≠some T.va:=zAs h.basic h.val (by decide);have n1:T.bt≠T.la:=boxNe h.box.blk h.line.blk (by decide);have n2:T.va≠T.bt:=boxNe h.val.blk h.box.blk (by decide);have n3:T.va≠T.la:=boxNe h.val.blk h.line.blk (by decide);have q1:(Lv p (i+1) k).ownBlock≠some T.bt:=zFB (w3:=w) r.blk c1 (by omega);have q2:(Lv p (i+1) k).ownBlock≠some T.la:=zFB (w3:=w) r.blk h.nb (by omega)
 have g' : ∀ k u,k<w.heap.size->(Lv T.ba i T.bc).ownBlock≠some k->k≠T.bt->k≠T.la->((w3.setCell ⟨T.bt,2,none⟩ u).setCell ⟨T.la,v,none⟩ (Iv y)).heap[k]? = w.heap[k]?:=fun k u hk h1 h2 h3 =>
  (zA6 h3).trans ((zA6 h2).trans (g3 k hk h1))
 have g:Box w3 T.bt 140 _:=h.box.same (g3 _ s c1);have f:Box w3 T.la 3 _:=h.line.same (g3 _ a0 h.nb);have d:=(f.away (zAh (o:=2) (v:=Lv p (i+1) k)) (fun e=>n1 e.symm)).set v (Iv y)
 exact {
  box:=(g.set 2 (Lv p (i+1) k)).away zAh n1
  bt:=h.bt
  line:=by
   by_cases hj:v<S.n+S.m
   ·rw [lLine,zC6 hj] at d
    have e:upto (upd (fun i=>Iv (L i)) v (Iv y)) (S.n+S.m)=lLine (upd L v y) (S.n+S.m):=zA5 fun k _=>by unfold upd;split <;> rfl
    rw [e] at d;exact d
   ·rw [List.set_eq_of_length_le (by rw [lLine,zAD];omega)] at d
    have e:lLine (upd L v y) (S.n+S.m)=lLine L (S.n+S.m):=zA5 fun k hk=>by rw [zAt _ (by omega)]
    rw [e];exact d
  la:=h.la
  val:=h.val.same (g' _ _ h.val.lt c2 n2 n3)
  va:=h.va
  cols:=zD1 h.cols fun k hk hv=>g' _ _ hk (fun e=>h.ncb k hv e) (fun e=>zAs h.cols h.box (by decide) (e▸hv)) (fun e=>h.nc (e▸hv))
  basic:=by
   have:=r.own;rw [lInt,<- zCW (fun i=>Iv ((S.n+i:Nat):Int)) i] at this;exact zAK (zAK this q1 _) q2 _
  a:=zD1 h.a fun k hk hv=>g' _ _ hk (fun e=>zBT h.basic h.a (by decide) k e hv) (fun e=>zAs h.a h.box (by decide) (e▸hv)) (fun e=>zAs h.a h.line (by decide) (e▸hv))
  row:=fun z hz=>zD1 (h.row z hz) fun k hk hv=>g' _ _ hk (fun e=>zBT h.basic (h.row z hz) (by decide) k e hv) (fun e=>zAs (h.row z hz) h.box (by decide) (e▸hv)) (fun e=>zAs (h.row z hz) h.line (by decide) (e▸hv))
  nb:=q2
  nc:=h.nc
  ncb:=fun b hb l=>zFB (w3:=w) r.blk (fun e=>h.ncb b hb e) (by have:=(World.ownsRow.lt h.cols b hb).2;omega) l
  rr:=h.rr }
theorem made_int(n:Nat):madeCells (Iv 0).cells n=(lLine (fun _=>0) n).toArray:=by
 apply Array.ext'
 show _=upto _ n
 apply zE9
 ·simp [madeCells]
 ·intro i hi
  simp [madeCells,Value.cells,hi,Nat.mod_one]
theorem VL_made(n:Nat):madeCells zv.toArray (n*6)=(VL (fun _=>zero2) n).toArray:=by
 apply Array.ext'
 show _=GL _ n
 apply GL_ext (m:=6) (by omega) (fun _=>rfl)
 ·simp [madeCells];omega
 ·intro i hi j hj
  rw [vc2_zero];simp only [madeCells]
  have:(6*i+j)<n*6:=by omega
  have h3:(6*i+j) % 6=j:=by omega
  match j,hj with
  | 0,_=>simp [show 6*i<n*6 by omega]
  | 1,_=>simp [this,h3]
  | 2,_=>simp [this,h3]
  | 3,_=>simp [this,h3]
  | 4,_=>simp [this,h3]
  | 5,_=>simp [this,h3]
theorem plain_QL(f:Nat->Rat) : ∀ n,zAp (QL f n)=true:=by
 have app : ∀ (a b:List Value),zAp a=true->zAp b=true->zAp (a++b)=true:=by
  intro a
  induction a with
  | nil=>intro b _ h;exact h
  | cons x a ih =>
   intro b h1 h2
   cases x <;> simp only [zAp,List.cons_append] at h1 ⊢ <;> first | exact ih b h1 h2 | cases h1 | (simp only [Bool.and_eq_true] at h1 ⊢;exact⟨h1.1,ih b h1.2 h2⟩)
 intro n
 induction n with
 | zero=>rfl
 | succ n ih=>rw [QL];exact app _ _ ih rfl
theorem NewAt.line2{S}{B:Nat}{T}{L:Nat->Int}{w w7 w8}{j i x:Nat}{p9 p10}{k19 k21 B' : Nat}(h:NewAt S B T L w j i x)(hB:B<=w.heap.size)(hB' : w.heap.size<=B')
  (r:AppRes w w7 B' 88 3 none 0 0 [] S.n (QL (S.C x) S.n) p9 k19)(r2:AppRes (w7.alloc (.cells #[Lv p9 S.n k19] 83)) w8 B 83 1 T.aa x T.ac (lRow T S.n x) 1 [Lv p9 S.n k19] p10 k21) :
  NewAt S B { T with aa:=p10,ac:=k21,rowA:=upd T.rowA x p9,rowC:=upd T.rowC x k19 } L (w8.setCell ⟨T.bt,5,none⟩ (Lv p10 (x+1) k21)) j i (x+1):=by
 have hn : ∀ k,(N0).ownBlock≠some k:=fun k e=>by cases e
 have o:Ext w w7:=r.below (B:=w.heap.size) (World.ownsRow_nil _ B' 88 3) (yE w) yL hB';have h7:=(h.ext o).ext ((yE w7).alloc (.cells #[Lv p9 S.n k19] 83));have v:=o.size
 have l : ∀ k,(Lv p9 (0+S.n) k19).ownBlock=some k->w.heap.size<=k:=by
  rcases r.blk with e | e
  ·intro k hk;rw [e] at hk;cases hk
  ·exact e
 have p:w7.ownsRow B 88 3 (Lv p9 S.n k19) S.n (QL (S.C x) S.n):=by
  have:=r.own;rw [Nat.zero_add,List.nil_append] at this;refine⟨this.1,?_⟩
  rcases this.2 with e | ⟨g,cap,cur,hv,hb,r⟩
  ·exact .inl e
  ·exact .inr ⟨g,cap,cur,hv,by omega,r⟩
 rw [Nat.zero_add] at l;have d:=zAm p ((yE w7).alloc (.cells #[Lv p9 S.n k19] 83))
 have ga : ∀ k,k<(w7.alloc (.cells #[Lv p9 S.n k19] 83)).heap.size->(Lv T.aa x T.ac).ownBlock≠some k->k≠T.bt->∀ u,(w8.setCell ⟨T.bt,5,none⟩ u).heap[k]? = (w7.alloc (.cells #[Lv p9 S.n k19] 83)).heap[k]?:=fun k hk h1 h2 u =>
  (zA6 h2).trans (r2.grown.block k hk (Ne.symm h1))
 have c1:(Lv T.aa x T.ac).ownBlock≠some T.bt:=zAs h7.a h7.box (by decide);have c2:(Lv T.aa x T.ac).ownBlock≠some T.va:=zAs h7.a h7.val (by decide);have c3:(Lv T.aa x T.ac).ownBlock≠some T.la:=zAs h7.a h7.line (by decide);have n1:T.la≠T.bt:=boxNe h.line.blk h.box.blk (by decide);have n2:T.va≠T.bt:=boxNe h.val.blk h.box.blk (by decide);have q1:(Lv p10 (x+1) k21).ownBlock≠some T.bt:=zFB (w3:=w) r2.blk c1 h7.box.lt;have m:Box w8 T.bt 140 _:=h7.box.same (r2.grown.block _ h7.box.lt (Ne.symm c1))
 have rowx : ∀ y,y<x+1->(Lv (upd T.rowA x p9 y) S.n (upd T.rowC x k19 y))=if y=x then Lv p9 S.n k19 else Lv (T.rowA y) S.n (T.rowC y):=fun y _=>by
  unfold upd;split <;> rfl
 exact {
  box:=m.set 5 (Lv p10 (x+1) k21)
  bt:=h.bt
  la:=h.la
  va:=h.va
  line:=h7.line.same (ga _ h7.line.lt c3 n1 _)
  val:=h7.val.same (ga _ h7.val.lt c2 n2 _)
  basic:=zD1 h7.basic fun k hk hv=>ga _ hk (fun e=>zBT h7.a h7.basic (by decide) k e hv) (fun e=>zAs h7.basic h7.box (by decide) (e▸hv)) _
  cols:=zD1 h7.cols fun k hk hv=>ga _ hk (fun e=>zBT h7.a h7.cols (by decide) k e hv) (fun e=>zAs h7.cols h7.box (by decide) (e▸hv)) _
  a:=by
   have:=r2.own
   have e:lRow { T with aa:=p10,ac:=k21,rowA:=upd T.rowA x p9,rowC:=upd T.rowC x k19 } S.n (x+1)=lRow T S.n x++[Lv p9 S.n k19]:=by
    rw [lRow,zCW];show upto (fun i=>Lv (upd T.rowA x p9 i) S.n (upd T.rowC x k19 i)) x++[Lv (upd T.rowA x p9 x) S.n (upd T.rowC x k19 x)]=_;rw [zA4,zA4,zA5 (g:=fun i=>Lv (T.rowA i) S.n (T.rowC i)) fun k hk=>by rw [zAt _ (by omega),zAt _ (by omega)]];rfl
   rw [e];exact zAK this q1 _
  row:=fun y hy=>by
   show World.ownsRow _ B 88 3 (Lv (upd T.rowA x p9 y) S.n (upd T.rowC x k19 y)) S.n (QL (S.C y) S.n);rw [rowx y hy]
   by_cases e:y=x
   ·rw [if_pos e,e]
    exact zD1 d fun k hk hv=>ga _ hk (fun e=>zBT h7.a d (by decide) k e hv) (fun e=>zAs d h7.box (by decide) (e▸hv)) _
   ·rw [if_neg e]
    have hr:=h7.row y (by omega);exact zD1 hr fun k hk hv=>ga _ hk (fun e=>zBT h7.a hr (by decide) k e hv) (fun e=>zAs hr h7.box (by decide) (e▸hv)) _
  nc:=h.nc
  nb:=h.nb
  ncb:=h.ncb
  rr:=fun y z hy hz s b hb=>by
   replace hb:(Lv (upd T.rowA x p9 y) S.n (upd T.rowC x k19 y)).ownBlock=some b:=hb;show (Lv (upd T.rowA x p9 z) S.n (upd T.rowC x k19 z)).ownBlock≠some b;rw [rowx y hy] at hb;rw [rowx z hz]
   by_cases e:y=x
   ·rw [if_pos e] at hb
    rw [if_neg (by omega)];intro f;have h1:=(World.ownsRow.lt (h.row z (by omega)) b f).2;have h2:=l b hb;omega
   ·rw [if_neg e] at hb
    by_cases e2:z=x
    ·rw [if_pos e2]
     intro f;have h1:=(World.ownsRow.lt (h.row y (by omega)) b hb).2;have h2:=l b f;omega
    ·rw [if_neg e2]
     exact h.rr y z (by omega) (by omega) s b hb }
theorem NewAt.tab{S}{w0 w:World}{T}{L:Nat->Int}(h:NewAt S w0.heap.size T L w S.n S.m S.m)(hL : ∀ v,v<S.n+S.m->L v=(init S).line v)(hx:Ext w0 w)(hR:RowsR w0 T.ra S T.R)(hg:Gl w0):TabAt S w0.heap.size w { T with xb:=0,xl:=[],yb:=0,yl:=[] } (init S) where
 xt := .inl rfl
 yt := .inl rfl
 d4:=fun _ _ h=>absurd rfl h
 box:=h.box
 bt:=h.bt
 line:=by
  rw [show lLine (init S).line (S.n+S.m)=lLine L (S.n+S.m) from zA5 fun v hv=>by rw [hL v hv]];exact h.line
 la:=h.la
 val:=h.val
 va:=h.va
 basic:=zDV h.basic
 cols:=zDV h.cols
 a:=zDV h.a
 row:=fun i hi=>zDV (h.row i hi)
 rows:=fun w' hb=>hR.ext (Below.trans hx hb)
 gl:=fun w' hb=>hg.ext (Below.trans hx hb)
 d1:=fun b hb=>⟨fun hc=>h.ncb b (by rw [hc];rfl) (by rw [hb];rfl),fun e=>h.nb (by rw [hb,<- e];rfl)⟩
 d2:=fun b hb e=>h.nc (by rw [hb,<- e];rfl)
 d3:=fun i k b hi hk f hb d=>h.rr i k hi hk f b (by rw [hb];rfl) (by rw [d];rfl)
def lineA(S:Tb.Sys)(j:Nat):Nat->Int:=fun v=>if v<j then -1 else 0
def lineB(S:Tb.Sys)(i:Nat):Nat->Int:=fun v=>if v<S.n then -1 else if v<S.n+i then ((v - S.n:Nat):Int) else 0
theorem lineA_succ{S:Tb.Sys}{j:Nat} : upd (lineA S j) j (-1)=lineA S (j+1):=by
 funext v
 unfold upd lineA
 by_cases e:v=j
 ·rw [if_pos e,if_pos (by omega)]
 ·rw [if_neg e]
  by_cases h:v<j
  ·rw [if_pos h,if_pos (by omega)]
  ·rw [if_neg h,if_neg (by omega)]
theorem lineB_zero{S:Tb.Sys} : lineA S S.n=lineB S 0:=by
 funext v
 unfold lineA lineB
 by_cases h:v<S.n
 ·rw [if_pos h,if_pos h]
 ·rw [if_neg h,if_neg h,if_neg (by omega)]
theorem lineB_succ{S:Tb.Sys}{i:Nat} : upd (lineB S i) (S.n+i) (i:Int)=lineB S (i+1):=by
 funext v
 unfold upd lineB
 by_cases e:v=S.n+i
 ·rw [if_pos e,if_neg (by omega),if_pos (by omega),e,show S.n+i - S.n=i by omega]
 ·rw [if_neg e]
  by_cases h:v<S.n
  ·rw [if_pos h,if_pos h]
  ·rw [if_neg h,if_neg h]
   by_cases h2:v<S.n+i
   ·rw [if_pos h2,if_pos (by omega)]
   ·rw [if_neg h2,if_neg (by omega)]
theorem size101(n:Nat):n*siE.P.types[101].size=n*6:=rfl
theorem size3(n:Nat):n*siE.P.types[3].size=n:=Nat.mul_one n
end Go.Proofs.Si
namespace Go.Proofs.Si
open Go Go.V Go.Proofs Go.RowKit Go.Num Go.Tb Go.Proofs.Tryz
open Go.IntKind (i64 u64 u32 u8)
set_option maxRecDepth 100000
set_option maxHeartbeats 1000000 in
theorem c70{S:Tb.Sys}{ra:OA}{rc:Nat}{Rl:RowL}(hf:Few S)(w0:World)(hR:RowsR w0 ra S Rl)(hg:Gl w0) :
  Ret prog 70 #[.int .i64 S.n,.slice ra S.m rc] w0 fun r w'=>∃ T:Lay,r = .pointer (some ⟨T.bt,0,none⟩)/\T.ra=ra/\T.R=Rl/\TabAt S w0.heap.size w' T (init S)/\Ext w0 w':=by
 have e7:=hf
 unfold Few at e7
 have ew:i64.wrap ((S.n:Int)+(S.m:Int))=((S.n+S.m:Nat):Int):=by rw [zAe (by omega) (by omega)];omega
 refine run70 _ _ _ _ _ _ fun K hK=>?_
 have e0:madeCells (Value.agg #[Value.int .i64 0,.int .i64 0,.string { data:=#[] },Value.int .i64 0,.int .i64 0,.string { data:=#[] }]).cells ((S.n+S.m)*6)=(VL (fun _=>zero2) (S.n+S.m)).toArray:=VL_made _
 have pre : ∀ (w1:World) (bt la va:Nat),Box w1 bt 140 [.int .i64 (S.n:Int),.slice ra S.m rc,.slice none 0 0,.slice none 0 0,.slice (some ⟨la,0,none⟩) (S.n+S.m) (S.n+S.m),.slice none 0 0,.slice (some ⟨va,0,none⟩) (S.n+S.m) (S.n+S.m)] ->
   Box w1 la 3 (lLine (fun _=>0) (S.n+S.m))->Box w1 va 101 (VL (fun _=>zero2) (S.n+S.m))->w0.heap.size<=bt->w0.heap.size<=la->w0.heap.size<=va->Ext w0 w1->K [.pointer (some ⟨bt,0,none⟩)] w1:=by
  intro w1 bt la va h1 h2 h3 b1 b2 b3 d6
  refine hK _ _ ?_
  have d1:NewAt S w0.heap.size { bt:=bt,ra:=ra,rc:=rc,R:=Rl,ba:=none,bc:=0,ca:=none,cc:=0,la:=la,aa:=none,ac:=0,va:=va,rowA:=fun _=>none,rowC:=fun _=>0,xb:=0,xl:=[],yb:=0,yl:=[] } (lineA S 0) w1 0 0 0:={
   box:=h1,bt:=b1,line:=h2,la:=b2,val:=h3,va:=b3
   basic:=World.ownsRow_nil _ _ _ _
   cols:=World.ownsRow_nil _ _ _ _
   a:=World.ownsRow_nil _ _ _ _
   row:=fun y hy=>by omega
   nc:=fun e=>by cases e
   nb:=fun e=>by cases e
   ncb:=fun b e=>by cases e
   rr:=fun y z hy=>by omega }
  refine⟨fun vals w2=>∃ (T:Lay) (j:Nat),vals=[.int .i64 j]/\j<=S.n/\T.bt=bt/\T.ra=ra/\T.R=Rl/\NewAt S w0.heap.size T (lineA S j) w2 j 0 0/\Ext w0 w2,mu1 S.n,⟨_,0,rfl,Nat.zero_le _,rfl,rfl,rfl,d1,d6⟩,?_⟩
  clear d1 d6 h1 h2 h3
  rintro m w2 ⟨T,j,f8,hj,rfl,rfl,rfl,hN,he⟩
  cases f8
  refine zAd (fun d3=>?_) (fun e8=>?_)
  ·have e9:j<S.n:=by omega
   refine⟨_,_,_,hN.box.blk.cell (j:=3) rfl,_,_,_,AppOk.one (L:=[.int .i64 (j:Int)]) hN.cols rfl rfl (by unfold maxLen;omega) (by omega) he.size,?_⟩
   intro p1 k3 w3 r
   have x:=hN.col r (-1)
   have b5:(w2.alloc (.cells #[.int .i64 (j:Int)] 3)).heap.size=w2.heap.size+1:=size_alloc ..
   have hx:=(yE w2).alloc (.cells #[.int .i64 (j:Int)] 3)
   have b9:=he.trans hx
   have f9:Ext w0 w3:=r.below (zAm hN.cols hx) b9 (by rw [b5];have:=he.size;omega) yL
   have g3 : ∀ k,k<w2.heap.size->(Value.slice T.ca j T.cc).ownBlock≠some k->w3.heap[k]? = w2.heap[k]?:=fun k hk b4 =>
    (r.grown.block k (by omega) (Ne.symm b4)).trans (hx.block k hk)
   have l:Box w3 T.bt 140 _:=hN.box.same (g3 _ hN.box.lt (zAs hN.cols hN.box (by decide)))
   have a6:=l.set 3 (.slice p1 (j+1) k3)
   have a9:Box w3 T.la 3 _:=hN.line.same (g3 _ hN.line.lt hN.nc)
   have u:=a9.away (zAh (o:=3) (v := .slice p1 (j+1) k3)) (boxNe hN.line.blk hN.box.blk (by decide))
   refine⟨⟨⟨_,l.blk.cell (j:=3) rfl⟩,l.blk.free⟩,_,_,_,a6.blk.cell (j:=4) rfl,_,rfl,⟨by omega,by omega⟩,?_⟩
   simp only [zAi,Nat.zero_add,Nat.mul_one,yT]
   refine⟨⟨⟨_,u.blk.cell (zBg (by omega))⟩,u.blk.free⟩,?_⟩
   rw [lineA_succ] at x
   rw [zAg (by omega)]
   exact⟨⟨{ T with ca:=p1,cc:=k3 },j+1,rfl,e9,rfl,rfl,rfl,x,(f9.setCell hN.bt _).setCell hN.la _⟩,by simp only [mu1,yT];omega⟩
  have ej:j=S.n:=by omega
  subst ej
  rw [lineB_zero] at hN
  refine⟨fun vals w4=>∃ (T' : Lay) (i:Nat),vals=[.int .i64 i]/\i<=S.m/\T'.bt=T.bt/\T'.ra=T.ra/\T'.R=T.R/\NewAt S w0.heap.size T' (lineB S i) w4 S.n i i/\Ext w0 w4,mu1 S.m,⟨T,0,rfl,Nat.zero_le _,rfl,rfl,rfl,hN,he⟩,?_⟩
  clear hN he
  rintro m w4 ⟨T',i,f7,hi,d5,b6,b7,hN,he⟩
  cases f7
  refine zAd (fun d3=>?_) (fun e8=>?_)
  ·have a8:i<S.m:=by omega
   have e6:=hR.ext he
   obtain⟨ad,ha,hc,b0,o0,g6⟩:=e6.get a8
   have a4:=yN w4 [Value.slice none 0 0,.int .i64 0,.int .i64 0,.int .i64 0,.string { data:=#[] }] 90
   have d7:Ext w4 (setCells (w4.alloc (.cells [Value.slice none 0 0,.int .i64 0,.int .i64 0,.int .i64 0,.string { data:=#[] }].toArray 90)) ⟨w4.heap.size,0,none⟩ 0 (rowc S T.R i)):=((yE w4).alloc _).put yL _ _
   have hP:=a4.put (rowc S T.R i) (by rfl)
   have d:=hN.ext d7
   have a7:=he.trans d7
   rw [d5.symm]
   refine⟨ad,ha,⟨by omega,d3⟩,_,_,_,_,_,_,_,hc,a4.blk.writable (by decide),_,_,_,d.box.blk.cell (j:=2) rfl,?_⟩
   have ewi:i64.wrap ((S.n:Int)+(i:Int))=((S.n+i:Nat):Int):=by rw [zAe (by omega) (by omega)];omega
   rw [ewi]
   refine⟨_,_,_,AppOk.one (L:=[.int .i64 ((S.n+i:Nat):Int)]) d.basic rfl rfl (by unfold maxLen;omega) (by omega) a7.size,?_⟩
   intro p5 f w5 r
   replace r:AppRes ((setCells (w4.alloc (.cells [Value.slice none 0 0,.int .i64 0,.int .i64 0,.int .i64 0,.string { data:=#[] }].toArray 90)) ⟨w4.heap.size,0,none⟩ 0 (rowc S T.R i)).alloc (.cells #[.int .i64 ((S.n+i:Nat):Int)] 3)) w5 w0.heap.size 3 1 T'.ba i T'.bc (lInt (fun i=>S.n+i) i) 1 [.int .i64 ((S.n+i:Nat):Int)] p5 f:=r
   have x:=d.bas r (S.n+i) (i:Int)
   rw [lineB_succ] at x
   have b5:((setCells (w4.alloc (.cells [Value.slice none 0 0,.int .i64 0,.int .i64 0,.int .i64 0,.string { data:=#[] }].toArray 90)) ⟨w4.heap.size,0,none⟩ 0 (rowc S T.R i)).alloc (.cells #[.int .i64 ((S.n+i:Nat):Int)] 3)).heap.size=(setCells (w4.alloc (.cells [Value.slice none 0 0,.int .i64 0,.int .i64 0,.int .i64 0,.string { data:=#[] }].toArray 90)) ⟨w4.heap.size,0,none⟩ 0 (rowc S T.R i)).heap.size+1:=size_alloc ..
   have hx:=(yE (setCells (w4.alloc (.cells [Value.slice none 0 0,.int .i64 0,.int .i64 0,.int .i64 0,.string { data:=#[] }].toArray 90)) ⟨w4.heap.size,0,none⟩ 0 (rowc S T.R i))).alloc (.cells #[.int .i64 ((S.n+i:Nat):Int)] 3)
   have b9:=a7.trans hx
   have g0:Ext w0 w5:=r.below (zAm d.basic hx) b9 (by rw [b5];have:=a7.size;omega) yL
   have g3 : ∀ k,k<(setCells (w4.alloc (.cells [Value.slice none 0 0,.int .i64 0,.int .i64 0,.int .i64 0,.string { data:=#[] }].toArray 90)) ⟨w4.heap.size,0,none⟩ 0 (rowc S T.R i)).heap.size->(Value.slice T'.ba i T'.bc).ownBlock≠some k->w5.heap[k]? = (setCells (w4.alloc (.cells [Value.slice none 0 0,.int .i64 0,.int .i64 0,.int .i64 0,.string { data:=#[] }].toArray 90)) ⟨w4.heap.size,0,none⟩ 0 (rowc S T.R i)).heap[k]?:=fun k hk b4 =>
    (r.grown.block k (by omega) (Ne.symm b4)).trans (hx.block k hk)
   have l:Box w5 T'.bt 140 _:=d.box.same (g3 _ d.box.lt (zAs d.basic d.box (by decide)))
   have a6:=l.set 2 (.slice p5 (i+1) f)
   have a9:Box w5 T'.la 3 _:=d.line.same (g3 _ d.line.lt d.nb)
   have u:=a9.away (zAh (o:=2) (v := .slice p5 (i+1) f)) (boxNe d.line.blk d.box.blk (by decide))
   have e4:Box w5 w4.heap.size 90 _:=hP.same (g3 _ hP.lt (zAs d.basic hP (by decide)))
   have e5:=((e4.away (zAh (o:=2) (v := .slice p5 (i+1) f)) (boxNe hP.blk d.box.blk (by decide))).away (zAh (o:=S.n+i) (v := .int .i64 (i:Int))) (fun (e:w4.heap.size=T'.la)=>by have:=hN.line.lt;omega)).ext (yE _).drew
   have g1:Ext w0 ((w5.setCell ⟨T'.bt,2,none⟩ (.slice p5 (i+1) f)).setCell ⟨T'.la,S.n+i,none⟩ (.int .i64 (i:Int))):=(g0.setCell hN.bt _).setCell hN.la _
   have s:=g1.drew
   have p:=x.ext (yE _).drew
   refine⟨⟨⟨_,l.blk.cell (j:=2) rfl⟩,l.blk.free⟩,_,_,_,a6.blk.cell (j:=4) rfl,_,rfl,⟨by omega,by omega⟩,?_⟩
   simp only [zAi,Nat.zero_add,Nat.mul_one,yT]
   refine⟨⟨⟨_,u.blk.cell (zBg (by omega))⟩,u.blk.free⟩,?_⟩
   intro K1 d9
   have d8:=hR.2 i a8
   refine⟨_,_,_,p.box.blk.cell (j:=5) rfl,_,_,_,e5.blk.cell (j:=0) rfl,((w5.setCell ⟨T'.bt,2,none⟩ (.slice p5 (i+1) f)).setCell ⟨T'.la,S.n+i,none⟩ (.int .i64 (i:Int))).drew.heap.size,[],QL (S.C i) S.n,?_,?_⟩
   ·exact {
     own := .inl (World.ownsRow_nil _ _ _ _)
     len:=(zAM _ _).trans (Nat.mul_comm _ _)
     src:=by
      rcases (d8.ext s) with e | ⟨ad,e1,e2,e3⟩
      ·left
       have:=congrArg List.length e
       rw [zAM] at this
       simp only [List.length_nil] at this
       omega
      ·exact .inr ⟨ad,e1,zBD.2 e3⟩
     plain:=plain_QL _ _
     max:=by unfold maxLen;omega
     bytes:=by omega
     base:=yL }
   intro p9 d0 w7 r7
   have a0:Ext ((w5.setCell ⟨T'.bt,2,none⟩ (.slice p5 (i+1) f)).setCell ⟨T'.la,S.n+i,none⟩ (.int .i64 (i:Int))).drew w7:=r7.below (B:=(((w5.setCell ⟨T'.bt,2,none⟩ (.slice p5 (i+1) f)).setCell ⟨T'.la,S.n+i,none⟩ (.int .i64 (i:Int))).drew).heap.size) (World.ownsRow_nil _ (((w5.setCell ⟨T'.bt,2,none⟩ (.slice p5 (i+1) f)).setCell ⟨T'.la,S.n+i,none⟩ (.int .i64 (i:Int))).drew).heap.size 88 3) (yE _) yL yL
   have b8:=a0.trans ((yE w7).alloc (.cells #[.slice p9 S.n d0] 83))
   have g:=p.ext b8
   have a5:=s.trans b8
   refine⟨a0,b8,_,_,_,AppOk.one (L:=[.slice p9 S.n d0]) (zAm p.a a0) rfl rfl (by unfold maxLen;omega) (by omega) (s.trans a0).size,?_⟩
   intro g5 g4 w8 r8
   have d4:=p.line2 s.size yL r7 r8
   have d2:Box w8 T'.bt 140 _:=g.box.same (r8.grown.block _ g.box.lt (Ne.symm (zAs g.a g.box (by decide))))
   refine⟨⟨⟨_,d2.blk.cell (j:=5) rfl⟩,d2.blk.free⟩,d9 _ ?_⟩
   have g2:Ext w0 w8:=r8.below g.a a5 a5.size yL
   rw [zAg (by omega)]
   exact⟨⟨{ T' with ba:=p5,bc:=f,aa:=g5,ac:=g4,rowA:=upd T'.rowA i p9,rowC:=upd T'.rowC i d0 },i+1,rfl,a8,rfl,b6,b7,d4,g2.setCell hN.bt _⟩,by simp only [mu1,yT];omega⟩
  ·have ei:i=S.m:=by omega
   subst ei
   refine⟨{ T' with xb:=0,xl:=[],yb:=0,yl:=[] },by rw [d5],b6,b7,hN.tab (fun v hv=>?_) he (by rw [b6,b7];exact hR) hg,he⟩
   show lineB S S.m v=if v<S.n then -1 else ((v - S.n:Nat):Int)
   unfold lineB
   by_cases h:v<S.n
   ·rw [if_pos h,if_pos h]
   ·rw [if_neg h,if_neg h,if_pos (by omega)]
 rw [ew]
 simp only [yT,size3,size101,made_int,e0]
 have hd:=(yE w0).drew
 have a1:=(yE w0.drew).alloc (.cells (lLine (fun _=>0) (S.n+S.m)).toArray 3)
 have a2:=(yE (w0.drew.alloc (.cells (lLine (fun _=>0) (S.n+S.m)).toArray 3))).alloc (.cells (VL (fun _=>zero2) (S.n+S.m)).toArray 101)
 have b1:=(yE w0.drew).alloc (.cells (VL (fun _=>zero2) (S.n+S.m)).toArray 101)
 have b2:=(yE (w0.drew.alloc (.cells (VL (fun _=>zero2) (S.n+S.m)).toArray 101))).alloc (.cells (lLine (fun _=>0) (S.n+S.m)).toArray 3)
 refine⟨⟨⟨by omega,by omega,by omega,by omega⟩,⟨by omega,by omega,by omega,by omega⟩,?_⟩,⟨by omega,by omega,by omega,by omega⟩,⟨by omega,by omega,by omega,by omega⟩,?_⟩
 ·have a3:=(yE ((w0.drew.alloc (.cells (lLine (fun _=>0) (S.n+S.m)).toArray 3)).alloc (.cells (VL (fun _=>zero2) (S.n+S.m)).toArray 101))).alloc (.cells [Value.int .i64 (S.n:Int),.slice ra S.m rc,.slice none 0 0,.slice none 0 0,.slice (some ⟨w0.drew.heap.size,0,none⟩) (S.n+S.m) (S.n+S.m),.slice none 0 0,.slice (some ⟨(w0.drew.alloc (.cells (lLine (fun _=>0) (S.n+S.m)).toArray 3)).heap.size,0,none⟩) (S.n+S.m) (S.n+S.m)].toArray 140)
  exact pre _ _ _ _ (yN _ _ 140) (((yN _ _ 3).ext a2).ext a3) ((yN _ _ 101).ext a3) (hd.trans (a1.trans a2)).size hd.size (hd.trans a1).size (hd.trans ((a1.trans a2).trans a3))
 ·have a3:=(yE ((w0.drew.alloc (.cells (VL (fun _=>zero2) (S.n+S.m)).toArray 101)).alloc (.cells (lLine (fun _=>0) (S.n+S.m)).toArray 3))).alloc (.cells [Value.int .i64 (S.n:Int),.slice ra S.m rc,.slice none 0 0,.slice none 0 0,.slice (some ⟨(w0.drew.alloc (.cells (VL (fun _=>zero2) (S.n+S.m)).toArray 101)).heap.size,0,none⟩) (S.n+S.m) (S.n+S.m),.slice none 0 0,.slice (some ⟨w0.drew.heap.size,0,none⟩) (S.n+S.m) (S.n+S.m)].toArray 140)
  exact pre _ _ _ _ (yN _ _ 140) ((yN _ _ 3).ext a3) (((yN _ _ 101).ext b2).ext a3) (hd.trans (b1.trans b2)).size (hd.trans b1).size hd.size (hd.trans ((b1.trans b2).trans a3))
end Go.Proofs.Si
namespace Go.Proofs.Si
open Go Go.V Go.Proofs Go.RowKit Go.Num Go.Tb Go.Proofs.Tryz
set_option maxRecDepth 100000
theorem zGD{a b:V2}{eps:Rat}(ha:dg2 2000000 a)(hb:dg2 2000000 b)(he:dg 9000000 eps):dg 9000000 (below eps a b):=by
 unfold below;split
 ·split
  ·exact (((hb.1.sub ha.1).mul (ha.2.sub hb.2).inv)).mono (by decide)
  ·exact he
 ·exact he
set_option maxHeartbeats 2000000 in
theorem c165{a b:V2}{eps:Rat}{eb:Nat}(ha:dg2 2000000 a)(hb:dg2 2000000 b)(he:dg 9000000 eps)(w)(hE:Box w eb 88 (qc eps))(hg:Gl w)(hgb : ∀ w',Below eb w w'->Gl w') :
  Ret prog 165 #[vv a,vv b,.pointer (some ⟨eb,0,none⟩)] w fun r w'=>r = .tuple #[]/\Box w' eb 88 (qc (below eps a b))/\Below eb w w':=by
 have b7:=(yE w).alloc (.cells (vc2 a).toArray 101);have b4:=(yE (w.alloc (.cells (vc2 a).toArray 101))).alloc (.cells (vc2 b).toArray 101);have hA:=(yN w (vc2 a) 101).ext b4;have v:=yN (w.alloc (.cells (vc2 a).toArray 101)) (vc2 b) 101;have a2:=b7.trans b4;have b1:=hE.lt;refine run165 _ _ _ _ _ _ _ _ _ _ _ _ _ _ _ fun K hK=>?_;refine⟨_,_,_,hA.r,_,_,_,v.r,yC (c67 (ha.1.mono (by decide)) (hb.1.mono (by decide)) _ (hg.ext a2)) ?_⟩;rintro r d6 ⟨rfl,d⟩;have p:=a2.trans d
 have no : ∀ w1,Ext w w1->¬ (a.1<b.1/\b.2<a.2)->K [Bv false] w1:=by
  intro w1 h1 hn;refine hK false w1 ?_;rw [cond_false];refine⟨rfl,?_,Below.mono h1 (Nat.le_of_lt b1)⟩;rw [below,if_neg hn];exact hE.ext h1
 refine⟨_,rfl,zAd (fun b2=>?_) (fun b0=>?_)⟩
 ·refine⟨_,_,_,(hA.ext d).e,_,_,_,(v.ext d).e,yC (c67 (ha.2.mono (by decide)) (hb.2.mono (by decide)) _ ((hg.ext a2).ext d)) ?_⟩
  rintro r b5 ⟨rfl,i⟩;have s:=p.trans i;refine⟨_,rfl,?_⟩
  by_cases hgt:cmpQ a.2 b.2>0
  ·rw [decide_eq_true hgt]
   have hc:a.1<b.1/\b.2<a.2:=⟨zDD.1 b2,zF8.1 hgt⟩;refine hK true b5 ?_;rw [cond_true];intro K1 b6;have l:=s.drew;have a3:=((hA.ext d).ext i).ext (yE _).drew;have a4:=((v.ext d).ext i).ext (yE _).drew;have d1:=hb.1.sub ha.1;have d2:=ha.2.sub hb.2
   have h0:a.2 - b.2≠0:=by have:=hc.2;grind
   have d3:dg 9000000 ((b.1 - a.1)*(a.2 - b.2)⁻¹):=(d1.mul d2.inv).mono (by decide)
   have cont : ∀ c w2,w.heap.size<=c->Box w2 c 88 (qc ((b.1 - a.1)*(a.2 - b.2)⁻¹))->Ext w w2->K1 [.pointer (some ⟨c,0,none⟩)] w2:=by
    intro c w2 b9 hC h2;refine b6 _ w2 ⟨_,_,_,hC.blk.all,_,_,_,(hE.ext h2).blk.all,yC (c67 (d3.mono (by decide)) (he.mono (by decide)) _ (hg.ext h2)) ?_⟩;rintro r w3 ⟨rfl,a6⟩;have h3:=h2.trans a6;have x:=hE.ext h3;have a5:=Below.mono h3 (Nat.le_of_lt b1);refine⟨_,rfl,zAd (fun hl=>?_) (fun hl=>?_)⟩
    ·refine⟨_,_,_,(hC.ext a6).blk.all,x.blk.writable (Nat.le_refl 3),rfl,?_,Below.trans a5 (zAy yL _ _)⟩
     rw [below,if_pos hc,if_pos (zDD.1 hl)];exact x.put _ (by rfl)
    ·refine⟨rfl,?_,a5⟩
     rw [below,if_pos hc,if_neg (fun h=>hl (zDD.2 h))];exact x
   have put : ∀ {w2 w3:World},Ext w w2->Box w3 w2.heap.size 88 zq->Ext w2 w3->writable w3 ⟨w2.heap.size,0,none⟩ 3/\K1 [.pointer (some ⟨w2.heap.size,0,none⟩)] (setCells w3 ⟨w2.heap.size,0,none⟩ 0 (qc ((b.1 - a.1)*(a.2 - b.2)⁻¹))):=by
    intro w2 w3 h2 hN h3;exact⟨hN.blk.writable (by decide),cont _ _ h2.size (hN.put _ (by rfl)) ((h2.trans h3).put h2.size _ _)⟩
   have hz:=fun (u:World)=>(yE u).alloc (.cells zq.toArray 88);refine⟨_,_,_,a4.r,_,_,_,a3.r,_,_,_,a3.e,_,_,_,a4.e,?_,hz _,?_⟩
   ·refine yC (c114 (hb.1.mono (by decide)) (ha.1.mono (by decide)) _ (hg.ext l)) ?_
    rintro r w4 ⟨rfl,j⟩;have k:=l.trans j;refine⟨_,_,_,rfl,j,?_,j.trans (hz _),?_⟩
    ·refine yC (c114 (ha.2.mono (by decide)) (hb.2.mono (by decide)) _ (hg.ext k)) ?_
     rintro r w5 ⟨rfl,a0⟩;have m:=k.trans a0;refine⟨_,_,_,rfl,?_,(j.trans a0).trans (hz _),?_⟩
     ·refine yC (c146 (d1.mono (by decide)) (d2.mono (by decide)) h0 _ (hg.ext m)) ?_
      rintro r w6 ⟨rfl,a7⟩;exact⟨_,_,_,rfl,((j.trans a0).trans a7).trans (hz _),put (m.trans a7) (yN w6 zq 88) (hz _)⟩
     ·refine yC (c146 (d1.mono (by decide)) (d2.mono (by decide)) h0 _ (hg.ext (m.trans (hz _)))) ?_
      rintro r w7 ⟨rfl,a8⟩;exact⟨_,_,_,rfl,put m ((yN w5 zq 88).ext a8) ((hz _).trans a8)⟩
    ·refine yC (c114 (ha.2.mono (by decide)) (hb.2.mono (by decide)) _ (hg.ext (k.trans (hz _)))) ?_
     rintro r w8 ⟨rfl,a1⟩;have b8:=(k.trans (hz _)).trans a1;refine⟨_,_,_,rfl,yC (c146 (d1.mono (by decide)) (d2.mono (by decide)) h0 _ (hg.ext b8)) ?_⟩;rintro r w9 ⟨rfl,a9⟩;exact⟨_,_,_,rfl,put k (((yN w4 zq 88).ext a1).ext a9) (((hz _).trans a1).trans a9)⟩
   ·refine yC (c114 (hb.1.mono (by decide)) (ha.1.mono (by decide)) _ (hg.ext (l.trans (hz _)))) ?_
    rintro r d0 ⟨rfl,f⟩;have o:=(l.trans (hz _)).trans f;refine⟨_,_,_,rfl,(hz _).trans f,yC (c114 (ha.2.mono (by decide)) (hb.2.mono (by decide)) _ (hg.ext o)) ?_⟩;rintro r d4 ⟨rfl,g⟩;have b3:=o.trans g;refine⟨_,_,_,rfl,yC (c146 (d1.mono (by decide)) (d2.mono (by decide)) h0 _ (hg.ext b3)) ?_⟩;rintro r d5 ⟨rfl,n⟩;exact⟨_,_,_,rfl,put l ((((yN b5.drew zq 88).ext f).ext g).ext n) ((((hz _).trans f).trans g).trans n)⟩
  ·rw [decide_eq_false hgt]
   exact no _ s (fun h=>hgt (zF8.2 h.2))
 ·exact no _ p (fun h=>b0 (zDD.2 h.1))
end Go.Proofs.Si
namespace Go.Proofs.Si
open Go Go.V Go.Proofs Go.RowKit Go.Num Go.Tb Go.Proofs.Tryz
open Go.IntKind (i64 u64 u32 u8)
set_option maxRecDepth 100000
theorem v1{w:World}{ad:Addr}{v:V2}(h:vcells w ad 0 (vc2 v)):vcells w ad 0 (qc v.1):=by
 rw [zAH] at h ⊢;intro j x hj;have b:j<3:=(List.getElem?_eq_some_iff.1 hj).1
 exact h j x (by
  match j,b with
  | 0,_=>exact hj
  | 1,_=>exact hj
  | 2,_=>exact hj)
theorem v2{w:World}{b o k:Nat}{v:V2}(h:vcells w ((⟨b,o,none⟩:Addr).add k) 0 (vc2 v)):vcells w (((⟨b,o,none⟩:Addr).add k).add 3) 0 (qc v.2):=by
 rw [zAi] at h ⊢;rw [zAH] at h ⊢;intro j x hj;have d:j<3:=(List.getElem?_eq_some_iff.1 hj).1
 have:=h (3+j) x (by
  match j,d with
  | 0,_=>exact hj
  | 1,_=>exact hj
  | 2,_=>exact hj)
 rw [<- this,zAi,zAi,zAi,show o+k+3+(0+j)=o+k+(0+(3+j)) by omega]
theorem zGC{S:Tb.Sys}{s:Dy}(hS:Short S 2000000)(hv : ∀ v,v<S.n+S.m->dg2 2000000 (s.val v)) : ∀ k,k<=S.m->dg 9000000 (epsF S s k)
 | 0,_=>zF5 (by decide)
 | k+1,hk=>by
  have ih:=zGC hS hv k (by omega)
  have hvl:S.n+k<S.n+S.m:=by omega
  rw [epsF,zCq]
  have h1:dg 9000000 (match upper S (S.n+k) with | some u=>below (epsF S s k) (s.val (S.n+k)) u | none=>epsF S s k):=by
   cases hu:upper S (S.n+k) with
   | none=>exact ih
   | some u=>exact zGD (hv _ hvl) (upper_dg hS hvl hu) ih
  cases hl:lower S (S.n+k) with
  | none=>exact h1
  | some l=>exact zGD (zEJ hS hvl hl) (hv _ hvl) h1
set_option maxHeartbeats 4000000 in
theorem c124{S}{B:Nat}{T}{s:Dy}(hf:Few S)(hS:Short S 2000000)(hv : ∀ v,v<S.n+S.m->dg2 2000000 (s.val v))(w)(hT:TabAt S B w T s) :
  Ret prog 124 #[.pointer (some ⟨T.bt,0,none⟩)] w fun r w'=>r=qv (zBv S s)/\Ext w w':=by
 have hB:=hT.hB;have d3:=hf;unfold Few at d3;have a8:=(yE w).alloc (.cells zq.toArray 88);have o:=yN w zq 88;refine run124 _ _ _ (yC (c130 1 (by decide) _ (hT.ext a8 hB).gg) ?_);rintro r w1 ⟨rfl,h⟩;have a9:=a8.trans h;have a2:=yN w1 zq 88;have b1:Ext w (setCells (w1.alloc (.cells zq.toArray 88)) ⟨w1.heap.size,0,none⟩ 0 (qc ((1:Int):Rat))):=(a9.alloc _).put a9.size _ _;have b2:=a2.put (qc ((1:Int):Rat)) (by rfl);have b4:Box (setCells (w1.alloc (.cells zq.toArray 88)) ⟨w1.heap.size,0,none⟩ 0 (qc ((1:Int):Rat))) w.heap.size 88 zq:=((o.ext h).ext ((yE w1).alloc _)).away zAf (by have:=(o.ext h).lt;omega);have a6:w.heap.size<w1.heap.size:=(o.ext h).lt;refine⟨_,_,_,rfl,a2.blk.writable (by decide),_,(hT.ext b1 hB).f0,fun vals w2=>∃ k:Nat,vals=[Iv ((S.n+k:Nat):Int)]/\k<=S.m/\Box w2 w1.heap.size 88 (qc (epsF S s k))/\Box w2 w.heap.size 88 zq/\Ext w w2,mu1 (S.n+S.m),⟨0,rfl,Nat.zero_le _,b2,b4,b1⟩,?_⟩;clear b2 b4 b1 a2 a9 h o a8;rintro m w2 ⟨k,d4,hk,hE,hN,a5⟩;cases d4;have d:=hT.ext a5 hB
 have d1:B<=w1.heap.size:=by omega
 have glb : ∀ {w3:World},Ext w w3->∀ w4,Below w1.heap.size w3 w4->Gl w4:=fun h3 w4 h4=>(hT.ext h3 hB).gl w4 (Below.mono h4 d1);have u : ∀ {w3 w4:World},Ext w w3->Below w1.heap.size w3 w4->Ext w w4:=fun h3 h4=>Below.trans h3 (Below.mono h4 (Nat.le_of_lt a6));refine⟨_,_,_,d.f6,zAd (fun d6=>?_) (fun d5=>?_)⟩
 ·have b8:k<S.m:=by omega
  have b:S.n+k<S.n+S.m:=by omega
  have a7:upper S (S.n+k)=some (ub S (S.n+k)):=by rw [upper,if_neg (by omega)]
  intro K hK;refine yC (c159 hf b w2 d d.hB d.gg) ?_;rintro r w6 ⟨rfl,b7⟩;rw [ov_eq,a7];have p:Ext w2 (setCells (w6.alloc (.cells zv.toArray 101)) ⟨w6.heap.size,0,none⟩ 0 (vc2 (ub S (S.n+k)))).drew:=((b7.alloc _).put b7.size _ _).drew;have hU:=((yN w6 zv 101).put (vc2 (ub S (S.n+k))) (by rfl)).ext (yE _).drew;have a3:=d.ext p d.hB;have a1:=a5.trans p;refine⟨_,_,_,_,_,_,_,rfl,(yN w6 zv 101).blk.writable (by decide),?_⟩;have d0:=ub_dg hS (Nat.le_add_right S.n k) b;have ih:=zGC hS hv k hk;refine⟨_,_,_,a3.f6,_,rfl,⟨by omega,by omega⟩,_,_,_,_,_,_,a3.valAt (v:=S.n+k) b,_,_,_,_,_,_,hU.blk.all,yC (c165 (hv _ b) d0 ih _ (hE.ext p) a3.gg (glb a1)) ?_⟩;rintro r w7 ⟨rfl,b3,a0⟩;have b0:=u a1 a0;have b5:Box w7 w.heap.size 88 zq:=(hN.ext p).same (a0.block _ a6);have a4:=hT.ext b0 hB;refine⟨rfl,hK _ ?_⟩;have d7:=zGD (hv _ b) d0 ih;refine yC (c161 hf b w7 a4 a4.hB a4.gg) ?_;rintro r w4 ⟨rfl,b6⟩;rw [ov_eq];have f:Ext w7 (setCells (w4.alloc (.cells zv.toArray 101)) ⟨w4.heap.size,0,none⟩ 0 (vc2 ((lower S (S.n+k)).getD zero2))):=(b6.alloc _).put b6.size _ _;have hL:=((yN w4 zv 101).put (vc2 ((lower S (S.n+k)).getD zero2)) (by rfl));refine⟨_,_,_,_,_,_,_,rfl,(yN w4 zv 101).blk.writable (by decide),?_⟩
  have hw:i64.wrap (((S.n+k:Nat):Int)+1)=((S.n+(k+1):Nat):Int):=by rw [zAg (by omega)];rfl
  rw [hw]
  have b9 : ∀ w5,mu1 (S.n+S.m) [Iv ((S.n+(k+1):Nat):Int)] w5<mu1 (S.n+S.m) [Iv ((S.n+k:Nat):Int)] w2:=fun _=>by simp only [mu1,yT];omega
  cases hlo:lower S (S.n+k) with
  | none =>
   rw [hlo] at f;refine⟨⟨k+1,rfl,b8,?_,b5.ext f,b0.trans f⟩,b9 _⟩;rw [epsF,zCq,a7,hlo];exact b3.ext f
  | some l =>
   rw [hlo] at f hL;have j:=f.drew;have i:=b0.trans j;have g:=hT.ext i hB;refine⟨_,_,_,_,_,_,(hL.ext (yE _).drew).blk.all,_,_,_,g.f6,_,rfl,⟨by omega,by omega⟩,_,_,_,_,_,_,g.valAt (v:=S.n+k) b,yC (c165 (zEJ hS b hlo) (hv _ b) d7 _ (b3.ext j) g.gg (glb i)) ?_⟩;rintro r w5 ⟨rfl,d2,x⟩;refine⟨rfl,⟨k+1,rfl,b8,?_,?_,u i x⟩,b9 _⟩
   ·rw [epsF,zCq,a7,hlo]
    exact d2
   ·exact (b5.ext j).same (x.block _ a6)
 ·have ek:k=S.m:=by omega
  subst ek;obtain⟨p1,p2,p3⟩:=qput (epsF S s S.m) hN a5 yL;exact⟨_,_,_,hE.blk.all,p1,_,_,_,p2,rfl,p3⟩
set_option maxHeartbeats 4000000 in
theorem c73{S}{B:Nat}{T}{s:Dy}{rel:Bool}(hf:Few S)(hS:Short S 2000000)(hv : ∀ v,v<S.n+S.m->dg2 2000000 (s.val v))(w)(hT:TabAt S B w T s) :
  Ret prog 73 #[.pointer (some ⟨T.bt,0,none⟩),Bv rel] w fun r w'=>∃ b,r=Lv (some ⟨b,0,none⟩) S.n S.n/\w.heap.size<=b/\Box w' b 88 (QL (zBP s (if rel then 0 else zBv S s)) S.n)/\Ext w w':=by
 have hB:=hT.hB;have b2:=hf;unfold Few at b2;have p:=(yE w).alloc (.cells zq.toArray 88);have a1:=yN w zq 88;have b1:=zGC hS hv S.m yL;refine run73 _ _ _ _ fun K hK=>?_
 have main : ∀ (eps:Rat) w1,dg 9000000 eps->eps=(if rel then 0 else zBv S s)->Box w1 w.heap.size 88 (qc eps)->Ext w w1->K [] w1:=by
  intro eps w1 hd a6 hE i;refine hK w1 ?_;have a3:=hT.ext i hB;refine⟨_,a3.f0,⟨by omega,by omega,by omega,by omega⟩,?_⟩;simp only [yT,zFh];have e0:madeCells (Value.agg #[Iv 0,Iv 0,S0]).cells (S.n*3)=(QL (fun _=>0) S.n).toArray:=zDF S.n;rw [e0];have b4:=hE.lt;refine⟨fun vals w2=>∃ k:Nat,vals=[Iv k]/\k<=S.n/\Box w2 w1.heap.size 88 (QL (part (zBP s eps) (fun _=>0) k) S.n)/\Box w2 w.heap.size 88 (qc eps)/\Ext w w2,mu1 S.n,⟨0,rfl,Nat.zero_le _,by rw [zDa];exact yN w1 _ 88,hE.ext ((yE w1).alloc _),i.alloc _⟩,?_⟩;clear a3 hE;rintro m w2 ⟨k,b3,hk,hM,hE,a4⟩;cases b3;refine zAd (fun b6=>?_) (fun b5=>?_)
  ·have o:k<S.n:=by omega
   have h:k<S.n+S.m:=by omega
   intro K1 a8;have a7:=a4.drew;have d:=hT.ext a7 hB;have a9:=hM.ext (yE _).drew;have u:=hE.ext (yE _).drew;have j:=d.valAt (v:=k) h;refine⟨_,_,_,d.f6,_,rfl,⟨by omega,by omega⟩,_,_,_,v1 j,_,_,_,d.f6,_,rfl,⟨by omega,by omega⟩,_,_,_,v2 j,_,_,_,u.blk.all,yC (c113 ((hv k h).2.mono (by decide)) (hd.mono (by decide)) _ d.gg) ?_⟩;rintro r w4 ⟨rfl,f⟩;have b0:=d.ext f d.hB;refine⟨_,_,_,rfl,f,yC (c112 ((hv k h).1.mono (by decide)) (((hv k h).2.mul hd).mono (by decide)) _ b0.gg) ?_⟩;rintro r w5 ⟨rfl,l⟩;have a0:=(a9.ext f).ext l;refine⟨_,_,_,rfl,_,rfl,⟨by omega,by omega⟩,a0.qwr o,a8 _ ?_⟩;rw [zAg (by omega)];refine⟨⟨k+1,rfl,o,?_,?_,?_⟩,by simp only [mu1,yT];omega⟩
   ·have:=a0.qset o (zBP s eps k)
    rw [zCx] at this;exact this
   ·rw [zAi];exact ((u.ext f).ext l).away zAf (by omega)
   ·rw [zAi];exact ((a7.trans f).trans l).put i.size _ _
  ·have ek:k=S.n:=by omega
   subst ek;refine⟨w1.heap.size,rfl,i.size,?_,a4⟩;rw [zAS (g:=zBP s (if rel then 0 else zBv S s)) fun x hx=>by rw [zG5 hx,a6]] at hM;exact hM
 cases rel
 ·refine yC (c124 hf hS hv _ (hT.ext p hB)) ?_
  rintro r w6 ⟨rfl,a5⟩;have a2:=a1.ext a5;refine⟨_,_,_,rfl,a2.blk.writable (by decide),main (zBv S s) _ b1 rfl (a2.put _ (by rfl)) ((p.trans a5).put yL _ _)⟩
 ·refine main 0 _ (zB8 (by decide)) rfl ?_ p
  rw [qc_zero];exact a1
end Go.Proofs.Si
namespace Go.Proofs.Si
open Go Go.V Go.Proofs Go.RowKit Go.Num Go.Tb Go.Proofs.Tryz
set_option maxRecDepth 100000
def zvF(s:Dy)(c:Nat->Rat):Nat->V2
 | 0=>zero2
 | k+1=>add2 (zvF s c k) (zAC (s.val k) (c k))
structure FitsC (S:Tb.Sys) (c:Nat->Rat):Prop where
 sh : ∀ v,v<S.n->dg 1000000 (c v)
 cost : ∀ s,Inv S s->∀ k,k<=S.n->∀ j,j<S.n->dg 40000000 (costF S s c k j)
 zv : ∀ s,Inv S s->∀ k,k<=S.n->dg2 60000000 (zvF s c k)
def accL:Option (Int × V2)->Int
 | none => -1
 | some (l,_)=>l
def accV:Option (Int × V2)->V2
 | none=>zero2
 | some (_,x)=>x
structure AccAt (w0 w:World) (t b0 b1 b2 b3:Nat) (acc:Option (Int × V2)):Prop where
 x0:Box w b0 94 [.pointer (some ⟨t,0,none⟩)]
 x1:Box w b1 4 [Bv acc.isSome]
 x2:Box w b2 101 (vc2 (accV acc))
 x3:Box w b3 3 [Iv (accL acc)]
 g0:w0.heap.size<=b0
 g1:w0.heap.size<=b1
 g2:w0.heap.size<=b2
 g3:w0.heap.size<=b3
 hx:Ext w0 w
def bestc(r:Value)(x:V2)(d:Value):List Value:=[r,Iv (qn x.1),Iv (ql x.1),Sv (qb x.1),Iv (qn x.2),Iv (ql x.2),Sv (qb x.2),d]
theorem _root_.Go.V.Box.bx{w:World}{b ty:Nat}{r d:Value}{x:V2}(h:Box w b ty (bestc r x d)):vcells w ⟨b,1,none⟩ 0 (vc2 x):=h.blk.vcells fun j hj=>by
 have:j<6:=hj
 match j,this with
 | 0,_=>rfl
 | 1,_=>rfl
 | 2,_=>rfl
 | 3,_=>rfl
 | 4,_=>rfl
 | 5,_=>rfl
structure TX where
 m:Nat
 n:Nat->Nat
 C:Nat->Nat->BA
 rel:Nat->Int
 K:Nat->BA
structure TA where
 cA:Nat->Option Addr
 cC:Nat->Nat
def rtc(X:TX)(A:TA)(i:Nat):List Value:=[Lv (A.cA i) (X.n i) (A.cC i),Iv (X.rel i),Sv (X.K i)]
def RowsT(w:World)(a:OA)(X:TX)(A:TA):Prop:=SlAt w a (GL (rtc X A) X.m)/\∀ i,i<X.m->SS w (A.cA i) (X.C i) (X.n i)
theorem RowsT.ext{w w' a X A}(h:RowsT w a X A)(he:Ext w w'):RowsT w' a X A:=⟨SlAt.ext h.1 he,fun i hi=>(h.2 i hi).ext he⟩
theorem RowsT.get{w a X A}(h:RowsT w a X A){i:Nat}(hi:i<X.m) : ∃ ad,a=some ad/\vcells w (ad.add (i*3)) 0 (rtc X A i):=by
 obtain⟨b,o,ha,hv⟩:=SlAt.gget (m:=3) (by omega) (fun _=>rfl) h.1 hi;exact⟨_,ha,hv⟩
def okRow(X:TX)(n:Int)(i:Nat):Prop:=(X.n i:Int)=n/\1<=X.rel i/\X.rel i<=3/\(∀ j,j<X.n i->okQ (bs (X.C i j))=true)/\okQ (bs (X.K i))=true
structure Tame (X:TX):Prop where
 n : ∀ i,i<X.m->X.n i<=1048576
 c : ∀ i,i<X.m->∀ j,j<X.n i->(X.C i j).size<=1000000
 k : ∀ i,i<X.m->(X.K i).size<=1000000
def okRows(X:TX)(n:Int):Prop:=0<=n/\n<=40/\X.m<=200/\∀ i,i<X.m->okRow X n i
structure Reads (X:TX) (S:Tb.Sys):Prop where
 m:S.m=X.m
 n : ∀ i,i<X.m->X.n i=S.n
 C : ∀ i,i<X.m->∀ j,j<S.n->bs (X.C i j)=txtQ (S.C i j)
 rel : ∀ i,i<X.m->X.rel i=(S.rel i:Int)/\1<=S.rel i/\S.rel i<=3
 K : ∀ i,i<X.m->bs (X.K i)=txtQ (S.K i)
theorem Reads.of{X:TX}{n:Nat}(h : ∀ i,i<X.m->okRow X n i) : ∃ S:Tb.Sys,Reads X S/\S.n=n:=by
 classical
 let val:List UInt8->Rat:=fun l=>if h : ∃ q,l=txtQ q then Classical.choose h else 0
 have b : ∀ l,okQ l=true->l=txtQ (val l):=fun l hl=>by
  have he:=zBE.1 hl;show l=txtQ (dite _ _ _);rw [dif_pos he];exact Classical.choose_spec he
 refine⟨⟨n,X.m,fun i j=>val (bs (X.C i j)),fun i=>(X.rel i).toNat,fun i=>val (bs (X.K i))⟩,⟨rfl,fun i hi=>?_,fun i hi j hj=>?_,fun i hi=>?_,fun i hi=>?_⟩,rfl⟩
 ·have:=(h i hi).1;show X.n i=n;omega
 ·have h1:=(h i hi).1
  exact b _ ((h i hi).2.2.2.1 j (by replace hj:j<n:=hj;omega))
 ·have h1:=(h i hi).2.1
  have h2:=(h i hi).2.2.1;refine⟨?_,?_,?_⟩
  ·show X.rel i=((X.rel i).toNat:Int);omega
  ·show 1<=(X.rel i).toNat;omega
  ·show (X.rel i).toNat<=3;omega
 ·exact b _ (h i hi).2.2.2.2
abbrev zr:List Value:=[N0,Iv 0,Iv 0,Iv 0,S0]
theorem ZR_made(n:Nat):madeCells zr.toArray (n*5)=(GL (fun _=>zr) n).toArray:=by
 apply Array.ext'
 show _=GL _ n
 apply GL_ext (m:=5) (by omega) (fun _=>rfl)
 ·simp [madeCells];omega
 ·intro i hi j hj
  simp only [madeCells]
  have:(5*i+j)<n*5:=by omega
  have h3:(5*i+j) % 5=j:=by omega
  match j,hj with
  | 0,_=>simp [show 5*i<n*5 by omega]
  | 1,_=>simp [this,h3]
  | 2,_=>simp [this,h3]
  | 3,_=>simp [this,h3]
  | 4,_=>simp [this,h3]
theorem size90(n:Nat):n*siE.P.types[90].size=n*5:=rfl
theorem c31{a}{s:Nat->BA}{n:Int}{m c:Nat}(hm:m<=1048576)(w)(hs:SS w a s m)(hz : ∀ i,i<m->(s i).size<=500000000) :
  Ret prog 31 #[Iv n,Lv a m c] w fun v w'=>(∃ b,v=Bv b/\(b=true↔(m:Int)=n/\∀ i,i<m->okQ (bs (s i))=true))/\Ext w w':=by
 refine run31 _ _ _ _ _ _ (zAb (fun h1=>⟨⟨false,rfl,?_⟩,yE _⟩) (fun h1=>?_))
 ·have h1:(m:Int)≠n:=by simpa using h1
  simp only [Bool.false_eq_true,false_iff];exact fun h=>h1 h.1
 ·have h1:(m:Int)=n:=by simpa using h1
  refine⟨fun vals w1=>∃ i:Nat,vals=[Iv i]/\i<=m/\(∀ k,k<i->okQ (bs (s k))=true)/\Ext w w1,mu1 m,⟨0,rfl,Nat.zero_le _,fun k hk=>by omega,yE _⟩,?_⟩;rintro m1 w1 ⟨i,hv,hi,f,he⟩;cases hv;refine zAd (fun j=>?_) (fun l=>⟨⟨true,rfl,by simp only [true_iff];exact⟨h1,fun k hk=>f k (by omega)⟩⟩,he⟩)
  have d:i<m:=by omega
  obtain⟨ad,ha,hc⟩:=(hs.ext he).get d;refine⟨ad,ha,⟨by omega,j⟩,_,hc,yC (c77 (s i) (Nat.le_trans (hz i d) (by decide)) w1) ?_⟩;rintro v w2 ⟨rfl,g⟩;refine⟨_,rfl,zAb (fun hb=>⟨⟨false,rfl,?_⟩,he.trans g⟩) (fun hb=>?_)⟩
  ·have hb:okQ (bs (s i))=false:=by simpa using hb
   simp only [Bool.false_eq_true,false_iff];intro h;rw [h.2 i d] at hb;cases hb
  ·have hb:okQ (bs (s i))=true:=by simpa using hb
   rw [zAg (by omega)];refine⟨⟨i+1,rfl,d,fun k hk=>?_,he.trans g⟩,by simp only [mu1,yT];omega⟩
   by_cases e:k=i
   ·rw [e];exact hb
   ·exact f k (by omega)
set_option maxHeartbeats 1000000 in
theorem c39{X}{A:TA}{n:Int}{i:Nat}(hX:Tame X)(hi:i<X.m)(w)(hs:SS w (A.cA i) (X.C i) (X.n i)) :
  Ret prog 39 #[Iv n,.agg #[Lv (A.cA i) (X.n i) (A.cC i),Iv (X.rel i),Sv (X.K i)]] w fun v w'=>(∃ b,v=Bv b/\(b=true↔okRow X n i))/\Ext w w':=by
 have o:=(yE w).alloc (.cells (rtc X A i).toArray 49);have hB:=yN w (rtc X A i) 49;have hn:=hX.n i hi;refine run39 _ _ _ _ _ _ _ _ fun K hK=>?_;have no : ∀ w1,Ext w w1->¬ okRow X n i->K [Bv false] w1:=fun w1 h1 h=>hK false w1 ⟨⟨false,rfl,by simp [h]⟩,h1⟩;refine⟨_,_,_,hB.blk.cell (j:=0) rfl,yC (c31 hn _ (hs.ext o) fun j hj=>Nat.le_trans (hX.c i hi j hj) (by decide)) ?_⟩;rintro v w2 ⟨⟨b1,rfl,l⟩,d⟩;have p:=o.trans d;refine⟨_,rfl,zAb (fun h1=>?_) (fun h1=>no _ p fun h=>?_)⟩
 ·obtain⟨s,u⟩:=l.1 h1
  refine⟨_,(hB.ext d).blk.cell (j:=2) rfl,yC (c77 _ (Nat.le_trans (hX.k i hi) (by decide)) w2) ?_⟩;rintro v w3 ⟨rfl,f⟩;have g:=p.trans f;refine⟨_,rfl,zAb (fun h2=>?_) (fun h2=>no _ g fun h=>?_)⟩
  ·refine⟨_,((hB.ext d).ext f).blk.cell (j:=1) rfl,zAd (fun h3=>?_) (fun h3=>no _ g fun h=>h3 h.2.1)⟩
   refine⟨_,((hB.ext d).ext f).blk.cell (j:=1) rfl,hK _ _ ⟨⟨_,rfl,?_⟩,g⟩⟩;rw [decide_eq_true_iff];exact⟨fun h=>⟨s,h3,h,u,h2⟩,fun h=>h.2.2.1⟩
  ·rw [h.2.2.2.2] at h2;cases h2
 ·rw [l.2 ⟨h.1,h.2.2.2.1⟩] at h1;cases h1
set_option maxHeartbeats 1000000 in
theorem c29{X A}{n:Int}{a}{c:Nat}(hX:Tame X)(w)(hR:RowsT w a X A) :
  Ret prog 29 #[Iv n,Lv a X.m c] w fun v w'=>(∃ b,v=Bv b/\(b=true↔okRows X n))/\Ext w w':=by
 refine run29 _ _ _ _ _ _ fun K hK=>?_;have no : ¬ (0<=n/\n<=40/\X.m<=200)->K [Bv true] w:=fun h=>hK true ⟨⟨false,rfl,by simp only [Bool.false_eq_true,false_iff];exact fun h2=>h ⟨h2.1,h2.2.1,h2.2.2.1⟩⟩,yE _⟩;refine zAb (fun h1=>no fun h=>?_) (fun h1=>?_)
 ·simp only [Bool.or_eq_true,decide_eq_true_iff] at h1;omega
 ·have h1:0<=n/\n<=40:=by simp only [Bool.or_eq_false_iff,decide_eq_false_iff_not] at h1;omega
  by_cases hm:X.m<=200
  ·rw [show decide ((X.m:Int)>200)=false from decide_eq_false (by omega)]
   refine hK false ?_;rw [cond_false];refine⟨fun vals w1=>∃ i:Nat,vals=[Iv i]/\i<=X.m/\(∀ k,k<i->okRow X n k)/\Ext w w1,mu1 X.m,⟨0,rfl,Nat.zero_le _,fun k hk=>by omega,yE _⟩,?_⟩;rintro m w1 ⟨i,hv,hi,f,he⟩;cases hv;refine zAd (fun j=>?_) (fun l=>⟨⟨true,rfl,by simp only [true_iff];exact⟨h1.1,h1.2,hm,fun k hk=>f k (by omega)⟩⟩,he⟩)
   have d:i<X.m:=by omega
   obtain⟨ad,ha,hc⟩:=(hR.ext he).get d;refine⟨ad,ha,⟨by omega,j⟩,_,_,_,_,_,hc,yC (c39 hX d _ ((hR.ext he).2 i d)) ?_⟩;rintro v w2 ⟨⟨b,rfl,hb⟩,g⟩;refine⟨_,rfl,zAb (fun h=>⟨⟨false,rfl,?_⟩,he.trans g⟩) (fun h=>?_)⟩
   ·simp only [Bool.false_eq_true,false_iff]
    intro h2;rw [hb.2 (h2.2.2.2 i d)] at h;cases h
   ·have h:b=true:=by simpa using h
    rw [zAg (by omega)];refine⟨⟨i+1,rfl,d,fun k hk=>?_,he.trans g⟩,by simp only [mu1,yT];omega⟩
    by_cases e:k=i
    ·rw [e];exact hb.1 h
    ·exact f k (by omega)
  ·rw [show decide ((X.m:Int)>200)=true from decide_eq_true (by omega)]
   exact no fun h=>hm h.2.2
theorem zCr{k:Nat}{q:Rat}{u:BA}(h:dg k q)(hu:bs u=txtQ q):u.size<=2*k+2:=by
 rw [zAc,hu];exact dg_txt h
theorem txtQ_zero:txtQ 0=[48]:=by
 rw [zA2,if_neg (by decide),if_pos (show (0:Rat).den=1 from rfl)];exact congrArg (· ++ []) zBc
theorem c36{a b}{s t:Nat->BA}{f g:Nat->Rat}{n ca cb nb:Nat}(hn:n<=1048576)(hnb:n<=nb)(hs : ∀ i,i<n->bs (s i)=txtQ (f i))(ht : ∀ i,i<n->bs (t i)=txtQ (g i))(hsz : ∀ i,i<n->(s i).size<=200000000/\(t i).size<=200000000)
  (hfg : ∀ i,i<n->dg 84001000 (f i*g i))(hd : ∀ k,k<=n->dg 84001000 (sumN k fun i=>f i*g i))(w)(ha:SS w a s n)(hb:SS w b t nb) :
  Ret prog 36 #[Lv a n ca,Lv b nb cb] w fun v w'=>(∃ u,v=Sv u/\bs u=txtQ (sumN n fun i=>f i*g i))/\Ext w w':=by
 refine run36 _ _ _ _ _ _ _ _ ⟨fun vals w1=>∃ (k:Nat) (u:BA),vals=[Iv k,Sv u]/\k<=n/\bs u=txtQ (sumN k fun i=>f i*g i)/\Ext w w1,mu1 n,⟨0,_,rfl,Nat.zero_le _,by rw [zBM,txtQ_zero];rfl,yE _⟩,?_⟩;rintro m u w1 ⟨k,u',hv,hk,hu,hx⟩;cases hv;refine zAd (fun a5=>?_) (fun a7=>?_)
 ·have d:k<n:=by omega
  intro K hK;have h:=hx.drew;obtain⟨a1,l,p⟩:=(ha.ext h).get d;obtain⟨a2,o,a0⟩:=(hb.ext h).get (i:=k) (by omega);have hz:=hsz k d;refine⟨a1,l,⟨by omega,a5⟩,_,p,a2,o,⟨by omega,by omega⟩,_,a0,yC (c44 (hs k d) (ht k d) ⟨by omega,by omega⟩ _) ?_⟩;rintro v w3 ⟨⟨x,rfl,j⟩,a3⟩;have z1:=zCr (hfg k d) j;have z2:=zCr (hd k hk) hu;refine⟨_,rfl,yC (c58 hu j ⟨by omega,by omega⟩ _) ?_⟩;rintro v w4 ⟨⟨y,rfl,a6⟩,a4⟩;refine⟨_,rfl,hK _ _ ?_⟩;rw [zAg (by omega)];exact⟨⟨k+1,y,rfl,d,a6,(h.trans a3).trans a4⟩,by simp only [mu1,yT];omega⟩
 ·have ek:k=n:=by omega
  subst ek;exact⟨⟨u,rfl,hu⟩,hx⟩
theorem sgn_eq(q:Rat):sgnQ q=Tb.sgnQ q:=by
 unfold sgnQ Tb.sgnQ
 by_cases h:q<0
 ·rw [if_pos h]
  exact Int.sign_eq_neg_one_of_neg (Int.not_le.1 fun h2=>Rat.not_lt.2 (Rat.num_nonneg.1 h2) h)
 ·rw [if_neg h]
  by_cases h0:q=0
  ·rw [if_pos h0,h0];rfl
  ·rw [if_neg h0]
   have:0<q:=by grind
   have h2:0<=q.num:=Rat.num_nonneg.2 (Rat.not_lt.1 h);have h3:q.num≠0:=fun e=>h0 (Rat.num_eq_zero.1 e);exact Int.sign_eq_one_of_pos (by omega)
def meets(S:Tb.Sys)(x:Nat->Rat)(i:Nat):Prop:=lhs S x i<=S.K i/\(S.rel i=2->lhs S x i<S.K i)/\(S.rel i=3->lhs S x i=S.K i)
set_option maxHeartbeats 1000000 in
theorem c42{X}{A:TA}{S}{i nx cx:Nat}{xa}{t:Nat->BA}{x:Nat->Rat}(hf:Few S)(hX:Tame X)(hS:Reads X S)(hi:i<X.m)(hnx:nx=S.n)(ht : ∀ j,j<S.n->bs (t j)=txtQ (x j))(hts : ∀ j,j<S.n->(t j).size<=150000000)
  (hfg : ∀ j,j<S.n->dg 84001000 (S.C i j*x j))(hd : ∀ k,k<=S.n->dg 84001000 (sumN k fun j=>S.C i j*x j))(w)(hs:SS w (A.cA i) (X.C i) (X.n i))(hx:SS w xa t nx) :
  Ret prog 42 #[.agg #[Lv (A.cA i) (X.n i) (A.cC i),Iv (X.rel i),Sv (X.K i)],Lv xa nx cx] w fun v w'=>(∃ b,v=Bv b/\(b=true↔meets S x i))/\Ext w w':=by
 have s:=hf;unfold Few at s;have l:=((yE w).alloc (.cells (rtc X A i).toArray 49)).drew;have hB:=(yN w (rtc X A i) 49).ext (yE _).drew;have hn:=hS.n i hi;obtain⟨r1,r2,r3⟩:=hS.rel i hi;have hk:=hX.k i hi;refine run42 _ _ _ _ _ _ _ _ _ _ fun K hK=>⟨_,_,_,hB.blk.cell (j:=0) rfl,_,hB.blk.cell (j:=2) rfl,?_⟩;subst hnx;refine yC (c36 (n:=X.n i) (f:=S.C i) (g:=x) (by omega) (by omega) (fun j hj=>hS.C i hi j (by omega)) (fun j hj=>ht j (by omega)) (fun j hj=>⟨Nat.le_trans (hX.c i hi j hj) (by decide),Nat.le_trans (hts j (by omega)) (by decide)⟩) (fun j hj=>hfg j (by omega)) (fun k hk=>hd k (by omega)) _ (hs.ext l) (hx.ext l)) ?_;rintro v w2 ⟨⟨u,rfl,hu⟩,d⟩;have hz:=zCr (hd (X.n i) (by omega)) hu;refine⟨_,rfl,d,yC (c37 hu (hS.K i hi) (by omega) w2) ?_⟩;rintro v w3 ⟨rfl,p⟩;have o:=(l.trans d).trans p
 have e:(sumN (X.n i) fun j=>S.C i j*x j)=lhs S x i:=by rw [hn];rfl
 rw [e,sgn_eq];refine⟨_,rfl,hK _ _ ⟨_,((hB.ext d).ext p).blk.cell (j:=1) rfl,?_⟩⟩;have c1:cmpQ (lhs S x i) (S.K i)=Tb.sgnQ (lhs S x i - S.K i):=rfl;rw [<- c1];refine zAb (fun h1=>?_) (fun h1=>zAb (fun h2=>?_) (fun h2=>?_))
 ·have h1:X.rel i=1:=by simpa using h1
  refine⟨⟨_,rfl,?_⟩,o⟩;rw [decide_eq_true_iff]
  have:cmpQ (lhs S x i) (S.K i)<=0↔lhs S x i<=S.K i:=by
   rw [<- Int.not_lt,zF8,Rat.not_lt]
  rw [this];exact⟨fun h=>⟨h,fun h2=>by omega,fun h3=>by omega⟩,fun h=>h.1⟩
 ·have h2:X.rel i=2:=by simpa using h2
  refine⟨⟨_,rfl,?_⟩,o⟩;rw [decide_eq_true_iff,zDD];exact⟨fun h=>⟨Rat.le_of_lt h,fun _=>h,fun h3=>by omega⟩,fun h=>h.2.1 (by omega)⟩
 ·have h1 : ¬ X.rel i=1:=by simpa using h1
  have h2 : ¬ X.rel i=2:=by simpa using h2
  refine⟨⟨_,rfl,?_⟩,o⟩;rw [beq_iff_eq,zF9];exact⟨fun h=>⟨by rw [h];exact Rat.le_refl,fun h3=>by omega,fun _=>h⟩,fun h=>h.2.2 (by omega)⟩
def PtReads(t:Nat->BA)(n:Nat)(x:Nat->Rat):Prop:=∀ j,j<n->bs (t j)=txtQ (x j)
theorem PtReads.of{t:Nat->BA}{n:Nat}(h : ∀ j,j<n->okQ (bs (t j))=true) : ∃ x,PtReads t n x:=by
 classical
 refine⟨fun j=>if h : ∃ q,bs (t j)=txtQ q then Classical.choose h else 0,fun j hj=>?_⟩;have he:=zBE.1 (h j hj);show _=txtQ (dite _ _ _);rw [dif_pos he];exact Classical.choose_spec he
def Dots(S:Tb.Sys)(x:Nat->Rat)(d:Nat):Prop:=∀ i,i<S.m->(∀ j,j<S.n->dg d (S.C i j*x j))/\∀ k,k<=S.n->dg d (sumN k fun j=>S.C i j*x j)
def holdsP(X:TX)(nx:Nat)(t:Nat->BA):Prop:=(∀ j,j<nx->okQ (bs (t j))=true)/\(∀ i,i<X.m->okRow X nx i)/\∀ S x,Reads X S->S.n=nx->PtReads t nx x->∀ i,i<X.m->meets S x i
set_option maxHeartbeats 1000000 in
theorem c24{X A}{nx ca cx:Nat}{a xa}{t:Nat->BA}(hX:Tame X)(hf:nx+X.m<=1048576)(hts : ∀ j,j<nx->(t j).size<=150000000)
  (hdot : ∀ S x,Reads X S->S.n=nx->PtReads t nx x->Dots S x 84001000)(w)(hR:RowsT w a X A)(hx:SS w xa t nx) :
  Ret prog 24 #[Lv a X.m ca,Lv xa nx cx] w fun v w'=>(∃ b,v=Bv b/\(b=true↔holdsP X nx t))/\Ext w w':=by
 refine run24 _ _ _ _ _ _ _ _ (yC (c31 (by omega) w hx (fun j hj=>Nat.le_trans (hts j hj) (by decide))) ?_);rintro v w1 ⟨⟨b,rfl,hb⟩,u⟩;refine⟨_,rfl,zAb (fun h1=>⟨⟨false,rfl,?_⟩,u⟩) (fun h1=>?_)⟩
 ·simp only [Bool.false_eq_true,false_iff]
  intro h;rw [hb.2 ⟨rfl,h.1⟩] at h1;cases h1
 have h1:b=true:=by simpa using h1
 have a4:=(hb.1 h1).2;refine⟨fun vals w2=>∃ i:Nat,vals=[Iv i]/\i<=X.m/\(∀ k,k<i->okRow X nx k)/\Ext w w2,mu1 X.m,⟨0,rfl,Nat.zero_le _,fun k hk=>by omega,u⟩,?_⟩;rintro m w2 ⟨i,hv,hi,g,he⟩;cases hv;refine zAd (fun p=>?_) (fun a3=>?_)
 ·have d:i<X.m:=by omega
  obtain⟨ad,ha,hc⟩:=(hR.ext he).get d;refine⟨ad,ha,⟨by omega,p⟩,_,_,_,_,_,hc,yC (c39 hX d _ ((hR.ext he).2 i d)) ?_⟩;rintro v w3 ⟨⟨b,rfl,hb⟩,a0⟩;refine⟨_,rfl,zAb (fun h=>⟨⟨false,rfl,?_⟩,he.trans a0⟩) (fun h=>?_)⟩
  ·simp only [Bool.false_eq_true,false_iff]
   intro h2;rw [hb.2 (h2.2.1 i d)] at h;cases h
  ·have h:b=true:=by simpa using h
   rw [zAg (by omega)];refine⟨⟨i+1,rfl,d,fun k hk=>?_,he.trans a0⟩,by simp only [mu1,yT];omega⟩
   by_cases e:k=i
   ·rw [e];exact hb.1 h
   ·exact g k (by omega)
 have ei:i=X.m:=by omega
 subst ei;obtain⟨S,hS,f⟩:=Reads.of g;obtain⟨x,l⟩:=PtReads.of a4;have hD:=hdot S x hS f l
 have a2:Few S:=by unfold Few;rw [f,hS.m];exact hf
 refine⟨fun vals w4=>∃ i:Nat,vals=[Iv i]/\i<=X.m/\(∀ k,k<i->meets S x k)/\Ext w w4,mu1 X.m,⟨0,rfl,Nat.zero_le _,fun k hk=>by omega,he⟩,?_⟩;clear a3 he
 have same:(∀ k,k<X.m->meets S x k)↔holdsP X nx t:=by
  constructor
  ·intro h
   refine⟨a4,g,fun S' x' o a5 a6 k hk=>?_⟩
   have hl:lhs S' x' k=lhs S x k:=by
    unfold lhs;rw [a5,f];refine zAn fun j hj=>?_;have e1:S'.C k j=S.C k j:=zA3 ((o.C k hk j (by omega)).symm.trans (hS.C k hk j (by omega)));have e2:x' j=x j:=zA3 ((a6 j hj).symm.trans (l j hj));rw [e1,e2]
   have hK:S'.K k=S.K k:=zA3 ((o.K k hk).symm.trans (hS.K k hk))
   have hr:S'.rel k=S.rel k:=by
    have h1:=(o.rel k hk).1;have h2:=(hS.rel k hk).1;omega
   unfold meets;rw [hl,hK,hr];exact h k hk
  ·intro h k hk
   exact h.2.2 S x hS f l k hk
 rintro m w4 ⟨i,hv,hi,hm,he⟩;cases hv;refine zAd (fun p=>?_) (fun a3=>⟨⟨true,rfl,by simp only [true_iff];exact same.1 fun k hk=>hm k (by omega)⟩,he⟩)
 have d:i<X.m:=by omega
 obtain⟨ad,ha,hc⟩:=(hR.ext he).get d;have s:=hD i (by rw [hS.m];exact d);refine⟨ad,ha,⟨by omega,p⟩,_,_,_,_,_,hc,yC (c42 a2 hX hS d f.symm (fun j hj=>l j (by omega)) (fun j hj=>hts j (by omega)) s.1 s.2 _ ((hR.ext he).2 i d) (hx.ext he)) ?_⟩;rintro v w5 ⟨⟨b,rfl,hb⟩,a1⟩;refine⟨_,rfl,zAb (fun h=>⟨⟨false,rfl,?_⟩,he.trans a1⟩) (fun h=>?_)⟩
 ·simp only [Bool.false_eq_true,false_iff]
  intro h2;rw [hb.2 (same.2 h2 i d)] at h;cases h
 ·have h:b=true:=by simpa using h
  rw [zAg (by omega)];refine⟨⟨i+1,rfl,d,fun k hk=>?_,he.trans a1⟩,by simp only [mu1,yT];omega⟩
  by_cases e:k=i
  ·rw [e];exact hb.1 h
  ·exact hm k (by omega)
theorem refF_dg{S:Tb.Sys}{s:Dy}{i d:Nat}(h0:0<d)(ha : ∀ j,j<S.n->dg d (s.a i j)) : ∀ k x,k<=S.n->dg d (refF S s i k x):=by
 intro k
 induction k with
 | zero =>
  intro x _;unfold refF upd;split
  ·exact zF5 h0
  ·exact zB8 h0
 | succ k ih =>
  intro x hk;rw [refF];split
  ·unfold upd
   split
   ·exact (ha k (by omega)).neg
   ·exact ih x (by omega)
  ·exact ih x (by omega)
theorem refv_dg{S:Tb.Sys}{s:Dy}{i d:Nat}{up:Bool}(h0:0<d)(ha : ∀ j,j<S.n->dg d (s.a i j))(x:Nat):dg d (refv S s i up x):=by
 unfold refv;split
 ·exact (refF_dg h0 ha S.n x yL).neg
 ·exact refF_dg h0 ha S.n x yL
theorem point_dg{S:Tb.Sys}{s:Dy}(hF:Fits S)(hI:Inv S s){eps:Rat}(he:dg 9000000 eps) : ∀ v,v<S.n+S.m->dg 14000000 (zBP s eps v):=fun v hv=>by
 have h:=hF.val s hI v hv
 exact (h.1.add (h.2.mul he)).mono (by decide)
def TxtsAt(w:World)(b:Nat)(f:Nat->Rat)(n:Nat):Prop:=Box w b 9 (SL (fun i=>mk (txtQ (f i))) n)
structure CbAt (w0 w:World) (b0 sb b1 b2 n:Nat) (g:Nat->Rat) (q:Rat) (st:Bool):Prop where
 x0:Box w b0 83 [Lv (some ⟨sb,0,none⟩) n n]
 xs:Box w sb 88 (QL g n)
 x1:Box w b1 88 (qc q)
 x2:Box w b2 4 [Bv st]
 g0:w0.heap.size<=b0
 gs:w0.heap.size<=sb
 g1:w0.heap.size<=b1
 g2:w0.heap.size<=b2
 ne:sb≠b1
 hx:Ext w0 w
end Go.Proofs.Si
