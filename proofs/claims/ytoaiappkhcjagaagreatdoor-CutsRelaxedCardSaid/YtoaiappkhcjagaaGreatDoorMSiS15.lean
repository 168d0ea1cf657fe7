/- Part of the proof: SiS15, SiS16, SiS17, SiS18, SiS19, SiS20, SiS21, SiS22, SiS23, SiS24, TbI, SiS25, TbJ, SiZ1. -/
import Derived.Test.YtoaiappkhcjagaaGreatDoorMSiW9
import Derived.Test.YtoaiappkhcjagaaGreatDoorSiV8
import Derived.Test.YtoaiappkhcjagaaGreatDoorMTbD
import Derived.Test.YtoaiappkhcjagaaGreatDoorSiV9
set_option linter.unusedVariables false
set_option linter.unusedSimpArgs false
namespace Go.Proofs.Si
open Go Go.V Go.Proofs Go.RowKit Go.Num Go.Tb Go.Proofs.Tryz
set_option maxRecDepth 100000
structure DotsZ (S:Tb.Sys) (y:Nat->Rat) (d:Nat):Prop where
 p : ∀ k,k<S.m->∀ j,j<S.n->dg d (y k*S.C k j)
 c : ∀ i,i<=S.m->∀ j,j<S.n->dg d (sumN i fun k=>y k*S.C k j)
 pk : ∀ k,k<S.m->dg d (y k*S.K k)
 k : ∀ i,i<=S.m->dg d (sumN i fun k=>y k*S.K k)
def TL (f:Nat->Rat) (n:Nat):List Value:=SL (fun j=>mk (txtQ (f j))) n
theorem TL_set {f:Nat->Rat} {n j:Nat} (hj:j<n) {u:BA} {q:Rat} (hu:bs u=txtQ q):(TL f n).set j (.string u)=TL (upd f j q) n:=by
 unfold TL SL
 rw [zCm hj]
 refine zA6 fun k _=>?_
 by_cases e:k=j
 ·rw [e,zA1]
  show Value.string u=Value.string (mk (txtQ (upd f j q j)))
  rw [zA1]
  congr 1
  exact zDF (by rw [bs_mk,hu])
 ·rw [zAs _ e]
  show Value.string (mk (txtQ (f k)))=Value.string (mk (txtQ (upd f j q k)))
  rw [zAs _ e]
theorem TL_length (f:Nat->Rat) (n:Nat):(TL f n).length=n:=zAB _ _
theorem TL_congr {f g:Nat->Rat} {n:Nat} (h : ∀ i,i<n->f i=g i):TL f n=TL g n:=zA6 fun i hi=>by (show Value.string (mk (txtQ (f i)))=Value.string (mk (txtQ (g i)));rw [h i hi])
structure CmbAt (w0 w:World) (B sb:Nat) (p:OA) (c n:Nat) (f:Nat->Rat) (q:Rat) (st adm:Bool):Prop where
 s : ∃ u,bs u=txtQ q/\Box w sb 43 [.slice p n c,.string u,.bool st,.bool adm]
 own:OwnB w B 9 p (TL f n)
 r:Box w w0.heap.size 43 [.slice none 0 0,.string { data:=#[] },.bool false,.bool false]
 lo:w0.heap.size<sb
 hi:sb<B
 hx:Ext w0 w
theorem CmbAt.ext {w0 w w' : World} {B sb:Nat} {p:OA} {c n:Nat} {f:Nat->Rat} {q:Rat} {st adm:Bool} (h:CmbAt w0 w B sb p c n f q st adm) (he:Ext w w'):CmbAt w0 w' B sb p c n f q st adm :=
 { h with s:=by obtain⟨u,h1,h2⟩:=h.s;exact⟨u,h1,h2.ext he⟩,own:=h.own.ext he,r:=h.r.ext he,hx:=h.hx.trans he }
theorem CmbAt.congr {w0 w:World} {B sb:Nat} {p:OA} {c n:Nat} {f g:Nat->Rat} {q:Rat} {st adm:Bool} (h:CmbAt w0 w B sb p c n f q st adm) (hf : ∀ j,j<n->f j=g j):CmbAt w0 w B sb p c n g q st adm :=
 { h with own:=by rw [<- TL_congr hf];exact h.own }
theorem CmbAt.box {w0 w:World} {B sb:Nat} {p:OA} {c n:Nat} {f:Nat->Rat} {q:Rat} {st adm:Bool} (h:CmbAt w0 w B sb p c n f q st adm) {i:Nat} {v:Value} {q' : Rat} {st' adm' : Bool}
  (hs : ∀ u,bs u=txtQ q->∃ u',bs u' = txtQ q'/\[.slice p n c,.string u,.bool st,.bool adm].set i v=[.slice p n c,.string u',.bool st',.bool adm']):CmbAt w0 (w.setCell ⟨sb,i,none⟩ v) B sb p c n f q' st' adm':=by
 obtain⟨u,h1,h2⟩:=h.s
 obtain⟨u',h3,h4⟩:=hs u h1
 have h5:=h2.set i v
 rw [h4] at h5
 have d:=h.lo
 exact { s:=⟨u',h3,h5⟩,own:=h.own.away zAg fun b _ hb=>boxNe hb h2.blk (by decide),r:=h.r.away zAg (by omega),lo:=h.lo,hi:=h.hi,hx:=h.hx.setCell (by omega) _ }
theorem CmbAt.set {w0 w:World} {B sb:Nat} {p:OA} {c n:Nat} {f:Nat->Rat} {q:Rat} {st adm:Bool} (h:CmbAt w0 w B sb p c n f q st adm) {j:Nat} (hj:j<n) {u:BA} {x:Rat} (hu:bs u=txtQ x) :
  ∃ b,p=some ⟨b,0,none⟩/\B<=b/\w.cell? ((⟨b,0,none⟩:Addr).add (j*1))=some (.string (Si.mk (txtQ (f j))))/\w.frozen? ((⟨b,0,none⟩:Addr).add (j*1))=false/\CmbAt w0 (w.setCell ((⟨b,0,none⟩:Addr).add (j*1)) (.string u)) B sb p c n (upd f j x) q st adm/\Blk w b 9 (TL f n):=by
 rcases h.own with e | ⟨b,hp,hb,hk⟩
 ·have:=congrArg List.length e
  rw [TL_length] at this
  simp only [List.length_nil] at this
  omega
 obtain⟨v,h1,h2⟩:=h.s
 have d:=h.lo
 have hB:=h.hi
 refine⟨b,hp,hb,?_,?_,?_,hk⟩
 ·rw [zAi,Nat.mul_one,Nat.zero_add]
  exact hk.cell (zAX hj)
 ·rw [zAi];exact hk.free
 ·rw [zAi,Nat.mul_one,Nat.zero_add]
  have hs:=hk.set j (.string u) (by rw [TL_length];exact hj)
  rw [TL_set hj hu] at hs
  exact { s:=⟨v,h1,h2.away zAg (by omega)⟩,own := .inr ⟨b,hp,hb,hs⟩,r:=h.r.away zAg (by omega),lo:=h.lo,hi:=h.hi,hx:=h.hx.setCell (by omega) _ }
set_option maxHeartbeats 600000 in
theorem c33 {X:TX} {A:TA} {S:Tb.Sys} {a ma:OA} {c mc:Nat} {t:Nat->BA} {y:Nat->Rat} (hf:Few S) (hX:Tame X) (hS:Reads X S) (ht:PtReads t S.m y) (hts : ∀ k,k<S.m->(t k).size<=200000000) (hD:DotsZ S y 60000000) (w:World) (hR:RowsT w a X A) (hm:SS w ma t S.m) :
  Ret prog 33 #[.int .i64 S.n,.slice a X.m c,.slice ma S.m mc] w fun v w'=>∃ p c' u st adm,v = .agg #[.slice p S.n c',.string u,.bool st,.bool adm]/\SlAt w' p (TL (comb S y) S.n)/\bs u=txtQ (combK S y)/\(st=true↔Strict S y)/\(adm=true↔Adm S y)/\Ext w w':=by
 have i1:=hf
 unfold Few at i1
 have j7:=hS.m
 refine run33 _ _ _ _ _ _ _ _ _ ?_
 unfold vc33
 have z1:=(yE w).alloc (.cells [Value.slice none 0 0,.string { data:=#[] },.bool false,.bool false].toArray 43)
 have b1:=yN w [Value.slice none 0 0,.string { data:=#[] },.bool false,.bool false] 43
 have s1:(w.alloc (.cells [Value.slice none 0 0,.string { data:=#[] },.bool false,.bool false].toArray 43)).heap.size=w.heap.size+1:=size_alloc ..
 rw [show (Obj.cells #[Value.slice none 0 0,.string { data:=#[] },.bool false,.bool false] 43) = .cells [Value.slice none 0 0,.string { data:=#[] },.bool false,.bool false].toArray 43 from rfl]
 generalize w.alloc (.cells [Value.slice none 0 0,.string { data:=#[] },.bool false,.bool false].toArray 43)=W1 at z1 b1 s1 ⊢
 have z2:=(yE W1).alloc (.cells [Value.slice none 0 0,.string { data:=#[] },.bool false,.bool false].toArray 43)
 have b2:=yN W1 [Value.slice none 0 0,.string { data:=#[] },.bool false,.bool false] 43
 have s2:(W1.alloc (.cells [Value.slice none 0 0,.string { data:=#[] },.bool false,.bool false].toArray 43)).heap.size=W1.heap.size+1:=size_alloc ..
 have e8:=b1.ext z2
 generalize W1.alloc (.cells [Value.slice none 0 0,.string { data:=#[] },.bool false,.bool false].toArray 43)=W2 at z2 b2 e8 s2 ⊢
 refine⟨b2.blk.writable (by decide),?_⟩
 have b3:=b2.put [Value.slice none 0 0,.string { data:=#[48] },.bool false,.bool true] (by rfl)
 have b4:=e8.away (zAh (b:=W1.heap.size) (o:=0) (i:=0) (L:=[Value.slice none 0 0,.string { data:=#[48] },.bool false,.bool true])) (by omega)
 have z3:Ext w (setCells W2 ⟨W1.heap.size,0,none⟩ 0 [Value.slice none 0 0,.string { data:=#[48] },.bool false,.bool true]):=(z1.trans z2).put z1.size _ _
 have s3:(setCells W2 ⟨W1.heap.size,0,none⟩ 0 [Value.slice none 0 0,.string { data:=#[48] },.bool false,.bool true]).heap.size=W2.heap.size:=zBn _ _
 generalize setCells W2 ⟨W1.heap.size,0,none⟩ 0 [Value.slice none 0 0,.string { data:=#[48] },.bool false,.bool true]=W3 at b3 b4 z3 s3 ⊢
 refine⟨fun vals w1=>∃ (i:Nat) (p:OA) (c' : Nat),vals=[.int .i64 i]/\i<=S.n/\Box w1 W1.heap.size 43 [.slice p i c',.string { data:=#[48] },.bool false,.bool true]/\w1.ownsRow W3.heap.size 9 1 (.slice p i c') i (TL (fun _=>0) i)/\Box w1 w.heap.size 43 [Value.slice none 0 0,.string { data:=#[] },.bool false,.bool false]/\W3.heap.size<=w1.heap.size/\Ext w w1,mu1 S.n,⟨0,none,0,rfl,Nat.zero_le _,b3,World.ownsRow_nil _ _ _ _,b4,yL,z3⟩,?_⟩
 clear b1 e8 b2 b3 b4 z2
 rintro m w1 ⟨i,p,c',hv,hi,hs,a0,hr,g9,hx⟩
 cases hv
 refine zAe (fun i5=>?_) (fun g5=>?_)
 ·have i2:i<S.n:=by omega
  refine⟨_,_,_,hs.blk.cell (j:=0) rfl,_,_,_,AppOk.one (L:=[.string { data:=#[48] }]) a0 rfl rfl (by unfold maxLen;omega) (by omega) g9,?_⟩
  intro p1 k3 w2 r
  have za:=(yE w1).alloc (.cells #[.string { data:=#[48] }] 9)
  have sa:(w1.alloc (.cells #[.string { data:=#[48] }] 9)).heap.size=w1.heap.size+1:=size_alloc ..
  have g3 : ∀ k,k<w1.heap.size->(Value.slice p i c').ownBlock≠some k->w2.heap[k]? = w1.heap[k]?:=fun k hk f8 =>
   (r.grown.block k (Nat.lt_of_lt_of_le hk za.size) (Ne.symm f8)).trans (za.block k hk)
  have e2:Box w2 W1.heap.size 43 _:=hs.same (g3 _ hs.lt (zA2 a0 hs (by decide)))
  have i6:Box w2 w.heap.size 43 _:=hr.same (g3 _ hr.lt (zA2 a0 hr (by decide)))
  have i9:Ext w w2:=r.below (zAm a0 za) (hx.trans za) (by have:=hx.size;omega) (by have:=z3.size;omega)
  have k5:=Nat.le_trans za.size r.grown.size
  have f9:=r.own
  have e0:TL (fun _=>0) i++[Value.string { data:=#[48] }]=TL (fun _=>0) (i+1):=by
   unfold TL
   rw [zGk,txtQ_zero];rfl
  rw [e0] at f9
  have f8:(Value.slice p1 (i+1) k3).ownBlock≠some W1.heap.size:=zA2 f9 e2 (by decide)
  refine⟨⟨⟨_,e2.blk.cell (j:=0) rfl⟩,e2.blk.free⟩,?_⟩
  rw [zAf (by omega)]
  exact⟨⟨i+1,p1,k3,rfl,i2,e2.set 0 _,zAK f9 f8 _,i6.away zAg (by omega),by rw [zB3];omega,i9.setCell (by omega) _⟩,by simp only [mu1,yT];omega⟩
 have ei:i=S.n:=by omega
 subst ei
 have g0:CmbAt w w1 W3.heap.size W1.heap.size p c' S.n (fun j=>sumN 0 fun k=>y k*S.C k j) (sumN 0 fun k=>y k*S.K k) false true:={
  s:=⟨_,by rw [zB2,txtQ_zero];rfl,hs⟩
  own:=zD8 a0
  r:=hr
  lo:=by omega
  hi:=by omega
  hx:=hx }
 clear hs a0 hr hx g9 g5 hi
 refine⟨fun vals w3=>∃ (i:Nat) (st adm:Bool),vals=[.int .i64 i]/\i<=S.m/\CmbAt w w3 W3.heap.size W1.heap.size p c' S.n (fun j=>sumN i fun k=>y k*S.C k j) (sumN i fun k=>y k*S.K k) st adm/\(st=true↔∃ k,k<i/\S.rel k=2/\0<y k)/\(adm=true↔∀ k,k<i->S.rel k≠3->0<=y k),mu1 S.m,⟨0,false,true,rfl,Nat.zero_le _,g0,by simp,by simp⟩,?_⟩
 clear g0
 rintro m w3 ⟨i,st,adm,hv,hi,hA,g8,e6⟩
 cases hv
 refine zAe (fun i5=>?_) (fun g5=>?_)
 ·have f:i<S.m:=by omega
  have a6:i<X.m:=by omega
  obtain⟨ad,ha,hc⟩:=(hR.ext hA.hx).get a6
  have j2:=hS.rel i a6
  have k2:=hS.n i a6
  have hN:=yN w3 zrow 49
  have h0:Ext w3 (setCells (w3.alloc (.cells zrow.toArray 49)) ⟨w3.heap.size,0,none⟩ 0 (rtc X A i)):=((yE w3).alloc _).put yL _ _
  have hP:=hN.put (rtc X A i) (by rfl)
  refine⟨ad,ha,⟨by omega,by omega⟩,_,_,_,_,_,hc,hN.blk.writable (by decide),?_⟩
  refine⟨fun vals w4=>∃ j:Nat,vals=[.int .i64 j]/\j<=S.n/\CmbAt w w4 W3.heap.size W1.heap.size p c' S.n (part (fun j=>sumN (i+1) fun k=>y k*S.C k j) (fun j=>sumN i fun k=>y k*S.C k j) j) (sumN i fun k=>y k*S.K k) st adm/\Box w4 w3.heap.size 49 (rtc X A i),mu1 S.n,⟨0,rfl,Nat.zero_le _,by rw [zCC];exact hA.ext h0,hP⟩,?_⟩
  have k4:=hA.hx.size
  have j4:=hA.hi
  have j5:=hA.lo
  obtain⟨_,_,i7⟩:=hA.s
  have k1:=i7.lt
  clear hA hP h0 hN hc
  rintro m w4 ⟨j,hv,hj,hA,hP⟩
  cases hv
  have tcell : ∀ w',Ext w w'->∃ a2,ma=some a2/\w'.cell? (a2.add (i*1))=some (.string (t i)):=fun w' h'=>(hm.ext h').get f
  refine zAe (fun j1=>?_) (fun j0=>?_)
  ·have b0:j<S.n:=by omega
   intro K hK
   have a1:=hA.ext (yE _).drew
   have a9:=hP.ext (yE _).drew
   have d5:=a1.hx
   obtain⟨u,hu,a7⟩:=a1.s
   obtain⟨b,hp,hb,b9,k0,_,j9⟩:=a1.set b0 (u:={ data:=#[48] }) (x:=0) (by rw [txtQ_zero];rfl)
   obtain⟨a2,a4,a5⟩:=tcell _ d5
   obtain⟨a3,h9,i0⟩:=((hR.2 i a6).ext d5).get (i:=j) (by omega)
   refine⟨_,_,_,a7.blk.cell (j:=0) rfl,_,_,_,a7.blk.cell (j:=0) rfl,_,hp,⟨by omega,by omega⟩,_,b9,a2,a4,⟨by omega,by omega⟩,_,a5,_,_,_,a9.blk.cell (j:=0) rfl,a3,h9,⟨by omega,by omega⟩,_,i0,?_⟩
   refine yC (c44 (ht i f) (hS.C i a6 j b0) ⟨Nat.le_trans (hts i f) (by decide),Nat.le_trans (hX.c i a6 j (by omega)) (by decide)⟩ _) ?_
   rintro v w6 ⟨⟨x,rfl,d6⟩,d0⟩
   have z1:=zBV (hD.p i f j b0) d6
   have z2:=zBV (hD.c i hi j b0) (bs_mk (txtQ (sumN i fun k=>y k*S.C k j)))
   have epj:part (fun j=>sumN (i+1) fun k=>y k*S.C k j) (fun j=>sumN i fun k=>y k*S.C k j) j j=sumN i fun k=>y k*S.C k j:=if_neg (Nat.lt_irrefl _)
   rw [epj] at b9
   refine⟨_,rfl,d0,?_⟩
   rw [epj]
   refine yC (c58 (bs_mk _) d6 ⟨by omega,by omega⟩ _) ?_
   rintro v w7 ⟨⟨x2,rfl,d4⟩,f7⟩
   have l:=d0.trans f7
   have b7:=a1.ext l
   have b8:=a9.ext l
   obtain⟨b',g6,j8,e1,g4,g7,g1⟩:=b7.set b0 (u:=x2) (x:=(sumN i fun k=>y k*S.C k j)+y i*S.C i j) d4
   have eb:b' = b:=by rw [hp] at g6;cases g6;rfl
   subst eb
   refine⟨_,rfl,l,_,hp,⟨by omega,by omega⟩,⟨⟨_,e1⟩,g4⟩,hK _ ?_⟩
   rw [zAf (by omega)]
   refine⟨⟨j+1,rfl,b0,?_,?_⟩,by simp only [mu1,yT];omega⟩
   ·have e:=zCb (fun j=>sumN (i+1) fun k=>y k*S.C k j) (fun j=>sumN i fun k=>y k*S.C k j) j
    rw [<- e]
    exact g7
   ·rw [zAi]
    exact b8.away zAg (fun e=>boxNe b8.blk g1 (by decide) e)
  ·have ej:j=S.n:=by omega
   subst ej
   have hA:=hA.congr (g:=fun j=>sumN (i+1) fun k=>y k*S.C k j) fun j hj=>if_pos hj
   intro K1 h4
   have a1:=hA.ext (yE _).drew
   have a9:=hP.ext (yE _).drew
   have d5:=a1.hx
   obtain⟨u,hu,a7⟩:=a1.s
   obtain⟨a2,a4,a5⟩:=tcell _ d5
   refine⟨u,a7.blk.cell (j:=1) rfl,a2,a4,⟨by omega,by omega⟩,_,a5,_,a9.blk.cell (j:=2) rfl,?_⟩
   refine yC (c44 (ht i f) (hS.K i a6) ⟨Nat.le_trans (hts i f) (by decide),Nat.le_trans (hX.k i a6) (by decide)⟩ _) ?_
   rintro v w6 ⟨⟨x,rfl,d6⟩,d0⟩
   have z1:=zBV (hD.pk i f) d6
   have z2:=zBV (hD.k i hi) hu
   refine⟨_,rfl,d0,yC (c58 hu d6 ⟨by omega,by omega⟩ _) ?_⟩
   rintro v w7 ⟨⟨x2,rfl,d4⟩,f7⟩
   have l:=d0.trans f7
   have b7:=a1.ext l
   have b8:=a9.ext l
   obtain⟨u7,i8,d3⟩:=b7.s
   have d8:CmbAt w (w7.setCell ⟨W1.heap.size,1,none⟩ (.string x2)) W3.heap.size W1.heap.size p c' S.n (fun j=>sumN (i+1) fun k=>y k*S.C k j) (sumN (i+1) fun k=>y k*S.K k) st adm :=
    b7.box fun u _=>⟨x2,d4,rfl⟩
   have d9:=b8.away (zAg (b:=W1.heap.size) (o:=1) (v := .string x2)) (by omega)
   refine⟨_,rfl,⟨⟨_,d3.blk.cell (j:=1) rfl⟩,d3.blk.free⟩,h4 _ ?_⟩
   generalize w7.setCell ⟨W1.heap.size,1,none⟩ (.string x2)=w8 at d8 d9 ⊢
   clear b7 b8 d3 hA hP a1 a9 a7 hu i8 d5 a5 a4
   intro K2 h5
   have strict_part : ∀ w9 adm',CmbAt w w9 W3.heap.size W1.heap.size p c' S.n (fun j=>sumN (i+1) fun k=>y k*S.C k j) (sumN (i+1) fun k=>y k*S.K k) st adm'->Box w9 w3.heap.size 49 (rtc X A i)->(adm' = true↔∀ k,k<i+1->S.rel k≠3->0<=y k)->K2 [] w9:=by
    intro w9 adm' e9 h8 d
    refine h5 w9 fun K3 h6=>?_
    have fin : ∀ (b:Bool) e3,CmbAt w e3 W3.heap.size W1.heap.size p c' S.n (fun j=>sumN (i+1) fun k=>y k*S.C k j) (sumN (i+1) fun k=>y k*S.K k) st adm'->(b=true↔S.rel i=2/\0<y i)->K3 [.bool b] e3:=by
     intro b e3 b5 hb
     refine h6 b e3 ?_
     have a8:((st||b)=true↔∃ k,k<i+1/\S.rel k=2/\0<y k):=by
      rw [Bool.or_eq_true,g8,hb]
      constructor
      ·rintro (⟨k,h1,h2⟩ | h1)
       ·exact⟨k,by omega,h2⟩
       ·exact⟨i,by omega,h1⟩
      ·rintro⟨k,h1,h2⟩
       by_cases e:k=i
       ·subst e;exact .inr h2
       ·exact .inl ⟨k,by omega,h2⟩
     obtain⟨k6,_,d1⟩:=b5.s
     rw [zAf (by omega)]
     cases b with
     | false =>
      rw [cond_false]
      rw [Bool.or_false] at a8
      exact⟨⟨i+1,st,adm',rfl,f,b5,a8,d⟩,by simp only [mu1,yT];omega⟩
     | true =>
      rw [cond_true]
      rw [Bool.or_true] at a8
      exact⟨⟨⟨_,d1.blk.cell (j:=2) rfl⟩,d1.blk.free⟩,⟨i+1,true,adm',rfl,f,b5.box fun u hu=>⟨u,hu,rfl⟩,a8,d⟩,by simp only [mu1,yT];omega⟩
    refine⟨_,h8.blk.cell (j:=1) rfl,zAb (fun h=>?_) (fun h=>?_)⟩
    ·have h:X.rel i=2:=by simpa using h
     obtain⟨a2,a4,a5⟩:=tcell _ e9.hx
     refine⟨a2,a4,⟨by omega,by omega⟩,_,a5,yC (c43 (ht i f) (Nat.le_trans (hts i f) (by decide)) w9) ?_⟩
     rintro v k8 ⟨rfl,g2⟩
     refine⟨_,rfl,fin _ _ (e9.ext g2) ?_⟩
     rw [decide_eq_true_iff,sgn_eq]
     exact⟨fun h2=>⟨by omega,Tb.sgnQ_pos.1 h2⟩,fun h2=>Tb.sgnQ_pos.2 h2.2⟩
    ·have h : ¬ X.rel i=2:=by simpa using h
     exact fin false _ e9 (by simp only [Bool.false_eq_true,false_iff];exact fun h2=>h (by omega))
   intro K4 h7
   have e4 : ∀ (b:Bool) d7,CmbAt w d7 W3.heap.size W1.heap.size p c' S.n (fun j=>sumN (i+1) fun k=>y k*S.C k j) (sumN (i+1) fun k=>y k*S.K k) st adm->Box d7 w3.heap.size 49 (rtc X A i)->(b=true↔¬ (S.rel i≠3->0<=y i))->K4 [.bool b] d7:=by
    intro b d7 b6 e5 hb
    refine h7 b d7 ?_
    have d:((adm&&!b)=true↔∀ k,k<i+1->S.rel k≠3->0<=y k):=by
     rw [Bool.and_eq_true,e6,Bool.not_eq_true',<- Bool.not_eq_true,hb,Decidable.not_not]
     constructor
     ·rintro⟨h1,h2⟩ k hk
      by_cases e:k=i
      ·rw [e];exact h2
      ·exact h1 k (by omega)
     ·exact fun h=>⟨fun k hk=>h k (by omega),h i (by omega)⟩
    obtain⟨k7,_,d2⟩:=b6.s
    cases b with
    | false =>
     rw [cond_false]
     rw [Bool.not_false,Bool.and_true] at d
     exact strict_part _ _ b6 e5 d
    | true =>
     rw [cond_true]
     rw [Bool.not_true,Bool.and_false] at d
     exact⟨⟨⟨_,d2.blk.cell (j:=3) rfl⟩,d2.blk.free⟩,strict_part _ false (b6.box fun u hu=>⟨u,hu,rfl⟩) (e5.away zAg (by omega)) d⟩
   refine⟨_,d9.blk.cell (j:=1) rfl,zAb (fun h=>?_) (fun h=>?_)⟩
   ·have h : ¬ X.rel i=3:=by simpa using h
    obtain⟨a2,a4,a5⟩:=tcell _ d8.hx
    refine⟨a2,a4,⟨by omega,by omega⟩,_,a5,yC (c43 (ht i f) (Nat.le_trans (hts i f) (by decide)) w8) ?_⟩
    rintro v k9 ⟨rfl,e7⟩
    refine⟨_,rfl,e4 _ _ (d8.ext e7) (d9.ext e7) ?_⟩
    rw [decide_eq_true_iff,sgn_eq,Tb.sgnQ_neg]
    exact⟨fun h2 h3=>Rat.not_le.2 h2 (h3 (by omega)),fun h2=>Decidable.byContradiction fun h3=>h2 fun _=>Rat.not_lt.1 h3⟩
   ·have h:X.rel i=3:=by simpa using h
    exact e4 false _ d8 d9 (by simp only [Bool.false_eq_true,false_iff,Decidable.not_not];exact fun h2=>absurd (by omega) h2)
 have ei:i=S.m:=by omega
 subst ei
 obtain⟨u,hu,a7⟩:=hA.s
 have pr:=hA.r.put [Value.slice p S.n c',.string u,.bool st,.bool adm] (by rfl)
 have j3:=hA.lo
 have j6:=hA.hi
 refine⟨_,_,_,_,_,_,a7.blk.all,hA.r.blk.writable (by decide),_,_,_,_,_,_,pr.blk.all,p,c',u,st,adm,rfl,?_,hu,g8,e6,hA.hx.put yL _ _⟩
 have:=hA.own.away (w':=setCells w3 ⟨w.heap.size,0,none⟩ 0 [Value.slice p S.n c',.string u,.bool st,.bool adm]) zAh fun b _ hb=>boxNe hb hA.r.blk (by decide)
 exact this.sl
theorem str_eq0 (s:BA):(s.toList==({ data:=#[48] } : BA).toList)=decide (bs s=[48]):=zAt s _
theorem c80 {la:OA} {n lc:Nat} {s:Nat->BA} (hn:n<=1048576) (w:World) (hs:SS w la s n) :
  Ret prog 80 #[.slice la n lc] w fun v w'=>(∃ b,v = .bool b/\(b=true↔∀ j,j<n->bs (s j)=[48]))/\w' = w:=by
 refine run80 _ _ _ _ _ ⟨fun vals w1=>∃ i:Nat,vals=[.int .i64 i]/\i<=n/\(∀ k,k<i->bs (s k)=[48])/\w1=w,mu1 n,⟨0,rfl,Nat.zero_le _,fun k hk=>by omega,rfl⟩,?_⟩
 rintro m w1 ⟨i,hv,hi,d,rfl⟩
 cases hv
 refine zAe (fun g=>?_) (fun l=>⟨⟨true,rfl,by simp only [true_iff];exact fun k hk=>d k (by omega)⟩,rfl⟩)
 have f:i<n:=by omega
 obtain⟨ad,ha,hc⟩:=hs.get f
 refine⟨ad,ha,⟨by omega,g⟩,_,hc,?_⟩
 rw [str_eq0]
 refine zAb (fun hb=>⟨⟨false,rfl,?_⟩,rfl⟩) (fun hb=>?_)
 ·simp only [Bool.false_eq_true,false_iff]
  intro h
  simp [h i f] at hb
 ·have hb:bs (s i)=[48]:=by simpa using hb
  rw [zAf (by omega)]
  refine⟨⟨i+1,rfl,f,fun k hk=>?_,rfl⟩,by simp only [mu1,yT];omega⟩
  by_cases e:k=i
  ·rw [e];exact hb
  ·exact d k (by omega)
set_option maxHeartbeats 1000000 in
theorem c41 {X:TX} {A:TA} {S:Tb.Sys} {a ma:OA} {c mc:Nat} {t:Nat->BA} {y:Nat->Rat} (hf:Few S) (hX:Tame X) (hS:Reads X S) (ht:PtReads t S.m y) (hts : ∀ k,k<S.m->(t k).size<=200000000) (hD:DotsZ S y 60000000) (w:World) (hR:RowsT w a X A) (hm:SS w ma t S.m) :
  Ret prog 41 #[.int .i64 S.n,.slice a X.m c,.slice ma S.m mc] w fun v w'=>(∃ b,v = .bool b/\(b=true↔zBg S y))/\Ext w w':=by
 have a3:=hf
 unfold Few at a3
 refine run41 _ _ _ _ _ _ _ _ _ (yC (c33 hf hX hS ht hts hD w hR hm) ?_)
 rintro v w1 ⟨p,c',u,st,adm,rfl,hT,hu,a4,d,a2⟩
 have hN:=yN w1 [Value.slice none 0 0,.string { data:=#[] },.bool false,.bool false] 43
 have hP:=hN.put [Value.slice p S.n c',.string u,.bool st,.bool adm] (by rfl)
 have a1:Ext w1 (setCells (w1.alloc (.cells [Value.slice none 0 0,.string { data:=#[] },.bool false,.bool false].toArray 43)) ⟨w1.heap.size,0,none⟩ 0 [Value.slice p S.n c',.string u,.bool st,.bool adm]):=((yE w1).alloc _).put yL _ _
 refine⟨_,_,_,_,_,_,rfl,hN.blk.writable (by decide),fun K hK=>⟨_,hP.blk.cell (j:=3) rfl,?_⟩⟩
 have i:=a2.trans a1
 have no : ∀ w2,Ext w w2->¬ zBg S y->K [.bool false] w2:=fun w2 h2 h=>hK false w2 ⟨⟨false,rfl,by simp [h]⟩,h2⟩
 refine zAb (fun h1=>?_) (fun h1=>no _ i fun h=>by rw [d.2 h.1] at h1;cases h1)
 have f:=d.1 h1
 refine⟨_,_,_,hP.blk.cell (j:=0) rfl,yC (c80 (by omega) _ (SlAt.ext hT a1)) ?_⟩
 rintro v w3 ⟨⟨b4,rfl,s⟩,rfl⟩
 refine⟨_,rfl,zAb (fun h2=>?_) (fun h2=>no _ i fun h=>?_)⟩
 ·have hz:=s.1 h2
  have a5 : ∀ j,j<S.n->comb S y j=0:=fun j hj=>zA0 (by rw [<- bs_mk (txtQ (comb S y j)),txtQ_zero];exact hz j hj)
  have a6:=zBV (hD.k S.m yL) hu
  refine⟨_,hP.blk.cell (j:=1) rfl,yC (c43 hu (by omega) _) ?_⟩
  rintro v w4 ⟨rfl,x⟩
  rw [sgn_eq]
  have o:=hP.ext x
  have l:=i.trans x
  have g:zBg S y↔(combK S y<0\/combK S y=0/\st=true):=by
   unfold zBg
   rw [a4]
   exact⟨fun h=>h.2.2,fun h=>⟨f,a5,h⟩⟩
  refine⟨_,rfl,zAe (fun h3=>hK _ _ ⟨⟨true,rfl,by simp only [true_iff];exact g.2 (.inl (Tb.sgnQ_neg.1 h3))⟩,l⟩) (fun h3=>?_)⟩
  have a0 : ¬ combK S y<0:=fun h=>h3 (Tb.sgnQ_neg.2 h)
  refine⟨_,o.blk.cell (j:=1) rfl,?_⟩
  rw [str_eq0]
  refine zAe (fun h4=>?_) (fun h4=>no _ l fun h=>?_)
  ·have h0:combK S y=0:=zA0 (by rw [<- hu,txtQ_zero];exact h4)
   refine⟨_,o.blk.cell (j:=2) rfl,hK _ _ ⟨⟨st,rfl,?_⟩,l⟩⟩
   rw [g]
   exact⟨fun h => .inr ⟨h0,h⟩,fun h=>h.elim (fun h=>absurd h a0) fun h=>h.2⟩
  ·rcases g.1 h with h | h
   ·exact a0 h
   ·apply h4
    rw [hu,h.1,txtQ_zero]
 ·have hb:b4=true:=s.2 fun j hj=>by rw [bs_mk,h.2.1 j hj,txtQ_zero]
  rw [hb] at h2;cases h2
set_option maxHeartbeats 1000000 in
theorem c27 {X:TX} {A:TA} {n:Int} {a fa:OA} {c mf fc:Nat} {t:Nat->BA} (hX:Tame X) (hmf:mf<=1048576) (hts : ∀ j,j<mf->(t j).size<=200000000)
  (hD:okRows X n->mf=X.m->(∀ j,j<mf->okQ (bs (t j))=true)->DotsZ (sysX X n.toNat) (fun k=>rd (t k)) 60000000)
  (w:World) (hR:RowsT w a X A) (hf:SS w fa t mf) :
  Ret prog 27 #[.int .i64 n,.slice a X.m c,.slice fa mf fc] w fun v w'=>(∃ b,v = .bool b/\(b=true↔checkX X n mf t))/\Ext w w':=by
 refine run27 _ _ _ _ _ _ _ _ _ fun K hK=>yC (c29 hX w hR) ?_
 rintro v w1 ⟨⟨b,rfl,hb⟩,g⟩
 have no : ∀ w2,Ext w w2->¬ checkX X n mf t->K [.bool false] w2:=fun w2 h2 h=>hK false w2 ⟨⟨false,rfl,by simp [h]⟩,h2⟩
 refine⟨_,rfl,zAb (fun h1=>?_) (fun h1=>no _ g fun h=>by rw [hb.2 h.1] at h1;cases h1)⟩
 have d:=hb.1 h1
 refine yC (c31 (n:=(X.m:Int)) hmf w1 (hf.ext g) fun j hj=>Nat.le_trans (hts j hj) (by decide)) ?_
 rintro v w2 ⟨⟨b3,rfl,o⟩,u⟩
 have f:=g.trans u
 refine⟨_,rfl,zAb (fun h2=>?_) (fun h2=>no _ f fun h=>by rw [o.2 ⟨by rw [h.2.1],h.2.2.1⟩] at h2;cases h2)⟩
 obtain⟨hm,i⟩:=o.1 h2
 have hm:mf=X.m:=by omega
 have hn:((n.toNat:Nat):Int)=n:=Int.toNat_of_nonneg d.1
 have p:Few (sysX X n.toNat):=by
  have a1:=d.2.1
  have a2:=d.2.2.1
  unfold Few
  show n.toNat+X.m<=1048576
  omega
 have l:=c41 (S:=sysX X n.toNat) (A:=A) (a:=a) (ma:=fa) (c:=c) (mc:=fc) (t:=t) (y:=fun k=>rd (t k)) p hX (zCX d.nat) (ptReads_rd fun j hj=>i j (by rw [hm];exact hj)) (fun k hk=>hts k (by rw [hm];exact hk)) (hD d hm i) w2 (hR.ext f) (by rw [show (sysX X n.toNat).m=mf from hm.symm];exact hf.ext f)
 rw [show ((sysX X n.toNat).n:Int)=n from hn,show (sysX X n.toNat).m=mf from hm.symm] at l
 refine yC l ?_
 rintro v w4 ⟨⟨b5,rfl,s⟩,x⟩
 refine⟨_,rfl,hK _ _ ⟨⟨_,rfl,?_⟩,f.trans x⟩⟩
 rw [s]
 exact⟨fun h=>⟨d,hm,i,h⟩,fun h=>h.2.2.2⟩
end Go.Proofs.Si
namespace Go.Proofs.Si
open Go Go.V Go.Proofs Go.RowKit Go.Num Go.Tb Go.Proofs.Tryz
open Go.IntKind (i64 u64 u32 u8)
set_option maxRecDepth 100000
theorem RowsT.cells {w:World} {a:OA} {X:TX} {A:TA} (h:RowsT w a X A) {i:Nat} (hi:i<X.m) : ∃ ad,a=some ad/\vcells w (ad.add (i*3)) 0 (rtc X A i)/\w.cell? (ad.add (i*3))=some (.slice (A.cA i) (X.n i) (A.cC i))/\w.cell? ((ad.add (i*3)).add 1)=some (.int .i64 (X.rel i))/\w.cell? ((ad.add (i*3)).add 2)=some (.string (X.K i)):=by
 obtain⟨b,o,ha,hv⟩:=SlAt.gget (m:=3) (by omega) (fun _=>rfl) h.1 hi
 have h0:=zAD.1 hv 0 _ rfl
 have h1:=zAD.1 hv 1 _ rfl
 have h2:=zAD.1 hv 2 _ rfl
 rw [zAi,zAi] at h0
 refine⟨_,ha,hv,?_,h1,h2⟩
 rw [zAi]
 exact h0
theorem c34 {a b:OA} {s t:Nat->BA} {n m ca cb:Nat} (hn:n<=1048576) (w:World) (ha:SS w a s n) (hb:SS w b t m) :
  Ret prog 34 #[.slice a n ca,.slice b m cb] w fun v w'=>(∃ x,v = .bool x/\(x=true↔n=m/\∀ j,j<n->s j=t j))/\Ext w w':=by
 refine run34 _ _ _ _ _ _ _ _ (zAb (fun h=>⟨⟨false,rfl,?_⟩,yE _⟩) (fun h=>?_))
 ·have h:(n:Int)≠m:=by simpa using h
  simp only [Bool.false_eq_true,false_iff]
  exact fun h2=>h (by rw [h2.1])
 have h:(n:Int)=m:=by simpa using h
 have h:n=m:=by omega
 subst h
 refine⟨fun vals w1=>∃ i:Nat,vals=[.int .i64 i]/\i<=n/\(∀ k,k<i->s k=t k)/\Ext w w1,mu1 n,⟨0,rfl,Nat.zero_le _,fun k hk=>by omega,yE _⟩,?_⟩
 rintro m1 w1 ⟨i,hv,hi,f,he⟩
 cases hv
 refine zAe (fun g=>?_) (fun p=>⟨⟨true,rfl,by simp only [true_iff];exact⟨trivial,fun k hk=>f k (by omega)⟩⟩,he⟩)
 have d:i<n:=by omega
 have hd:=he.drew
 obtain⟨a1,h1,l⟩:=(ha.ext hd).get d
 obtain⟨a2,h2,o⟩:=(hb.ext hd).get d
 refine⟨a1,h1,⟨by omega,g⟩,_,l,a2,h2,⟨by omega,g⟩,_,o,?_⟩
 rw [zAt]
 refine zAb (fun h=>⟨⟨false,rfl,?_⟩,hd⟩) (fun h=>?_)
 ·simp only [Bool.false_eq_true,false_iff]
  intro h3
  simp [h3.2 i d] at h
 ·have h:bs (s i)=bs (t i):=by simpa using h
  rw [zAf (by omega)]
  refine⟨⟨i+1,rfl,d,fun k hk=>?_,hd⟩,by simp only [mu1,yT];omega⟩
  by_cases e:k=i
  ·rw [e];exact zDF h
  ·exact f k (by omega)
theorem c52 {X Y:TX} {A B:TA} {i k:Nat} (hn:X.n i<=1048576) (w:World) (ha:SS w (A.cA i) (X.C i) (X.n i)) (hb:SS w (B.cA k) (Y.C k) (Y.n k)) :
  Ret prog 52 #[.agg #[.slice (A.cA i) (X.n i) (A.cC i),.int .i64 (X.rel i),.string (X.K i)],.agg #[.slice (B.cA k) (Y.n k) (B.cC k),.int .i64 (Y.rel k),.string (Y.K k)]] w fun v w' =>
   (∃ x,v = .bool x/\(x=true↔X.rel i=Y.rel k/\X.K i=Y.K k/\X.n i=Y.n k/\∀ j,j<X.n i->X.C i j=Y.C k j))/\Ext w w':=by
 have z1:=(yE w).alloc (.cells (rtc X A i).toArray 49)
 have b1:=yN w (rtc X A i) 49
 have z2:=(yE (w.alloc (.cells (rtc X A i).toArray 49))).alloc (.cells (rtc Y B k).toArray 49)
 have b2:=yN (w.alloc (.cells (rtc X A i).toArray 49)) (rtc Y B k) 49
 have b:=b1.ext z2
 have hx:=z1.trans z2
 refine run52 _ _ _ _ _ _ _ _ _ _ _ _ fun K hK=>⟨_,b.blk.cell (j:=1) rfl,_,b2.blk.cell (j:=1) rfl,?_⟩
 refine zAb (fun h1=>?_) (fun h1=>hK _ _ ⟨⟨false,rfl,?_⟩,hx⟩)
 ·have h1:X.rel i=Y.rel k:=by simpa using h1
  refine⟨_,b.blk.cell (j:=2) rfl,_,b2.blk.cell (j:=2) rfl,?_⟩
  rw [zAt]
  refine zAe (fun h2=>?_) (fun h2=>hK _ _ ⟨⟨false,rfl,?_⟩,hx⟩)
  ·refine⟨_,_,_,b.blk.cell (j:=0) rfl,_,_,_,b2.blk.cell (j:=0) rfl,yC (c34 hn _ (ha.ext hx) (hb.ext hx)) ?_⟩
   rintro v w2 ⟨⟨x,rfl,d⟩,he⟩
   refine⟨_,rfl,hK _ _ ⟨⟨x,rfl,?_⟩,hx.trans he⟩⟩
   rw [d]
   exact⟨fun h=>⟨h1,zDF h2,h⟩,fun h=>h.2.2⟩
  ·simp only [Bool.false_eq_true,false_iff]
   exact fun h=>h2 (by rw [h.2.1])
 ·have h1 : ¬ X.rel i=Y.rel k:=by simpa using h1
  simp only [Bool.false_eq_true,false_iff]
  exact fun h=>h1 h.1
theorem c46 {a:OA} {s:Nat->BA} {n c:Nat} {most:Int} (hmost:most<=1048576) (w:World) (ha:SS w a s n) :
  Ret prog 46 #[.slice a n c,.int .i64 most] w fun v w'=>(∃ b,v = .bool b/\(b=false->(n:Int)<=most/\∀ j,j<n->(s j).size<=60))/\w' = w:=by
 refine run46 _ _ _ _ _ _ (zAe (fun h=>⟨⟨true,rfl,fun h=>by cases h⟩,rfl⟩) (fun h=>?_))
 refine⟨fun vals w1=>∃ i:Nat,vals=[.int .i64 i]/\i<=n/\(∀ k,k<i->(s k).size<=60)/\w1=w,mu1 n,⟨0,rfl,Nat.zero_le _,fun k hk=>by omega,rfl⟩,?_⟩
 rintro m1 w1 ⟨i,hv,hi,d,rfl⟩
 cases hv
 refine zAe (fun l=>?_) (fun m=>⟨⟨false,rfl,fun _=>⟨by omega,fun k hk=>d k (by omega)⟩⟩,rfl⟩)
 have f:i<n:=by omega
 obtain⟨a1,h1,g⟩:=ha.get f
 refine⟨a1,h1,⟨by omega,l⟩,_,g,zAe (fun h=>⟨⟨true,rfl,fun h=>by cases h⟩,rfl⟩) (fun h2=>?_)⟩
 rw [zAf (by omega)]
 refine⟨⟨i+1,rfl,f,fun k hk=>?_,rfl⟩,by simp only [mu1,yT];omega⟩
 by_cases e:k=i
 ·rw [e];omega
 ·exact d k (by omega)
def smallX (X:TX) (m n:Nat):Prop:=X.m<=m/\∀ i,i<X.m->(X.K i).size<=60/\X.n i<=n/\∀ j,j<X.n i->(X.C i j).size<=60
theorem smallX.tame {X:TX} {m n:Nat} (h:smallX X m n) (hn:n<=1048576):Tame X where
 n:=fun i hi=>Nat.le_trans (h.2 i hi).2.1 hn
 c:=fun i hi j hj=>Nat.le_trans ((h.2 i hi).2.2 j hj) (by decide)
 k:=fun i hi=>Nat.le_trans (h.2 i hi).1 (by decide)
theorem c61 {X:TX} {A:TA} {a:OA} {c:Nat} {most:Nat} (hmost:most<=1048576) (w:World) (ha:RowsT w a X A) :
  Ret prog 61 #[.slice a X.m c,.int .i64 most] w fun v w'=>(∃ b,v = .bool b/\(b=false->smallX X most 60))/\w' = w:=by
 refine run61 _ _ _ _ _ _ (zAe (fun h=>⟨⟨true,rfl,fun h=>by cases h⟩,rfl⟩) (fun h=>?_))
 refine⟨fun vals w1=>∃ i:Nat,vals=[.int .i64 i]/\i<=X.m/\(∀ k,k<i->(X.K k).size<=60/\X.n k<=60/\∀ j,j<X.n k->(X.C k j).size<=60)/\w1=w,mu1 X.m,⟨0,rfl,Nat.zero_le _,fun k hk=>by omega,rfl⟩,?_⟩
 rintro m1 w1 ⟨i,hv,hi,d,rfl⟩
 cases hv
 refine zAe (fun g=>?_) (fun l=>⟨⟨false,rfl,fun _=>⟨by omega,fun k hk=>d k (by omega)⟩⟩,rfl⟩)
 have f:i<X.m:=by omega
 obtain⟨a1,h1,_,q0,q1,q2⟩:=ha.cells f
 intro K hK
 have no:K [.bool true] w1:=hK true w1 (by rw [cond_true];exact⟨⟨true,rfl,fun h=>by cases h⟩,rfl⟩)
 refine⟨a1,h1,⟨by omega,g⟩,_,q2,zAe (fun _=>no) (fun h2=>?_)⟩
 refine⟨a1,h1,⟨by omega,g⟩,_,_,_,q0,yC (c46 (most:=60) (by decide) _ (ha.2 i f)) ?_⟩
 rintro v w3 ⟨⟨b,rfl,hb⟩,rfl⟩
 refine⟨_,rfl,?_⟩
 cases b with
 | true=>exact no
 | false =>
  obtain⟨g1,g2⟩:=hb rfl
  refine hK false _ ?_
  rw [cond_false,zAf (by omega)]
  refine⟨⟨i+1,rfl,f,fun k hk=>?_,rfl⟩,by simp only [mu1,yT];omega⟩
  by_cases e:k=i
  ·rw [e];exact⟨by omega,by omega,g2⟩
  ·exact d k (by omega)
structure LT where
 a:Nat->Option Addr
 n:Nat->Nat
 c:Nat->Nat
 s:Nat->Nat->BA
structure OwnT (w:World) (B:Nat) (p:OA) (c:Nat) (X:TX) (A:TA) (k:Nat):Prop where
 row:w.ownsRow B 49 3 (.slice p k c) k (GL (rtc X A) k)
 c : ∀ i,i<k->w.ownsRow B 9 1 (.slice (A.cA i) (X.n i) (A.cC i)) (X.n i) (SL (X.C i) (X.n i))
theorem zFY (s:Nat->BA) : ∀ n,zAr (SL s n)=true
 | 0=>rfl
 | n+1=>by rw [zGk];exact plain_app _ _ (zFY s n) rfl
theorem zCh (s:Nat->BA) (n:Nat):(SL s n).length=n:=zAB _ _
end Go.Proofs.Si
namespace Go.Proofs.Si
open Go Go.V Go.Proofs Go.RowKit Go.Num Go.Tb
set_option maxRecDepth 100000
structure Sm6 (S:Tb.Sys):Prop where
 n:S.n<=6
 m:S.m<=15
 C : ∀ i,i<S.m->∀ j,j<S.n->dg 61 (S.C i j)
 K : ∀ i,i<S.m->dg 61 (S.K i)
theorem Sm6.dotsZ {S:Tb.Sys} (h:Sm6 S) {y:Nat->Rat} (hy : ∀ k,k<S.m->dg 2000000 (y k)):DotsZ S y 60000000:=by
 have hm:=h.m
 exact {
  p:=fun k hk j hj=>((hy k hk).mul (h.C k hk j hj)).mono (by decide)
  c:=fun i hi j hj=>(sum_dg (h:=2000062) fun k hk=>(hy k (by omega)).mul (h.C k (by omega) j hj)).mono (by omega)
  pk:=fun k hk=>((hy k hk).mul (h.K k hk)).mono (by decide)
  k:=fun i hi=>(sum_dg (h:=2000062) fun k hk=>(hy k (by omega)).mul (h.K k (by omega))).mono (by omega) }
theorem Sm6.dots {S:Tb.Sys} (h:Sm6 S) {x:Nat->Rat} (hx : ∀ j,j<S.n->dg 14000000 (x j)):Dots S x 84001000:=by
 have hn:=h.n
 intro i hi
 exact⟨fun j hj=>((h.C i hi j hj).mul (hx j hj)).mono (by decide),fun k hk=>(sum_dg (h:=14000062) fun j hj=>(h.C i hi j (by omega)).mul (hx j (by omega))).mono (by omega)⟩
theorem smallX.sm {X:TX} {n:Nat} (h:smallX X 14 60) (hn:n<=6) (hok : ∀ i,i<X.m->okRow X n i):Sm6 (sysX X n) where
 n:=hn
 m:=by have:=h.1;show X.m<=15;omega
 C:=fun i hi j hj=>rd_dg ((hok i hi).2.2.2.1 j (by have:=(hok i hi).1;replace hj:j<n:=hj;omega)) ((h.2 i hi).2.2 j (by have:=(hok i hi).1;replace hj:j<n:=hj;omega))
 K:=fun i hi=>rd_dg (hok i hi).2.2.2.2 (h.2 i hi).1
theorem Agree.sm {S S' : Tb.Sys} (h:Agree S S') (hs:Sm6 S):Sm6 S' where
 n:=by rw [<- h.n];exact hs.n
 m:=by rw [<- h.m];exact hs.m
 C:=fun i hi j hj=>by
  rw [<- h.C i (by rw [h.m];exact hi) j (by rw [h.n];exact hj)]
  exact hs.C i (by rw [h.m];exact hi) j (by rw [h.n];exact hj)
 K:=fun i hi=>by
  rw [<- h.K i (by rw [h.m];exact hi)]
  exact hs.K i (by rw [h.m];exact hi)
theorem zAP (z:Int):txtQ (z:Rat)=(if z<0 then [45] else [])++dec z.natAbs:=by
 rw [zA3,Rat.num_intCast,Rat.den_intCast,if_pos rfl,List.append_nil]
end Go.Proofs.Si
namespace Go.Proofs.Si
open Go Go.V Go.Proofs Go.RowKit Go.Num Go.Tb Go.Proofs.Tryz
set_option maxRecDepth 100000
abbrev t1:BA:={ data:=#[49] }
abbrev tm1:BA:={ data:=#[45,49] }
abbrev tm2:BA:={ data:=#[45,50] }
abbrev t2:BA:={ data:=#[50] }
theorem bs_t1:bs t1=txtQ 1:=by
 have h:=zAP 1
 rw [show ((1:Int):Rat)=1 from rfl] at h
 rw [h,show (1:Int).natAbs=1 from rfl,zAv (by decide)];rfl
theorem bs_t2:bs t2=txtQ 2:=by
 have h:=zAP 2
 rw [show ((2:Int):Rat)=2 from rfl] at h
 rw [h,show (2:Int).natAbs=2 from rfl,zAv (by decide)];rfl
theorem bs_tm1:bs tm1=txtQ (-1):=by
 have h:=zAP (-1)
 rw [show ((-1:Int):Rat) = -1 from rfl] at h
 rw [h,show (-1:Int).natAbs=1 from rfl,zAv (by decide)];rfl
theorem bs_tm2:bs tm2=txtQ (-2):=by
 have h:=zAP (-2)
 rw [show ((-2:Int):Rat) = -2 from rfl] at h
 rw [h,show (-2:Int).natAbs=2 from rfl,zAv (by decide)];rfl
theorem holdsX_of {X:TX} {n:Nat} {pt:Nat->Rat} (hok : ∀ i,i<X.m->okRow X n i) (h:Sat (sysX X n) pt):holdsX X n fun j=>mk (txtQ (pt j)):=by
 refine⟨fun j _=>ok_of (bs_mk _),hok,?_⟩
 have e:(fun j=>rd (mk (txtQ (pt j))))=pt:=funext fun j=>rd_mk _
 rw [e];exact h
theorem mk_size {q:Rat} {k:Nat} (h:dg k q):(mk (txtQ q)).size<=2*k+2:=zBV h (bs_mk _)
theorem dots_pt {X:TX} {n:Nat} {pt:Nat->Rat} (hsm:Sm6 (sysX X n)) (hpt : ∀ j,j<n->dg 14000000 (pt j)) (hok : ∀ i,i<X.m->okRow X n i) :
  ∀ S x,Reads X S->S.n=n->PtReads (fun j=>mk (txtQ (pt j))) n x->Dots S x 84001000/\(∀ i,i<S.m->dg 84001000 (S.K i))/\(∀ j,j<n->dg 40000000 (x j))/\∀ i,i<S.m->∀ j,j<n->dg 40000000 (S.C i j):=by
 intro S x hS hn hx
 have hs:=((zCX hok).agree hS (by rw [hn];rfl)).sm hsm
 have b : ∀ j,j<n->dg 14000000 (x j):=fun j hj=>by
  rw [hx.rd j hj,rd_mk];exact hpt j hj
 exact⟨hs.dots fun j hj=>b j (by omega),fun i hi=>(hs.K i hi).mono (by decide),fun j hj=>(b j hj).mono (by decide),fun i hi j hj=>(hs.C i hi j (by omega)).mono (by decide)⟩
end Go.Proofs.Si
namespace Go.Proofs.Si
open Go Go.V Go.Proofs Go.RowKit Go.Num Go.Tb Go.Proofs.Tryz
open Go.IntKind (i64 u64 u32 u8)
set_option maxRecDepth 100000
theorem copy_ok {w:World} {a:OA} {t:Nat->BA} {n:Nat} (hs:SS w a t n) (hn:n<=1000000):AppOk (w.alloc (.cells #[] 9)) w.heap.size 9 1 16 (some ⟨w.heap.size,0,none⟩) 0 0 [] a n (SL t n) where
 own := .inl (zET (n:=0) (size:=1) (yN w [] 9) rfl (by decide))
 len:=by rw [zCh,Nat.mul_one]
 src:=by
  rcases hs.ext ((yE w).alloc (.cells #[] 9)) with e | ⟨ad,g1,g2,g3⟩
  ·left
   have:=congrArg List.length e
   rw [zCh] at this
   simpa using this
  ·exact .inr ⟨ad,g1,zBD.2 g3⟩
 plain:=zFY _ _
 max:=by unfold maxLen;omega
 bytes:=by omega
 base:=((yE w).alloc (.cells #[] 9)).size
theorem copy_res {w w' : World} {t:Nat->BA} {n c:Nat} {p:OA} (r:AppRes (w.alloc (.cells #[] 9)) w' w.heap.size 9 1 (some ⟨w.heap.size,0,none⟩) 0 0 [] n (SL t n) p c):SS w' p t n/\Ext w w':=by
 have z:=(yE w).alloc (.cells #[] 9)
 refine⟨?_,r.below (zET (n:=0) (size:=1) (yN w [] 9) rfl (by decide)) z z.size yL⟩
 have h:=zAJ r.own
 rw [List.nil_append] at h
 exact h
end Go.Proofs.Si
namespace Go.Proofs.Si
open Go Go.V Go.Proofs Go.RowKit Go.Num Go.Tb Go.Proofs.Tryz
set_option maxRecDepth 100000
end Go.Proofs.Si
namespace Go.Proofs.Si
open Go Go.V Go.Proofs Go.RowKit Go.Num Go.Tb Go.Proofs.Tryz
open Go.IntKind (i64 u64 u32 u8)
set_option maxRecDepth 100000
end Go.Proofs.Si
namespace Go.Proofs.Si
open Go Go.V Go.Proofs Go.RowKit Go.Num Go.Tb Go.Proofs.Tryz
set_option maxRecDepth 100000
end Go.Proofs.Si
namespace Go.Tb
open Go Go.Num
theorem val_of_a {A k:Nat} {S:Sys} {s:Dy} (hk:0<k) (hI:Inv S s) (ha : ∀ i,i<S.m->∀ j,j<S.n->dg A (s.a i j)) (hK : ∀ i,i<S.m->dg k (S.K i)) : ∀ v,v<S.n+S.m->dg (S.n*(A+k+2)+1+k) (s.val v).1/\dg (S.n*(A+k+2)+1+k) (s.val v).2:=by
 intro v hv
 have b : ∀ j,j<S.n->dg k (s.val (s.cols j)).1/\dg k (s.val (s.cols j)).2:=by
  intro j hj
  rw [hI.non j hj]
  have f:=(hI.dict.perm.col j hj).1
  split
  ·exact⟨zBs hk,zBs hk⟩
  ·refine⟨hK _ (by omega),?_⟩
   rw [ub]
   simp only
   split
   ·exact (dg_one hk).neg
   ·exact zBs hk
 obtain⟨p1,p2⟩:=hI.dict.perm.lin v hv
 by_cases h0:0<=s.line v
 ·obtain⟨p3,p4⟩:=p1 h0
  generalize hq:(s.line v).toNat=q at p4
  have d:q<S.m:=by omega
  have e1:=(hI.dict.sol _).1 hI.sol1 q d
  have e2:=(hI.dict.sol _).1 hI.sol2 q d
  simp only [p4] at e1 e2
  rw [e1,e2]
  exact⟨(sum_dg (h:=A+k+1) fun j hj=>(ha q d j hj).mul (b j hj).1).mono (by rw [show A+k+1+1=A+k+2 from rfl];omega),(sum_dg (h:=A+k+1) fun j hj=>(ha q d j hj).mul (b j hj).2).mono (by rw [show A+k+1+1=A+k+2 from rfl];omega)⟩
 ·obtain⟨_,j,hj,e⟩:=p2 (by omega)
  rw [<- e]
  exact⟨(b j hj).1.mono (by omega),(b j hj).2.mono (by omega)⟩
structure Scaled (S S' : Sys) (G:Nat->Rat):Prop where
 n:S'.n=S.n
 m:S'.m=S.m
 pos : ∀ i,i<S.m->0<G i
 C : ∀ i,i<S.m->∀ j,j<S.n->S'.C i j=S.C (S.m - 1 - i) j*G (S.m - 1 - i)
 rel : ∀ i,i<S.m->S'.rel i=S.rel (S.m - 1 - i)
 K : ∀ i,i<S.m->S'.K i=S.K (S.m - 1 - i)*G (S.m - 1 - i)
theorem mul_le_iff {a b g:Rat} (hp:0<g):a*g<=b*g↔a<=b:=by
 rw [<- Rat.not_lt,<- Rat.not_lt,Rat.mul_lt_mul_right hp]
end Go.Tb
namespace Go.Proofs.Si
open Go Go.V Go.Proofs Go.RowKit Go.Num Go.Tb Go.Proofs.Tryz
open Go.IntKind (i64 u64 u32 u8)
set_option maxRecDepth 100000
end Go.Proofs.Si
namespace Go.Tb
open Go Go.Num
def lcmD (C:Nat->Rat):Nat->Nat
 | 0=>1
 | k+1=>Nat.lcm (lcmD C k) (C k).den
def gcdD (C:Nat->Rat) (l:Nat):Nat->Nat
 | 0=>0
 | k+1=>Nat.gcd (gcdD C l k) (C k*(l:Nat)).num.natAbs
def facT (n:Nat) (C:Nat->Rat):Rat:=((lcmD C n:Nat):Rat)*(((gcdD C (lcmD C n) n:Nat):Rat))⁻¹
def flo (q:Rat):Int:=q.num / (q.den:Int)
open Classical in
noncomputable def tC (n:Nat) (C:Nat->Rat) (j:Nat):Rat:=if ∀ k,k<n->C k=0 then 0 else C j*facT n C
open Classical in
noncomputable def tRel (n:Nat) (C:Nat->Rat) (rel:Nat):Nat:=if ∀ k,k<n->C k=0 then 1 else if rel=3 then 3 else 1
open Classical in
noncomputable def tK (n:Nat) (C:Nat->Rat) (rel:Nat) (K:Rat):Rat :=
 if ∀ k,k<n->C k=0 then 0 else if rel=3 then K*facT n C else if rel=2 then ((-(flo (-(K*facT n C))) - 1:Int):Rat) else ((flo (K*facT n C):Int):Rat)
open Classical in
def tOk (n:Nat) (C:Nat->Rat) (rel:Nat) (K:Rat):Prop :=
 if ∀ k,k<n->C k=0 then (rel=1/\0<=K)\/(rel=2/\0<K)\/(rel=3/\K=0) else rel=3->(K*facT n C).den=1
theorem zCu (C:Nat->Rat) : ∀ n,0<lcmD C n
 | 0=>Nat.one_pos
 | n+1=>Nat.lcm_pos (zCu C n) (C n).den_pos
theorem zEz (C:Nat->Rat) : ∀ {n k:Nat},k<n->(C k).den ∣ lcmD C n
 | n+1,k,h=>by
  by_cases e:k=n
  ·subst e;exact Nat.dvd_lcm_right _ _
  ·exact Nat.dvd_trans (zEz C (by omega)) (Nat.dvd_lcm_left _ _)
theorem mul_den (q:Rat):q*((q.den:Nat):Rat)=((q.num:Int):Rat):=by
 have h:((q.den:Nat):Rat)≠0:=by exact_mod_cast q.den_nz
 have e:q=((q.num:Int):Rat) / ((q.den:Nat):Rat):=by rw [<- Rat.mkRat_eq_div,Rat.mkRat_self]
 conv=>lhs;lhs;rw [e]
 rw [Rat.div_def,Rat.mul_assoc,Rat.inv_mul_cancel _ h,Rat.mul_one]
theorem zDY {q:Rat} {l:Nat} (h:q.den ∣ l):q*((l:Nat):Rat)=(((q.num*(l / q.den:Nat):Int)):Rat):=by
 obtain⟨k,hk⟩:=h
 subst hk
 rw [Nat.mul_div_cancel_left _ q.den_pos,Rat.natCast_mul,<- Rat.mul_assoc,Rat.intCast_mul,Rat.intCast_natCast]
 congr 1
 exact mul_den q
theorem int_num {q:Rat} {z:Int} (h:q=(z:Rat)):((q.num:Int):Rat)=q:=by rw [h,Rat.num_intCast]
theorem zFa {C:Nat->Rat} {l:Nat} (hl:0<l) : ∀ {n:Nat},(∃ k,k<n/\C k≠0)->gcdD C l n≠0
 | 0,⟨k,hk,_⟩=>by omega
 | n+1,⟨k,hk,hne⟩=>by
  rw [gcdD]
  intro h
  obtain⟨h1,h2⟩:=Nat.gcd_eq_zero_iff.1 h
  by_cases e:k=n
  ·subst e
   have h3:C k*((l:Nat):Rat)=0:=Rat.num_eq_zero.1 (Int.natAbs_eq_zero.1 h2)
   rcases Rat.mul_eq_zero.1 h3 with h4 | h4
   ·exact hne h4
   ·have:l=0:=by exact_mod_cast h4
    omega
  ·exact zFa hl ⟨k,by omega,hne⟩ h1
end Go.Tb
namespace Go.Proofs.Si
open Go Go.V Go.Proofs Go.RowKit Go.Num Go.Tb Go.Proofs.Tryz
set_option maxRecDepth 100000
def isZ (l:List UInt8):Prop:=∃ z:Int,l=txtQ (z:Rat)
theorem isZ_iff {l:List UInt8} : isZ l↔∃ q:Rat,l=txtQ q/\q.den=1:=by
 constructor
 ·rintro⟨z,h⟩;exact⟨z,h,Rat.den_intCast z⟩
 ·rintro⟨q,h,h1⟩;exact⟨q.num,by rw [h];congr 1;exact Rat.ext (Rat.num_intCast _).symm (by rw [h1,Rat.den_intCast])⟩
theorem c91 (a:BA) (hz:a.size<=536870912) (w:World):Ret prog 91 #[.string a] w fun v w'=>(∃ b,v = .bool b/\(b=true↔isZ (bs a)))/\Ext w w':=by
 refine run91 _ _ _ (yC (c81 a hz w) ?_)
 rintro v w1 ⟨hp,he⟩
 rcases hp with ⟨q,x,h,⟨s,t,rfl,hs,ht⟩,rfl⟩ | ⟨hn,rfl⟩
 ·have hb:=box3 w1 (.bool (decide (q.num<0))) (.string s) (.string t) (.bool false) (.string { data:=#[] }) (.string { data:=#[] })
  have d:=he.trans (zBb w1 (.bool (decide (q.num<0))) (.string s) (.string t) (.bool false) (.string { data:=#[] }) (.string { data:=#[] }))
  refine⟨_,_,_,_,rfl,zBt _ _ _ _,fun K hK=>?_⟩
  rw [cond_true]
  refine⟨_,zAj (j:=2) hb,hK _ ⟨⟨_,rfl,?_⟩,d⟩⟩
  rw [beq_one ht,decide_eq_true_eq,isZ_iff]
  exact⟨fun h1=>⟨q,h,h1⟩,fun ⟨q2,h2,h3⟩=>by rw [zA0 (h.symm.trans h2)];exact h3⟩
 ·have d:=he.trans (zBb w1 (.bool false) (.string { data:=#[] }) (.string { data:=#[] }) (.bool false) (.string { data:=#[] }) (.string { data:=#[] }))
  refine⟨_,_,_,_,rfl,zBt _ _ _ _,fun K hK=>?_⟩
  rw [cond_false]
  refine hK _ ⟨⟨_,rfl,?_⟩,d⟩
  simp only [Bool.false_eq_true,false_iff]
  rintro⟨z,h⟩
  exact hn ⟨_,h⟩
theorem zBe (n:Nat):txtQ ((n:Nat):Rat)=dec n:=by
 have:((n:Nat):Rat)=(((n:Int)):Rat):=(Rat.intCast_natCast n).symm
 rw [this,zAP,if_neg (by omega),List.nil_append,Int.natAbs_natCast]
theorem c86 {a:BA} {q:Rat} (ha:bs a=txtQ q) (hz:a.size<=536870912) (w:World):Ret prog 86 #[.string a] w fun v w'=>TxtV ((q.den:Nat):Rat) v/\Ext w w':=by
 refine run86 _ _ _ (yC (c81 a hz w) ?_)
 rintro v w1 ⟨hp,he⟩
 obtain⟨s,t,rfl,hs,ht⟩:=zB0 ha hp
 have hb:=box3 w1 (.bool (decide (q.num<0))) (.string s) (.string t) (.bool false) (.string { data:=#[] }) (.string { data:=#[] })
 have b:=he.trans (zBb w1 (.bool (decide (q.num<0))) (.string s) (.string t) (.bool false) (.string { data:=#[] }) (.string { data:=#[] }))
 refine⟨_,_,_,_,rfl,zBt _ _ _ _,?_⟩
 rw [Bool.not_true,cond_false]
 exact⟨_,zAj (j:=2) hb,⟨t,rfl,by rw [zBe];exact ht⟩,b⟩
theorem c88 {a b:BA} {p q:Rat} (ha:bs a=txtQ p) (hb:bs b=txtQ q) (h0:q≠0) (hz:a.size<=268435456/\b.size<=268435456) (w:World) :
  Ret prog 88 #[.string a,.string b] w fun v w'=>TxtV (p*q⁻¹) v/\Ext w w':=by
 refine run88 _ _ _ _ (yC (c81 a (by omega) w) ?_)
 rintro v w1 ⟨hp,a8⟩
 obtain⟨s,t,rfl,hs,ht⟩:=zB0 ha hp
 have k:=box3 w1 (.bool (decide (p.num<0))) (.string s) (.string t) (.bool false) (.string { data:=#[] }) (.string { data:=#[] })
 have a4:=a8.trans (zBb w1 (.bool (decide (p.num<0))) (.string s) (.string t) (.bool false) (.string { data:=#[] }) (.string { data:=#[] }))
 refine⟨_,_,_,_,rfl,zBt _ _ _ _,?_⟩
 generalize setCells (w1.alloc (.cells #[.bool false,.string { data:=#[] },.string { data:=#[] }] 110)) ⟨w1.heap.size,0,none⟩ 0 [.bool (decide (p.num<0)),.string s,.string t]=W1 at k a4 ⊢
 generalize w1.heap.size=B1 at k ⊢
 refine yC (c81 b (by omega) W1) ?_
 rintro v w2 ⟨b4,a9⟩
 obtain⟨s2,t2,rfl,g,n⟩:=zB0 hb b4
 have d:=box3 w2 (.bool (decide (q.num<0))) (.string s2) (.string t2) (.bool false) (.string { data:=#[] }) (.string { data:=#[] })
 have a1:=a9.trans (zBb w2 (.bool (decide (q.num<0))) (.string s2) (.string t2) (.bool false) (.string { data:=#[] }) (.string { data:=#[] }))
 refine⟨_,_,_,_,rfl,zBt _ _ _ _,?_⟩
 generalize setCells (w2.alloc (.cells #[.bool false,.string { data:=#[] },.string { data:=#[] }] 110)) ⟨w2.heap.size,0,none⟩ 0 [.bool (decide (q.num<0)),.string s2,.string t2]=W2 at d a1 ⊢
 generalize w2.heap.size=B2 at d ⊢
 have f:=(a1.blk k)
 have hx:Ext w W2:=a4.trans a1
 have b2:=zAq p
 have b3:=zAq q
 rw [<- ha,<- zAc] at b2
 rw [<- hb,<- zAc] at b3
 have z1:s.size<=268435456:=by rw [zAc,hs];omega
 have z2:t.size<=268435456:=by rw [zAc,ht];omega
 have z3:s2.size<=268435456:=by rw [zAc,g];omega
 have z4:t2.size<=268435456:=by rw [zAc,n];omega
 have a3:q.num.natAbs≠0:=fun h=>h0 (Rat.num_eq_zero.1 (Int.natAbs_eq_zero.1 h))
 intro K hK
 rw [Bool.not_true,Bool.or_self,cond_false]
 refine⟨_,zAj (j:=1) d,hK _ ?_⟩
 rw [zC0 g,decide_eq_false a3,cond_false]
 intro K1 a7
 refine⟨_,zAj (w:=W2.drew) (j:=0) f,_,zAj (w:=W2.drew) (j:=0) d,_,zAj (w:=W2.drew) (j:=1) f,_,zAj (w:=W2.drew) (j:=2) d,_,zAj (w:=W2.drew) (j:=2) f,_,zAj (w:=W2.drew) (j:=1) d,yC (c83 hs n ⟨by omega,by omega⟩ W2.drew) ?_⟩
 rintro v w3 ⟨⟨u1,rfl,o⟩,m⟩
 refine⟨u1,rfl,m,yC (c83 ht g ⟨by omega,by omega⟩ w3) ?_⟩
 rintro v w4 ⟨⟨u3,rfl,a0⟩,a2⟩
 have b5:Ext w w4:=hx.trans (((yE W2).drew.trans m).trans a2)
 have i : ∀ (x y:Nat) (u v t:BA),bs u=dec x->bs v=dec y->bs t=dec (x*y)->u.size<=268435456->v.size<=268435456->t.size<=536870912:=by
  intro x y u v t h1 h2 h3 h4 h5
  rw [zAc,h1] at h4
  rw [zAc,h2] at h5
  rw [zAc,h3]
  have:=zAz x y
  omega
 have b8:=i _ _ _ _ _ hs n o z1 z4
 have b9:=i _ _ _ _ _ ht g a0 z2 z3
 have l:p.den*q.num.natAbs≠0:=Nat.mul_ne_zero p.den_nz a3
 refine⟨u3,rfl,m.trans a2,yC (c82 _ o a0 l ⟨by omega,by omega⟩ w4) ?_⟩
 rintro v w6 ⟨⟨y1,y2,rfl,a5,a6⟩,b0⟩
 have b6:y1.size<=2147483648:=by
  rw [zAc,a5]
  have h6:=(red_len (!(decide (p.num<0)==decide (q.num<0))) (p.num.natAbs*q.den) l).1
  rw [<- o,<- zAc] at h6
  omega
 have b7:y2.size<=2147483648:=by
  rw [zAc,a6]
  have h6:=(red_len (!(decide (p.num<0)==decide (q.num<0))) (p.num.natAbs*q.den) l).2
  rw [<- a0,<- zAc] at h6
  omega
 refine⟨_,_,_,rfl,yC (c84 _ a5 a6 ⟨b6,b7⟩ w6) ?_⟩
 rintro v w7 ⟨⟨y,rfl,hy⟩,b1⟩
 refine⟨y,rfl,a7 y w7 ⟨⟨y,rfl,?_⟩,(b5.trans b0).trans b1⟩⟩
 rw [hy,<- div_red p q h0];rfl
theorem c89 {a:BA} {q:Rat} (ha:bs a=txtQ q) (hz:a.size<=536870912) (w:World):Ret prog 89 #[.string a] w fun v w'=>TxtV ((flo q:Int):Rat) v/\Ext w w':=by
 refine run89 _ _ _ (yC (c81 a hz w) ?_)
 rintro v w1 ⟨hp,he⟩
 obtain⟨s,t,rfl,hs,ht⟩:=zB0 ha hp
 have hb:=box3 w1 (.bool (decide (q.num<0))) (.string s) (.string t) (.bool false) (.string { data:=#[] }) (.string { data:=#[] })
 have o:=he.trans (zBb w1 (.bool (decide (q.num<0))) (.string s) (.string t) (.bool false) (.string { data:=#[] }) (.string { data:=#[] }))
 refine⟨_,_,_,_,rfl,zBt _ _ _ _,?_⟩
 rw [Bool.not_true,cond_false]
 have a1:=zAq q
 rw [<- ha,<- zAc] at a1
 have z1:s.size<=536870912:=by rw [zAc,hs];omega
 have z2:t.size<=536870912:=by rw [zAc,ht];omega
 refine⟨_,zAj (j:=1) hb,_,zAj (j:=2) hb,yC (c137 hs ht q.den_pos ⟨by omega,by omega⟩ _) ?_⟩
 rintro v w2 ⟨⟨s4,s5,rfl,d,l⟩,g⟩
 have hx:=o.trans g
 have f:=g.blk hb
 have z4:s4.size<=536870912:=by
  have:=zAu (Nat.div_le_self q.num.natAbs q.den)
  rw [<- hs,<- d,<- zAc,<- zAc] at this
  omega
 refine⟨_,_,rfl,fun K hK=>?_⟩
 have dq:=q.den_pos
 have fin : ∀ (m:Nat) (s6:BA) (w3:World),Ext w2 w3->bs s6=dec m->s6.size<=2147483648->(m:Int)=(if q.num<0 then -(flo q) else flo q)->K [.string s6] w3:=by
  intro m s6 w3 h3 hm a2 i
  refine hK _ _ ⟨_,zAj (j:=0) (h3.blk f),yC (c84 (decide (q.num<0)&&!(s6.toList==({ data:=#[48] } : BA).toList)) hm (show bs _=dec 1 by rw [zBx];rfl) ⟨a2,by decide⟩ w3) ?_⟩
  rintro v w4 ⟨⟨u,rfl,hu⟩,p⟩
  refine⟨u,rfl,⟨u,rfl,?_⟩,(hx.trans h3).trans p⟩
  rw [hu,zAP,zC0 hm,txt3,if_pos rfl,List.append_nil]
  by_cases hn:q.num<0
  ·rw [if_pos hn] at i
   by_cases h0:m=0
   ·have:flo q=0:=by omega
    rw [this,h0];simp
   ·rw [if_pos (by omega:flo q<0),show (flo q).natAbs=m by omega];simp [hn,h0]
  ·rw [if_neg hn] at i
   rw [if_neg (by omega : ¬ flo q<0),show (flo q).natAbs=m by omega];simp [hn]
 refine⟨_,zAj (j:=0) f,zAb (fun h=>?_) (fun h=>?_)⟩
 ·rw [Bool.and_eq_true,Bool.not_eq_true',zC0 l,decide_eq_true_eq,decide_eq_false_iff_not] at h
  refine yC (c108 (b:={ data:=#[49] }) d (show bs _=dec 1 by rw [zBx];rfl) ⟨by omega,by decide⟩ w2) ?_
  rintro v w5 ⟨⟨s8,rfl,n⟩,a0⟩
  refine⟨_,rfl,fin _ _ _ a0 n ?_ ?_⟩
  ·have:=zBy (q.num.natAbs / q.den) 1
   rw [<- d,<- n,zBx,<- zAc,<- zAc] at this
   simp only [List.length_singleton] at this
   omega
  ·rw [if_pos h.1]
   unfold flo
   obtain⟨k,hk⟩ : ∃ k:Nat,q.num = -(k:Int):=⟨q.num.natAbs,by omega⟩
   rw [hk] at h ⊢
   rw [Int.natAbs_neg,Int.natAbs_natCast] at h ⊢
   have h1:=Nat.div_add_mod k q.den
   have h2:=Nat.mod_lt k dq
   generalize k / q.den=x at h1 ⊢
   generalize k % q.den=r at h1 h2 h
   have e : -(k:Int)=((q.den:Int) - r)+(-(x:Int) - 1)*q.den:=by
    have:(k:Int)=q.den*x+r:=by exact_mod_cast h1.symm
    rw [this,Int.sub_mul,Int.neg_mul,Int.mul_comm (x:Int)];omega
   rw [e,Int.add_mul_ediv_right _ _ (by omega),Int.ediv_eq_zero_of_lt (by omega) (by omega)]
   omega
 ·refine fin _ _ _ (yE _) d (by omega) ?_
  rw [Bool.and_eq_false_iff,Bool.not_eq_false',zC0 l,decide_eq_true_eq,decide_eq_false_iff_not] at h
  unfold flo
  by_cases hn:q.num<0
  ·rw [if_pos hn]
   obtain⟨k,hk⟩ : ∃ k:Nat,q.num = -(k:Int):=⟨q.num.natAbs,by omega⟩
   rw [hk] at h ⊢
   rw [Int.natAbs_neg,Int.natAbs_natCast] at h ⊢
   have h2:k % q.den=0:=by
    rcases h with h | h
    ·omega
    ·exact h
   have h1:=Nat.div_add_mod k q.den
   rw [h2] at h1
   generalize k / q.den=x at h1 ⊢
   have e : -(k:Int)=0+(-(x:Int))*q.den:=by
    have:(k:Int)=q.den*x:=by exact_mod_cast h1.symm
    rw [this,Int.neg_mul,Int.mul_comm (x:Int)];omega
   rw [e,Int.add_mul_ediv_right _ _ (by omega)]
   simp
  ·rw [if_neg hn]
   obtain⟨k,hk⟩ : ∃ k:Nat,q.num=(k:Int):=⟨q.num.natAbs,by omega⟩
   rw [hk,Int.natAbs_natCast]
   rfl
theorem zCP (q:Rat):(flo q).natAbs<=q.num.natAbs:=by
 unfold flo
 exact Int.natAbs_ediv_le_natAbs _ _
theorem zGe (z:Int):(txtQ (z:Rat)).length<=(dec z.natAbs).length+1:=by
 rw [zAP,List.length_append]
 split <;> simp only [List.length_singleton,List.length_nil] <;> omega
theorem flo_len (q:Rat):(txtQ ((flo q:Int):Rat)).length<=(txtQ q).length+1:=by
 have h1:=zGe (flo q)
 have h2:=zAu (zCP q)
 have h3:=(zAq q).1
 omega
theorem c90 {a:BA} {q:Rat} (ha:bs a=txtQ q) (hz:a.size<=536870000) (w:World):Ret prog 90 #[.string a] w fun v w'=>TxtV ((-(flo (-q)):Int):Rat) v/\Ext w w':=by
 refine run90 _ _ _ (yC (c79 ha (by omega) w) ?_)
 rintro v w1 ⟨⟨u,rfl,hu⟩,d⟩
 have h1:=neg_len q
 rw [<- ha,<- hu,<- zAc,<- zAc] at h1
 refine⟨_,rfl,yC (c89 hu (by omega) w1) ?_⟩
 rintro v w2 ⟨⟨u2,rfl,b⟩,f⟩
 have h2:=flo_len (-q)
 rw [<- hu,<- b,<- zAc,<- zAc] at h2
 refine⟨_,rfl,yC (c79 b (by omega) w2) ?_⟩
 rintro v w3 ⟨⟨u3,rfl,h⟩,g⟩
 exact⟨_,rfl,⟨_,rfl,by rw [h,Rat.intCast_neg]⟩,(d.trans f).trans g⟩
theorem c170 {a:BA} {q:Rat} (ha:bs a=txtQ q) (hz:a.size<=536870912) (w:World):Ret prog 170 #[.string a] w fun v w'=>TxtV q v/\Ext w w':=by
 refine run170 _ _ _ (yC (c77 a hz w) ?_)
 rintro v w1 ⟨rfl,b⟩
 refine⟨_,rfl,?_⟩
 rw [ok_of ha,Bool.not_true,cond_false]
 exact⟨⟨a,rfl,ha⟩,b⟩
theorem c138 {a:BA} {z:Int} (ha:bs a=txtQ (z:Rat)) (hz:a.size<=536870912) (w:World):Ret prog 138 #[.string a] w fun v w'=>(∃ t,v = .string t/\bs t=dec z.natAbs)/\Ext w w':=by
 refine run138 _ _ _ (yC (c43 ha hz w) ?_)
 rintro v w1 ⟨rfl,d⟩
 rw [sgn_eq]
 refine⟨_,rfl,zAe (fun h=>?_) (fun h=>?_)⟩
 ·have f:z<0:=by
   have:=Tb.sgnQ_neg.1 h
   exact_mod_cast this
  refine yC (c79 ha hz w1) ?_
  rintro v w2 ⟨⟨u,rfl,hu⟩,b⟩
  refine⟨_,rfl,⟨u,rfl,?_⟩,d.trans b⟩
  rw [hu,<- Rat.intCast_neg,zAP,if_neg (by omega),List.nil_append,Int.natAbs_neg]
 ·have f : ¬ z<0:=fun h2=>h (Tb.sgnQ_neg.2 (by exact_mod_cast h2))
  refine yC (c170 ha hz w1) ?_
  rintro v w2 ⟨⟨u,rfl,hu⟩,b⟩
  refine⟨_,rfl,⟨u,rfl,?_⟩,d.trans b⟩
  rw [hu,zAP,if_neg f,List.nil_append]
theorem c87 {a b:BA} {x y:Int} (ha:bs a=txtQ (x:Rat)) (hb:bs b=txtQ (y:Rat)) (hz:a.size<=268435456/\b.size<=268435456) (w:World) :
  Ret prog 87 #[.string a,.string b] w fun v w'=>(∃ t,v = .string t/\bs t=dec (Nat.gcd x.natAbs y.natAbs))/\Ext w w':=by
 refine run87 _ _ _ _ fun K hK=>yC (c91 a (by omega) w) ?_
 rintro v w1 ⟨⟨b1,rfl,d⟩,g⟩
 have h1:=d.2 ⟨x,ha⟩
 subst h1
 refine⟨_,rfl,?_⟩
 rw [Bool.not_true,cond_false]
 refine yC (c91 b (by omega) w1) ?_
 rintro v w2 ⟨⟨b2,rfl,f⟩,h⟩
 have h2:=f.2 ⟨y,hb⟩
 subst h2
 refine⟨_,rfl,hK (!true) w2 ?_⟩
 rw [Bool.not_true,cond_false]
 refine yC (c138 ha (by omega) w2) ?_
 rintro v w3 ⟨⟨s,rfl,hs⟩,i⟩
 refine⟨_,rfl,yC (c138 hb (by omega) w3) ?_⟩
 rintro v w4 ⟨⟨t,rfl,ht⟩,j⟩
 have z1:s.size<=a.size:=by
  have:=(zAq (x:Rat)).1
  rw [Rat.num_intCast,<- hs,<- ha,<- zAc,<- zAc] at this;exact this
 have z2:t.size<=b.size:=by
  have:=(zAq (y:Rat)).1
  rw [Rat.num_intCast,<- ht,<- hb,<- zAc,<- zAc] at this;exact this
 refine⟨_,rfl,yC (c136 hs ht ⟨by omega,by omega⟩ w4) ?_⟩
 rintro v w5 ⟨⟨u,rfl,hu⟩,k⟩
 exact⟨_,rfl,⟨u,rfl,hu⟩,(((g.trans h).trans i).trans j).trans k⟩
theorem c85 {a b:BA} {x y:Int} (ha:bs a=txtQ (x:Rat)) (hb:bs b=txtQ (y:Rat)) (hx:x≠0) (hy:y≠0) (hz:a.size<=80000000/\b.size<=80000000) (w:World) :
  Ret prog 85 #[.string a,.string b] w fun v w'=>(∃ t,v = .string t/\bs t=dec (Nat.lcm x.natAbs y.natAbs))/\Ext w w':=by
 refine run85 _ _ _ _ fun K hK=>yC (c91 a (by omega) w) ?_
 rintro v w1 ⟨⟨b1,rfl,i⟩,m⟩
 have h1:=i.2 ⟨x,ha⟩
 subst h1
 refine⟨_,rfl,?_⟩
 rw [Bool.not_true,cond_false]
 refine yC (c91 b (by omega) w1) ?_
 rintro v w2 ⟨⟨b2,rfl,j⟩,n⟩
 have h2:=j.2 ⟨y,hb⟩
 subst h2
 refine⟨_,rfl,hK (!true) w2 ?_⟩
 rw [Bool.not_true,cond_false]
 have nz : ∀ {s:BA} {z:Int},bs s=txtQ (z:Rat)->z≠0->(s.toList==({ data:=#[48] } : BA).toList)=false:=by
  intro s z hs hz
  rw [zAt,decide_eq_false_iff_not]
  intro e
  rw [hs] at e
  have:(z:Rat)=0:=zA0 (e.trans (txtQ_zero.symm))
  exact hz (by exact_mod_cast this)
 rw [nz ha hx,nz hb hy,Bool.or_self,cond_false]
 refine yC (c44 ha hb ⟨by omega,by omega⟩ w2) ?_
 rintro v w3 ⟨⟨s,rfl,hs⟩,o⟩
 refine⟨_,rfl,yC (c87 ha hb ⟨by omega,by omega⟩ w3) ?_⟩
 rintro v w4 ⟨⟨t,rfl,ht⟩,p⟩
 have d:Nat.gcd x.natAbs y.natAbs≠0:=fun h=>hx (Int.natAbs_eq_zero.1 (Nat.eq_zero_of_gcd_eq_zero_left h))
 have f:((Nat.gcd x.natAbs y.natAbs:Nat):Rat)≠0:=fun h=>d (by exact_mod_cast h)
 have l:((Nat.gcd x.natAbs y.natAbs:Nat):Int) ∣ x*y:=Int.dvd_trans (Int.natAbs_dvd_natAbs.1 (by rw [Int.natAbs_natCast];exact Nat.gcd_dvd_left _ _)) (Int.dvd_mul_right x y)
 obtain⟨k,hk⟩:=l
 have a2:(x:Rat)*(y:Rat)=((Nat.gcd x.natAbs y.natAbs:Nat):Rat)*(k:Rat):=by
  rw [<- Rat.intCast_mul,hk,Rat.intCast_mul,Rat.intCast_natCast]
 have g:k.natAbs=Nat.lcm x.natAbs y.natAbs:=by
  have h:=congrArg Int.natAbs hk
  rw [Int.natAbs_mul,Int.natAbs_mul,Int.natAbs_natCast] at h
  unfold Nat.lcm
  rw [h,Nat.mul_div_cancel_left _ (Nat.pos_of_ne_zero d)]
 have l1:=(zAq (x:Rat)).1
 have l2:=(zAq (y:Rat)).1
 rw [Rat.num_intCast,<- ha,<- zAc] at l1
 rw [Rat.num_intCast,<- hb,<- zAc] at l2
 have lk:(dec k.natAbs).length<=a.size+b.size:=by
  have h1:=zAz x.natAbs y.natAbs
  have h2:k.natAbs<=x.natAbs*y.natAbs:=by rw [g];exact Nat.div_le_self _ _
  have:=zAu h2
  omega
 have zt:t.size<=268435456:=by
  have h3:=zAu (Nat.gcd_le_left y.natAbs (Int.natAbs_pos.2 hx))
  rw [zAc,ht];omega
 have zs:s.size<=268435456:=by
  have h1:=zGe (x*y)
  have h2:=zAz x.natAbs y.natAbs
  rw [Int.natAbs_mul] at h1
  rw [zAc,hs,<- Rat.intCast_mul];omega
 refine⟨_,rfl,yC (c88 (q:=((Nat.gcd x.natAbs y.natAbs:Nat):Rat)) hs (by rw [zBe];exact ht) f ⟨zs,zt⟩ w4) ?_⟩
 rintro v w5 ⟨⟨u,rfl,hu⟩,a0⟩
 have eu:(x:Rat)*(y:Rat)*(((Nat.gcd x.natAbs y.natAbs:Nat):Rat))⁻¹=(k:Rat):=by
  rw [a2,Rat.mul_comm _ (k:Rat),Rat.mul_assoc,Rat.mul_inv_cancel _ f,Rat.mul_one]
 rw [eu] at hu
 have zu:u.size<=536870912:=by
  have:=zGe k
  rw [zAc,hu];omega
 refine⟨_,rfl,yC (c138 hu zu w5) ?_⟩
 rintro v w6 ⟨⟨r,rfl,hr⟩,a1⟩
 exact⟨_,rfl,⟨r,rfl,by rw [hr,g]⟩,((((m.trans n).trans o).trans p).trans a0).trans a1⟩
end Go.Proofs.Si
