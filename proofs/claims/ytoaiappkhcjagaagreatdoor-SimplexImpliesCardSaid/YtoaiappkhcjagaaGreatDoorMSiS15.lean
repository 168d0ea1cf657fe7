/- Part of the proof: SiS15, SiS16, SiS17, SiS18, SiS19, SiS20, SiS21, SiS22. -/
import Derived.Test.YtoaiappkhcjagaaGreatDoorMSiS11
import Derived.Test.YtoaiappkhcjagaaGreatDoorSiV8
set_option linter.unusedVariables false
set_option linter.unusedSimpArgs false
namespace Go.Proofs.Si
open Go Go.V Go.Proofs Go.RowKit Go.Num Go.Tb Go.Proofs.Tryz
set_option maxRecDepth 100000
structure DotsZ (S:Tb.Sys) (y:Nat->Rat) (d:Nat):Prop where
 p : ∀ k,k<S.m->∀ j,j<S.n->dg d (y k*S.C k j)
 c : ∀ i,i<=S.m->∀ j,j<S.n->dg d (sumN i fun k=>y k*S.C k j)
 pk : ∀ k,k<S.m->dg d (y k*S.K k)
 k : ∀ i,i<=S.m->dg d (sumN i fun k=>y k*S.K k)
theorem DotsZ.y {S:Tb.Sys} {y:Nat->Rat} {d e:Nat} (h:DotsZ S y d) (hd:d<=e):DotsY S y e where
 c:=fun i hi j hj=>by
  rw [show (sumN i fun k=>S.C k j*y k)=sumN i fun k=>y k*S.C k j from zAi fun k _=>Rat.mul_comm _ _]
  exact (h.c i hi j hj).mono hd
 k:=fun i hi=>by
  rw [show (sumN i fun k=>S.K k*y k)=sumN i fun k=>y k*S.K k from zAi fun k _=>Rat.mul_comm _ _]
  exact (h.k i hi).mono hd
def TL (f:Nat->Rat) (n:Nat):List Value:=SL (fun j=>mk (txtQ (f j))) n
theorem TL_set {f:Nat->Rat} {n j:Nat} (hj:j<n) {u:ByteArray} {q:Rat} (hu:bs u=txtQ q):(TL f n).set j (.string u)=TL (upd f j q) n:=by
 unfold TL SL
 rw [zCq hj]
 refine zA3 fun k _=>?_
 by_cases e:k=j
 ·rw [e,zAy]
  show Value.string u=Value.string (mk (txtQ (upd f j q j)))
  rw [zAy]
  congr 1
  exact zGi (by rw [bs_mk,hu])
 ·rw [zAu _ e]
  show Value.string (mk (txtQ (f k)))=Value.string (mk (txtQ (upd f j q k)))
  rw [zAu _ e]
theorem TL_length (f:Nat->Rat) (n:Nat):(TL f n).length=n:=zA7 _ _
theorem TL_congr {f g:Nat->Rat} {n:Nat} (h : ∀ i,i<n->f i=g i):TL f n=TL g n:=zA3 fun i hi=>by (show Value.string (mk (txtQ (f i)))=Value.string (mk (txtQ (g i)));rw [h i hi])
structure CmbAt (w0 w:World) (B sb:Nat) (p:Option Addr) (c n:Nat) (f:Nat->Rat) (q:Rat) (st adm:Bool):Prop where
 s : ∃ u,bs u=txtQ q/\Box w sb 43 [.slice p n c,.string u,.bool st,.bool adm]
 own:OwnB w B 9 p (TL f n)
 r:Box w w0.heap.size 43 [.slice none 0 0,.string { data:=#[] },.bool false,.bool false]
 lo:w0.heap.size<sb
 hi:sb<B
 hx:Ext w0 w
theorem CmbAt.ext {w0 w w' : World} {B sb:Nat} {p:Option Addr} {c n:Nat} {f:Nat->Rat} {q:Rat} {st adm:Bool} (h:CmbAt w0 w B sb p c n f q st adm) (he:Ext w w'):CmbAt w0 w' B sb p c n f q st adm :=
 { h with s:=by obtain⟨u,h1,h2⟩:=h.s;exact⟨u,h1,h2.ext he⟩,own:=h.own.ext he,r:=h.r.ext he,hx:=h.hx.trans he }
theorem CmbAt.congr {w0 w:World} {B sb:Nat} {p:Option Addr} {c n:Nat} {f g:Nat->Rat} {q:Rat} {st adm:Bool} (h:CmbAt w0 w B sb p c n f q st adm) (hf : ∀ j,j<n->f j=g j):CmbAt w0 w B sb p c n g q st adm :=
 { h with own:=by rw [<- TL_congr hf];exact h.own }
theorem CmbAt.box {w0 w:World} {B sb:Nat} {p:Option Addr} {c n:Nat} {f:Nat->Rat} {q:Rat} {st adm:Bool} (h:CmbAt w0 w B sb p c n f q st adm) {i:Nat} {v:Value} {q' : Rat} {st' adm' : Bool}
  (hs : ∀ u,bs u=txtQ q->∃ u',bs u' = txtQ q'/\[.slice p n c,.string u,.bool st,.bool adm].set i v=[.slice p n c,.string u',.bool st',.bool adm']):CmbAt w0 (w.setCell ⟨sb,i,none⟩ v) B sb p c n f q' st' adm':=by
 obtain⟨u,h1,h2⟩:=h.s
 obtain⟨u',h3,h4⟩:=hs u h1
 have h5:=h2.set i v
 rw [h4] at h5
 have hsb:=h.lo
 exact { s:=⟨u',h3,h5⟩,own:=h.own.away zAe fun b _ hb=>boxNe hb h2.blk (by decide),r:=h.r.away zAe (by omega),lo:=h.lo,hi:=h.hi,hx:=h.hx.setCell (by omega) _ }
theorem CmbAt.set {w0 w:World} {B sb:Nat} {p:Option Addr} {c n:Nat} {f:Nat->Rat} {q:Rat} {st adm:Bool} (h:CmbAt w0 w B sb p c n f q st adm) {j:Nat} (hj:j<n) {u:ByteArray} {x:Rat} (hu:bs u=txtQ x) :
  ∃ b,p=some ⟨b,0,none⟩/\B<=b/\w.cell? ((⟨b,0,none⟩:Addr).add (j*1))=some (.string (Si.mk (txtQ (f j))))/\w.frozen? ((⟨b,0,none⟩:Addr).add (j*1))=false/\CmbAt w0 (w.setCell ((⟨b,0,none⟩:Addr).add (j*1)) (.string u)) B sb p c n (upd f j x) q st adm/\Blk w b 9 (TL f n):=by
 rcases h.own with e | ⟨b,hp,hb,hk⟩
 ·have:=congrArg List.length e
  rw [TL_length] at this
  simp only [List.length_nil] at this
  omega
 obtain⟨v,h1,h2⟩:=h.s
 have hsb:=h.lo
 have hB:=h.hi
 refine⟨b,hp,hb,?_,?_,?_,hk⟩
 ·rw [zAk,Nat.mul_one,Nat.zero_add]
  exact hk.cell (zBg hj)
 ·rw [zAk];exact hk.free
 ·rw [zAk,Nat.mul_one,Nat.zero_add]
  have hs:=hk.set j (.string u) (by rw [TL_length];exact hj)
  rw [TL_set hj hu] at hs
  exact { s:=⟨v,h1,h2.away zAe (by omega)⟩,own := .inr ⟨b,hp,hb,hs⟩,r:=h.r.away zAe (by omega),lo:=h.lo,hi:=h.hi,hx:=h.hx.setCell (by omega) _ }
set_option maxHeartbeats 600000 in
theorem c33 {X:TX} {A:TA} {S:Tb.Sys} {a ma:Option Addr} {c mc:Nat} {t:Nat->ByteArray} {y:Nat->Rat} (hf:Few S) (hX:Tame X) (hS:Reads X S) (ht:PtReads t S.m y) (hts : ∀ k,k<S.m->(t k).size<=200000000) (hD:DotsZ S y 60000000) (w:World) (hR:RowsT w a X A) (hm:SS w ma t S.m) :
  Ret prog 33 #[.int .i64 S.n,.slice a X.m c,.slice ma S.m mc] w fun v w'=>∃ p c' u st adm,v = .agg #[.slice p S.n c',.string u,.bool st,.bool adm]/\SlAt w' p (TL (comb S y) S.n)/\bs u=txtQ (combK S y)/\(st=true↔zEe S y)/\(adm=true↔Adm S y)/\Ext w w':=by
 have hf':=hf
 unfold Few at hf'
 have hXm:=hS.m
 refine run33 _ _ _ _ _ _ _ _ _ ?_
 unfold vc33
 have z1:=(Ext.refl w).alloc (.cells [Value.slice none 0 0,.string { data:=#[] },.bool false,.bool false].toArray 43)
 have b1:=Box.new w [Value.slice none 0 0,.string { data:=#[] },.bool false,.bool false] 43
 have s1:(w.alloc (.cells [Value.slice none 0 0,.string { data:=#[] },.bool false,.bool false].toArray 43)).heap.size=w.heap.size+1:=size_alloc ..
 rw [show (Obj.cells #[Value.slice none 0 0,.string { data:=#[] },.bool false,.bool false] 43) = .cells [Value.slice none 0 0,.string { data:=#[] },.bool false,.bool false].toArray 43 from rfl]
 generalize w.alloc (.cells [Value.slice none 0 0,.string { data:=#[] },.bool false,.bool false].toArray 43)=W1 at z1 b1 s1 ⊢
 have z2:=(Ext.refl W1).alloc (.cells [Value.slice none 0 0,.string { data:=#[] },.bool false,.bool false].toArray 43)
 have b2:=Box.new W1 [Value.slice none 0 0,.string { data:=#[] },.bool false,.bool false] 43
 have s2:(W1.alloc (.cells [Value.slice none 0 0,.string { data:=#[] },.bool false,.bool false].toArray 43)).heap.size=W1.heap.size+1:=size_alloc ..
 have b1':=b1.ext z2
 generalize W1.alloc (.cells [Value.slice none 0 0,.string { data:=#[] },.bool false,.bool false].toArray 43)=W2 at z2 b2 b1' s2 ⊢
 refine⟨b2.blk.writable (by decide),?_⟩
 have b3:=b2.put [Value.slice none 0 0,.string { data:=#[48] },.bool false,.bool true] (by rfl)
 have b1'':=b1'.away (zAb (b:=W1.heap.size) (o:=0) (i:=0) (L:=[Value.slice none 0 0,.string { data:=#[48] },.bool false,.bool true])) (by omega)
 have z3:Ext w (setCells W2 ⟨W1.heap.size,0,none⟩ 0 [Value.slice none 0 0,.string { data:=#[48] },.bool false,.bool true]):=(z1.trans z2).put z1.size _ _
 have s3:(setCells W2 ⟨W1.heap.size,0,none⟩ 0 [Value.slice none 0 0,.string { data:=#[48] },.bool false,.bool true]).heap.size=W2.heap.size:=zCs _ _
 generalize setCells W2 ⟨W1.heap.size,0,none⟩ 0 [Value.slice none 0 0,.string { data:=#[48] },.bool false,.bool true]=W3 at b3 b1'' z3 s3 ⊢
 refine⟨fun vals w1=>∃ (i:Nat) (p:Option Addr) (c' : Nat),vals=[.int .i64 i]/\i<=S.n/\Box w1 W1.heap.size 43 [.slice p i c',.string { data:=#[48] },.bool false,.bool true]/\w1.ownsRow W3.heap.size 9 1 (.slice p i c') i (TL (fun _=>0) i)/\Box w1 w.heap.size 43 [Value.slice none 0 0,.string { data:=#[] },.bool false,.bool false]/\W3.heap.size<=w1.heap.size/\Ext w w1,mu1 S.n,⟨0,none,0,rfl,Nat.zero_le _,b3,World.ownsRow_nil _ _ _ _,b1'',Nat.le_refl _,z3⟩,?_⟩
 clear b1 b1' b2 b3 b1'' z2
 rintro m w1 ⟨i,p,c',hv,hi,hs,hown,hr,hsz,hx⟩
 cases hv
 refine zAd (fun hlt=>?_) (fun hge=>?_)
 ·have hin:i<S.n:=by omega
  refine⟨_,_,_,hs.blk.cell (j:=0) rfl,_,_,_,AppOk.one (L:=[.string { data:=#[48] }]) hown rfl rfl (by unfold maxLen;omega) (by omega) hsz,?_⟩
  intro p1 k3 w2 r
  have za:=(Ext.refl w1).alloc (.cells #[.string { data:=#[48] }] 9)
  have sa:(w1.alloc (.cells #[.string { data:=#[48] }] 9)).heap.size=w1.heap.size+1:=size_alloc ..
  have g3 : ∀ k,k<w1.heap.size->(Value.slice p i c').ownBlock≠some k->w2.heap[k]? = w1.heap[k]?:=fun k hk hne =>
   (r.grown.block k (by omega) (Ne.symm hne)).trans (za.block k hk)
  have hs2:Box w2 W1.heap.size 43 _:=hs.same (g3 _ hs.lt (zAA hown hs (by decide)))
  have hr2:Box w2 w.heap.size 43 _:=hr.same (g3 _ hr.lt (zAA hown hr (by decide)))
  have hx2:Ext w w2:=r.below (zA8 hown za) (hx.trans za) (by have:=hx.size;omega) (by have:=z3.size;omega)
  have s10:=r.grown.size
  have hro:=r.own
  have e0:TL (fun _=>0) i++[Value.string { data:=#[48] }]=TL (fun _=>0) (i+1):=by
   unfold TL
   rw [SL_snoc,zBA];rfl
  rw [e0] at hro
  have hne:(Value.slice p1 (i+1) k3).ownBlock≠some W1.heap.size:=zAA hro hs2 (by decide)
  refine⟨⟨⟨_,hs2.blk.cell (j:=0) rfl⟩,hs2.blk.free⟩,?_⟩
  rw [zAh (by omega)]
  exact⟨⟨i+1,p1,k3,rfl,hin,hs2.set 0 _,zBC hro hne _,hr2.away zAe (by omega),by rw [zCA];omega,hx2.setCell (by omega) _⟩,by simp only [mu1,Int.toNat_natCast];omega⟩
 have ei:i=S.n:=by omega
 subst ei
 have hA0:CmbAt w w1 W3.heap.size W1.heap.size p c' S.n (fun j=>sumN 0 fun k=>y k*S.C k j) (sumN 0 fun k=>y k*S.K k) false true:={
  s:=⟨_,by rw [zAG,zBA];rfl,hs⟩
  own:=zDT hown
  r:=hr
  lo:=by omega
  hi:=by omega
  hx:=hx }
 clear hs hown hr hx hsz hge hi
 refine⟨fun vals w3=>∃ (i:Nat) (st adm:Bool),vals=[.int .i64 i]/\i<=S.m/\CmbAt w w3 W3.heap.size W1.heap.size p c' S.n (fun j=>sumN i fun k=>y k*S.C k j) (sumN i fun k=>y k*S.K k) st adm/\(st=true↔∃ k,k<i/\S.rel k=2/\0<y k)/\(adm=true↔∀ k,k<i->S.rel k≠3->0<=y k),mu1 S.m,⟨0,false,true,rfl,Nat.zero_le _,hA0,by simp,by simp⟩,?_⟩
 clear hA0
 rintro m w3 ⟨i,st,adm,hv,hi,hA,hst,hadm⟩
 cases hv
 refine zAd (fun hlt=>?_) (fun hge=>?_)
 ·have him:i<S.m:=by omega
  have hiX:i<X.m:=by omega
  obtain⟨ad,ha,hc⟩:=(hR.ext hA.hx).get hiX
  have hrow:=hS.rel i hiX
  have hni:=hS.n i hiX
  have hN:=Box.new w3 zrow 49
  have hxP:Ext w3 (setCells (w3.alloc (.cells zrow.toArray 49)) ⟨w3.heap.size,0,none⟩ 0 (rtc X A i)):=((Ext.refl w3).alloc _).put (Nat.le_refl _) _ _
  have hP:=hN.put (rtc X A i) (by rfl)
  refine⟨ad,ha,⟨by omega,by omega⟩,_,_,_,_,_,hc,hN.blk.writable (by decide),?_⟩
  refine⟨fun vals w4=>∃ j:Nat,vals=[.int .i64 j]/\j<=S.n/\CmbAt w w4 W3.heap.size W1.heap.size p c' S.n (part (fun j=>sumN (i+1) fun k=>y k*S.C k j) (fun j=>sumN i fun k=>y k*S.C k j) j) (sumN i fun k=>y k*S.K k) st adm/\Box w4 w3.heap.size 49 (rtc X A i),mu1 S.n,⟨0,rfl,Nat.zero_le _,by rw [zBu];exact hA.ext hxP,hP⟩,?_⟩
  have hw3:=hA.hx.size
  have hAB:=hA.hi
  have hAs:=hA.lo
  obtain⟨_,_,hsB⟩:=hA.s
  have hl3:=hsB.lt
  clear hA hP hxP hN hc
  rintro m w4 ⟨j,hv,hj,hA,hP⟩
  cases hv
  have tcell : ∀ w',Ext w w'->∃ a2,ma=some a2/\w'.cell? (a2.add (i*1))=some (.string (t i)):=fun w' h'=>(hm.ext h').get him
  refine zAd (fun hlt2=>?_) (fun hge2=>?_)
  ·have hjn:j<S.n:=by omega
   intro K hK
   have hAd:=hA.ext (Ext.refl _).drew
   have hPd:=hP.ext (Ext.refl _).drew
   have hxd:=hAd.hx
   obtain⟨u,hu,hsb⟩:=hAd.s
   obtain⟨b,hp,hb,hcell,hfr,_,hbk⟩:=hAd.set hjn (u:={ data:=#[48] }) (x:=0) (by rw [zBA];rfl)
   obtain⟨a2,ha2,hc2⟩:=tcell _ hxd
   obtain⟨a3,ha3,hc3⟩:=((hR.2 i hiX).ext hxd).get (i:=j) (by omega)
   refine⟨_,_,_,hsb.blk.cell (j:=0) rfl,_,_,_,hsb.blk.cell (j:=0) rfl,_,hp,⟨by omega,by omega⟩,_,hcell,a2,ha2,⟨by omega,by omega⟩,_,hc2,_,_,_,hPd.blk.cell (j:=0) rfl,a3,ha3,⟨by omega,by omega⟩,_,hc3,?_⟩
   refine Called.of (c44 (ht i him) (hS.C i hiX j hjn) ⟨Nat.le_trans (hts i him) (by decide),Nat.le_trans (hX.c i hiX j (by omega)) (by decide)⟩ _) ?_
   rintro v w6 ⟨⟨x,rfl,hxq⟩,he6⟩
   have z1:=zCz (hD.p i him j hjn) hxq
   have z2:=zCz (hD.c i hi j hjn) (bs_mk (txtQ (sumN i fun k=>y k*S.C k j)))
   have epj:part (fun j=>sumN (i+1) fun k=>y k*S.C k j) (fun j=>sumN i fun k=>y k*S.C k j) j j=sumN i fun k=>y k*S.C k j:=if_neg (Nat.lt_irrefl _)
   rw [epj] at hcell
   refine⟨_,rfl,he6,?_⟩
   rw [epj]
   refine Called.of (c58 (bs_mk _) hxq ⟨by omega,by omega⟩ _) ?_
   rintro v w7 ⟨⟨x2,rfl,hx2q⟩,he7⟩
   have he67:=he6.trans he7
   have hA7:=hAd.ext he67
   have hP7:=hPd.ext he67
   obtain⟨b',hp',hb',hcell',hfr',hset,hbk'⟩:=hA7.set hjn (u:=x2) (x:=(sumN i fun k=>y k*S.C k j)+y i*S.C i j) hx2q
   have eb:b' = b:=by rw [hp] at hp';cases hp';rfl
   subst eb
   refine⟨_,rfl,he67,_,hp,⟨by omega,by omega⟩,⟨⟨_,hcell'⟩,hfr'⟩,hK _ ?_⟩
   rw [zAh (by omega)]
   refine⟨⟨j+1,rfl,hjn,?_,?_⟩,by simp only [mu1,Int.toNat_natCast];omega⟩
   ·have e:=zBf (fun j=>sumN (i+1) fun k=>y k*S.C k j) (fun j=>sumN i fun k=>y k*S.C k j) j
    rw [<- e]
    exact hset
   ·rw [zAk]
    exact hP7.away zAe (fun e=>boxNe hP7.blk hbk' (by decide) e)
  ·have ej:j=S.n:=by omega
   subst ej
   have hA:=hA.congr (g:=fun j=>sumN (i+1) fun k=>y k*S.C k j) fun j hj=>if_pos hj
   intro K1 hK1
   have hAd:=hA.ext (Ext.refl _).drew
   have hPd:=hP.ext (Ext.refl _).drew
   have hxd:=hAd.hx
   obtain⟨u,hu,hsb⟩:=hAd.s
   obtain⟨a2,ha2,hc2⟩:=tcell _ hxd
   refine⟨u,hsb.blk.cell (j:=1) rfl,a2,ha2,⟨by omega,by omega⟩,_,hc2,_,hPd.blk.cell (j:=2) rfl,?_⟩
   refine Called.of (c44 (ht i him) (hS.K i hiX) ⟨Nat.le_trans (hts i him) (by decide),Nat.le_trans (hX.k i hiX) (by decide)⟩ _) ?_
   rintro v w6 ⟨⟨x,rfl,hxq⟩,he6⟩
   have z1:=zCz (hD.pk i him) hxq
   have z2:=zCz (hD.k i hi) hu
   refine⟨_,rfl,he6,Called.of (c58 hu hxq ⟨by omega,by omega⟩ _) ?_⟩
   rintro v w7 ⟨⟨x2,rfl,hx2q⟩,he7⟩
   have he67:=he6.trans he7
   have hA7:=hAd.ext he67
   have hP7:=hPd.ext he67
   obtain⟨u7,hu7,hsb7⟩:=hA7.s
   have hA8:CmbAt w (w7.setCell ⟨W1.heap.size,1,none⟩ (.string x2)) W3.heap.size W1.heap.size p c' S.n (fun j=>sumN (i+1) fun k=>y k*S.C k j) (sumN (i+1) fun k=>y k*S.K k) st adm :=
    hA7.box fun u _=>⟨x2,hx2q,rfl⟩
   have hP8:=hP7.away (zAe (b:=W1.heap.size) (o:=1) (v := .string x2)) (by omega)
   refine⟨_,rfl,⟨⟨_,hsb7.blk.cell (j:=1) rfl⟩,hsb7.blk.free⟩,hK1 _ ?_⟩
   generalize w7.setCell ⟨W1.heap.size,1,none⟩ (.string x2)=w8 at hA8 hP8 ⊢
   clear hA7 hP7 hsb7 hA hP hAd hPd hsb hu hu7 hxd hc2 ha2
   intro K2 hK2
   have strict_part : ∀ w9 adm',CmbAt w w9 W3.heap.size W1.heap.size p c' S.n (fun j=>sumN (i+1) fun k=>y k*S.C k j) (sumN (i+1) fun k=>y k*S.K k) st adm'->Box w9 w3.heap.size 49 (rtc X A i)->(adm' = true↔∀ k,k<i+1->S.rel k≠3->0<=y k)->K2 [] w9:=by
    intro w9 adm' hA9 hP9 hadm'
    refine hK2 w9 fun K3 hK3=>?_
    have fin : ∀ (b:Bool) w10,CmbAt w w10 W3.heap.size W1.heap.size p c' S.n (fun j=>sumN (i+1) fun k=>y k*S.C k j) (sumN (i+1) fun k=>y k*S.K k) st adm'->(b=true↔S.rel i=2/\0<y i)->K3 [.bool b] w10:=by
     intro b w10 hA10 hb
     refine hK3 b w10 ?_
     have hst' : ((st||b)=true↔∃ k,k<i+1/\S.rel k=2/\0<y k):=by
      rw [Bool.or_eq_true,hst,hb]
      constructor
      ·rintro (⟨k,h1,h2⟩ | h1)
       ·exact⟨k,by omega,h2⟩
       ·exact⟨i,by omega,h1⟩
      ·rintro⟨k,h1,h2⟩
       by_cases e:k=i
       ·subst e;exact .inr h2
       ·exact .inl ⟨k,by omega,h2⟩
     obtain⟨u10,_,hsb10⟩:=hA10.s
     rw [zAh (by omega)]
     cases b with
     | false =>
      rw [cond_false]
      rw [Bool.or_false] at hst'
      exact⟨⟨i+1,st,adm',rfl,him,hA10,hst',hadm'⟩,by simp only [mu1,Int.toNat_natCast];omega⟩
     | true =>
      rw [cond_true]
      rw [Bool.or_true] at hst'
      exact⟨⟨⟨_,hsb10.blk.cell (j:=2) rfl⟩,hsb10.blk.free⟩,⟨i+1,true,adm',rfl,him,hA10.box fun u hu=>⟨u,hu,rfl⟩,hst',hadm'⟩,by simp only [mu1,Int.toNat_natCast];omega⟩
    refine⟨_,hP9.blk.cell (j:=1) rfl,zAa (fun h=>?_) (fun h=>?_)⟩
    ·have h:X.rel i=2:=by simpa using h
     obtain⟨a2,ha2,hc2⟩:=tcell _ hA9.hx
     refine⟨a2,ha2,⟨by omega,by omega⟩,_,hc2,Called.of (c43 (ht i him) (Nat.le_trans (hts i him) (by decide)) w9) ?_⟩
     rintro v w11 ⟨rfl,he11⟩
     refine⟨_,rfl,fin _ _ (hA9.ext he11) ?_⟩
     rw [decide_eq_true_iff,sgn_eq]
     exact⟨fun h2=>⟨by omega,Tb.sgnQ_pos.1 h2⟩,fun h2=>Tb.sgnQ_pos.2 h2.2⟩
    ·have h : ¬ X.rel i=2:=by simpa using h
     exact fin false _ hA9 (by simp only [Bool.false_eq_true,false_iff];exact fun h2=>h (by omega))
   intro K4 hK4
   have fin4 : ∀ (b:Bool) w12,CmbAt w w12 W3.heap.size W1.heap.size p c' S.n (fun j=>sumN (i+1) fun k=>y k*S.C k j) (sumN (i+1) fun k=>y k*S.K k) st adm->Box w12 w3.heap.size 49 (rtc X A i)->(b=true↔¬ (S.rel i≠3->0<=y i))->K4 [.bool b] w12:=by
    intro b w12 hA12 hP12 hb
    refine hK4 b w12 ?_
    have hadm' : ((adm&&!b)=true↔∀ k,k<i+1->S.rel k≠3->0<=y k):=by
     rw [Bool.and_eq_true,hadm,Bool.not_eq_true',<- Bool.not_eq_true,hb,Decidable.not_not]
     constructor
     ·rintro⟨h1,h2⟩ k hk
      by_cases e:k=i
      ·rw [e];exact h2
      ·exact h1 k (by omega)
     ·exact fun h=>⟨fun k hk=>h k (by omega),h i (by omega)⟩
    obtain⟨u12,_,hsb12⟩:=hA12.s
    cases b with
    | false =>
     rw [cond_false]
     rw [Bool.not_false,Bool.and_true] at hadm'
     exact strict_part _ _ hA12 hP12 hadm'
    | true =>
     rw [cond_true]
     rw [Bool.not_true,Bool.and_false] at hadm'
     exact⟨⟨⟨_,hsb12.blk.cell (j:=3) rfl⟩,hsb12.blk.free⟩,strict_part _ false (hA12.box fun u hu=>⟨u,hu,rfl⟩) (hP12.away zAe (by omega)) hadm'⟩
   refine⟨_,hP8.blk.cell (j:=1) rfl,zAa (fun h=>?_) (fun h=>?_)⟩
   ·have h : ¬ X.rel i=3:=by simpa using h
    obtain⟨a2,ha2,hc2⟩:=tcell _ hA8.hx
    refine⟨a2,ha2,⟨by omega,by omega⟩,_,hc2,Called.of (c43 (ht i him) (Nat.le_trans (hts i him) (by decide)) w8) ?_⟩
    rintro v w13 ⟨rfl,he13⟩
    refine⟨_,rfl,fin4 _ _ (hA8.ext he13) (hP8.ext he13) ?_⟩
    rw [decide_eq_true_iff,sgn_eq,Tb.sgnQ_neg]
    exact⟨fun h2 h3=>Rat.not_le.2 h2 (h3 (by omega)),fun h2=>Decidable.byContradiction fun h3=>h2 fun _=>Rat.not_lt.1 h3⟩
   ·have h:X.rel i=3:=by simpa using h
    exact fin4 false _ hA8 hP8 (by simp only [Bool.false_eq_true,false_iff,Decidable.not_not];exact fun h2=>absurd (by omega) h2)
 have ei:i=S.m:=by omega
 subst ei
 obtain⟨u,hu,hsb⟩:=hA.s
 have pr:=hA.r.put [Value.slice p S.n c',.string u,.bool st,.bool adm] (by rfl)
 have hsb':=hA.lo
 have hB':=hA.hi
 refine⟨_,_,_,_,_,_,hsb.blk.all,hA.r.blk.writable (by decide),_,_,_,_,_,_,pr.blk.all,p,c',u,st,adm,rfl,?_,hu,hst,hadm,hA.hx.put (Nat.le_refl _) _ _⟩
 have:=hA.own.away (w':=setCells w3 ⟨w.heap.size,0,none⟩ 0 [Value.slice p S.n c',.string u,.bool st,.bool adm]) zAb fun b _ hb=>boxNe hb hA.r.blk (by decide)
 exact this.sl
theorem str_eq0 (s:ByteArray):(s.toList==({ data:=#[48] } : ByteArray).toList)=decide (bs s=[48]):=zAw s _
theorem c80 {la:Option Addr} {n lc:Nat} {s:Nat->ByteArray} (hn:n<=1048576) (w:World) (hs:SS w la s n) :
  Ret prog 80 #[.slice la n lc] w fun v w'=>(∃ b,v = .bool b/\(b=true↔∀ j,j<n->bs (s j)=[48]))/\w' = w:=by
 refine run80 _ _ _ _ _ ⟨fun vals w1=>∃ i:Nat,vals=[.int .i64 i]/\i<=n/\(∀ k,k<i->bs (s k)=[48])/\w1=w,mu1 n,⟨0,rfl,Nat.zero_le _,fun k hk=>by omega,rfl⟩,?_⟩
 rintro m w1 ⟨i,hv,hi,hall,rfl⟩
 cases hv
 refine zAd (fun hlt=>?_) (fun hge=>⟨⟨true,rfl,by simp only [true_iff];exact fun k hk=>hall k (by omega)⟩,rfl⟩)
 have hin:i<n:=by omega
 obtain⟨ad,ha,hc⟩:=hs.get hin
 refine⟨ad,ha,⟨by omega,hlt⟩,_,hc,?_⟩
 rw [str_eq0]
 refine zAa (fun hb=>⟨⟨false,rfl,?_⟩,rfl⟩) (fun hb=>?_)
 ·simp only [Bool.false_eq_true,false_iff]
  intro h
  simp [h i hin] at hb
 ·have hb:bs (s i)=[48]:=by simpa using hb
  rw [zAh (by omega)]
  refine⟨⟨i+1,rfl,hin,fun k hk=>?_,rfl⟩,by simp only [mu1,Int.toNat_natCast];omega⟩
  by_cases e:k=i
  ·rw [e];exact hb
  ·exact hall k (by omega)
set_option maxHeartbeats 1000000 in
theorem c41 {X:TX} {A:TA} {S:Tb.Sys} {a ma:Option Addr} {c mc:Nat} {t:Nat->ByteArray} {y:Nat->Rat} (hf:Few S) (hX:Tame X) (hS:Reads X S) (ht:PtReads t S.m y) (hts : ∀ k,k<S.m->(t k).size<=200000000) (hD:DotsZ S y 60000000) (w:World) (hR:RowsT w a X A) (hm:SS w ma t S.m) :
  Ret prog 41 #[.int .i64 S.n,.slice a X.m c,.slice ma S.m mc] w fun v w'=>(∃ b,v = .bool b/\(b=true↔zAQ S y))/\Ext w w':=by
 have hf':=hf
 unfold Few at hf'
 refine run41 _ _ _ _ _ _ _ _ _ (Called.of (c33 hf hX hS ht hts hD w hR hm) ?_)
 rintro v w1 ⟨p,c',u,st,adm,rfl,hT,hu,hst,hadm,he1⟩
 have hN:=Box.new w1 [Value.slice none 0 0,.string { data:=#[] },.bool false,.bool false] 43
 have hP:=hN.put [Value.slice p S.n c',.string u,.bool st,.bool adm] (by rfl)
 have hxP:Ext w1 (setCells (w1.alloc (.cells [Value.slice none 0 0,.string { data:=#[] },.bool false,.bool false].toArray 43)) ⟨w1.heap.size,0,none⟩ 0 [Value.slice p S.n c',.string u,.bool st,.bool adm]):=((Ext.refl w1).alloc _).put (Nat.le_refl _) _ _
 refine⟨_,_,_,_,_,_,rfl,hN.blk.writable (by decide),fun K hK=>⟨_,hP.blk.cell (j:=3) rfl,?_⟩⟩
 have hx2:=he1.trans hxP
 have no : ∀ w2,Ext w w2->¬ zAQ S y->K [.bool false] w2:=fun w2 h2 h=>hK false w2 ⟨⟨false,rfl,by simp [h]⟩,h2⟩
 refine zAa (fun h1=>?_) (fun h1=>no _ hx2 fun h=>by rw [hadm.2 h.1] at h1;cases h1)
 have hadm1:=hadm.1 h1
 refine⟨_,_,_,hP.blk.cell (j:=0) rfl,Called.of (c80 (by omega) _ (SlAt.ext hT hxP)) ?_⟩
 rintro v w3 ⟨⟨b4,rfl,hb4⟩,rfl⟩
 refine⟨_,rfl,zAa (fun h2=>?_) (fun h2=>no _ hx2 fun h=>?_)⟩
 ·have hz:=hb4.1 h2
  have hz0 : ∀ j,j<S.n->comb S y j=0:=fun j hj=>zA1 (by rw [<- bs_mk (txtQ (comb S y j)),zBA];exact hz j hj)
  have hzu:=zCz (hD.k S.m (Nat.le_refl _)) hu
  refine⟨_,hP.blk.cell (j:=1) rfl,Called.of (c43 hu (by omega) _) ?_⟩
  rintro v w4 ⟨rfl,he4⟩
  rw [sgn_eq]
  have hP4:=hP.ext he4
  have hx4:=hx2.trans he4
  have hrs:zAQ S y↔(combK S y<0\/combK S y=0/\st=true):=by
   unfold zAQ
   rw [hst]
   exact⟨fun h=>h.2.2,fun h=>⟨hadm1,hz0,h⟩⟩
  refine⟨_,rfl,zAd (fun h3=>hK _ _ ⟨⟨true,rfl,by simp only [true_iff];exact hrs.2 (.inl (Tb.sgnQ_neg.1 h3))⟩,hx4⟩) (fun h3=>?_)⟩
  have hnn : ¬ combK S y<0:=fun h=>h3 (Tb.sgnQ_neg.2 h)
  refine⟨_,hP4.blk.cell (j:=1) rfl,?_⟩
  rw [str_eq0]
  refine zAd (fun h4=>?_) (fun h4=>no _ hx4 fun h=>?_)
  ·have h0:combK S y=0:=zA1 (by rw [<- hu,zBA];exact h4)
   refine⟨_,hP4.blk.cell (j:=2) rfl,hK _ _ ⟨⟨st,rfl,?_⟩,hx4⟩⟩
   rw [hrs]
   exact⟨fun h => .inr ⟨h0,h⟩,fun h=>h.elim (fun h=>absurd h hnn) fun h=>h.2⟩
  ·rcases hrs.1 h with h | h
   ·exact hnn h
   ·apply h4
    rw [hu,h.1,zBA]
 ·have hb:b4=true:=hb4.2 fun j hj=>by rw [bs_mk,h.2.1 j hj,zBA]
  rw [hb] at h2;cases h2
end Go.Proofs.Si
namespace Go.Proofs.Si
open Go Go.V Go.Proofs Go.RowKit Go.Num Go.Tb Go.Proofs.Tryz
open Go.IntKind (i64 u64 u32 u8)
set_option maxRecDepth 100000
theorem RowsT.cells {w:World} {a:Option Addr} {X:TX} {A:TA} (h:RowsT w a X A) {i:Nat} (hi:i<X.m) : ∃ ad,a=some ad/\vcells w (ad.add (i*3)) 0 (rtc X A i)/\w.cell? (ad.add (i*3))=some (.slice (A.cA i) (X.n i) (A.cC i))/\w.cell? ((ad.add (i*3)).add 1)=some (.int .i64 (X.rel i))/\w.cell? ((ad.add (i*3)).add 2)=some (.string (X.K i)):=by
 obtain⟨b,o,ha,hv⟩:=SlAt.gget (m:=3) (by omega) (fun _=>rfl) h.1 hi
 have h0:=zAC.1 hv 0 _ rfl
 have h1:=zAC.1 hv 1 _ rfl
 have h2:=zAC.1 hv 2 _ rfl
 rw [zAk,zAk] at h0
 refine⟨_,ha,hv,?_,h1,h2⟩
 rw [zAk]
 exact h0
theorem c34 {a b:Option Addr} {s t:Nat->ByteArray} {n m ca cb:Nat} (hn:n<=1048576) (w:World) (ha:SS w a s n) (hb:SS w b t m) :
  Ret prog 34 #[.slice a n ca,.slice b m cb] w fun v w'=>(∃ x,v = .bool x/\(x=true↔n=m/\∀ j,j<n->s j=t j))/\Ext w w':=by
 refine run34 _ _ _ _ _ _ _ _ (zAa (fun h=>⟨⟨false,rfl,?_⟩,Ext.refl _⟩) (fun h=>?_))
 ·have h:(n:Int)≠m:=by simpa using h
  simp only [Bool.false_eq_true,false_iff]
  exact fun h2=>h (by rw [h2.1])
 have h:(n:Int)=m:=by simpa using h
 have h:n=m:=by omega
 subst h
 refine⟨fun vals w1=>∃ i:Nat,vals=[.int .i64 i]/\i<=n/\(∀ k,k<i->s k=t k)/\Ext w w1,mu1 n,⟨0,rfl,Nat.zero_le _,fun k hk=>by omega,Ext.refl _⟩,?_⟩
 rintro m1 w1 ⟨i,hv,hi,hall,he⟩
 cases hv
 refine zAd (fun hlt=>?_) (fun hge=>⟨⟨true,rfl,by simp only [true_iff];exact⟨trivial,fun k hk=>hall k (by omega)⟩⟩,he⟩)
 have hin:i<n:=by omega
 have hd:=he.drew
 obtain⟨a1,h1,hc1⟩:=(ha.ext hd).get hin
 obtain⟨a2,h2,hc2⟩:=(hb.ext hd).get hin
 refine⟨a1,h1,⟨by omega,hlt⟩,_,hc1,a2,h2,⟨by omega,hlt⟩,_,hc2,?_⟩
 rw [zAw]
 refine zAa (fun h=>⟨⟨false,rfl,?_⟩,hd⟩) (fun h=>?_)
 ·simp only [Bool.false_eq_true,false_iff]
  intro h3
  simp [h3.2 i hin] at h
 ·have h:bs (s i)=bs (t i):=by simpa using h
  rw [zAh (by omega)]
  refine⟨⟨i+1,rfl,hin,fun k hk=>?_,hd⟩,by simp only [mu1,Int.toNat_natCast];omega⟩
  by_cases e:k=i
  ·rw [e];exact zGi h
  ·exact hall k (by omega)
def sameRow (X Y:TX) (i:Nat):Prop:=X.rel i=Y.rel i/\X.K i=Y.K i/\X.n i=Y.n i/\∀ j,j<X.n i->X.C i j=Y.C i j
theorem sameRow.refl (X:TX) (i:Nat):sameRow X X i:=⟨rfl,rfl,rfl,fun _ _=>rfl⟩
theorem c52 {X Y:TX} {A B:TA} {i k:Nat} (hn:X.n i<=1048576) (w:World) (ha:SS w (A.cA i) (X.C i) (X.n i)) (hb:SS w (B.cA k) (Y.C k) (Y.n k)) :
  Ret prog 52 #[.agg #[.slice (A.cA i) (X.n i) (A.cC i),.int .i64 (X.rel i),.string (X.K i)],.agg #[.slice (B.cA k) (Y.n k) (B.cC k),.int .i64 (Y.rel k),.string (Y.K k)]] w fun v w' =>
   (∃ x,v = .bool x/\(x=true↔X.rel i=Y.rel k/\X.K i=Y.K k/\X.n i=Y.n k/\∀ j,j<X.n i->X.C i j=Y.C k j))/\Ext w w':=by
 have z1:=(Ext.refl w).alloc (.cells (rtc X A i).toArray 49)
 have b1:=Box.new w (rtc X A i) 49
 have z2:=(Ext.refl (w.alloc (.cells (rtc X A i).toArray 49))).alloc (.cells (rtc Y B k).toArray 49)
 have b2:=Box.new (w.alloc (.cells (rtc X A i).toArray 49)) (rtc Y B k) 49
 have b1':=b1.ext z2
 have hx:=z1.trans z2
 refine run52 _ _ _ _ _ _ _ _ _ _ _ _ fun K hK=>⟨_,b1'.blk.cell (j:=1) rfl,_,b2.blk.cell (j:=1) rfl,?_⟩
 refine zAa (fun h1=>?_) (fun h1=>hK _ _ ⟨⟨false,rfl,?_⟩,hx⟩)
 ·have h1:X.rel i=Y.rel k:=by simpa using h1
  refine⟨_,b1'.blk.cell (j:=2) rfl,_,b2.blk.cell (j:=2) rfl,?_⟩
  rw [zAw]
  refine zAd (fun h2=>?_) (fun h2=>hK _ _ ⟨⟨false,rfl,?_⟩,hx⟩)
  ·refine⟨_,_,_,b1'.blk.cell (j:=0) rfl,_,_,_,b2.blk.cell (j:=0) rfl,Called.of (c34 hn _ (ha.ext hx) (hb.ext hx)) ?_⟩
   rintro v w2 ⟨⟨x,rfl,hx'⟩,he⟩
   refine⟨_,rfl,hK _ _ ⟨⟨x,rfl,?_⟩,hx.trans he⟩⟩
   rw [hx']
   exact⟨fun h=>⟨h1,zGi h2,h⟩,fun h=>h.2.2⟩
  ·simp only [Bool.false_eq_true,false_iff]
   exact fun h=>h2 (by rw [h.2.1])
 ·have h1 : ¬ X.rel i=Y.rel k:=by simpa using h1
  simp only [Bool.false_eq_true,false_iff]
  exact fun h=>h1 h.1
theorem c25 {X Y:TX} {A B:TA} {a b:Option Addr} {ca cb:Nat} (hX : ∀ i,i<X.m->X.n i<=1048576) (hm:X.m<=1048576) (w:World) (ha:RowsT w a X A) (hb:RowsT w b Y B) :
  Ret prog 25 #[.slice a X.m ca,.slice b Y.m cb] w fun v w'=>(∃ x,v = .bool x/\(x=true↔X.m=Y.m/\∀ i,i<X.m->sameRow X Y i))/\Ext w w':=by
 refine run25 _ _ _ _ _ _ _ _ (zAa (fun h=>⟨⟨false,rfl,?_⟩,Ext.refl _⟩) (fun h=>?_))
 ·have h:(X.m:Int)≠Y.m:=by simpa using h
  simp only [Bool.false_eq_true,false_iff]
  exact fun h2=>h (by rw [h2.1])
 have h:(X.m:Int)=Y.m:=by simpa using h
 have h:X.m=Y.m:=by omega
 refine⟨fun vals w1=>∃ i:Nat,vals=[.int .i64 i]/\i<=X.m/\(∀ k,k<i->sameRow X Y k)/\Ext w w1,mu1 X.m,⟨0,rfl,Nat.zero_le _,fun k hk=>by omega,Ext.refl _⟩,?_⟩
 rintro m1 w1 ⟨i,hv,hi,hall,he⟩
 cases hv
 refine zAd (fun hlt=>?_) (fun hge=>⟨⟨true,rfl,by simp only [true_iff];exact⟨h,fun k hk=>hall k (by omega)⟩⟩,he⟩)
 have hin:i<X.m:=by omega
 have hd:=he.drew
 obtain⟨a1,h1,hc1⟩:=(ha.ext hd).get hin
 obtain⟨a2,h2,hc2⟩:=(hb.ext hd).get (i:=i) (by omega)
 refine⟨a1,h1,⟨by omega,hlt⟩,_,_,_,_,_,hc1,a2,h2,⟨by omega,by omega⟩,_,_,_,_,_,hc2,Called.of (c52 (hX i hin) _ ((ha.ext hd).2 i hin) ((hb.ext hd).2 i (by omega))) ?_⟩
 rintro v w2 ⟨⟨x,rfl,hx⟩,he2⟩
 refine⟨_,rfl,zAa (fun hb=>⟨⟨false,rfl,?_⟩,hd.trans he2⟩) (fun hb=>?_)⟩
 ·simp only [Bool.false_eq_true,false_iff]
  intro h3
  rw [hx.2 (h3.2 i hin)] at hb;cases hb
 ·have hb:x=true:=by simpa using hb
  rw [zAh (by omega)]
  refine⟨⟨i+1,rfl,hin,fun k hk=>?_,hd.trans he2⟩,by simp only [mu1,Int.toNat_natCast];omega⟩
  by_cases e:k=i
  ·rw [e];exact hx.1 hb
  ·exact hall k (by omega)
theorem c46 {a:Option Addr} {s:Nat->ByteArray} {n c:Nat} {most:Int} (hmost:most<=1048576) (w:World) (ha:SS w a s n) :
  Ret prog 46 #[.slice a n c,.int .i64 most] w fun v w'=>(∃ b,v = .bool b/\(b=false->(n:Int)<=most/\∀ j,j<n->(s j).size<=60))/\w' = w:=by
 refine run46 _ _ _ _ _ _ (zAd (fun h=>⟨⟨true,rfl,fun h=>by cases h⟩,rfl⟩) (fun h=>?_))
 refine⟨fun vals w1=>∃ i:Nat,vals=[.int .i64 i]/\i<=n/\(∀ k,k<i->(s k).size<=60)/\w1=w,mu1 n,⟨0,rfl,Nat.zero_le _,fun k hk=>by omega,rfl⟩,?_⟩
 rintro m1 w1 ⟨i,hv,hi,hall,rfl⟩
 cases hv
 refine zAd (fun hlt=>?_) (fun hge=>⟨⟨false,rfl,fun _=>⟨by omega,fun k hk=>hall k (by omega)⟩⟩,rfl⟩)
 have hin:i<n:=by omega
 obtain⟨a1,h1,hc1⟩:=ha.get hin
 refine⟨a1,h1,⟨by omega,hlt⟩,_,hc1,zAd (fun h=>⟨⟨true,rfl,fun h=>by cases h⟩,rfl⟩) (fun h2=>?_)⟩
 rw [zAh (by omega)]
 refine⟨⟨i+1,rfl,hin,fun k hk=>?_,rfl⟩,by simp only [mu1,Int.toNat_natCast];omega⟩
 by_cases e:k=i
 ·rw [e];omega
 ·exact hall k (by omega)
def smallX (X:TX) (m n:Nat):Prop:=X.m<=m/\∀ i,i<X.m->(X.K i).size<=60/\X.n i<=n/\∀ j,j<X.n i->(X.C i j).size<=60
theorem smallX.tame {X:TX} {m n:Nat} (h:smallX X m n) (hn:n<=1048576):Tame X where
 n:=fun i hi=>Nat.le_trans (h.2 i hi).2.1 hn
 c:=fun i hi j hj=>Nat.le_trans ((h.2 i hi).2.2 j hj) (by decide)
 k:=fun i hi=>Nat.le_trans (h.2 i hi).1 (by decide)
theorem c61 {X:TX} {A:TA} {a:Option Addr} {c:Nat} {most:Nat} (hmost:most<=1048576) (w:World) (ha:RowsT w a X A) :
  Ret prog 61 #[.slice a X.m c,.int .i64 most] w fun v w'=>(∃ b,v = .bool b/\(b=false->smallX X most 60))/\w' = w:=by
 refine run61 _ _ _ _ _ _ (zAd (fun h=>⟨⟨true,rfl,fun h=>by cases h⟩,rfl⟩) (fun h=>?_))
 refine⟨fun vals w1=>∃ i:Nat,vals=[.int .i64 i]/\i<=X.m/\(∀ k,k<i->(X.K k).size<=60/\X.n k<=60/\∀ j,j<X.n k->(X.C k j).size<=60)/\w1=w,mu1 X.m,⟨0,rfl,Nat.zero_le _,fun k hk=>by omega,rfl⟩,?_⟩
 rintro m1 w1 ⟨i,hv,hi,hall,rfl⟩
 cases hv
 refine zAd (fun hlt=>?_) (fun hge=>⟨⟨false,rfl,fun _=>⟨by omega,fun k hk=>hall k (by omega)⟩⟩,rfl⟩)
 have hin:i<X.m:=by omega
 obtain⟨a1,h1,_,q0,q1,q2⟩:=ha.cells hin
 intro K hK
 have no:K [.bool true] w1:=hK true w1 (by rw [cond_true];exact⟨⟨true,rfl,fun h=>by cases h⟩,rfl⟩)
 refine⟨a1,h1,⟨by omega,hlt⟩,_,q2,zAd (fun _=>no) (fun h2=>?_)⟩
 refine⟨a1,h1,⟨by omega,hlt⟩,_,_,_,q0,Called.of (c46 (most:=60) (by decide) _ (ha.2 i hin)) ?_⟩
 rintro v w3 ⟨⟨b,rfl,hb⟩,rfl⟩
 refine⟨_,rfl,?_⟩
 cases b with
 | true=>exact no
 | false =>
  obtain⟨g1,g2⟩:=hb rfl
  refine hK false _ ?_
  rw [cond_false,zAh (by omega)]
  refine⟨⟨i+1,rfl,hin,fun k hk=>?_,rfl⟩,by simp only [mu1,Int.toNat_natCast];omega⟩
  by_cases e:k=i
  ·rw [e];exact⟨by omega,by omega,g2⟩
  ·exact hall k (by omega)
structure LT where
 a:Nat->Option Addr
 n:Nat->Nat
 c:Nat->Nat
 s:Nat->Nat->ByteArray
def ListsT (w:World) (a:Option Addr) (L:LT) (n:Nat):Prop:=SlAt w a (upto (fun i => .slice (L.a i) (L.n i) (L.c i)) n)/\∀ i,i<n->SS w (L.a i) (L.s i) (L.n i)
theorem c20 {X:TX} {A:TA} {L:LT} {n:Int} {a la:Option Addr} {c nl lc:Nat} (hnl:nl<=1048576) (w:World) (ha:RowsT w a X A) (hl:ListsT w la L nl) :
  Ret prog 20 #[.int .i64 n,.slice a X.m c,.slice la nl lc] w fun v w'=>(∃ b,v = .bool b/\(b=false->n<=6/\smallX X 14 60/\∀ i,i<nl->L.n i<=40/\∀ j,j<L.n i->(L.s i j).size<=60))/\w' = w:=by
 refine run20 _ _ _ _ _ _ _ _ _ fun K hK=>?_
 have no:K [.bool true] w:=hK true w (by rw [cond_true];exact⟨⟨true,rfl,fun h=>by cases h⟩,rfl⟩)
 refine zAd (fun _=>no) (fun hn=>?_)
 refine Called.of (c61 (most:=14) (by decide) w ha) ?_
 rintro v w4 ⟨⟨b,rfl,hb⟩,rfl⟩
 refine⟨_,rfl,?_⟩
 cases b with
 | true=>exact no
 | false =>
 have hsm:=hb rfl
 refine hK false _ ?_
 rw [cond_false]
 refine⟨fun vals w1=>∃ i:Nat,vals=[.int .i64 i]/\i<=nl/\(∀ k,k<i->L.n k<=40/\∀ j,j<L.n k->(L.s k j).size<=60)/\w1=w4,mu1 nl,⟨0,rfl,Nat.zero_le _,fun k hk=>by omega,rfl⟩,?_⟩
 rintro m1 w1 ⟨i,hv,hi,hall,rfl⟩
 cases hv
 refine zAd (fun hlt=>?_) (fun hge=>⟨⟨false,rfl,fun _=>⟨by omega,hsm,fun k hk=>hall k (by omega)⟩⟩,rfl⟩)
 have hin:i<nl:=by omega
 obtain⟨a1,h1,hc1⟩:=slGet hl.1 hin
 refine⟨a1,h1,⟨by omega,hlt⟩,_,_,_,hc1,Called.of (c46 (most:=40) (by decide) _ (hl.2 i hin)) ?_⟩
 rintro v w3 ⟨⟨b,rfl,hb⟩,rfl⟩
 refine⟨_,rfl,?_⟩
 cases b with
 | true=>rw [cond_true];exact⟨⟨true,rfl,fun h=>by cases h⟩,rfl⟩
 | false =>
  obtain⟨g1,g2⟩:=hb rfl
  rw [cond_false,zAh (by omega)]
  refine⟨⟨i+1,rfl,hin,fun k hk=>?_,rfl⟩,by simp only [mu1,Int.toNat_natCast];omega⟩
  by_cases e:k=i
  ·rw [e];exact⟨by omega,g2⟩
  ·exact hall k (by omega)
theorem own_made {w:World} {b e size n cap:Nat} {L:List Value} (h:Box w b e L) (hs:L.length=cap*size) (hn:n<=cap) (hm:cap<=maxLen):w.ownsRow b e size (.slice (some ⟨b,0,none⟩) n cap) n (L.take (n*size)):=by
 refine⟨?_,.inr ⟨b,cap,L.toArray,rfl,Nat.le_refl _,h,hn,hm,by simpa using hs,by simp⟩⟩
 rw [List.length_take,hs]
 exact Nat.min_eq_left (Nat.mul_le_mul_right _ hn)
structure OwnT (w:World) (B:Nat) (p:Option Addr) (c:Nat) (X:TX) (A:TA) (k:Nat):Prop where
 row:w.ownsRow B 49 3 (.slice p k c) k (GL (rtc X A) k)
 c : ∀ i,i<k->w.ownsRow B 9 1 (.slice (A.cA i) (X.n i) (A.cC i)) (X.n i) (SL (X.C i) (X.n i))
theorem OwnT.ext {w w' : World} {B:Nat} {p:Option Addr} {c:Nat} {X:TX} {A:TA} {k:Nat} (h:OwnT w B p c X A k) (he:Ext w w'):OwnT w' B p c X A k:=⟨zA8 h.row he,fun i hi=>zA8 (h.c i hi) he⟩
theorem OwnT.t {w:World} {B:Nat} {p:Option Addr} {c:Nat} {X:TX} {A:TA} (h:OwnT w B p c X A X.m):RowsT w p X A:=⟨zBr h.row,fun i hi=>zBr (h.c i hi)⟩
theorem size49 (n:Nat):n*siE.P.types[49].size=n*3:=rfl
theorem zG1 (s:Nat->ByteArray) : ∀ n,zAq (SL s n)=true
 | 0=>rfl
 | n+1=>by rw [SL_snoc];exact plain_app _ _ (zG1 s n) rfl
theorem zCX (s:Nat->ByteArray) (n:Nat):(SL s n).length=n:=zA7 _ _
set_option maxHeartbeats 600000 in
theorem c22 {X:TX} {A:TA} {a:Option Addr} {c:Nat} (hm:X.m<=1000000) (hX : ∀ i,i<X.m->X.n i<=1000000) (w:World) (ha:RowsT w a X A) :
  Ret prog 22 #[.slice a X.m c] w fun v w'=>∃ p c' A',v = .slice p X.m c'/\OwnT w' w.heap.size p c' X A' X.m/\Ext w w':=by
 have e2:i64.wrap ((X.m:Int)+2)=((X.m+2:Nat):Int):=by rw [zAf (by omega) (by omega)];omega
 refine run22 _ _ _ _ _ ?_
 unfold vc22
 rw [e2]
 simp only [Int.toNat_natCast,size49]
 have z1:=(Ext.refl w).alloc (.cells (madeCells (Value.agg #[Value.slice none 0 0,.int .i64 0,.string { data:=#[] }]).cells ((X.m+2)*3)) 49)
 have b1:=Box.new w (madeCells (Value.agg #[Value.slice none 0 0,.int .i64 0,.string { data:=#[] }]).cells ((X.m+2)*3)).toList 49
 have hl:(madeCells (Value.agg #[Value.slice none 0 0,.int .i64 0,.string { data:=#[] }]).cells ((X.m+2)*3)).toList.length=(X.m+2)*3:=by simp [madeCells]
 have o1:=own_made (n:=0) (cap:=X.m+2) (size:=3) b1 hl (Nat.zero_le _) (by unfold maxLen;omega)
 rw [Array.toArray_toList] at o1
 rw [Nat.zero_mul,List.take_zero] at o1
 refine⟨⟨by omega,by omega,by omega,by omega⟩,fun vals w1=>∃ (i:Nat) (p:Option Addr) (c' : Nat) (A' : TA),vals=[.int .i64 i,.slice p i c']/\i<=X.m/\OwnT w1 w.heap.size p c' X A' i/\Ext w w1,fun vals w=>match vals with | (.int _ i)::_=>X.m - i.toNat | _=>0,⟨0,_,_,A,rfl,Nat.zero_le _,⟨o1,fun i hi=>by omega⟩,z1⟩,?_⟩
 rintro n1 p i c1 w1 ⟨i',p',c',A',hv,hi,hO,he⟩
 cases hv
 refine zAd (fun hlt=>?_) (fun hge=>?_)
 ·have him:i<X.m:=by omega
  have hni:=hX i him
  intro K hK
  have hd:=he.drew
  have hOd:=hO.ext (Ext.refl _).drew
  obtain⟨a1,h1,_,q0,q1,q2⟩:=(ha.ext hd).cells him
  have hs:=(ha.ext hd).2 i him
  refine⟨a1,h1,⟨by omega,hlt⟩,_,_,_,q0,a1,h1,⟨by omega,hlt⟩,_,_,_,q0,a1,h1,⟨by omega,hlt⟩,_,q1,a1,h1,⟨by omega,hlt⟩,_,q2,?_⟩
  have e3:i64.wrap ((X.n i:Int)+2)=((X.n i+2:Nat):Int):=by rw [zAf (by omega) (by omega)];omega
  rw [e3]
  simp only [Int.toNat_natCast,size9s]
  have z2:=(Ext.refl w1.drew).alloc (.cells (madeCells (Value.string { data:=#[] }).cells (X.n i+2)) 9)
  have b2:=Box.new w1.drew (madeCells (Value.string { data:=#[] }).cells (X.n i+2)).toList 9
  have hl2:(madeCells (Value.string { data:=#[] }).cells (X.n i+2)).toList.length=(X.n i+2)*1:=by simp [madeCells]
  have o2:=own_made (n:=0) (cap:=X.n i+2) (size:=1) b2 hl2 (Nat.zero_le _) (by unfold maxLen;omega)
  rw [Array.toArray_toList] at o2
  rw [Nat.zero_mul,List.take_zero] at o2
  refine⟨⟨by omega,by omega,by omega,by omega⟩,z2,w1.drew.heap.size,[],SL (X.C i) (X.n i),?_,?_⟩
  ·exact {
    own := .inl o2
    len:=by rw [zCX,Nat.mul_one]
    src:=by
     rcases (hs.ext z2) with e | ⟨ad,g1,g2,g3⟩
     ·left
      have:=congrArg List.length e
      rw [zCX] at this
      simpa using this
     ·exact .inr ⟨ad,g1,zCY.2 g3⟩
    plain:=zG1 _ _
    max:=by unfold maxLen;omega
    bytes:=by omega
    base:=z2.size }
  intro p4 k9 w3 r
  have hx3:Ext w1.drew w3:=r.below o2 z2 z2.size (Nat.le_refl _)
  have hO3:=hOd.ext hx3
  have hs3:=(hd.trans hx3).size
  refine⟨hx3,_,_,_,AppOk.one (L:=[.slice p4 (0+X.n i) k9,.int .i64 (X.rel i),.string (X.K i)]) hO3.row rfl rfl (by unfold maxLen;omega) (by omega) hs3,?_⟩
  intro p5 k11 w4 r4
  have za:=(Ext.refl w3).alloc (.cells #[.slice p4 (0+X.n i) k9,.int .i64 (X.rel i),.string (X.K i)] 49)
  have hx4:Ext w w4:=r4.below (zA8 hO3.row za) ((hd.trans hx3).trans za) ((hd.trans hx3).trans za).size (Nat.le_refl _)
  refine hK _ _ _ _ ?_
  rw [zAh (by omega)]
  have keep : ∀ {v:Value} {n' : Nat} {xs:List Value},w3.ownsRow w.heap.size 9 1 v n' xs->w4.ownsRow w.heap.size 9 1 v n' xs:=fun {v n' xs} h=>by
   have h':=zA8 h za
   exact zDf h' fun k hk=>r4.grown.block k ((World.ownsRow.lt h' k hk).2) (fun e=>zCu hO3.row h (by decide) k e.symm hk)
  refine⟨⟨i+1,p5,k11,⟨upd A'.cA i p4,upd A'.cC i k9⟩,rfl,him,⟨?_,fun j hj=>?_⟩,hx4⟩,by simp only [Int.toNat_natCast];omega⟩
  ·have h:=r4.own
   have e:GL (rtc X ⟨upd A'.cA i p4,upd A'.cC i k9⟩) (i+1)=GL (rtc X A') i++[.slice p4 (0+X.n i) k9,.int .i64 (X.rel i),.string (X.K i)]:=by
    rw [GL]
    congr 1
    ·refine zCb fun j hj=>?_
     unfold rtc
     simp only [zAu _ (show j≠i by omega)]
    ·unfold rtc
     simp only [zAy,Nat.zero_add]
   rw [e]
   exact h
  ·show w4.ownsRow _ 9 1 (.slice (upd A'.cA i p4 j) (X.n j) (upd A'.cC i k9 j)) _ _
   by_cases e:j=i
   ·rw [e,zAy,zAy]
    have h:=r.own
    rw [List.nil_append,Nat.zero_add] at h
    exact keep (own_base h hd.size)
   ·rw [zAu _ e,zAu _ e]
    exact keep (hO3.c j (by omega))
 ·have ei:i=X.m:=by omega
  subst ei
  exact⟨_,_,A',rfl,hO,he⟩
end Go.Proofs.Si
namespace Go.Proofs.Si
open Go Go.V Go.Proofs Go.RowKit Go.Num Go.Tb
set_option maxRecDepth 100000
structure Sm6 (S:Tb.Sys):Prop where
 n:S.n<=6
 m:S.m<=15
 C : ∀ i,i<S.m->∀ j,j<S.n->dg 61 (S.C i j)
 K : ∀ i,i<S.m->dg 61 (S.K i)
theorem bd_le : ∀ n,n<=6->bd 61 n+1<=251222:=by decide
theorem vd_le : ∀ n,n<=6->vd 61 61 n<=1507760:=by decide
theorem Sm6.a {S:Tb.Sys} (h:Sm6 S) {s:Dy} (hI:Inv S s) {i j:Nat} (hi:i<S.m) (hj:j<S.n):dg 251222 (s.a i j) :=
 (dict_dg hI.dict (fun i j hi hj=>h.C i hi j hj) i j hi hj).mono (bd_le _ h.n)
theorem Sm6.val {S:Tb.Sys} (h:Sm6 S) {s:Dy} (hI:Inv S s) {v:Nat} (hv:v<S.n+S.m):dg 1507760 (s.val v).1/\dg 1507760 (s.val v).2:=by
 have h1:=val_dg hI (fun i j hi hj=>h.C i hi j hj) h.K v hv
 have h2:=vd_le _ h.n
 exact⟨h1.1.mono h2,h1.2.mono h2⟩
theorem Sm6.fits {S:Tb.Sys} (h:Sm6 S):Fits S where
 few:=by have:=h.n;have:=h.m;unfold Few;omega
 short:=⟨fun i hi=>(h.K i hi).mono (by decide),by decide⟩
 a:=fun s hI i hi j hj=>(h.a hI hi hj).mono (by decide)
 val:=fun s hI v hv=>⟨(h.val hI hv).1.mono (by decide),(h.val hI hv).2.mono (by decide)⟩
theorem Sm6.cost {S:Tb.Sys} (h:Sm6 S) {c:Nat->Rat} (hc : ∀ j,j<S.n->dg 61 (c j)) {s:Dy} (hI:Inv S s) {j:Nat} (hj:j<S.n) : ∀ k,k<=S.n->dg (62+k*251286) (costF S s c k j):=by
 intro k
 induction k with
 | zero =>
  intro _
  rw [costF]
  split
  ·rename_i h1;exact (hc _ h1).mono (by omega)
  ·exact zCy (by omega)
 | succ k ih =>
  intro hk
  have ihk:=ih (by omega)
  rw [costF]
  split
  ·exact ihk.mono (by omega)
  ·rename_i hl
   obtain⟨h1,_⟩:=(hI.dict.perm.lin k (by omega)).1 (by omega)
   exact (ihk.add ((hc k (by omega)).mul (h.a hI (i:=(s.line k).toNat) (by omega) hj))).mono (by omega)
theorem Sm6.fitsC {S:Tb.Sys} (h:Sm6 S) {c:Nat->Rat} (hc : ∀ j,j<S.n->dg 61 (c j)):FitsC S c/\∀ s,Inv S s->∀ j,j<S.n->dg 2000000 (costs S s c j):=by
 have hn:=h.n
 refine⟨{ sh:=fun v hv=>(hc v hv).mono (by decide),cost:=fun s hI k hk j hj=>(h.cost hc hI hj k hk).mono (by omega),zv:=fun s hI k hk=>?_ },fun s hI j hj=>(h.cost hc hI hj S.n (Nat.le_refl _)).mono (by omega)⟩
 have e : ∀ k,zvF s c k=(sumN k fun v=>c v*(s.val v).1,sumN k fun v=>c v*(s.val v).2):=by
  intro k
  induction k with
  | zero=>rfl
  | succ k ih=>rw [zvF,ih,sumN,sumN,add2,zAn,Rat.mul_comm (s.val k).1,Rat.mul_comm (s.val k).2]
 rw [e]
 exact⟨(zFL (h:=1507822) fun i hi=>((hc i (by omega)).mul (h.val hI (v:=i) (by omega)).1).mono (by decide)).mono (by omega),(zFL (h:=1507822) fun i hi=>((hc i (by omega)).mul (h.val hI (v:=i) (by omega)).2).mono (by decide)).mono (by omega)⟩
theorem Sm6.dotsZ {S:Tb.Sys} (h:Sm6 S) {y:Nat->Rat} (hy : ∀ k,k<S.m->dg 2000000 (y k)):DotsZ S y 60000000:=by
 have hm:=h.m
 exact {
  p:=fun k hk j hj=>((hy k hk).mul (h.C k hk j hj)).mono (by decide)
  c:=fun i hi j hj=>(zFL (h:=2000062) fun k hk=>(hy k (by omega)).mul (h.C k (by omega) j hj)).mono (by omega)
  pk:=fun k hk=>((hy k hk).mul (h.K k hk)).mono (by decide)
  k:=fun i hi=>(zFL (h:=2000062) fun k hk=>(hy k (by omega)).mul (h.K k (by omega))).mono (by omega) }
theorem Sm6.dots {S:Tb.Sys} (h:Sm6 S) {x:Nat->Rat} (hx : ∀ j,j<S.n->dg 14000000 (x j)):Dots S x 84001000:=by
 have hn:=h.n
 intro i hi
 exact⟨fun j hj=>((h.C i hi j hj).mul (hx j hj)).mono (by decide),fun k hk=>(zFL (h:=14000062) fun j hj=>(h.C i hi j (by omega)).mul (hx j (by omega))).mono (by omega)⟩
theorem smallX.sm {X:TX} {n:Nat} (h:smallX X 14 60) (hn:n<=6) (hok : ∀ i,i<X.m->okRow X n i):Sm6 (sysX X n) where
 n:=hn
 m:=by have:=h.1;show X.m<=15;omega
 C:=fun i hi j hj=>rd_dg ((hok i hi).2.2.2.1 j (by have:=(hok i hi).1;replace hj:j<n:=hj;omega)) ((h.2 i hi).2.2 j (by have:=(hok i hi).1;replace hj:j<n:=hj;omega))
 K:=fun i hi=>rd_dg (hok i hi).2.2.2.2 (h.2 i hi).1
theorem Agree.sm {S S' : Tb.Sys} (h:Agree S S') (hs:Sm6 S):Sm6 S' where
 n:=by rw [<- h.n];exact hs.n
 m:=by rw [<- h.m];exact hs.m
 C:=fun i hi j hj=>by
  rw [<- h.C i (by rw [h.m];exact hi) j (by rw [h.n];exact hj)]
  exact hs.C i (by rw [h.m];exact hi) j (by rw [h.n];exact hj)
 K:=fun i hi=>by
  rw [<- h.K i (by rw [h.m];exact hi)]
  exact hs.K i (by rw [h.m];exact hi)
theorem zFM {X:TX} {n:Int} (h:smallX X 14 60) (hn:n<=6) (hok:okRows X n) : ∀ S,Reads X S->(S.n:Int)=n->Fits S:=by
 intro S hS hSn
 have h0:=hok.1
 exact (((zBh hok.nat).agree hS (by show n.toNat=S.n;omega)).sm (h.sm (by omega) hok.nat)).fits
theorem zEK (z:Int):txtQ (z:Rat)=(if z<0 then [45] else [])++dec z.natAbs:=by
 rw [zA0,Rat.num_intCast,Rat.den_intCast,if_pos rfl,List.append_nil]
end Go.Proofs.Si
namespace Go.Proofs.Si
open Go Go.V Go.Proofs Go.RowKit Go.Num Go.Tb Go.Proofs.Tryz
set_option maxRecDepth 100000
abbrev t1:ByteArray:={ data:=#[49] }
abbrev tm1:ByteArray:={ data:=#[45,49] }
abbrev tm2:ByteArray:={ data:=#[45,50] }
abbrev t2:ByteArray:={ data:=#[50] }
theorem bs_t1:bs t1=txtQ 1:=by
 have h:=zEK 1
 rw [show ((1:Int):Rat)=1 from rfl] at h
 rw [h,show (1:Int).natAbs=1 from rfl,zA5 (by decide)];rfl
theorem bs_t2:bs t2=txtQ 2:=by
 have h:=zEK 2
 rw [show ((2:Int):Rat)=2 from rfl] at h
 rw [h,show (2:Int).natAbs=2 from rfl,zA5 (by decide)];rfl
theorem bs_tm1:bs tm1=txtQ (-1):=by
 have h:=zEK (-1)
 rw [show ((-1:Int):Rat) = -1 from rfl] at h
 rw [h,show (-1:Int).natAbs=1 from rfl,zA5 (by decide)];rfl
theorem bs_tm2:bs tm2=txtQ (-2):=by
 have h:=zEK (-2)
 rw [show ((-2:Int):Rat) = -2 from rfl] at h
 rw [h,show (-2:Int).natAbs=2 from rfl,zA5 (by decide)];rfl
def aX (m:Nat):TX:={ m:=m,n:=fun _=>1,C:=fun i _=>if i=0 then t1 else tm1,rel:=fun _=>1,K:=fun i=>if i=0 then t1 else tm2 }
def aR:TX:={ m:=1,n:=fun _=>1,C:=fun _ _=>t1,rel:=fun _=>2,K:=fun _=>t2 }
theorem aX_ok {m:Nat} (hm:m<=2):okRows (aX m) 1:=by
 refine⟨by decide,by decide,by show m<=200;omega,fun i hi=>⟨rfl,by show (1:Int)<=1;decide,by show (1:Int)<=3;decide,fun j _=>?_,?_⟩⟩
 ·show okQ (bs (if i=0 then t1 else tm1))=true
  split
  ·exact ok_of bs_t1
  ·exact ok_of bs_tm1
 ·show okQ (bs (if i=0 then t1 else tm2))=true
  split
  ·exact ok_of bs_t1
  ·exact ok_of bs_tm2
theorem zDp {m:Nat} (hm:m<=2):smallX (aX m) 14 60:=by
 refine⟨by show m<=14;omega,fun i hi=>⟨?_,by show 1<=60;decide,fun j _=>?_⟩⟩
 ·show (if i=0 then t1 else tm2).size<=60
  split <;> decide
 ·show (if i=0 then t1 else tm1).size<=60
  split <;> decide
theorem aR_small:smallX aR 14 60:=⟨by decide,fun i hi=>⟨by show t2.size<=60;decide,by show 1<=60;decide,fun j _=>by show t1.size<=60;decide⟩⟩
theorem rd_t1:rd t1=1:=rd_of bs_t1
theorem rd_t2:rd t2=2:=rd_of bs_t2
theorem rd_tm1:rd tm1 = -1:=rd_of bs_tm1
theorem rd_tm2:rd tm2 = -2:=rd_of bs_tm2
theorem lhs_a0 (m:Nat) (x:Nat->Rat):Tb.lhs (sysX (aX m) 1) x 0=x 0:=by
 show sumN 1 (fun j=>rd t1*x j)=x 0
 rw [zAo,zAG,rd_t1,Rat.one_mul,Rat.zero_add]
theorem lhs_a1 (x:Nat->Rat):Tb.lhs (sysX (aX 2) 1) x 1 = -(x 0):=by
 show sumN 1 (fun j=>rd tm1*x j)=_
 rw [zAo,zAG,rd_tm1];grind
theorem a_sat:Sat (sysX (aX 1) 1) fun _=>0:=by
 intro k hk
 have hk:k<1:=hk
 have:k=0:=by omega
 subst this
 rw [lhs_a0]
 have hK:(sysX (aX 1) 1).K 0=1:=rd_t1
 have hr:(sysX (aX 1) 1).rel 0=1:=rfl
 rw [hK,hr]
 exact⟨by decide,fun h=>absurd h (by decide),fun h=>absurd h (by decide)⟩
theorem a_unsat (x:Nat->Rat) : ¬ Sat (sysX (aX 2) 1) x:=by
 intro h
 have h0:=(h 0 (by show 0<2;decide)).1
 have h1:=(h 1 (by show 1<2;decide)).1
 rw [lhs_a0,show (sysX (aX 2) 1).K 0=1 from rd_t1] at h0
 rw [lhs_a1,show (sysX (aX 2) 1).K 1 = -2 from rd_tm2] at h1
 grind
theorem a_noray {c r:Nat->Rat} (hc:c 0=1) : ¬ RayX (sysX (aX 1) 1) c r:=by
 rintro⟨h1,h2⟩
 have h3:=(h2 0 (by show 0<1;decide)).1
 rw [lhs_a0] at h3
 have e:(sumN (sysX (aX 1) 1).n fun v=>c v*r v)=r 0:=by
  show sumN 1 (fun v=>c v*r v)=r 0
  rw [zAo,zAG,hc,Rat.one_mul,Rat.zero_add]
 rw [e] at h1
 exact Rat.not_le.2 h1 h3
theorem a_best {c pt y:Nat->Rat} {att:Bool} (hc:c 0=1) (h:BestX (sysX (aX 1) 1) c pt y att):combK (sysX (aX 1) 1) y=1/\att=true:=by
 have h1:=h.cb 0 (by show 0<1;decide)
 have e1:comb (sysX (aX 1) 1) y 0=y 0:=by
  show sumN 1 (fun k=>y k*rd (if k=0 then t1 else tm1))=y 0
  rw [zAo,zAG,if_pos rfl,rd_t1,Rat.mul_one,Rat.zero_add]
 have e2:combK (sysX (aX 1) 1) y=y 0:=by
  show sumN 1 (fun k=>y k*rd (if k=0 then t1 else tm2))=y 0
  rw [zAo,zAG,if_pos rfl,rd_t1,Rat.mul_one,Rat.zero_add]
 refine⟨by rw [e2,<- e1,h1,hc],?_⟩
 cases att with
 | true=>rfl
 | false =>
  obtain⟨k,hk,hr,_⟩:=h.strict rfl
  exact absurd hr (show ¬ (1:Int).toNat=2 by decide)
theorem imp_ok:okImp (aX 1) aR 1:=⟨aX_ok (by decide),rfl,by show (1:Int)<=2;decide,by show (2:Int)<=3;decide,fun _ _=>ok_of bs_t1,ok_of bs_t2⟩
theorem a_imp (x:Nat->Rat) : ¬ Sat (impS (aX 1) aR 1) x:=by
 intro h
 have h0:=(h 0 (by show 0<2;decide)).1
 have h1:=(h 1 (by show 1<2;decide)).1
 have e0:Tb.lhs (impS (aX 1) aR 1) x 0=x 0:=by
  show sumN 1 (fun j=>(if 0<1 then rd t1 else -(rd t1))*x j)=x 0
  rw [zAo,zAG,if_pos (by decide),rd_t1,Rat.one_mul,Rat.zero_add]
 have e1:Tb.lhs (impS (aX 1) aR 1) x 1 = -(x 0):=by
  show sumN 1 (fun j=>(if 1<1 then rd tm1 else -(rd t1))*x j) = -(x 0)
  rw [zAo,zAG,if_neg (by decide),rd_t1];grind
 have k0:(impS (aX 1) aR 1).K 0=1:=by
  show (if 0<1 then rd t1 else -(rd t2))=1
  rw [if_pos (by decide),rd_t1]
 have k1:(impS (aX 1) aR 1).K 1 = -2:=by
  show (if 1<1 then rd tm2 else -(rd t2)) = -2
  rw [if_neg (by decide),rd_t2]
 rw [e0,k0] at h0
 rw [e1,k1] at h1
 grind
theorem negR_sm {S:Tb.Sys} {c:Nat->Rat} {rel:Nat} {k:Rat} (h:Sm6 S) (hm:S.m<=14) (hc : ∀ j,j<S.n->dg 61 (c j)) (hk:dg 61 k):Sm6 (negR S c rel k) where
 n:=h.n
 m:=by show S.m+1<=15;omega
 C:=fun i hi j hj=>by
  show dg 61 (if i<S.m then S.C i j else -(c j))
  split
  ·rename_i h1;exact h.C i h1 j hj
  ·exact (hc j hj).neg
 K:=fun i hi=>by
  show dg 61 (if i<S.m then S.K i else -k)
  split
  ·rename_i h1;exact h.K i h1
  ·exact hk.neg
theorem holdsX_of {X:TX} {n:Nat} {pt:Nat->Rat} (hok : ∀ i,i<X.m->okRow X n i) (h:Sat (sysX X n) pt):holdsX X n fun j=>mk (txtQ (pt j)):=by
 refine⟨fun j _=>ok_of (bs_mk _),hok,?_⟩
 have e:(fun j=>rd (mk (txtQ (pt j))))=pt:=funext fun j=>rd_mk _
 rw [e];exact h
theorem checkX_of {X:TX} {n:Int} {y:Nat->Rat} (hok:okRows X n) (h:zAQ (sysX X n.toNat) y):checkX X n X.m fun j=>mk (txtQ (y j)):=by
 refine⟨hok,rfl,fun j _=>ok_of (bs_mk _),?_⟩
 have e:(fun j=>rd (mk (txtQ (y j))))=y:=funext fun j=>rd_mk _
 rw [e];exact h
theorem zG3 {q:Rat} {k:Nat} (h:dg k q):(mk (txtQ q)).size<=2*k+2:=zCz h (bs_mk _)
theorem dots_pt {X:TX} {n:Nat} {pt:Nat->Rat} (hsm:Sm6 (sysX X n)) (hpt : ∀ j,j<n->dg 14000000 (pt j)) (hok : ∀ i,i<X.m->okRow X n i) :
  ∀ S x,Reads X S->S.n=n->PtReads (fun j=>mk (txtQ (pt j))) n x->Dots S x 84001000/\(∀ i,i<S.m->dg 84001000 (S.K i))/\(∀ j,j<n->dg 40000000 (x j))/\∀ i,i<S.m->∀ j,j<n->dg 40000000 (S.C i j):=by
 intro S x hS hn hx
 have hs:=((zBh hok).agree hS (by rw [hn];rfl)).sm hsm
 have hxd : ∀ j,j<n->dg 14000000 (x j):=fun j hj=>by
  rw [hx.rd j hj,rd_mk];exact hpt j hj
 exact⟨hs.dots fun j hj=>hxd j (by omega),fun i hi=>(hs.K i hi).mono (by decide),fun j hj=>(hxd j hj).mono (by decide),fun i hi j hj=>(hs.C i hi j (by omega)).mono (by decide)⟩
abbrev lp0:List Value:=[.int .i64 0,.slice none 0 0,.slice none 0 0]
set_option maxHeartbeats 1000000 in
theorem c21 (w:World) (hg:Gl w):Ret prog 21 #[] w fun v w'=>v = .bool true/\Ext w w':=by
 refine run21 _ _ ?_
 unfold vc21
 rw [show (Obj.cells #[Value.string { data:=#[49] }] 9) = .cells [Value.string t1].toArray 9 from rfl,show (Obj.cells #[Value.string { data:=#[45,49] }] 9) = .cells [Value.string tm1].toArray 9 from rfl]
 have z1:=(Ext.refl w).alloc (.cells [Value.string t1].toArray 9)
 have b1:=Box.new w [Value.string t1] 9
 generalize w.alloc (.cells [Value.string t1].toArray 9)=W1 at z1 b1 ⊢
 have z2:=(Ext.refl W1).alloc (.cells [Value.string tm1].toArray 9)
 have b2:=Box.new W1 [Value.string tm1] 9
 have b1':=b1.ext z2
 generalize W1.alloc (.cells [Value.string tm1].toArray 9)=W2 at z2 b2 b1' ⊢
 have z3:=(Ext.refl W2).alloc (.cells (GL (rtc (aX 2) ⟨fun i=>if i=0 then some ⟨w.heap.size,0,none⟩ else some ⟨W1.heap.size,0,none⟩,fun _=>1⟩) 2).toArray 49)
 have b3:=Box.new W2 (GL (rtc (aX 2) ⟨fun i=>if i=0 then some ⟨w.heap.size,0,none⟩ else some ⟨W1.heap.size,0,none⟩,fun _=>1⟩) 2) 49
 refine⟨⟨by decide,by decide⟩,?_⟩
 change Called _ 28 _ (W2.alloc (.cells (GL (rtc (aX 2) ⟨fun i=>if i=0 then some ⟨w.heap.size,0,none⟩ else some ⟨W1.heap.size,0,none⟩,fun _=>1⟩) 2).toArray 49)) _
 have b1'':=b1'.ext z3
 have b2'':=b2.ext z3
 have hx3:=(z1.trans z2).trans z3
 generalize W2.alloc (.cells (GL (rtc (aX 2) ⟨fun i=>if i=0 then some ⟨w.heap.size,0,none⟩ else some ⟨W1.heap.size,0,none⟩,fun _=>1⟩) 2).toArray 49)=W3 at z3 b3 b1'' b2'' hx3 ⊢
 obtain⟨A,hA⟩ : ∃ A:TA,A=⟨fun i=>if i=0 then some ⟨w.heap.size,0,none⟩ else some ⟨W1.heap.size,0,none⟩,fun _=>1⟩:=⟨_,rfl⟩
 have r2:RowsT W3 (some ⟨W2.heap.size,0,none⟩) (aX 2) A:=by
  refine⟨by rw [hA];exact b3.blk.sl,fun i hi=>?_⟩
  rw [hA]
  show SS W3 (if i=0 then _ else _) (fun _=>if i=0 then t1 else tm1) 1
  by_cases e:i=0
  ·rw [if_pos e,if_pos e];exact b1''.blk.sl
  ·rw [if_neg e,if_neg e];exact b2''.blk.sl
 have r1:RowsT W3 (some ⟨W2.heap.size,0,none⟩) (aX 1) A:=by
  refine⟨?_,fun i hi=>r2.2 i (by have:i<1:=hi;show i<2;omega)⟩
  rw [hA]
  have hb:Blk W3 W2.heap.size 49 (GL (rtc (aX 1) ⟨fun i=>if i=0 then some ⟨w.heap.size,0,none⟩ else some ⟨W1.heap.size,0,none⟩,fun _=>1⟩) 1):=⟨rtc (aX 2) ⟨fun i=>if i=0 then some ⟨w.heap.size,0,none⟩ else some ⟨W1.heap.size,0,none⟩,fun _=>1⟩ 1,b3⟩
  exact hb.sl
 clear hA b1 b2 b1' b3 b1'' b2'' z1 z2 z3
 have ok1:=aX_ok (m:=1) (by decide)
 have ok2:=aX_ok (m:=2) (by decide)
 have sm1:=(zDp (m:=1) (by decide)).sm (n:=1) (by decide) ok1.nat
 have sm2:=(zDp (m:=2) (by decide)).sm (n:=1) (by decide) ok2.nat
 have tm1' : Tame (aX 1):=(zDp (by decide)).tame (by decide)
 have tm2' : Tame (aX 2):=(zDp (by decide)).tame (by decide)
 refine Called.of (c28x (X:=aX 1) (A:=A) (n:=1) (c:=2) tm1' (zFM (zDp (by decide)) (by decide) ok1) W3 r1 (hg.ext hx3)) ?_
 rintro v w1 ⟨hL,he1⟩
 rcases hL with ⟨h,_⟩ | ⟨_,bp,hbp,⟨pt,rfl,hTp,hsat,hptd⟩ | ⟨y,_,_,href,_⟩⟩
 ·exact absurd ok1 h
 rotate_left
 ·exact (farkas href a_sat).elim
 have hx4:=hx3.trans he1
 have n1:=Box.new w1 lp0 31
 have p1:=n1.put [Value.int .i64 1,.slice (some ⟨bp,0,none⟩) 1 1,nsl] (by rfl)
 have e1:Ext w1 (setCells (w1.alloc (.cells lp0.toArray 31)) ⟨w1.heap.size,0,none⟩ 0 [Value.int .i64 1,.slice (some ⟨bp,0,none⟩) 1 1,nsl]):=((Ext.refl w1).alloc _).put (Nat.le_refl _) _ _
 refine⟨_,_,_,_,_,_,_,_,rfl,n1.blk.writable (by decide),?_⟩
 change Called _ 28 _ (setCells (w1.alloc (.cells lp0.toArray 31)) ⟨w1.heap.size,0,none⟩ 0 [Value.int .i64 1,.slice (some ⟨bp,0,none⟩) 1 1,nsl]) _
 have hTp1:zBG _ bp pt 1:=Box.ext hTp e1
 generalize setCells (w1.alloc (.cells lp0.toArray 31)) ⟨w1.heap.size,0,none⟩ 0 [Value.int .i64 1,.slice (some ⟨bp,0,none⟩) 1 1,nsl]=V1 at p1 e1 hTp1 ⊢
 have hx5:=hx4.trans e1
 have q5:=he1.trans e1
 refine Called.of (c28x (X:=aX 2) (A:=A) (n:=1) (c:=2) tm2' (zFM (zDp (by decide)) (by decide) ok2) V1 (r2.ext q5) (hg.ext hx5)) ?_
 rintro v w2 ⟨hL,he2⟩
 rcases hL with ⟨h,_⟩ | ⟨_,by',hby,⟨x,_,_,h,_⟩ | ⟨y,rfl,hTy,href,hyd⟩⟩
 ·exact absurd ok2 h
 ·exact absurd h (a_unsat x)
 have n2:=Box.new w2 lp0 31
 have p2:=n2.put [Value.int .i64 2,nsl,.slice (some ⟨by',0,none⟩) 2 2] (by rfl)
 have e2:Ext w2 (setCells (w2.alloc (.cells lp0.toArray 31)) ⟨w2.heap.size,0,none⟩ 0 [Value.int .i64 2,nsl,.slice (some ⟨by',0,none⟩) 2 2]):=((Ext.refl w2).alloc _).put (Nat.le_refl _) _ _
 refine⟨_,_,_,_,_,_,_,_,rfl,n2.blk.writable (by decide),⟨by decide,by decide⟩,?_⟩
 change Called _ 30 #[_,_,.slice (some ⟨(setCells (w2.alloc (.cells lp0.toArray 31)) ⟨w2.heap.size,0,none⟩ 0 [Value.int .i64 2,nsl,.slice (some ⟨by',0,none⟩) 2 2]).heap.size,0,none⟩) 1 1] ((setCells (w2.alloc (.cells lp0.toArray 31)) ⟨w2.heap.size,0,none⟩ 0 [Value.int .i64 2,nsl,.slice (some ⟨by',0,none⟩) 2 2]).alloc (.cells (SL (fun _=>t1) 1).toArray 9)) _
 have hTy2:zBG _ by' y 2:=Box.ext hTy e2
 generalize setCells (w2.alloc (.cells lp0.toArray 31)) ⟨w2.heap.size,0,none⟩ 0 [Value.int .i64 2,nsl,.slice (some ⟨by',0,none⟩) 2 2]=V2 at p2 e2 hTy2 ⊢
 have e3:=(Ext.refl V2).alloc (.cells (SL (fun _=>t1) 1).toArray 9)
 have b3:=Box.new V2 (SL (fun _=>t1) 1) 9
 generalize hV3:V2.alloc (.cells (SL (fun _=>t1) 1).toArray 9)=V3 at e3 b3 ⊢
 have q6:=((q5.trans he2).trans e2).trans e3
 have hx6:=hx3.trans q6
 have fc:=sm1.fitsC (c:=fun _=>rd t1) (fun j _=>by rw [rd_t1];exact zCQ (by decide))
 refine Called.of (c30 (X:=aX 1) (A:=A) (n:=1) (c:=2) (mc:=1) (t:=fun _=>t1) tm1' (by decide) (fun _ _=>by show t1.size<=_;decide) (fun _=>sm1.fits) (fun _=>fc) V3 (r1.ext q6) b3.blk.sl (hg.ext hx6)) ?_
 rintro v w3 ⟨hO,he3⟩
 have okM:okMax (aX 1) 1 1 (fun _=>t1):=⟨ok1,rfl,fun _ _=>ok_of bs_t1⟩
 rcases hO with ⟨h,_⟩ | ⟨_,⟨_,y2,_,_,_,h,_⟩ | ⟨_,_,_,r,_,_,_,_,_,_,_,h,_⟩ | ⟨bo1,bo2,u,att,po,yo,ho1,ho2,rfl,hu,_,_,_,hB,_⟩⟩
 ·exact absurd okM h
 ·exact (farkas h a_sat).elim
 ·exact absurd h (a_noray rd_t1)
 obtain⟨hk1,rfl⟩:=a_best rd_t1 hB
 have eu:bs u=[49]:=by rw [hu];exact (congrArg txtQ hk1).trans (bs_t1.symm.trans rfl)
 have n3:=Box.new w3 (ob 0 { data:=#[] } false nsl nsl nsl) 38
 have p3:=n3.put (ob 1 u true (.slice (some ⟨bo1,0,none⟩) 1 1) (.slice (some ⟨bo2,0,none⟩) 1 1) nsl) (by rfl)
 have e4:Ext w3 (setCells (w3.alloc (.cells (ob 0 { data:=#[] } false nsl nsl nsl).toArray 38)) ⟨w3.heap.size,0,none⟩ 0 (ob 1 u true (.slice (some ⟨bo1,0,none⟩) 1 1) (.slice (some ⟨bo2,0,none⟩) 1 1) nsl)):=((Ext.refl w3).alloc _).put (Nat.le_refl _) _ _
 refine⟨_,_,_,_,_,_,_,_,_,_,_,_,_,rfl,n3.blk.writable (by decide),⟨by decide,by decide⟩,?_⟩
 change Called _ 38 #[_,_,.agg #[.slice (some ⟨(setCells (w3.alloc (.cells (ob 0 { data:=#[] } false nsl nsl nsl).toArray 38)) ⟨w3.heap.size,0,none⟩ 0 (ob 1 u true (.slice (some ⟨bo1,0,none⟩) 1 1) (.slice (some ⟨bo2,0,none⟩) 1 1) nsl)).heap.size,0,none⟩) 1 1,_,_]] ((setCells (w3.alloc (.cells (ob 0 { data:=#[] } false nsl nsl nsl).toArray 38)) ⟨w3.heap.size,0,none⟩ 0 (ob 1 u true (.slice (some ⟨bo1,0,none⟩) 1 1) (.slice (some ⟨bo2,0,none⟩) 1 1) nsl)).alloc (.cells (SL (fun _=>t1) 1).toArray 9)) _
 generalize setCells (w3.alloc (.cells (ob 0 { data:=#[] } false nsl nsl nsl).toArray 38)) ⟨w3.heap.size,0,none⟩ 0 (ob 1 u true (.slice (some ⟨bo1,0,none⟩) 1 1) (.slice (some ⟨bo2,0,none⟩) 1 1) nsl)=V4 at p3 e4 ⊢
 have e5:=(Ext.refl V4).alloc (.cells (SL (fun _=>t1) 1).toArray 9)
 have b5:=Box.new V4 (SL (fun _=>t1) 1) 9
 generalize hV5:V4.alloc (.cells (SL (fun _=>t1) 1).toArray 9)=V5 at e5 b5 ⊢
 have q7:=((q6.trans he3).trans e4).trans e5
 have hx7:=hx3.trans q7
 have smI:Sm6 (impS (aX 1) aR 1):=negR_sm sm1 (by show 1<=14;decide) (fun j _=>by show dg 61 (rd t1);rw [rd_t1];exact zCQ (by decide)) (by show dg 61 (rd t2);exact rd_dg (ok_of bs_t2) (by decide))
 refine Called.of (c38 (X:=aX 1) (X1:=aR) (A:=A) (A1:=⟨fun _=>some ⟨V4.heap.size,0,none⟩,fun _=>1⟩) (n:=1) (c:=2) tm1' (aR_small.tame (by decide)) ⟨fun _ _=>by show t1.size<=_;decide,by show t2.size<=_;decide⟩ rfl (fun _=>smI.fits) V5 (r1.ext q7) b5.blk.sl (hg.ext hx7)) ?_
 rintro v w4 ⟨hI,he4⟩
 rcases hI with ⟨h,_⟩ | ⟨_,⟨h,_⟩ | ⟨_,⟨x,_,h⟩ | ⟨bi,yi,hbi,rfl,_,_,_⟩⟩⟩
 ·exact absurd imp_ok h
 ·exact absurd h (by show ¬ (2:Int)=3;decide)
 ·exact absurd h (a_imp x)
 refine⟨_,_,_,_,_,rfl,fun K hK=>?_⟩
 have hd:=(Ext.refl w4).drew
 have q8:=(q7.trans he4).trans hd
 have hx8:=hx3.trans q8
 have p1':=p1.ext (((((((he2.trans e2).trans e3).trans he3).trans e4).trans e5).trans he4).trans hd)
 have p2':=p2.ext (((((e3.trans he3).trans e4).trans e5).trans he4).trans hd)
 have p3':=p3.ext ((e5.trans he4).trans hd)
 have hTp' : zBG _ bp pt 1:=Box.ext hTp1 (((((((he2.trans e2).trans e3).trans he3).trans e4).trans e5).trans he4).trans hd)
 have hTy' : zBG _ by' y 2:=Box.ext hTy2 (((((e3.trans he3).trans e4).trans e5).trans he4).trans hd)
 refine zAa (fun _=>?_) (fun h=>absurd h (by decide))
 refine⟨_,p1'.blk.cell (j:=0) rfl,zAa (fun _=>?_) (fun h=>absurd h (by decide))⟩
 refine⟨⟨by decide,by decide⟩,_,_,_,p1'.blk.cell (j:=1) rfl,?_⟩
 have hdots:=dots_pt (X:=aX 1) (n:=1) sm1 hptd ok1.nat
 have hpz : ∀ j,j<1->(mk (txtQ (pt j))).size<=70000000:=fun j hj=>Nat.le_trans (zG3 (hptd j hj)) (by decide)
 have hhold:zFZ (aX 1) 1 fun j=>mk (txtQ (pt j)):=zEv.2 (holdsX_of ok1.nat hsat)
 refine Called.of (c24 (X:=aX 1) (A:=A) (nx:=1) (cx:=1) (ca:=2) (t:=fun j=>mk (txtQ (pt j))) tm1' (by decide) (fun j hj=>Nat.le_trans (hpz j hj) (by decide)) (fun S x a b c=>(hdots S x a b c).1) _ (r1.ext q8) hTp'.blk.sl) ?_
 rintro v w6 ⟨⟨b3',rfl,hb3⟩,he6⟩
 have hb3t:=hb3.2 hhold
 subst hb3t
 refine⟨_,rfl,he6,?_⟩
 rw [cond_true]
 refine⟨⟨by decide,by decide⟩,_,_,_,p1'.blk.cell (j:=1) rfl,?_⟩
 refine Called.of (c23 (X:=aX 1) (A:=A) (nx:=1) (cx:=1) (ca:=2) (t:=fun j=>mk (txtQ (pt j))) tm1' (by decide) hpz hdots w6 (r1.ext (q8.trans he6)) (hTp'.blk.sl.ext he6) (hg.ext (hx8.trans he6))) ?_
 rintro v w7 ⟨⟨b4,rfl,hb4⟩,he7⟩
 have hb4t:=hb4.2 hhold
 subst hb4t
 refine⟨_,rfl,he6.trans he7,zAa (fun _=>?_) (fun h=>absurd h (by decide))⟩
 have q9:=(q8.trans he6).trans he7
 refine⟨_,p2'.blk.cell (j:=0) rfl,zAa (fun _=>?_) (fun h=>absurd h (by decide))⟩
 refine⟨_,_,_,p2'.blk.cell (j:=2) rfl,?_⟩
 have hyd' : ∀ k,k<2->dg 2000000 (rd (mk (txtQ (y k)))):=fun k _=>by rw [rd_mk];exact hyd k
 refine Called.of (c26 (X:=aX 2) (A:=A) (n:=1) (c:=2) (mf:=2) (fc:=2) (t:=fun j=>mk (txtQ (y j))) tm2' (by decide) (fun j _=>Nat.le_trans (zG3 (hyd j)) (by decide)) (fun _ _ _=>⟨fun i hi j hj=>(sm2.C i hi j hj).mono (by decide),fun i hi=>(sm2.K i hi).mono (by decide),fun i hi=>(hyd' i hi).mono (by decide),(sm2.dotsZ hyd').y (by decide)⟩) w7 (r2.ext q9) (hTy'.blk.sl.ext (he6.trans he7)) (hg.ext (hx3.trans q9))) ?_
 rintro v w8 ⟨⟨b5',rfl,hb5⟩,he8⟩
 have hb5t:=hb5.2 (checkX_of ok2 href)
 subst hb5t
 refine⟨_,rfl,(he6.trans he7).trans he8,zAa (fun _=>?_) (fun h=>absurd h (by decide))⟩
 refine⟨_,p3'.blk.cell (j:=0) rfl,zAa (fun _=>?_) (fun h=>absurd h (by decide))⟩
 refine⟨_,p3'.blk.cell (j:=1) rfl,?_⟩
 rw [zAw]
 refine zAd (fun _=>?_) (fun h=>absurd (eu.trans rfl) h)
 refine⟨_,p3'.blk.cell (j:=2) rfl,zAa (fun _=>?_) (fun h=>absurd h (by decide))⟩
 exact hK _ _ ⟨rfl,(hx3.trans q9).trans he8⟩
end Go.Proofs.Si
namespace Go.Proofs.Si
open Go Go.V Go.Proofs Go.RowKit Go.Num Go.Tb Go.Proofs.Tryz
open Go.IntKind (i64 u64 u32 u8)
set_option maxRecDepth 100000
def vc9 (n:Int) (A:Option Addr) (B C:Nat) (D:Option Addr) (E F:Nat) (G:Int) (H:ByteArray) (w:World) (R:RT):Prop :=
 ∀ (K:KT),(∀ (b:Bool) (w1:World),(bif b then Cd 21 #[] w1 fun v w2=>∃ b1,v=Bv b1/\R (Bv b1) w2 else Cd 22 #[Lv A B C] w1 fun v1 w3=>∃ p k k1,v1=Lv p k k1/\∃ p1 k2 k3 n1 s,vcells w3 (Ad w.heap.size 0) 0 [Lv p1 k2 k3,Iv n1,Sv s]/\Cd 38 #[Iv n,Lv p k k1,.agg #[Lv p1 k2 k3,Iv n1,Sv s]] w3 fun v2 w4=>∃ b2 p2 k4 k5 n2,v2 = .tuple #[Bv b2,Lv p2 k4 k5,Iv n2]/\Cd 25 #[Lv p k k1,Lv A B C] w4 fun v3 w5=>∃ b3,v3=Bv b3/\bif !b3 then R (Bv false) w5 else ∀ (K1:KT),(∀ (b4:Bool) (w6:World),(bif b4 then ∀ (K2:KT),(∀ (b5:Bool) (w7:World),R (Bv b5) w7->K2 [Bv b5] w7)->bif n2==1&&!b2 then bif (↑k4:Int)==0 then Cd 21 #[] w6 fun v4 w8=>∃ b6,v4=Bv b6/\K2 [Bv b6] w8 else K2 [Bv false] w6 else K2 [Bv false] w6 else ∃ n3,w6.cell? (Ad w.heap.size 1)=some (Iv n3)/\bif n3==3 then ∀ (K3:KT),(∀ (b7:Bool) (w9:World),R (Bv b7) w9->K3 [Bv b7] w9)->bif n2==8&&!b2 then bif (↑k4:Int)==0 then Cd 21 #[] w6 fun v5 w10=>∃ b8,v5=Bv b8/\K3 [Bv b8] w10 else K3 [Bv false] w6 else K3 [Bv false] w6 else bif n2 != 0 then R (Bv false) w6 else ∀ (K4:KT),(∀ (p3:Option Addr) (k6 k7:Nat) (w11:World),(bif b2 then ∀ (K5:KT),(∀ (b9:Bool) (w12:World),R (Bv b9) w12->K5 [Bv b9] w12)->Cd 31 #[Iv (↑k6:Int),Lv p2 k4 k5] w11 fun v6 w13=>∃ b10,v6=Bv b10/\bif b10 then Cd 41 #[Iv n,Lv p3 k6 k7,Lv p2 k4 k5] w13 fun v7 w14=>∃ b11,v7=Bv b11/\bif b11 then Cd 21 #[] w14 fun v8 w15=>∃ b12,v8=Bv b12/\K5 [Bv b12] w15 else K5 [Bv false] w14 else K5 [Bv false] w13 else Cd 28 #[Iv n,Lv p3 k6 k7] w11 fun v9 w16=>∃ n4 p4 k8 k9 p5 k10 k11 n5,v9 = .tuple #[.agg #[Iv n4,Lv p4 k8 k9,Lv p5 k10 k11],Iv n5]/\writable (w16.alloc (.cells #[Iv 0,Lv none 0 0,Lv none 0 0] 31)) (Ad w16.heap.size 0) 3/\∀ (K6:KT),(∀ (b13:Bool) (w17:World),R (Bv b13) w17->K6 [Bv b13] w17)->bif (↑k4:Int)==0 then bif decide ((↑k6:Int)>200) then Cd 21 #[] (setCells (w16.alloc (.cells #[Iv 0,Lv none 0 0,Lv none 0 0] 31)) (Ad w16.heap.size 0) 0 [Iv n4,Lv p4 k8 k9,Lv p5 k10 k11]) fun v10 w18=>∃ b14,v10=Bv b14/\K6 [Bv b14] w18 else bif n5==0 then ∃ n6,(setCells (w16.alloc (.cells #[Iv 0,Lv none 0 0,Lv none 0 0] 31)) (Ad w16.heap.size 0) 0 [Iv n4,Lv p4 k8 k9,Lv p5 k10 k11]).cell? (Ad w16.heap.size 0)=some (Iv n6)/\bif n6==1 then Cd 21 #[] (setCells (w16.alloc (.cells #[Iv 0,Lv none 0 0,Lv none 0 0] 31)) (Ad w16.heap.size 0) 0 [Iv n4,Lv p4 k8 k9,Lv p5 k10 k11]) fun v11 w19=>∃ b15,v11=Bv b15/\K6 [Bv b15] w19 else K6 [Bv false] (setCells (w16.alloc (.cells #[Iv 0,Lv none 0 0,Lv none 0 0] 31)) (Ad w16.heap.size 0) 0 [Iv n4,Lv p4 k8 k9,Lv p5 k10 k11]) else K6 [Bv false] (setCells (w16.alloc (.cells #[Iv 0,Lv none 0 0,Lv none 0 0] 31)) (Ad w16.heap.size 0) 0 [Iv n4,Lv p4 k8 k9,Lv p5 k10 k11]) else K6 [Bv false] (setCells (w16.alloc (.cells #[Iv 0,Lv none 0 0,Lv none 0 0] 31)) (Ad w16.heap.size 0) 0 [Iv n4,Lv p4 k8 k9,Lv p5 k10 k11]))->K4 [Lv p3 k6 k7] w11)->∃ p6 k12 k13 n7 s1,vcells w6.drew (Ad w.heap.size 0) 0 [Lv p6 k12 k13,Iv n7,Sv s1]/\RowKit.Below w6.drew.heap.size w6.drew (w6.drew.alloc (.cells #[] 49))/\∃ k14 vs vs1,AppOk (w6.drew.alloc (.cells #[] 49)) k14 49 3 48 (some ⟨w6.drew.heap.size,0,none⟩) 0 0 vs A B vs1/\∀ (p7:Option Addr) (k15:Nat) (w20:World),AppRes (w6.drew.alloc (.cells #[] 49)) w20 k14 49 3 (some ⟨w6.drew.heap.size,0,none⟩) 0 0 vs B vs1 p7 k15->RowKit.Below w6.drew.heap.size w6.drew w20/\Cd 40 #[.agg #[Lv p6 k12 k13,Iv n7,Sv s1]] w20 fun v12 w21=>∃ p8 k16 k17 n8 s2,v12 = .agg #[Lv p8 k16 k17,Iv n8,Sv s2]/\∃ k18 vs2 vs3,AppOk (w21.alloc (.cells #[Lv p8 k16 k17,Iv n8,Sv s2] 49)) k18 49 3 48 p7 (0+B) k15 vs2 (some (Ad w21.heap.size 0)) 1 vs3/\∀ (p9:Option Addr) (k19:Nat) (w22:World),AppRes (w21.alloc (.cells #[Lv p8 k16 k17,Iv n8,Sv s2] 49)) w22 k18 49 3 p7 (0+B) k15 vs2 1 vs3 p9 k19->K4 [Lv p9 (0+B+1) k19] w22)->K1 [Bv b4] w6)->Cd 29 #[Iv n,Lv A B C] w5 fun v13 w23=>∃ b16,v13=Bv b16/\bif !b16 then K1 [Bv true] w23 else ∃ p10 k20 k21 n9 s3,vcells w23 (Ad w.heap.size 0) 0 [Lv p10 k20 k21,Iv n9,Sv s3]/\Cd 39 #[Iv n,.agg #[Lv p10 k20 k21,Iv n9,Sv s3]] w23 fun v14 w24=>∃ b17,v14=Bv b17/\K1 [Bv !b17] w24)->K [Bv b] w1)->∃ p11 k22 k23,(w.alloc (.cells #[Lv D E F,Iv G,Sv H] 49)).cell? (Ad w.heap.size 0)=some (Lv p11 k22 k23)/\Cd 20 #[Iv n,Lv A B C,Lv (some ⟨(w.alloc (.cells #[Lv D E F,Iv G,Sv H] 49)).heap.size,0,none⟩) 1 1] ((w.alloc (.cells #[Lv D E F,Iv G,Sv H] 49)).alloc (.cells #[Lv p11 k22 k23] 23)) fun v15 w25=>∃ b18,v15=Bv b18/\bif b18 then K [Bv true] w25 else ∃ s4,w25.cell? (Ad w.heap.size 2)=some (Sv s4)/\K [Bv (decide ((↑s4.size:Int)>60))] w25
theorem run9 (n:Int) (A:Option Addr) (B C:Nat) (D:Option Addr) (E F:Nat) (G:Int) (H:ByteArray) (w:World) (R:RT) (h:vc9 n A B C D E F G H w R):Ret prog 9 #[.int .i64 n,.slice A B C,.agg #[.slice D E F,.int .i64 G,.string H]] w R :=
 zAc zAj func9 (Eq.mp (by kernel_rfl) h)
theorem lists1 {w:World} {a:Option Addr} {n c:Nat} {t:Nat->ByteArray} (h:SS w a t n):ListsT (w.alloc (.cells #[.slice a n c] 23)) (some ⟨w.heap.size,0,none⟩) ⟨fun _=>a,fun _=>n,fun _=>c,fun _=>t⟩ 1 :=
 ⟨(Box.new w [.slice a n c] 23).blk.sl,fun _ _=>h.ext ((Ext.refl w).alloc _)⟩
theorem zFj (X:TX):X.m=X.m/\∀ i,i<X.m->sameRow X X i:=⟨rfl,fun i _=>sameRow.refl X i⟩
theorem zBT {w w1:World} {K:Value->World->Prop} (hg:Gl w) (hx:Ext w w1) (h : ∀ w2,Ext w w2->K (.bool true) w2):Called prog 21 #[] w1 fun v w2=>∃ b,v = .bool b/\K (.bool b) w2 :=
 Called.of (c21 w1 (hg.ext hx)) fun v w2 ⟨hv,he⟩=>⟨true,hv,h w2 (hx.trans he)⟩
theorem zEc {w w1:World} (hg:Gl w) (hx:Ext w w1):Called prog 21 #[] w1 fun v w2=>∃ b,v = .bool b/\(fun (v:Value) (w' : World)=>v = .bool true/\Ext w w') (.bool b) w2 :=
 zBT (K:=fun v w'=>v = .bool true/\Ext w w') hg hx fun w2 h2=>⟨rfl,h2⟩
theorem zFK {X:TX} (h:smallX X 14 60):X.m<=1000000/\∀ i,i<X.m->X.n i<=1000000:=⟨Nat.le_trans h.1 (by decide),fun i hi=>Nat.le_trans (h.2 i hi).2.1 (by decide)⟩
end Go.Proofs.Si
namespace Go.Proofs.Si
open Go Go.V Go.Proofs Go.RowKit Go.Num Go.Tb Go.Proofs.Tryz
set_option maxRecDepth 100000
end Go.Proofs.Si
