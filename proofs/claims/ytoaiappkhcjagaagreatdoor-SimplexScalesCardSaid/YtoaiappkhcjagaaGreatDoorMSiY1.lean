/- Part of the proof: SiY1, SiY2, SiY3, SiY4, SiY5, SiY6, SiY7. -/
import Derived.Test.YtoaiappkhcjagaaGreatDoorMSiW3
import Derived.Test.YtoaiappkhcjagaaGreatDoorSiV6
import Derived.Test.YtoaiappkhcjagaaGreatDoorMTbD
set_option linter.unusedVariables false
set_option linter.unusedSimpArgs false
namespace Go.Proofs.Si
open Go Go.V Go.Proofs Go.RowKit Go.Num Go.Tb Go.Proofs.Tryz
set_option maxRecDepth 100000
theorem zGB {a b:V2} {eps:Rat} (ha:dg2 2000000 a) (hb:dg2 2000000 b) (he:dg 9000000 eps):dg 9000000 (below eps a b):=by
 unfold below
 split
 ·split
  ·exact (((hb.1.sub ha.1).mul (ha.2.sub hb.2).inv)).mono (by decide)
  ·exact he
 ·exact he
set_option maxHeartbeats 2000000 in
theorem c165 {a b:V2} {eps:Rat} {eb:Nat} (ha:dg2 2000000 a) (hb:dg2 2000000 b) (he:dg 9000000 eps) (w:World) (hE:Box w eb 88 (qc eps)) (hg:Gl w) (hgb : ∀ w',Below eb w w'->Gl w') :
  Ret prog 165 #[vv a,vv b,.pointer (some ⟨eb,0,none⟩)] w fun r w'=>r = .tuple #[]/\Box w' eb 88 (qc (below eps a b))/\Below eb w w':=by
 have hx1:=(Ext.refl w).alloc (.cells (vc2 a).toArray 101)
 have hx2:=(Ext.refl (w.alloc (.cells (vc2 a).toArray 101))).alloc (.cells (vc2 b).toArray 101)
 have hA:=(Box.new w (vc2 a) 101).ext hx2
 have hBb:=Box.new (w.alloc (.cells (vc2 a).toArray 101)) (vc2 b) 101
 have hxx:=hx1.trans hx2
 have hlt:=hE.lt
 refine run165 _ _ _ _ _ _ _ _ _ _ _ _ _ _ _ fun K hK=>?_
 refine⟨_,_,_,hA.r,_,_,_,hBb.r,Called.of (c67 (ha.1.mono (by decide)) (hb.1.mono (by decide)) _ (hg.ext hxx)) ?_⟩
 rintro r w13 ⟨rfl,he13⟩
 have hx13:=hxx.trans he13
 have no : ∀ w1,Ext w w1->¬ (a.1<b.1/\b.2<a.2)->K [.bool false] w1:=by
  intro w1 h1 hn
  refine hK false w1 ?_
  rw [cond_false]
  refine⟨rfl,?_,Below.mono h1 (Nat.le_of_lt hlt)⟩
  rw [below,if_neg hn]
  exact hE.ext h1
 refine⟨_,rfl,zAd (fun hlt1=>?_) (fun hge1=>?_)⟩
 ·refine⟨_,_,_,(hA.ext he13).e,_,_,_,(hBb.ext he13).e,Called.of (c67 (ha.2.mono (by decide)) (hb.2.mono (by decide)) _ ((hg.ext hxx).ext he13)) ?_⟩
  rintro r w14 ⟨rfl,he14⟩
  have hx14:=hx13.trans he14
  refine⟨_,rfl,?_⟩
  by_cases hgt:cmpQ a.2 b.2>0
  ·rw [decide_eq_true hgt]
   have hc:a.1<b.1/\b.2<a.2:=⟨zCT.1 hlt1,zE0.1 hgt⟩
   refine hK true w14 ?_
   rw [cond_true]
   intro K1 hK1
   have hxd:=hx14.drew
   have hAd:=((hA.ext he13).ext he14).ext (Ext.refl _).drew
   have hBd:=((hBb.ext he13).ext he14).ext (Ext.refl _).drew
   have d1:=hb.1.sub ha.1
   have d2:=ha.2.sub hb.2
   have h0:a.2 - b.2≠0:=by have:=hc.2;grind
   have d3:dg 9000000 ((b.1 - a.1)*(a.2 - b.2)⁻¹):=(d1.mul d2.inv).mono (by decide)
   have cont : ∀ c w2,w.heap.size<=c->Box w2 c 88 (qc ((b.1 - a.1)*(a.2 - b.2)⁻¹))->Ext w w2->K1 [.pointer (some ⟨c,0,none⟩)] w2:=by
    intro c w2 hcs hC h2
    refine hK1 _ w2 ⟨_,_,_,hC.blk.all,_,_,_,(hE.ext h2).blk.all,Called.of (c67 (d3.mono (by decide)) (he.mono (by decide)) _ (hg.ext h2)) ?_⟩
    rintro r w3 ⟨rfl,he3⟩
    have h3:=h2.trans he3
    have hE3:=hE.ext h3
    have hbl:=Below.mono h3 (Nat.le_of_lt hlt)
    refine⟨_,rfl,zAd (fun hl=>?_) (fun hl=>?_)⟩
    ·refine⟨_,_,_,(hC.ext he3).blk.all,hE3.blk.writable (Nat.le_refl 3),rfl,?_,Below.trans hbl (zAr (Nat.le_refl _) _ _)⟩
     rw [below,if_pos hc,if_pos (zCT.1 hl)]
     exact hE3.put _ (by rfl)
    ·refine⟨rfl,?_,hbl⟩
     rw [below,if_pos hc,if_neg (fun h=>hl (zCT.2 h))]
     exact hE3
   have put : ∀ {w2 w3:World},Ext w w2->Box w3 w2.heap.size 88 zq->Ext w2 w3->writable w3 ⟨w2.heap.size,0,none⟩ 3/\K1 [.pointer (some ⟨w2.heap.size,0,none⟩)] (setCells w3 ⟨w2.heap.size,0,none⟩ 0 (qc ((b.1 - a.1)*(a.2 - b.2)⁻¹))):=by
    intro w2 w3 h2 hN h3
    exact⟨hN.blk.writable (by decide),cont _ _ h2.size (hN.put _ (by rfl)) ((h2.trans h3).put h2.size _ _)⟩
   have hz:=fun (u:World)=>(Ext.refl u).alloc (.cells zq.toArray 88)
   refine⟨_,_,_,hBd.r,_,_,_,hAd.r,_,_,_,hAd.e,_,_,_,hBd.e,?_,hz _,?_⟩
   ·refine Called.of (c114 (hb.1.mono (by decide)) (ha.1.mono (by decide)) _ (hg.ext hxd)) ?_
    rintro r w4 ⟨rfl,he4⟩
    have hx4:=hxd.trans he4
    refine⟨_,_,_,rfl,he4,?_,he4.trans (hz _),?_⟩
    ·refine Called.of (c114 (ha.2.mono (by decide)) (hb.2.mono (by decide)) _ (hg.ext hx4)) ?_
     rintro r w5 ⟨rfl,he5⟩
     have hx5:=hx4.trans he5
     refine⟨_,_,_,rfl,?_,(he4.trans he5).trans (hz _),?_⟩
     ·refine Called.of (c146 (d1.mono (by decide)) (d2.mono (by decide)) h0 _ (hg.ext hx5)) ?_
      rintro r w6 ⟨rfl,he6⟩
      exact⟨_,_,_,rfl,((he4.trans he5).trans he6).trans (hz _),put (hx5.trans he6) (Box.new w6 zq 88) (hz _)⟩
     ·refine Called.of (c146 (d1.mono (by decide)) (d2.mono (by decide)) h0 _ (hg.ext (hx5.trans (hz _)))) ?_
      rintro r w7 ⟨rfl,he7⟩
      exact⟨_,_,_,rfl,put hx5 ((Box.new w5 zq 88).ext he7) ((hz _).trans he7)⟩
    ·refine Called.of (c114 (ha.2.mono (by decide)) (hb.2.mono (by decide)) _ (hg.ext (hx4.trans (hz _)))) ?_
     rintro r w8 ⟨rfl,he8⟩
     have hx8:=(hx4.trans (hz _)).trans he8
     refine⟨_,_,_,rfl,Called.of (c146 (d1.mono (by decide)) (d2.mono (by decide)) h0 _ (hg.ext hx8)) ?_⟩
     rintro r w9 ⟨rfl,he9⟩
     exact⟨_,_,_,rfl,put hx4 (((Box.new w4 zq 88).ext he8).ext he9) (((hz _).trans he8).trans he9)⟩
   ·refine Called.of (c114 (hb.1.mono (by decide)) (ha.1.mono (by decide)) _ (hg.ext (hxd.trans (hz _)))) ?_
    rintro r w10 ⟨rfl,he10⟩
    have hx10:=(hxd.trans (hz _)).trans he10
    refine⟨_,_,_,rfl,(hz _).trans he10,Called.of (c114 (ha.2.mono (by decide)) (hb.2.mono (by decide)) _ (hg.ext hx10)) ?_⟩
    rintro r w11 ⟨rfl,he11⟩
    have hx11:=hx10.trans he11
    refine⟨_,_,_,rfl,Called.of (c146 (d1.mono (by decide)) (d2.mono (by decide)) h0 _ (hg.ext hx11)) ?_⟩
    rintro r w12 ⟨rfl,he12⟩
    exact⟨_,_,_,rfl,put hxd ((((Box.new w14.drew zq 88).ext he10).ext he11).ext he12) ((((hz _).trans he10).trans he11).trans he12)⟩
  ·rw [decide_eq_false hgt]
   exact no _ hx14 (fun h=>hgt (zE0.2 h.2))
 ·exact no _ hx13 (fun h=>hge1 (zCT.2 h.1))
end Go.Proofs.Si
namespace Go.Proofs.Si
open Go Go.V Go.Proofs Go.RowKit Go.Num Go.Tb Go.Proofs.Tryz
open Go.IntKind (i64 u64 u32 u8)
set_option maxRecDepth 100000
theorem v1 {w:World} {ad:Addr} {v:V2} (h:vcells w ad 0 (vc2 v)):vcells w ad 0 (qc v.1):=by
 rw [zAC] at h ⊢
 intro j x hj
 have hj3:j<3:=(List.getElem?_eq_some_iff.1 hj).1
 exact h j x (by
  match j,hj3 with
  | 0,_=>exact hj
  | 1,_=>exact hj
  | 2,_=>exact hj)
theorem v2 {w:World} {b o k:Nat} {v:V2} (h:vcells w ((⟨b,o,none⟩:Addr).add k) 0 (vc2 v)):vcells w (((⟨b,o,none⟩:Addr).add k).add 3) 0 (qc v.2):=by
 rw [zAk] at h ⊢
 rw [zAC] at h ⊢
 intro j x hj
 have hj3:j<3:=(List.getElem?_eq_some_iff.1 hj).1
 have:=h (3+j) x (by
  match j,hj3 with
  | 0,_=>exact hj
  | 1,_=>exact hj
  | 2,_=>exact hj)
 rw [<- this,zAk,zAk,zAk,show o+k+3+(0+j)=o+k+(0+(3+j)) by omega]
theorem zEx {S:Tb.Sys} {s:Dy} (hS:Short S 2000000) (hv : ∀ v,v<S.n+S.m->dg2 2000000 (s.val v)) : ∀ k,k<=S.m->dg 9000000 (epsF S s k)
 | 0,_=>zCQ (by decide)
 | k+1,hk=>by
  have ih:=zEx hS hv k (by omega)
  have hvl:S.n+k<S.n+S.m:=by omega
  rw [epsF,zCe]
  have h1:dg 9000000 (match upper S (S.n+k) with | some u=>below (epsF S s k) (s.val (S.n+k)) u | none=>epsF S s k):=by
   cases hu:upper S (S.n+k) with
   | none=>exact ih
   | some u=>exact zGB (hv _ hvl) (zEH hS hvl hu) ih
  cases hl:lower S (S.n+k) with
  | none=>exact h1
  | some l=>exact zGB (zDh hS hvl hl) (hv _ hvl) h1
set_option maxHeartbeats 4000000 in
theorem c124 {S:Tb.Sys} {B:Nat} {T:Lay} {s:Dy} (hf:Few S) (hS:Short S 2000000) (hv : ∀ v,v<S.n+S.m->dg2 2000000 (s.val v)) (w:World) (hT:TabAt S B w T s) :
  Ret prog 124 #[.pointer (some ⟨T.bt,0,none⟩)] w fun r w'=>r=qv (zBS S s)/\Ext w w':=by
 have hB:=hT.hB
 have hf':=hf
 unfold Few at hf'
 have hx0:=(Ext.refl w).alloc (.cells zq.toArray 88)
 have hN0:=Box.new w zq 88
 refine run124 _ _ _ (Called.of (c130 1 (by decide) _ (hT.ext hx0 hB).gg) ?_)
 rintro r w1 ⟨rfl,he1⟩
 have hx1:=hx0.trans he1
 have hNe:=Box.new w1 zq 88
 have hxe:Ext w (setCells (w1.alloc (.cells zq.toArray 88)) ⟨w1.heap.size,0,none⟩ 0 (qc ((1:Int):Rat))):=(hx1.alloc _).put hx1.size _ _
 have hE0:=hNe.put (qc ((1:Int):Rat)) (by rfl)
 have hN1:Box (setCells (w1.alloc (.cells zq.toArray 88)) ⟨w1.heap.size,0,none⟩ 0 (qc ((1:Int):Rat))) w.heap.size 88 zq:=((hN0.ext he1).ext ((Ext.refl w1).alloc _)).away zAb (by have:=(hN0.ext he1).lt;omega)
 have heb:w.heap.size<w1.heap.size:=(hN0.ext he1).lt
 refine⟨_,_,_,rfl,hNe.blk.writable (by decide),_,(hT.ext hxe hB).f0,fun vals w2=>∃ k:Nat,vals=[.int .i64 ((S.n+k:Nat):Int)]/\k<=S.m/\Box w2 w1.heap.size 88 (qc (epsF S s k))/\Box w2 w.heap.size 88 zq/\Ext w w2,mu1 (S.n+S.m),⟨0,rfl,Nat.zero_le _,hE0,hN1,hxe⟩,?_⟩
 clear hE0 hN1 hxe hNe hx1 he1 hN0 hx0
 rintro m w2 ⟨k,hvk,hk,hE,hN,he2⟩
 cases hvk
 have hT2:=hT.ext he2 hB
 have hBe:B<=w1.heap.size:=by omega
 have glb : ∀ {w3:World},Ext w w3->∀ w4,Below w1.heap.size w3 w4->Gl w4:=fun h3 w4 h4=>(hT.ext h3 hB).gl w4 (Below.mono h4 hBe)
 have ext3 : ∀ {w3 w4:World},Ext w w3->Below w1.heap.size w3 w4->Ext w w4:=fun h3 h4=>Below.trans h3 (Below.mono h4 (Nat.le_of_lt heb))
 refine⟨_,_,_,hT2.f6,zAd (fun hlt=>?_) (fun hge=>?_)⟩
 ·have hkm:k<S.m:=by omega
  have hvl:S.n+k<S.n+S.m:=by omega
  have hup:upper S (S.n+k)=some (ub S (S.n+k)):=by rw [upper,if_neg (by omega)]
  intro K hK
  refine Called.of (c159 hf hvl w2 hT2 hT2.hB hT2.gg) ?_
  rintro r w6 ⟨rfl,he6⟩
  rw [ov_eq,hup]
  have hx7:Ext w2 (setCells (w6.alloc (.cells zv.toArray 101)) ⟨w6.heap.size,0,none⟩ 0 (vc2 (ub S (S.n+k)))).drew:=((he6.alloc _).put he6.size _ _).drew
  have hU:=((Box.new w6 zv 101).put (vc2 (ub S (S.n+k))) (by rfl)).ext (Ext.refl _).drew
  have hT7:=hT2.ext hx7 hT2.hB
  have hx7':=he2.trans hx7
  refine⟨_,_,_,_,_,_,_,rfl,(Box.new w6 zv 101).blk.writable (by decide),?_⟩
  have hub:=ub_dg hS (Nat.le_add_right S.n k) hvl
  have ih:=zEx hS hv k hk
  refine⟨_,_,_,hT7.f6,_,rfl,⟨by omega,by omega⟩,_,_,_,_,_,_,hT7.valAt (v:=S.n+k) hvl,_,_,_,_,_,_,hU.blk.all,Called.of (c165 (hv _ hvl) hub ih _ (hE.ext hx7) hT7.gg (glb hx7')) ?_⟩
  rintro r w7 ⟨rfl,hE7,hbl7⟩
  have hx8:=ext3 hx7' hbl7
  have hN8:Box w7 w.heap.size 88 zq:=(hN.ext hx7).same (hbl7.block _ heb)
  have hT8:=hT.ext hx8 hB
  refine⟨rfl,hK _ ?_⟩
  have d7:=zGB (hv _ hvl) hub ih
  refine Called.of (c161 hf hvl w7 hT8 hT8.hB hT8.gg) ?_
  rintro r w4 ⟨rfl,he4⟩
  rw [ov_eq]
  have hx9:Ext w7 (setCells (w4.alloc (.cells zv.toArray 101)) ⟨w4.heap.size,0,none⟩ 0 (vc2 ((lower S (S.n+k)).getD zero2))):=(he4.alloc _).put he4.size _ _
  have hL:=((Box.new w4 zv 101).put (vc2 ((lower S (S.n+k)).getD zero2)) (by rfl))
  refine⟨_,_,_,_,_,_,_,rfl,(Box.new w4 zv 101).blk.writable (by decide),?_⟩
  have hw:i64.wrap (((S.n+k:Nat):Int)+1)=((S.n+(k+1):Nat):Int):=by rw [zAh (by omega)];rfl
  rw [hw]
  have hmu : ∀ w5,mu1 (S.n+S.m) [.int .i64 ((S.n+(k+1):Nat):Int)] w5<mu1 (S.n+S.m) [.int .i64 ((S.n+k:Nat):Int)] w2:=fun _=>by simp only [mu1,Int.toNat_natCast];omega
  cases hlo:lower S (S.n+k) with
  | none =>
   rw [hlo] at hx9
   refine⟨⟨k+1,rfl,hkm,?_,hN8.ext hx9,hx8.trans hx9⟩,hmu _⟩
   rw [epsF,zCe,hup,hlo]
   exact hE7.ext hx9
  | some l =>
   rw [hlo] at hx9 hL
   have hx9d:=hx9.drew
   have hx10:=hx8.trans hx9d
   have hT10:=hT.ext hx10 hB
   refine⟨_,_,_,_,_,_,(hL.ext (Ext.refl _).drew).blk.all,_,_,_,hT10.f6,_,rfl,⟨by omega,by omega⟩,_,_,_,_,_,_,hT10.valAt (v:=S.n+k) hvl,Called.of (c165 (zDh hS hvl hlo) (hv _ hvl) d7 _ (hE7.ext hx9d) hT10.gg (glb hx10)) ?_⟩
   rintro r w5 ⟨rfl,hE5,hbl5⟩
   refine⟨rfl,⟨k+1,rfl,hkm,?_,?_,ext3 hx10 hbl5⟩,hmu _⟩
   ·rw [epsF,zCe,hup,hlo]
    exact hE5
   ·exact (hN8.ext hx9d).same (hbl5.block _ heb)
 ·have ek:k=S.m:=by omega
  subst ek
  obtain⟨p1,p2,p3⟩:=qput (epsF S s S.m) hN he2 (Nat.le_refl _)
  exact⟨_,_,_,hE.blk.all,p1,_,_,_,p2,rfl,p3⟩
set_option maxHeartbeats 4000000 in
theorem c73 {S:Tb.Sys} {B:Nat} {T:Lay} {s:Dy} {rel:Bool} (hf:Few S) (hS:Short S 2000000) (hv : ∀ v,v<S.n+S.m->dg2 2000000 (s.val v)) (w:World) (hT:TabAt S B w T s) :
  Ret prog 73 #[.pointer (some ⟨T.bt,0,none⟩),.bool rel] w fun r w'=>∃ b,r = .slice (some ⟨b,0,none⟩) S.n S.n/\w.heap.size<=b/\Box w' b 88 (QL (zB0 s (if rel then 0 else zBS S s)) S.n)/\Ext w w':=by
 have hB:=hT.hB
 have hf':=hf
 unfold Few at hf'
 have hx0:=(Ext.refl w).alloc (.cells zq.toArray 88)
 have hN0:=Box.new w zq 88
 have hed:=zEx hS hv S.m (Nat.le_refl _)
 refine run73 _ _ _ _ fun K hK=>?_
 have main : ∀ (eps:Rat) w1,dg 9000000 eps->eps=(if rel then 0 else zBS S s)->Box w1 w.heap.size 88 (qc eps)->Ext w w1->K [] w1:=by
  intro eps w1 hd heps hE hx1
  refine hK w1 ?_
  have hT1:=hT.ext hx1 hB
  refine⟨_,hT1.f0,⟨by omega,by omega,by omega,by omega⟩,?_⟩
  simp only [Int.toNat_natCast,zFf]
  have e0:madeCells (Value.agg #[Value.int .i64 0,.int .i64 0,.string { data:=#[] }]).cells (S.n*3)=(QL (fun _=>0) S.n).toArray:=zD8 S.n
  rw [e0]
  have hlt1:=hE.lt
  refine⟨fun vals w2=>∃ k:Nat,vals=[.int .i64 k]/\k<=S.n/\Box w2 w1.heap.size 88 (QL (part (zB0 s eps) (fun _=>0) k) S.n)/\Box w2 w.heap.size 88 (qc eps)/\Ext w w2,mu1 S.n,⟨0,rfl,Nat.zero_le _,by rw [zBu];exact Box.new w1 _ 88,hE.ext ((Ext.refl w1).alloc _),hx1.alloc _⟩,?_⟩
  clear hT1 hE
  rintro m w2 ⟨k,hvk,hk,hM,hE,he2⟩
  cases hvk
  refine zAd (fun hlt=>?_) (fun hge=>?_)
  ·have hkn:k<S.n:=by omega
   have hvl:k<S.n+S.m:=by omega
   intro K1 hK1
   have hxd:=he2.drew
   have hTd:=hT.ext hxd hB
   have hMd:=hM.ext (Ext.refl _).drew
   have hEd:=hE.ext (Ext.refl _).drew
   have hval:=hTd.valAt (v:=k) hvl
   refine⟨_,_,_,hTd.f6,_,rfl,⟨by omega,by omega⟩,_,_,_,v1 hval,_,_,_,hTd.f6,_,rfl,⟨by omega,by omega⟩,_,_,_,v2 hval,_,_,_,hEd.blk.all,Called.of (c113 ((hv k hvl).2.mono (by decide)) (hd.mono (by decide)) _ hTd.gg) ?_⟩
   rintro r w4 ⟨rfl,he4⟩
   have hT4:=hTd.ext he4 hTd.hB
   refine⟨_,_,_,rfl,he4,Called.of (c112 ((hv k hvl).1.mono (by decide)) (((hv k hvl).2.mul hd).mono (by decide)) _ hT4.gg) ?_⟩
   rintro r w5 ⟨rfl,he5⟩
   have hM5:=(hMd.ext he4).ext he5
   refine⟨_,_,_,rfl,_,rfl,⟨by omega,by omega⟩,hM5.qwr hkn,hK1 _ ?_⟩
   rw [zAh (by omega)]
   refine⟨⟨k+1,rfl,hkn,?_,?_,?_⟩,by simp only [mu1,Int.toNat_natCast];omega⟩
   ·have:=hM5.qset hkn (zB0 s eps k)
    rw [zBf] at this
    exact this
   ·rw [zAk];exact ((hEd.ext he4).ext he5).away zAb (by omega)
   ·rw [zAk];exact ((hxd.trans he4).trans he5).put hx1.size _ _
  ·have ek:k=S.n:=by omega
   subst ek
   refine⟨w1.heap.size,rfl,hx1.size,?_,he2⟩
   rw [zAT (g:=zB0 s (if rel then 0 else zBS S s)) fun x hx=>by rw [zCC hx,heps]] at hM
   exact hM
 cases rel
 ·refine Called.of (c124 hf hS hv _ (hT.ext hx0 hB)) ?_
  rintro r w6 ⟨rfl,he6⟩
  have hN6:=hN0.ext he6
  refine⟨_,_,_,rfl,hN6.blk.writable (by decide),main (zBS S s) _ hed rfl (hN6.put _ (by rfl)) ((hx0.trans he6).put (Nat.le_refl _) _ _)⟩
 ·refine main 0 _ (zCy (by decide)) rfl ?_ hx0
  rw [zEp];exact hN0
end Go.Proofs.Si
namespace Go.Proofs.Si
open Go Go.V Go.Proofs Go.RowKit Go.Num Go.Tb Go.Proofs.Tryz
set_option maxRecDepth 100000
def zvF (s:Dy) (c:Nat->Rat):Nat->V2
 | 0=>zero2
 | k+1=>add2 (zvF s c k) (zAn (s.val k) (c k))
structure FitsC (S:Tb.Sys) (c:Nat->Rat):Prop where
 sh : ∀ v,v<S.n->dg 1000000 (c v)
 cost : ∀ s,Inv S s->∀ k,k<=S.n->∀ j,j<S.n->dg 40000000 (costF S s c k j)
 zv : ∀ s,Inv S s->∀ k,k<=S.n->dg2 60000000 (zvF s c k)
set_option maxHeartbeats 600000 in
theorem c125 {S:Tb.Sys} {B:Nat} {T:Lay} {s:Dy} {c:Nat->Rat} {ca:Option Addr} {cc:Nat} (hF:Fits S) (hC:FitsC S c) (hI:Inv S s) (w:World) (hT:TabAt S B w T s) (hc:QS w ca c S.n) :
  Ret prog 125 #[.pointer (some ⟨T.bt,0,none⟩),.slice ca S.n cc] w fun r w'=>r = .slice (some ⟨w.heap.size,0,none⟩) S.n S.n/\Box w' w.heap.size 88 (QL (costs S s c) S.n)/\Ext w w':=by
 have hB:=hT.hB
 have hf':=hF.few
 unfold Few at hf'
 have hp:=hI.dict.perm
 have hda:=hF.a s hI
 have hdc:=hC.cost s hI
 refine run125 _ _ _ _ _ _ ⟨_,_,_,hT.f3,⟨by omega,by omega,by omega,by omega⟩,?_⟩
 simp only [Int.toNat_natCast,zFf]
 have e0:madeCells (Value.agg #[Value.int .i64 0,.int .i64 0,.string { data:=#[] }]).cells (S.n*3)=(QL (fun _=>0) S.n).toArray:=zD8 S.n
 rw [e0]
 have hx0:=(Ext.refl w).alloc (.cells (QL (fun _=>0) S.n).toArray 88)
 have hT0:=hT.ext hx0 hB
 refine⟨_,_,_,hT0.f3,fun vals w1=>∃ k:Nat,vals=[.int .i64 k]/\k<=S.n/\Box w1 w.heap.size 88 (QL (part (costF S s c 0) (fun _=>0) k) S.n)/\Ext w w1,mu1 S.n,⟨0,rfl,Nat.zero_le _,by rw [zBu];exact Box.new w _ 88,hx0⟩,?_⟩
 clear hT0 hx0
 rintro m w1 ⟨k,hvk,hk,hM,he1⟩
 cases hvk
 have hT1:=hT.ext he1 hB
 refine zAd (fun hlt=>?_) (fun hge=>?_)
 ·have hkn:k<S.n:=by omega
  obtain⟨a,hac,hcc⟩:=hT1.colsAt (j:=k) hkn
  refine⟨a,hac,⟨by omega,hlt⟩,_,hcc,_,hT1.f0,zAd (fun h1=>?_) (fun h1=>?_)⟩
  ·have hlt2:s.cols k<S.n:=by omega
   obtain⟨b,o,ha,hv⟩:=(hc.ext he1).get hlt2
   refine⟨_,ha,⟨by omega,h1⟩,_,_,_,hv,_,rfl,⟨by omega,hlt⟩,hM.qwr hkn,?_⟩
   rw [zAh (by omega)]
   refine⟨⟨k+1,rfl,hkn,?_,?_⟩,by simp only [mu1,Int.toNat_natCast];omega⟩
   ·have:=hM.qset hkn (costF S s c 0 k)
    rw [zBf] at this
    have e:costF S s c 0 k=c (s.cols k):=by rw [costF,if_pos hlt2]
    rw [e] at this
    exact this
   ·rw [zAk];exact he1.put (Nat.le_refl _) _ _
  ·rw [zAh (by omega)]
   refine⟨⟨k+1,rfl,hkn,?_,he1⟩,by simp only [mu1,Int.toNat_natCast];omega⟩
   rw [zDS (by rw [costF,if_neg (by omega)])]
   exact hM
 have ek:k=S.n:=by omega
 subst ek
 have hM:Box w1 w.heap.size 88 (QL (costF S s c 0) S.n):=by
  rw [zAT (g:=costF S s c 0) fun x hx=>zCC hx] at hM
  exact hM
 refine⟨_,hT1.f0,fun vals w2=>∃ v:Nat,vals=[.int .i64 v]/\v<=S.n/\Box w2 w.heap.size 88 (QL (costF S s c v) S.n)/\Ext w w2,mu1 S.n,⟨0,rfl,Nat.zero_le _,hM,he1⟩,?_⟩
 clear hM he1 hT1 hge
 rintro m w2 ⟨v,hvv,hv,hM,he2⟩
 cases hvv
 have hT2:=hT.ext he2 hB
 refine zAd (fun hlt=>?_) (fun hge=>?_)
 ·have hvn:v<S.n:=by omega
  have hvl:v<S.n+S.m:=by omega
  have hline:=hT2.lineAt (v:=v) hvl
  refine⟨_,_,_,hT2.f4,_,rfl,⟨by omega,by omega⟩,_,hline,fun K hK=>?_⟩
  have skip : ∀ w3,Ext w w3->Box w3 w.heap.size 88 (QL (costF S s c v) S.n)->(∀ j,costF S s c (v+1) j=costF S s c v j)->K [.bool true] w3:=by
   intro w3 h3 hM3 he
   refine hK true w3 ?_
   rw [cond_true,zAh (by omega)]
   exact⟨⟨v+1,rfl,hvn,by rw [zAT fun j _=>he j];exact hM3,h3⟩,by simp only [mu1,Int.toNat_natCast];omega⟩
  refine zAd (fun hneg=>skip _ he2 hM fun j=>by rw [costF,if_pos hneg]) (fun hpos=>?_)
  have hli:=(hp.lin v hvl).1 (by omega)
  have hie:s.line v=((s.line v).toNat:Int):=by omega
  have him:(s.line v).toNat<S.m:=by omega
  have hco : ∀ j,costF S s c (v+1) j=costF S s c v j+c v*s.a (s.line v).toNat j:=fun j=>by rw [costF,if_neg hpos]
  obtain⟨b,o,ha,hcv⟩:=(hc.ext he2).get hvn
  refine⟨_,ha,⟨by omega,hlt⟩,_,_,_,hcv,Called.of (c75 ((hC.sh v hvn).mono (by decide)) w2 hT2.gg) ?_⟩
  rintro r w8 ⟨rfl,he8⟩
  refine⟨_,rfl,?_⟩
  have hx8:=he2.trans he8
  by_cases hz:c v=0
  ·have e:(Tb.sgnQ (c v)==0)=true:=by rw [sgnQ_zero.2 hz];rfl
   rw [e]
   exact skip _ hx8 (hM.ext he8) fun j=>by rw [hco,hz,Rat.zero_mul,Rat.add_zero]
  have e:(Tb.sgnQ (c v)==0)=false:=by
   rw [beq_eq_false_iff_ne];exact fun h=>hz (sgnQ_zero.1 h)
  rw [e]
  refine hK false _ ?_
  rw [cond_false]
  refine⟨fun vals w4=>∃ k:Nat,vals=[.int .i64 k]/\k<=S.n/\Box w4 w.heap.size 88 (QL (part (costF S s c (v+1)) (costF S s c v) k) S.n)/\Ext w w4,mu1 S.n,⟨0,rfl,Nat.zero_le _,by rw [zBu];exact hM.ext he8,hx8⟩,?_⟩
  clear hx8 he8 hT2 hM he2 hcv ha hline
  rintro m w4 ⟨k,hvk,hk,hM,he4⟩
  cases hvk
  refine zAd (fun hlt2=>?_) (fun hge2=>?_)
  ·have hkn:k<S.n:=by omega
   intro K1 hK1
   have hxd:=he4.drew
   have hTd:=hT.ext hxd hB
   have hMd:=hM.ext (Ext.refl _).drew
   have hq:=hMd.qget hkn
   simp only [zEq] at hq
   obtain⟨b,o,ha,hcv⟩:=(hc.ext hxd).get hvn
   obtain⟨a6,haa,hca⟩:=hTd.aAt (i:=(s.line v).toNat) him
   obtain⟨a7,haq,hcq⟩:=hTd.qAt (i:=(s.line v).toNat) (j:=k) him hkn
   refine⟨_,rfl,⟨by omega,hlt2⟩,_,_,_,hq,_,ha,⟨by omega,hlt⟩,_,_,_,hcv,_,_,_,hTd.f5,a6,haa,⟨by omega,by omega⟩,_,_,_,hca,a7,haq,⟨by omega,hlt2⟩,_,_,_,hcq,Called.of (c113 ((hC.sh v hvn).mono (by decide)) ((hda _ him k hkn).mono (by decide)) _ hTd.gg) ?_⟩
   rintro r w6 ⟨rfl,he6⟩
   have hT6:=hTd.ext he6 hTd.hB
   refine⟨_,_,_,rfl,he6,Called.of (c112 ((hdc v (by omega) k hkn).mono (by decide)) (((hC.sh v hvn).mul (hda _ him k hkn)).mono (by decide)) _ hT6.gg) ?_⟩
   rintro r w7 ⟨rfl,he7⟩
   have hM7:=(hMd.ext he6).ext he7
   refine⟨_,_,_,rfl,_,rfl,⟨by omega,hlt2⟩,hM7.qwr hkn,hK1 _ ?_⟩
   rw [zAh (by omega)]
   refine⟨⟨k+1,rfl,hkn,?_,?_⟩,by simp only [mu1,Int.toNat_natCast];omega⟩
   ·have:=hM7.qset hkn (costF S s c (v+1) k)
    rw [zBf,hco] at this
    exact this
   ·rw [zAk];exact ((hxd.trans he6).trans he7).put (Nat.le_refl _) _ _
  ·have ek:k=S.n:=by omega
   subst ek
   rw [zAh (by omega)]
   refine⟨⟨v+1,rfl,hvn,?_,he4⟩,by simp only [mu1,Int.toNat_natCast];omega⟩
   rw [zAT (g:=costF S s c (v+1)) fun x hx=>zCC hx] at hM
   exact hM
 ·have ev:v=S.n:=by omega
  subst ev
  exact⟨trivial,hM,he2⟩
set_option maxHeartbeats 600000 in
theorem c126 {S:Tb.Sys} {B:Nat} {T:Lay} {s:Dy} {d:Nat->Rat} {da:Option Addr} {dc:Nat} (hf:Few S) (hS:Short S 90000000) (hp:Perm S s) (hv : ∀ v,v<S.n+S.m->dg2 90000000 (s.val v)) (hd : ∀ j,j<S.n->dg 90000000 (d j)) (w:World) (hT:TabAt S B w T s) (hD:QS w da d S.n) :
  Ret prog 126 #[.pointer (some ⟨T.bt,0,none⟩),.slice da S.n dc] w fun r w'=>r = .int .i64 (bestV (zBk S s d))/\Ext w w':=by
 have hB:=hT.hB
 have hf':=hf
 unfold Few at hf'
 refine run126 _ _ _ _ _ _ ⟨_,_,_,hT.f3,fun vals w1=>∃ k:Nat,vals=[.int .i64 k,.int .i64 (bestV (first s.cols (zAS S s d) k))]/\k<=S.n/\Ext w w1,mu1 S.n,⟨0,rfl,Nat.zero_le _,Ext.refl _⟩,?_⟩
 rintro m m2 w1 ⟨k,hvk,hk,he1⟩
 cases hvk
 have hT1:=hT.ext he1 hB
 refine zAd (fun hlt=>?_) (fun hge=>?_)
 ·have hkn:k<S.n:=by omega
  have hck:=hp.col k hkn
  obtain⟨a,hac,hcc⟩:=hT1.colsAt (j:=k) hkn
  obtain⟨b,o,ha,hcv⟩:=(hD.ext he1).get hkn
  refine⟨a,hac,⟨by omega,hlt⟩,_,hcc,_,ha,⟨by omega,hlt⟩,_,_,_,hcv,Called.of (c75 ((hd k hkn).mono (by decide)) w1 hT1.gg) ?_⟩
  rintro r w2 ⟨rfl,he2⟩
  refine⟨_,rfl,fun K hK=>?_⟩
  have fin : ∀ x w3,Ext w w3->x=(zAS S s d k&&zCW s.cols k (first s.cols (zAS S s d) k))->K [.bool x] w3:=by
   intro x w3 he3 hx
   refine hK x w3 ?_
   have hn:=zGb hx
   rw [zAh (by omega)]
   cases x
   ·rw [cond_false] at hn ⊢
    exact⟨⟨k+1,by rw [hn],hkn,he3⟩,by simp only [mu1,Int.toNat_natCast];omega⟩
   ·rw [cond_true] at hn ⊢
    exact⟨⟨k+1,by rw [hn],hkn,he3⟩,by simp only [mu1,Int.toNat_natCast];omega⟩
  have hT2:=hT1.ext he2 hT1.hB
  refine zF3 (p:=True) (sgn_ne _) (fun hnz=>?_) (fun hz=>?_)
  ·rw [zGw]
   refine Called.of (c162 hf hS hck.1 (hv _ hck.1) w2 hT2 hT2.hB hT2.gg) ?_
   rintro r w4 ⟨rfl,he4⟩
   have hT4:=hT2.ext he4 hT2.hB
   have hx4:=(he1.trans he2).trans he4
   have hsu:zAS S s d k=free S s.val (s.cols k) (decide (0<d k)):=by rw [zAS,hnz,Bool.true_and]
   refine⟨_,rfl,zAa (fun hfr=>?_) (fun hfr=>?_)⟩
   ·rw [hfr] at hsu
    cases hbe:first s.cols (zAS S s d) k with
    | none =>
     rw [hbe] at fin
     exact fin true w4 hx4 (by rw [hsu];rfl)
    | some b =>
     rw [hbe] at fin
     have hb:=(zAV hbe).1
     obtain⟨a3,hac3,hcc3⟩:=hT4.colsAt (j:=b) (by omega)
     rw [hac] at hac3;cases hac3
     have e:decide (bestV (some b)<0)=false:=decide_eq_false (by show ¬ (b:Int)<0;omega)
     rw [e,cond_false]
     refine⟨_,_,_,hT4.f3,_,hac,⟨by show 0<=(b:Int);omega,by show (b:Int)<_;omega⟩,_,hcc3,fin _ w4 hx4 ?_⟩
     rw [hsu,Bool.true_and,zCW,Bool.eq_iff_iff,decide_eq_true_iff,decide_eq_true_iff]
     omega
   ·exact fin false w4 hx4 (by rw [hsu,show free S s.val (s.cols k) (decide (0<d k))=false by simpa using hfr];rfl)
  ·exact fin false w2 (he1.trans he2) (by rw [zAS,hz];rfl)
 ·have e:k=S.n:=by omega
  subst e
  exact⟨rfl,he1⟩
def accL:Option (Int × V2)->Int
 | none => -1
 | some (l,_)=>l
def accV:Option (Int × V2)->V2
 | none=>zero2
 | some (_,x)=>x
structure AccAt (w0 w:World) (t b0 b1 b2 b3:Nat) (acc:Option (Int × V2)):Prop where
 x0:Box w b0 94 [.pointer (some ⟨t,0,none⟩)]
 x1:Box w b1 4 [.bool acc.isSome]
 x2:Box w b2 101 (vc2 (accV acc))
 x3:Box w b3 3 [.int .i64 (accL acc)]
 g0:w0.heap.size<=b0
 g1:w0.heap.size<=b1
 g2:w0.heap.size<=b2
 g3:w0.heap.size<=b3
 hx:Ext w0 w
theorem AccAt.ext {w0 w w' : World} {t b0 b1 b2 b3:Nat} {acc:Option (Int × V2)} (h:AccAt w0 w t b0 b1 b2 b3 acc) (he:Ext w w'):AccAt w0 w' t b0 b1 b2 b3 acc :=
 { h with x0:=h.x0.ext he,x1:=h.x1.ext he,x2:=h.x2.ext he,x3:=h.x3.ext he,hx:=h.hx.trans he }
theorem AccAt.put {w0 w:World} {t b0 b1 b2 b3:Nat} {acc:Option (Int × V2)} (h:AccAt w0 w t b0 b1 b2 b3 acc) (i:Int) (x:V2) :
  AccAt w0 ((setCells (w.setCell ⟨b3,0,none⟩ (.int .i64 i)) ⟨b2,0,none⟩ 0 (vc2 x)).setCell ⟨b1,0,none⟩ (.bool true)) t b0 b1 b2 b3 (some (i,x)) where
 x0:=((h.x0.away zAe (boxNe h.x0.blk h.x3.blk (by decide))).away zAb (boxNe h.x0.blk h.x2.blk (by decide))).away zAe (boxNe h.x0.blk h.x1.blk (by decide))
 x1:=((h.x1.away zAe (boxNe h.x1.blk h.x3.blk (by decide))).away zAb (boxNe h.x1.blk h.x2.blk (by decide))).set 0 (.bool true)
 x2:=((h.x2.away zAe (boxNe h.x2.blk h.x3.blk (by decide))).put (vc2 x) (by rfl)).away zAe (boxNe h.x2.blk h.x1.blk (by decide))
 x3:=((h.x3.set 0 (.int .i64 i)).away zAb (boxNe h.x3.blk h.x2.blk (by decide))).away zAe (boxNe h.x3.blk h.x1.blk (by decide))
 g0:=h.g0
 g1:=h.g1
 g2:=h.g2
 g3:=h.g3
 hx:=((h.hx.setCell h.g3 _).put h.g2 _ _).setCell h.g1 _
def accC (x:V2):Option (Int × V2)->Int
 | none=>0
 | some (_,st)=>cmp2 x st
theorem acc_takes {s:Dy} {acc:Option (Int × V2)} {i:Int} {v:Nat} {x:V2} {n4:Int} (hn:n4=accC x acc) :
  takes s acc i v x=(!acc.isSome||decide (n4<0)||(decide (n4=0)&&(decide (0<=accL acc)&&(decide (i<0)||decide (v<s.basic (accL acc).toNat))))):=by
 cases acc with
 | none=>rfl
 | some p =>
  obtain⟨l,st⟩:=p
  subst hn
  simp only [takes,accL,accC,Option.isSome,Bool.not_true,Bool.false_or]
  congr
set_option maxHeartbeats 2000000 in
theorem c166 {S:Tb.Sys} {B:Nat} {T:Lay} {s:Dy} {i:Int} {v:Nat} {rate:Rat} {acc:Option (Int × V2)} {b0 b1 b2 b3:Nat} (hf:Few S) (hS:Short S 2000000) (hv:v<S.n+S.m) (hvd:dg2 2000000 (s.val v)) (hr:dg 3000000 rate) (hr0:rate≠0)
  (hacc : ∀ l st,acc=some (l,st)->dg2 8000000 st/\(0<=l->l<S.m)) (w0 w:World) (hT:TabAt S B w0 T s) (hA:AccAt w0 w T.bt b0 b1 b2 b3 acc) :
  Ret prog 166 #[.int .i64 i,.int .i64 v,qv rate,.pointer (some ⟨b0,0,none⟩),.pointer (some ⟨b1,0,none⟩),.pointer (some ⟨b2,0,none⟩),.pointer (some ⟨b3,0,none⟩)] w fun r w'=>r = .tuple #[]/\AccAt w0 w' T.bt b0 b1 b2 b3 (stop S s acc i v rate)/\∀ k,k<w.heap.size->k≠b1->k≠b2->k≠b3->w'.heap[k]? = w.heap[k]?:=by
 have hB:=hT.hB
 have hf':=hf
 unfold Few at hf'
 have tab : ∀ {w1:World},Ext w w1->TabAt S B w1 T s:=fun h=>hT.ext (hA.hx.trans h) hB
 have hx1:=(Ext.refl w).alloc (.cells (qc rate).toArray 88)
 have hRb:=Box.new w (qc rate) 88
 refine run166 _ _ _ _ _ _ _ _ _ _ _ ⟨_,(hA.ext hx1).x0.blk.cell (j:=0) rfl,?_⟩
 refine Called.of (c159 hf hv _ (tab hx1) (tab hx1).hB (tab hx1).gg) ?_
 rintro r w1 ⟨rfl,he1⟩
 rw [ov_eq]
 have hxw:Ext w (setCells (w1.alloc (.cells zv.toArray 101)) ⟨w1.heap.size,0,none⟩ 0 (vc2 ((upper S v).getD zero2))):=((hx1.trans he1).alloc _).put (hx1.trans he1).size _ _
 have hU:=(Box.new w1 zv 101).put (vc2 ((upper S v).getD zero2)) (by rfl)
 have hR1:Box (setCells (w1.alloc (.cells zv.toArray 101)) ⟨w1.heap.size,0,none⟩ 0 (vc2 ((upper S v).getD zero2))) w.heap.size 88 (qc rate):=((hRb.ext he1).ext ((Ext.refl w1).alloc _)).away zAb (by have:=(hRb.ext he1).lt;omega)
 have hs1:w.heap.size<w1.heap.size:=(hRb.ext he1).lt
 refine⟨_,_,_,_,_,_,_,rfl,(Box.new w1 zv 101).blk.writable (by decide),fun K hK=>?_⟩
 have main : ∀ (lim:Option V2) w2,lim=(if rate<0 then lower S v else upper S v)->Ext w w2->Box w2 w1.heap.size 101 (vc2 (lim.getD zero2))->Box w2 w.heap.size 88 (qc rate)->K [.bool lim.isSome] w2:=by
  intro lim w2 hlim hx2 hL hR
  refine hK _ w2 ?_
  have hA2:=hA.ext hx2
  cases lim with
  | none =>
   have hst:stop S s acc i v rate=acc:=by unfold stop cand;rw [<- hlim]
   rw [show (!(none:Option V2).isSome)=true from rfl,cond_true]
   refine⟨rfl,?_,fun k hk _ _ _=>hx2.block k hk⟩
   rw [hst];exact hA2
  | some b =>
   have hbd:dg2 2000000 b:=by
    split at hlim
    ·exact zDh hS hv hlim.symm
    ·exact zEH hS hv hlim.symm
   have hx:stop S s acc i v rate=(bif takes s acc i v (zAn (sub2 b (s.val v)) rate⁻¹) then some (i,zAn (sub2 b (s.val v)) rate⁻¹) else acc):=by unfold stop cand;rw [<- hlim]
   generalize hxx:zAn (sub2 b (s.val v)) rate⁻¹=x at hx
   have dS:dg2 5000000 (sub2 b (s.val v)):=(hbd.sub hvd).mono (by decide)
   have dI:dg 3000001 rate⁻¹:=hr.inv.mono (by decide)
   have dX:dg2 9000000 x:=by rw [<- hxx];exact (dS.scale dI).mono (by decide)
   rw [show (!(some b:Option V2).isSome)=false from rfl,cond_false]
   intro K1 hK1
   have cont : ∀ c w3,w.heap.size<=c->Box w3 c 101 (vc2 x)->Ext w w3->K1 [.pointer (some ⟨c,0,none⟩)] w3:=by
    intro c w3 hcs hX hx3
    have hA3:=hA.ext hx3
    refine hK1 _ w3 fun K2 hK2=>?_
    have after : ∀ n4 w4,Ext w3 w4->n4=accC x acc->K2 [.int .i64 n4] w4:=by
     intro n4 w4 he4 hn
     refine hK2 n4 w4 fun K3 hK3=>?_
     have hx4:=(hx3.trans he4).drew
     have hA4:=hA.ext hx4
     have hXd:=(hX.ext he4).ext (Ext.refl _).drew
     have ht:=acc_takes (s:=s) (i:=i) (v:=v) (x:=x) hn
     have fin:K3 [.bool (takes s acc i v x)] w4.drew:=by
      refine hK3 _ ?_
      cases htk:takes s acc i v x with
      | true =>
       rw [cond_true]
       intro K4 hK4
       have hA5:=hA4.ext (Ext.refl _).drew
       have hXe:=hXd.ext (Ext.refl _).drew
       have h2:Box (w4.drew.drew.setCell ⟨b3,0,none⟩ (.int .i64 i)) b2 101 (vc2 (accV acc)):=hA5.x2.away zAe (boxNe hA5.x2.blk hA5.x3.blk (by decide))
       have h1:Box (setCells (w4.drew.drew.setCell ⟨b3,0,none⟩ (.int .i64 i)) ⟨b2,0,none⟩ 0 (vc2 x)) b1 4 [.bool acc.isSome]:=(hA5.x1.away zAe (boxNe hA5.x1.blk hA5.x3.blk (by decide))).away zAb (boxNe hA5.x1.blk hA5.x2.blk (by decide))
       have hXf:Box (w4.drew.drew.setCell ⟨b3,0,none⟩ (.int .i64 i)) c 101 (vc2 x):=hXe.away zAe (boxNe hXe.blk hA5.x3.blk (by decide))
       refine⟨fun u=>vcells u ⟨c,0,none⟩ 0 (vc2 x),hXe.blk.all,_,_,_,_,_,_,hXe.blk.all,fun w6 h6=>⟨_,_,_,_,_,_,h6,rfl⟩,⟨⟨_,hA5.x3.blk.cell (j:=0) rfl⟩,hA5.x3.blk.free⟩,hXf.blk.all,h2.blk.writable (Nat.le_refl 6),⟨⟨_,h1.blk.cell (j:=0) rfl⟩,h1.blk.free⟩,hK4 _ ⟨rfl,?_,fun k hk h1 h2 h3=>(zAs h1).trans ((zAx h2 _ _).trans ((zAs h3).trans (hx4.drew.block k hk)))⟩⟩
       rw [hx,htk,cond_true];exact hA5.put i x
      | false =>
       rw [cond_false]
       refine⟨rfl,?_,fun k hk _ _ _=>hx4.block k hk⟩
       rw [hx,htk,cond_false];exact hA4
     refine⟨_,hA4.x1.blk.cell (j:=0) rfl,?_⟩
     refine zAa (fun h1=>?_) (fun h1=>?_)
     ·rw [h1,Bool.true_or] at ht
      rw [ht] at fin;exact fin
     ·rw [h1,Bool.false_or] at ht
      refine zAa (fun h2=>?_) (fun h2=>?_)
      ·have h2:n4=0:=by simpa using h2
       rw [h2,show decide ((0:Int)=0)=true from rfl,Bool.true_and] at ht
       refine⟨_,hA4.x3.blk.cell (j:=0) rfl,zAa (fun h3=>?_) (fun h3=>?_)⟩
       ·have h3' : 0<=accL acc:=by simpa using h3
        rw [decide_eq_true h3',Bool.true_and] at ht
        refine zAa (fun h4=>?_) (fun h4=>?_)
        ·rw [h4,Bool.true_or] at ht
         rw [ht] at fin;exact fin
        ·rw [h4,Bool.false_or] at ht
         have hlm:(accL acc).toNat<S.m:=by
          cases acc with
          | none=>exact absurd h3' (by decide)
          | some p=>have h3p:0<=p.1:=h3';have:=(hacc p.1 p.2 rfl).2 h3p;show p.1.toNat<S.m;omega
         have hT4:=tab hx4
         obtain⟨a3,hab,hcb⟩:=hT4.basicAt (i:=(accL acc).toNat) hlm
         refine⟨_,hA4.x0.blk.cell (j:=0) rfl,_,_,_,hT4.f2,_,hA4.x3.blk.cell (j:=0) rfl,a3,hab,⟨h3',by omega⟩,_,hcb,?_⟩
         have e:decide ((v:Int)<(s.basic (accL acc).toNat:Int))=decide (v<s.basic (accL acc).toNat):=by
          rw [Bool.eq_iff_iff,decide_eq_true_iff,decide_eq_true_iff];omega
         rw [e,<- ht];exact fin
       ·have h3' : ¬ 0<=accL acc:=by simpa using h3
        rw [decide_eq_false h3',Bool.false_and] at ht
        rw [ht] at fin;exact fin
      ·have h2 : ¬ n4=0:=by simpa using h2
       rw [decide_eq_false h2,Bool.false_and] at ht
       rw [ht] at fin;exact fin
    refine⟨_,hA3.x1.blk.cell (j:=0) rfl,?_⟩
    cases hac:acc with
    | none =>
     rw [show (none:Option (Int × V2)).isSome=false from rfl,cond_false]
     exact after 0 w3 (Ext.refl _) (by rw [hac];rfl)
    | some p =>
     obtain⟨l,st⟩:=p
     rw [show (some (l,st):Option (Int × V2)).isSome=true from rfl,cond_true]
     have hX2:=hA3.x2
     rw [hac] at hX2
     refine⟨_,_,_,_,_,_,hX.blk.all,_,_,_,_,_,_,hX2.blk.all,Called.of (c160 (dX.mono (by decide)) ((hacc l st hac).1.mono (by decide)) w3 (tab hx3).gg) ?_⟩
     rintro r w6 ⟨rfl,he6⟩
     exact⟨_,rfl,after _ w6 he6 (by rw [hac];rfl)⟩
   have hz:=fun (u:World)=>(Ext.refl u).alloc (.cells zv.toArray 101)
   have put : ∀ {u u' : World},Ext w u->Box u' u.heap.size 101 zv->Ext u u'->writable u' ⟨u.heap.size,0,none⟩ 6/\K1 [.pointer (some ⟨u.heap.size,0,none⟩)] (setCells u' ⟨u.heap.size,0,none⟩ 0 (vc2 x)):=by
    intro u u' h2 hN h3
    exact⟨hN.blk.writable (by decide),cont _ _ h2.size (hN.put _ (by rfl)) ((h2.trans h3).put h2.size _ _)⟩
   have hxd:=hx2.drew
   have hTd:=tab hxd
   have hAd:=hA.ext hxd
   have hLd:=hL.ext (Ext.refl _).drew
   have hRd:=hR.ext (Ext.refl _).drew
   refine⟨_,_,_,_,_,_,hLd.blk.all,_,hAd.x0.blk.cell (j:=0) rfl,_,_,_,hTd.f6,_,rfl,⟨by omega,by omega⟩,_,_,_,_,_,_,hTd.valAt (v:=v) hv,_,_,_,hRd.blk.all,?_,hz _,?_⟩
   ·refine Called.of (c120 (hbd.mono (by decide)) (hvd.mono (by decide)) _ hTd.gg) ?_
    rintro r w7 ⟨rfl,he7⟩
    have hx7:=hxd.trans he7
    refine⟨_,_,_,_,_,_,rfl,he7,?_,he7.trans (hz _),?_⟩
    ·refine Called.of (c122 (hr.mono (by decide)) hr0 _ (tab hx7).gg) ?_
     rintro r w8 ⟨rfl,he8⟩
     have hx8:=hx7.trans he8
     refine⟨_,_,_,rfl,?_,(he7.trans he8).trans (hz _),?_⟩
     ·refine Called.of (c121 (dS.mono (by decide)) (dI.mono (by decide)) _ (tab hx8).gg) ?_
      rintro r w9 ⟨rfl,he9⟩
      rw [hxx]
      exact⟨_,_,_,_,_,_,rfl,((he7.trans he8).trans he9).trans (hz _),put (hx8.trans he9) (Box.new w9 zv 101) (hz _)⟩
     ·refine Called.of (c121 (dS.mono (by decide)) (dI.mono (by decide)) _ (tab (hx8.trans (hz _))).gg) ?_
      rintro r w10 ⟨rfl,he10⟩
      rw [hxx]
      exact⟨_,_,_,_,_,_,rfl,put hx8 ((Box.new w8 zv 101).ext he10) ((hz _).trans he10)⟩
    ·refine Called.of (c122 (hr.mono (by decide)) hr0 _ (tab (hx7.trans (hz _))).gg) ?_
     rintro r w11 ⟨rfl,he11⟩
     have hx11:=(hx7.trans (hz _)).trans he11
     refine⟨_,_,_,rfl,Called.of (c121 (dS.mono (by decide)) (dI.mono (by decide)) _ (tab hx11).gg) ?_⟩
     rintro r w12 ⟨rfl,he12⟩
     rw [hxx]
     exact⟨_,_,_,_,_,_,rfl,put hx7 (((Box.new w7 zv 101).ext he11).ext he12) (((hz _).trans he11).trans he12)⟩
   ·refine Called.of (c120 (hbd.mono (by decide)) (hvd.mono (by decide)) _ (tab (hxd.trans (hz _))).gg) ?_
    rintro r w13 ⟨rfl,he13⟩
    have hx13:=(hxd.trans (hz _)).trans he13
    refine⟨_,_,_,_,_,_,rfl,(hz _).trans he13,Called.of (c122 (hr.mono (by decide)) hr0 _ (tab hx13).gg) ?_⟩
    rintro r w14 ⟨rfl,he14⟩
    have hx14:=hx13.trans he14
    refine⟨_,_,_,rfl,Called.of (c121 (dS.mono (by decide)) (dI.mono (by decide)) _ (tab hx14).gg) ?_⟩
    rintro r w15 ⟨rfl,he15⟩
    rw [hxx]
    exact⟨_,_,_,_,_,_,rfl,put hxd ((((Box.new w2.drew zv 101).ext he13).ext he14).ext he15) ((((hz _).trans he13).trans he14).trans he15)⟩
 refine⟨_,_,_,hR1.blk.all,Called.of (c75 (hr.mono (by decide)) _ (tab hxw).gg) ?_⟩
 rintro r w16 ⟨rfl,he16⟩
 have hx16:=hxw.trans he16
 refine⟨_,rfl,zAd (fun hneg=>?_) (fun hpos=>?_)⟩
 ·have hneg:=sgnQ_neg.1 hneg
  have hT16:=tab hx16
  refine⟨_,(hA.ext hx16).x0.blk.cell (j:=0) rfl,Called.of (c161 hf hv w16 hT16 hT16.hB hT16.gg) ?_⟩
  rintro r w17 ⟨rfl,he17⟩
  rw [ov_eq]
  have hU17:=(hU.ext he16).ext he17
  refine⟨_,_,_,_,_,_,_,rfl,hU17.blk.writable (Nat.le_refl 6),main (lower S v) _ (by rw [if_pos hneg]) ?_ (hU17.put _ (by rfl)) (((hR1.ext he16).ext he17).away zAb (by omega))⟩
  exact (hx16.trans he17).put (Nat.le_of_lt hs1) _ _
 ·exact main (upper S v) _ (by rw [if_neg (fun h=>hpos (sgnQ_neg.2 h))]) hx16 (hU.ext he16) (hR1.ext he16)
def AccOk (S:Tb.Sys) (acc:Option (Int × V2)):Prop:=∀ l st,acc=some (l,st)->dg2 8000000 st/\(0<=l->l<S.m)
theorem stop_acc {S:Tb.Sys} {s:Dy} {i:Int} {v:Nat} {rate:Rat} {acc:Option (Int × V2)} (hS:Short S 2000000) (hv:v<S.n+S.m) (hvd:dg2 2000000 (s.val v)) (hr:dg 3000000 rate) (hi:0<=i->i<S.m) (h:AccOk S acc):AccOk S (stop S s acc i v rate):=by
 unfold stop
 cases hc:cand S s v rate with
 | none=>exact h
 | some x =>
  show AccOk S (bif takes s acc i v x then some (i,x) else acc)
  cases ht:takes s acc i v x with
  | false=>exact h
  | true =>
   intro l st e
   rw [cond_true] at e
   cases e
   refine⟨?_,hi⟩
   unfold cand at hc
   cases hl:(if rate<0 then lower S v else upper S v) with
   | none=>rw [hl] at hc;cases hc
   | some b =>
    rw [hl] at hc
    cases hc
    have hbd:dg2 2000000 b:=by
     split at hl
     ·exact zDh hS hv hl
     ·exact zEH hS hv hl
    exact (dg2.scale (hbd.sub hvd) hr.inv).mono (by decide)
theorem zCE (up:Bool):dg 1 (oneQ up):=by
 unfold oneQ
 split
 ·exact zCQ (by decide)
 ·exact (zCQ (by decide)).neg
theorem rate_dg {q:Rat} {up:Bool} (h:dg 2000000 q):dg 3000000 (q*oneQ up):=(h.mul (zCE up)).mono (by decide)
theorem zDi {S:Tb.Sys} {s:Dy} (hF:Fits S) (hI:Inv S s) {j:Nat} {up:Bool} (hj:j<S.n) : ∀ k,k<=S.m->AccOk S (zBa S s j up k)
 | 0,_=>stop_acc hF.short (hI.dict.perm.col j hj).1 (hF.val s hI _ (hI.dict.perm.col j hj).1) ((zCE up).mono (by decide)) (fun h=>absurd h (by decide)) (fun _ _ e=>by cases e)
 | k+1,hk=>by
  rw [zBa]
  split
  ·exact stop_acc hF.short (hI.dict.perm.bas k (by omega)).1 (hF.val s hI _ (hI.dict.perm.bas k (by omega)).1) (rate_dg (hF.a s hI k (by omega) j hj)) (fun _=>by omega) (zDi hF hI hj k (by omega))
  ·exact zDi hF hI hj k (by omega)
set_option maxHeartbeats 2000000 in
theorem c128 {S:Tb.Sys} {B:Nat} {T:Lay} {s:Dy} {j:Nat} {up:Bool} (hF:Fits S) (hI:Inv S s) (hj:j<S.n) (w:World) (hT:TabAt S B w T s) :
  Ret prog 128 #[.pointer (some ⟨T.bt,0,none⟩),.int .i64 j,.bool up] w fun r w'=>r = .tuple #[.int .i64 (accL (zBE S s j up)),vv (accV (zBE S s j up)),.bool (zBE S s j up).isSome]/\Ext w w':=by
 have hB:=hT.hB
 have hf':=hF.few
 unfold Few at hf'
 have hp:=hI.dict.perm
 have hda:=hF.a s hI
 have hval:=hF.val s hI
 have hcol:=hp.col j hj
 have y0:=Box.new w [.pointer (some ⟨T.bt,0,none⟩)] 94
 generalize e1:w.alloc (.cells [Value.pointer (some ⟨T.bt,0,none⟩)].toArray 94)=W1 at y0
 have z1:Ext w W1:=by rw [<- e1];exact (Ext.refl w).alloc _
 have y1:=Box.new W1 zv 101
 generalize e2:W1.alloc (.cells zv.toArray 101)=W2 at y1
 have z2:Ext W1 W2:=by rw [<- e2];exact (Ext.refl W1).alloc _
 have y2:=Box.new W2 [.int .i64 0] 3
 generalize e3:W2.alloc (.cells [Value.int .i64 0].toArray 3)=W3 at y2
 have z3:Ext W2 W3:=by rw [<- e3];exact (Ext.refl W2).alloc _
 have y3:=Box.new W3 zv 101
 generalize e4:W3.alloc (.cells zv.toArray 101)=W4 at y3
 have z4:Ext W3 W4:=by rw [<- e4];exact (Ext.refl W3).alloc _
 have y4:=Box.new W4 [.bool false] 4
 generalize e5:W4.alloc (.cells [Value.bool false].toArray 4)=W5 at y4
 have z5:Ext W4 W5:=by rw [<- e5];exact (Ext.refl W4).alloc _
 have zz:=(((z1.trans z2).trans z3).trans z4).trans z5
 have l1:=y0.lt
 have l2:=y1.lt
 have l3:=y2.lt
 have l4:=y3.lt
 have x0:=(((y0.ext z2).ext z3).ext z4).ext z5
 have xg:=((y1.ext z3).ext z4).ext z5
 have x3:=(y2.ext z4).ext z5
 have x2:=y3.ext z5
 have n23:W3.heap.size≠W2.heap.size:=by omega
 have hacc:AccAt w ((setCells (W5.setCell ⟨W2.heap.size,0,none⟩ (.int .i64 (-1))) ⟨W3.heap.size,0,none⟩ 0 zv).setCell ⟨W4.heap.size,0,none⟩ (.bool false)) T.bt w.heap.size W4.heap.size W3.heap.size W2.heap.size none:={
  x0:=((x0.away zAe (by omega)).away zAb (by omega)).away zAe (by omega)
  x1:=((y4.away zAe (by omega)).away zAb (by omega)).set 0 (.bool false)
  x2:=by
   show Box _ _ 101 (vc2 zero2)
   rw [vc2_zero]
   exact ((x2.away zAe (by omega)).put zv rfl).away zAe (by omega)
  x3:=((x3.set 0 (.int .i64 (-1))).away zAb (by omega)).away zAe (by omega)
  g0:=Nat.le_refl _
  g1:=by omega
  g2:=by omega
  g3:=by omega
  hx:=((zz.setCell (by omega) _).put (by omega) _ _).setCell (by omega) _ }
 have xg1:Box ((setCells (W5.setCell ⟨W2.heap.size,0,none⟩ (.int .i64 (-1))) ⟨W3.heap.size,0,none⟩ 0 zv).setCell ⟨W4.heap.size,0,none⟩ (.bool false)) W1.heap.size 101 zv:=((xg.away zAe (by omega)).away zAb (by omega)).away zAe (by omega)
 refine run128 _ _ _ _ _ ?_
 unfold vc128
 rw [show (Obj.cells #[Value.pointer (some ⟨T.bt,0,none⟩)] 94) = .cells [Value.pointer (some ⟨T.bt,0,none⟩)].toArray 94 from rfl,e1]
 rw [show (Obj.cells #[Value.int .i64 0,.int .i64 0,.string { data:=#[] },.int .i64 0,.int .i64 0,.string { data:=#[] }] 101) = .cells zv.toArray 101 from rfl,e2]
 rw [show (Obj.cells #[Value.int .i64 0] 3) = .cells [Value.int .i64 0].toArray 3 from rfl,e3,e4]
 rw [show (Obj.cells #[Value.bool false] 4) = .cells [Value.bool false].toArray 4 from rfl,e5]
 have hT0:=hT.ext hacc.hx hB
 have xb3:=x3.away (zAb (b:=W4.heap.size) (o:=0) (L:=[]) (i:=0)) (by omega)
 refine⟨⟨⟨_,x3.blk.cell (j:=0) rfl⟩,x3.blk.free⟩,(x2.away zAe n23).blk.writable (by decide),⟨⟨_,((y4.away zAe (by omega)).away zAb (by omega)).blk.cell (j:=0) rfl⟩,((y4.away zAe (by omega)).away zAb (by omega)).blk.free⟩,?_⟩
 generalize (setCells (W5.setCell ⟨W2.heap.size,0,none⟩ (.int .i64 (-1))) ⟨W3.heap.size,0,none⟩ 0 zv).setCell ⟨W4.heap.size,0,none⟩ (.bool false)=W6 at hacc xg1 hT0 ⊢
 refine Called.of (c130 1 (by decide) _ hT0.gg) ?_
 rintro r w1 ⟨rfl,he1⟩
 have hN:=Box.new w1 zq 88
 have hacc1:=hacc.ext he1
 have hl1:=hacc1.x1.lt
 have hxo:Ext W6 (setCells (w1.alloc (.cells zq.toArray 88)) ⟨w1.heap.size,0,none⟩ 0 (qc ((1:Int):Rat))):=(he1.alloc _).put he1.size _ _
 have hO:=hN.put (qc ((1:Int):Rat)) (by rfl)
 refine⟨_,_,_,rfl,hN.blk.writable (by decide),fun K hK=>?_⟩
 have main : ∀ w2,Ext W6 w2->Box w2 w1.heap.size 88 (qc (oneQ up))->K [] w2:=by
  intro w2 hx2 hO2
  refine hK w2 ?_
  have hxd:=hx2.drew
  have hA2:=hacc.ext hxd
  have hT2:=hT.ext hA2.hx hB
  have hOd:=hO2.ext (Ext.refl _).drew
  have hgd:=xg1.ext hxd
  obtain⟨a1,hac,hcc⟩:=hT2.colsAt (j:=j) hj
  refine⟨_,hA2.x0.blk.cell (j:=0) rfl,_,_,_,hT2.f3,a1,hac,⟨by omega,by omega⟩,_,hcc,_,_,_,hOd.blk.all,Called.of (c166 hF.few hF.short hcol.1 (hval _ hcol.1) ((zCE up).mono (by decide)) (oneQ_ne up) (fun l st e=>by cases e) w _ hT hA2) ?_⟩
  rintro r w3 ⟨rfl,hA3,hk3⟩
  have hT3:=hT.ext hA3.hx hB
  have hO3:Box w3 w1.heap.size 88 (qc (oneQ up)):=hOd.same (hk3 _ hOd.lt (by omega) (by omega) (by omega))
  have hg3:Box w3 W1.heap.size 101 zv:=hgd.same (hk3 _ hgd.lt (by omega) (by omega) (by omega))
  refine⟨rfl,_,hA3.x0.blk.cell (j:=0) rfl,_,_,_,hT3.f2,fun vals w4=>∃ k:Nat,vals=[.int .i64 k]/\k<=S.m/\AccAt w w4 T.bt w.heap.size W4.heap.size W3.heap.size W2.heap.size (zBa S s j up k)/\Box w4 w1.heap.size 88 (qc (oneQ up))/\Box w4 W1.heap.size 101 zv,mu1 S.m,⟨0,rfl,Nat.zero_le _,hA3,hO3,hg3⟩,?_⟩
  clear hA2 hT2 hOd hgd hA3 hT3 hO3 hg3 hk3 hxd hO2 hx2
  rintro m w4 ⟨k,hvk,hk,hA,hO4,hg4⟩
  cases hvk
  have hT4:=hT.ext hA.hx hB
  refine zAd (fun hlt=>?_) (fun hge=>?_)
  ·have hkm:k<S.m:=by omega
   have hbas:=hp.bas k hkm
   obtain⟨a3,hab,hcb⟩:=hT4.basicAt (i:=k) hkm
   obtain⟨a5,haa,hca⟩:=hT4.aAt (i:=k) hkm
   obtain⟨a6,haq,hcq⟩:=hT4.qAt (i:=k) (j:=j) hkm hj
   refine⟨a3,hab,⟨by omega,hlt⟩,_,hcb,_,hA.x0.blk.cell (j:=0) rfl,_,_,_,hT4.f5,a5,haa,⟨by omega,hlt⟩,_,_,_,hca,a6,haq,⟨by omega,by omega⟩,_,_,_,hcq,Called.of (c75 ((hda k hkm j hj).mono (by decide)) w4 hT4.gg) ?_⟩
   rintro r w5 ⟨rfl,he5⟩
   refine⟨_,rfl,zF3 (p:=True) (sgn_ne _) (fun hnz=>?_) (fun hz=>?_)⟩
   ·have hnz:s.a k j≠0:=by simpa using hnz
    intro K1 hK1
    have hx5:=he5.drew
    have hA5:=hA.ext hx5
    have hT5:=hT.ext hA5.hx hB
    have hO5:=hO4.ext hx5
    have hg5:=hg4.ext hx5
    obtain⟨a8,haa2,hca2⟩:=hT5.aAt (i:=k) hkm
    obtain⟨a9,haq2,hcq2⟩:=hT5.qAt (i:=k) (j:=j) hkm hj
    refine⟨_,hA5.x0.blk.cell (j:=0) rfl,_,_,_,hT5.f5,a8,haa2,⟨by omega,hlt⟩,_,_,_,hca2,a9,haq2,⟨by omega,by omega⟩,_,_,_,hcq2,_,_,_,hO5.blk.all,Called.of (c113 ((hda k hkm j hj).mono (by decide)) ((zCE up).mono (by decide)) _ hT5.gg) ?_⟩
    rintro r w7 ⟨rfl,he7⟩
    have hA7:=hA5.ext he7
    have hO7:=hO5.ext he7
    have hg7:=hg5.ext he7
    refine⟨_,_,_,rfl,Called.of (c166 hF.few hF.short hbas.1 (hval _ hbas.1) (rate_dg (hda k hkm j hj)) (zD1 hnz up) (zDi hF hI hj k (by omega)) w _ hT hA7) ?_⟩
    rintro r w8 ⟨rfl,hA8,hk8⟩
    refine⟨rfl,hK1 _ ?_⟩
    rw [zAh (by omega)]
    refine⟨⟨k+1,rfl,hkm,?_,hO7.same (hk8 _ hO7.lt (by omega) (by omega) (by omega)),hg7.same (hk8 _ hg7.lt (by omega) (by omega) (by omega))⟩,by simp only [mu1,Int.toNat_natCast];omega⟩
    rw [zBa,if_pos hnz];exact hA8
   ·have hz:s.a k j=0:=by simpa using hz
    rw [zAh (by omega)]
    refine⟨⟨k+1,rfl,hkm,?_,hO4.ext he5,hg4.ext he5⟩,by simp only [mu1,Int.toNat_natCast];omega⟩
    rw [zBa,if_neg (by rw [hz];simp)];exact hA.ext he5
  ·have ek:k=S.m:=by omega
   subst ek
   have hAd:=hA.ext (Ext.refl _).drew
   have hgd:=hg4.ext (Ext.refl _).drew
   have hpg:=hgd.put (vc2 (accV (zBa S s j up S.m))) (by rfl)
   have k1:Box (setCells w4.drew ⟨W1.heap.size,0,none⟩ 0 (vc2 (accV (zBa S s j up S.m)))) W2.heap.size 3 [.int .i64 (accL (zBa S s j up S.m))]:=hAd.x3.away zAb (by omega)
   have k2:Box (setCells w4.drew ⟨W1.heap.size,0,none⟩ 0 (vc2 (accV (zBa S s j up S.m)))) W3.heap.size 101 (vc2 (accV (zBa S s j up S.m))):=hAd.x2.away zAb (by omega)
   have k3:Box (setCells w4.drew ⟨W1.heap.size,0,none⟩ 0 (vc2 (accV (zBa S s j up S.m)))) W4.heap.size 4 [.bool (zBa S s j up S.m).isSome]:=hAd.x1.away zAb (by omega)
   refine⟨fun u=>Box u W2.heap.size 3 [.int .i64 (accL (zBa S s j up S.m))]/\Box u W3.heap.size 101 (vc2 (accV (zBa S s j up S.m)))/\Box u W4.heap.size 4 [.bool (zBa S s j up S.m).isSome],⟨hAd.x3,hAd.x2,hAd.x1⟩,_,hAd.x3.blk.cell (j:=0) rfl,fun u hu=>⟨_,hu.1.blk.cell (j:=0) rfl,rfl⟩,_,_,_,_,_,_,hAd.x2.blk.all,fun u hu=>⟨_,_,_,_,_,_,hu.2.1.blk.all,rfl⟩,_,hAd.x1.blk.cell (j:=0) rfl,fun u hu=>⟨_,hu.2.2.blk.cell (j:=0) rfl,rfl⟩,hgd.blk.writable (by decide),⟨k1,k2,k3⟩,_,_,_,_,_,_,hpg.blk.all,rfl,hAd.hx.put (by omega) _ _⟩
 have hone:((1:Int):Rat)=1:=rfl
 refine zAa (fun hup=>?_) (fun hup=>?_)
 ·have hup:up=false:=by simpa using hup
  refine⟨_,_,_,hO.blk.all,Called.of (c133 (by rw [hone];exact zCQ (by decide)) _ (hT.ext (hacc.ext hxo).hx hB).gg) ?_⟩
  rintro r w9 ⟨rfl,he9⟩
  have hO9:=hO.ext he9
  refine⟨_,_,_,rfl,hO9.blk.writable (Nat.le_refl 3),main _ ((hxo.trans he9).put he1.size _ _) ?_⟩
  have:=hO9.put (qc (-((1:Int):Rat))) (by rfl)
  rw [hup,oneQ]
  exact this
 ·have hup:up=true:=by simpa using hup
  refine main _ hxo ?_
  rw [hup,oneQ]
  exact hO
set_option maxHeartbeats 2000000 in
theorem c129 {S:Tb.Sys} {B:Nat} {T:Lay} {s:Dy} {j:Nat} {up:Bool} (hF:Fits S) (hI:Inv S s) (hj:j<S.n) (w:World) (hT:TabAt S B w T s) :
  Ret prog 129 #[.pointer (some ⟨T.bt,0,none⟩),.int .i64 j,.bool up] w fun r w'=>∃ b,r = .slice (some ⟨b,0,none⟩) S.n S.n/\w.heap.size<=b/\Box w' b 88 (QL (delta s j (oneQ up)) S.n)/\Ext w w':=by
 have hB:=hT.hB
 have hf':=hF.few
 unfold Few at hf'
 have hp:=hI.dict.perm
 have hda:=hF.a s hI
 refine run129 _ _ _ _ _ (Called.of (c130 1 (by decide) _ hT.gg) ?_)
 rintro r w1 ⟨rfl,he1⟩
 have hN:=Box.new w1 zq 88
 have hxo:Ext w (setCells (w1.alloc (.cells zq.toArray 88)) ⟨w1.heap.size,0,none⟩ 0 (qc ((1:Int):Rat))):=(he1.alloc _).put he1.size _ _
 have hO:=hN.put (qc ((1:Int):Rat)) (by rfl)
 refine⟨_,_,_,rfl,hN.blk.writable (by decide),fun K hK=>?_⟩
 have main : ∀ w2,Ext w w2->Box w2 w1.heap.size 88 (qc (oneQ up))->K [] w2:=by
  intro w2 hx2 hO2
  refine hK w2 ?_
  have hT2:=hT.ext hx2 hB
  have hlo:=hO2.lt
  refine⟨_,hT2.f0,⟨by omega,by omega,by omega,by omega⟩,?_⟩
  simp only [Int.toNat_natCast,zFf]
  have e0:madeCells (Value.agg #[Value.int .i64 0,.int .i64 0,.string { data:=#[] }]).cells (S.n*3)=(QL (fun _=>0) S.n).toArray:=zD8 S.n
  rw [e0]
  refine⟨fun vals w3=>∃ k:Nat,vals=[.int .i64 k]/\k<=S.n/\Box w3 w2.heap.size 88 (QL (part (delta s j (oneQ up)) (fun _=>0) k) S.n)/\Box w3 w1.heap.size 88 (qc (oneQ up))/\Ext w w3,mu1 S.n,⟨0,rfl,Nat.zero_le _,by rw [zBu];exact Box.new w2 _ 88,hO2.ext ((Ext.refl w2).alloc _),hx2.alloc _⟩,?_⟩
  clear hT2 hO2
  rintro m w3 ⟨k,hvk,hk,hM,hO3,hx3⟩
  cases hvk
  have hT3:=hT.ext hx3 hB
  refine zAd (fun hlt=>?_) (fun hge=>?_)
  ·have hkn:k<S.n:=by omega
   have hkl:k<S.n+S.m:=by omega
   have hline:=hT3.lineAt (v:=k) hkl
   refine⟨_,_,_,hT3.f4,_,rfl,⟨by omega,by omega⟩,_,hline,?_⟩
   refine zAd (fun hpos=>?_) (fun hneg=>?_)
   ·have hli:=(hp.lin k hkl).1 hpos
    have him:(s.line k).toNat<S.m:=by omega
    have hdl:delta s j (oneQ up) k=s.a (s.line k).toNat j*oneQ up:=by
     unfold delta
     rw [if_neg (fun e=>by have:=(hp.col j hj).2;rw [<- e] at this;omega),if_pos hpos]
    intro K1 hK1
    have hxd:=hx3.drew
    have hTd:=hT.ext hxd hB
    obtain⟨a1,haa,hca⟩:=hTd.aAt (i:=(s.line k).toNat) him
    obtain⟨a2,haq,hcq⟩:=hTd.qAt (i:=(s.line k).toNat) (j:=j) him hj
    have hMd:=hM.ext (Ext.refl _).drew
    have hOd:=hO3.ext (Ext.refl _).drew
    refine⟨_,_,_,hTd.f5,a1,haa,⟨hpos,by omega⟩,_,_,_,hca,a2,haq,⟨by omega,by omega⟩,_,_,_,hcq,_,_,_,hOd.blk.all,Called.of (c113 ((hda _ him j hj).mono (by decide)) ((zCE up).mono (by decide)) _ hTd.gg) ?_⟩
    rintro r w5 ⟨rfl,he5⟩
    have hM5:=hMd.ext he5
    refine⟨_,_,_,rfl,_,rfl,⟨by omega,hlt⟩,hM5.qwr hkn,hK1 _ ?_⟩
    rw [zAh (by omega)]
    refine⟨⟨k+1,rfl,hkn,?_,?_,?_⟩,by simp only [mu1,Int.toNat_natCast];omega⟩
    ·have:=hM5.qset hkn (delta s j (oneQ up) k)
     rw [zBf,hdl] at this
     exact this
    ·rw [zAk];exact (hOd.ext he5).away zAb (by omega)
    ·rw [zAk];exact (hxd.trans he5).put hx2.size _ _
   ·obtain⟨a4,hac,hcc⟩:=hT3.colsAt (j:=j) hj
    refine⟨_,_,_,hT3.f3,a4,hac,⟨by omega,by omega⟩,_,hcc,zAa (fun he=>?_) (fun he=>?_)⟩
    ·have he:((s.cols j:Nat):Int)=k:=by simpa using he
     have hdl:delta s j (oneQ up) k=oneQ up:=by
      unfold delta
      rw [if_pos (by omega)]
     refine⟨_,_,_,hO3.blk.all,_,rfl,⟨by omega,hlt⟩,hM.qwr hkn,?_⟩
     rw [zAh (by omega)]
     refine⟨⟨k+1,rfl,hkn,?_,?_,?_⟩,by simp only [mu1,Int.toNat_natCast];omega⟩
     ·have:=hM.qset hkn (delta s j (oneQ up) k)
      rw [zBf,hdl] at this
      exact this
     ·rw [zAk];exact hO3.away zAb (by omega)
     ·rw [zAk];exact hx3.put hx2.size _ _
    ·have he : ¬ ((s.cols j:Nat):Int)=k:=by simpa using he
     have hdl:delta s j (oneQ up) k=0:=by
      unfold delta
      rw [if_neg (by omega),if_neg (by omega)]
     rw [zAh (by omega)]
     refine⟨⟨k+1,rfl,hkn,?_,hO3,hx3⟩,by simp only [mu1,Int.toNat_natCast];omega⟩
     rw [zDS hdl]
     exact hM
  ·have ek:k=S.n:=by omega
   subst ek
   refine⟨w2.heap.size,rfl,hx2.size,?_,hx3⟩
   rw [zAT (g:=delta s j (oneQ up)) fun x hx=>zCC hx] at hM
   exact hM
 have hone:((1:Int):Rat)=1:=rfl
 refine zAa (fun hup=>?_) (fun hup=>?_)
 ·have hup:up=false:=by simpa using hup
  refine⟨_,_,_,hO.blk.all,Called.of (c133 (by rw [hone];exact zCQ (by decide)) _ (hT.ext hxo hB).gg) ?_⟩
  rintro r w9 ⟨rfl,he9⟩
  have hO9:=hO.ext he9
  refine⟨_,_,_,rfl,hO9.blk.writable (Nat.le_refl 3),main _ ((hxo.trans he9).put he1.size _ _) ?_⟩
  have:=hO9.put (qc (-((1:Int):Rat))) (by rfl)
  rw [hup,oneQ]
  exact this
 ·have hup:up=true:=by simpa using hup
  refine main _ hxo ?_
  rw [hup,oneQ]
  exact hO
theorem zvF_eq (S:Tb.Sys) (s:Dy) (c:Nat->Rat):zvF s c S.n=zval S s c:=by
 have h : ∀ k,zvF s c k=(sumN k fun v=>c v*(s.val v).1,sumN k fun v=>c v*(s.val v).2):=by
  intro k
  induction k with
  | zero=>rfl
  | succ k ih=>rw [zvF,ih,sumN,sumN,add2,zAn,Rat.mul_comm (s.val k).1,Rat.mul_comm (s.val k).2]
 exact h S.n
def dualP (S:Tb.Sys) (s:Dy) (d:Nat->Rat) (J k:Nat):Rat:=sumN J fun j=>if s.cols j=S.n+k then d j else 0
theorem dualP_succ {S:Tb.Sys} {s:Dy} (hp:Perm S s) (d:Nat->Rat) {J:Nat} (hJ:J<S.n) (hge:S.n<=s.cols J) : ∀ k,dualP S s d (J+1) k=upd (dualP S s d J) (s.cols J - S.n) (d J) k:=by
 intro k
 unfold dualP upd
 rw [sumN]
 by_cases e:k=s.cols J - S.n
 ·have h0:(sumN J fun j=>if s.cols j=S.n+k then d j else 0)=0:=zAM fun j hj=>by
   rw [if_neg]
   intro h
   have:=hp.inj j J (by omega) hJ (by omega)
   omega
  rw [if_pos e,h0,if_pos (by omega),Rat.zero_add]
 ·rw [if_neg e,if_neg (by omega),Rat.add_zero]
theorem dualP_same {S:Tb.Sys} {s:Dy} (d:Nat->Rat) {J:Nat} (hlt:s.cols J<S.n) : ∀ k,dualP S s d (J+1) k=dualP S s d J k:=by
 intro k
 unfold dualP
 rw [sumN,if_neg (by omega),Rat.add_zero]
def bestc (r:Value) (x:V2) (d:Value):List Value:=[r,.int .i64 (qn x.1),.int .i64 (ql x.1),.string (qb x.1),.int .i64 (qn x.2),.int .i64 (ql x.2),.string (qb x.2),d]
def bestv (r:Value) (x:V2) (d:Value):Value := .agg #[r,.int .i64 (qn x.1),.int .i64 (ql x.1),.string (qb x.1),.int .i64 (qn x.2),.int .i64 (ql x.2),.string (qb x.2),d]
theorem zB7 (r d:Value):bestc r zero2 d=[r,.int .i64 0,.int .i64 0,.string { data:=#[] },.int .i64 0,.int .i64 0,.string { data:=#[] },d]:=by
 have:=vc2_zero
 unfold vc2 at this
 injection this with h1 h2
 injection h2 with h2 h3
 injection h3 with h3 h4
 injection h4 with h4 h5
 injection h5 with h5 h6
 injection h6 with h6 h7
 unfold bestc
 rw [h1,h2,h3,h4,h5,h6]
theorem _root_.Go.V.Box.bx {w:World} {b ty:Nat} {r d:Value} {x:V2} (h:Box w b ty (bestc r x d)):vcells w ⟨b,1,none⟩ 0 (vc2 x):=h.blk.vcells fun j hj=>by
 have:j<6:=hj
 match j,this with
 | 0,_=>rfl
 | 1,_=>rfl
 | 2,_=>rfl
 | 3,_=>rfl
 | 4,_=>rfl
 | 5,_=>rfl
theorem _root_.Go.V.Box.bput {w:World} {b ty:Nat} {r d:Value} {x:V2} (h:Box w b ty (bestc r x d)) (y:V2):Box (setCells w ⟨b,1,none⟩ 0 (vc2 y)) b ty (bestc r y d):=h.setCells (o:=1) (vc2 y) 0
set_option maxHeartbeats 2000000 in
theorem c127 {S:Tb.Sys} {B:Nat} {T:Lay} {s:Dy} {c d:Nat->Rat} {ca da:Option Addr} {cc dc:Nat} (hF:Fits S) (hC:FitsC S c) (hI:Inv S s) (w:World) (hT:TabAt S B w T s) (hc:QS w ca c S.n) (hd:QS w da d S.n) :
  Ret prog 127 #[.pointer (some ⟨T.bt,0,none⟩),.slice ca S.n cc,.slice da S.n dc] w fun r w'=>∃ b,r=bestv (.slice none 0 0) (zval S s c) (.slice (some ⟨b,0,none⟩) S.m S.m)/\w.heap.size<=b/\Box w' b 88 (QL (dual S s d) S.m)/\Ext w w':=by
 have hB:=hT.hB
 have hf':=hF.few
 unfold Few at hf'
 have hp:=hI.dict.perm
 have hval:=hF.val s hI
 have hzv:=hC.zv s hI
 have z1:=(Ext.refl w).alloc (.cells [Value.slice none 0 0,.int .i64 0,.int .i64 0,.string { data:=#[] },.int .i64 0,.int .i64 0,.string { data:=#[] },.slice none 0 0].toArray 103)
 have y1:=Box.new w [Value.slice none 0 0,.int .i64 0,.int .i64 0,.string { data:=#[] },.int .i64 0,.int .i64 0,.string { data:=#[] },.slice none 0 0] 103
 refine run127 _ _ _ _ _ _ _ _ _ ⟨_,_,_,(hT.ext z1 hB).f1,⟨by omega,by omega,by omega,by omega⟩,?_⟩
 simp only [Int.toNat_natCast,zFf]
 have e0:madeCells (Value.agg #[Value.int .i64 0,.int .i64 0,.string { data:=#[] }]).cells (S.m*3)=(QL (fun _=>0) S.m).toArray:=zD8 S.m
 rw [e0]
 rw [show (Obj.cells #[Value.slice none 0 0,.int .i64 0,.int .i64 0,.string { data:=#[] },.int .i64 0,.int .i64 0,.string { data:=#[] },.slice none 0 0] 103) = .cells [Value.slice none 0 0,.int .i64 0,.int .i64 0,.string { data:=#[] },.int .i64 0,.int .i64 0,.string { data:=#[] },.slice none 0 0].toArray 103 from rfl]
 generalize w.alloc (.cells [Value.slice none 0 0,.int .i64 0,.int .i64 0,.string { data:=#[] },.int .i64 0,.int .i64 0,.string { data:=#[] },.slice none 0 0].toArray 103)=W1 at z1 y1 ⊢
 have z2:=(Ext.refl W1).alloc (.cells (QL (fun _=>0) S.m).toArray 88)
 have y2:=Box.new W1 (QL (fun _=>0) S.m) 88
 generalize W1.alloc (.cells (QL (fun _=>0) S.m).toArray 88)=W2 at z2 y2 ⊢
 have z3:=(Ext.refl W2).alloc (.cells [Value.slice none 0 0,.int .i64 0,.int .i64 0,.string { data:=#[] },.int .i64 0,.int .i64 0,.string { data:=#[] },.slice none 0 0].toArray 103)
 have y3:=Box.new W2 [Value.slice none 0 0,.int .i64 0,.int .i64 0,.string { data:=#[] },.int .i64 0,.int .i64 0,.string { data:=#[] },.slice none 0 0] 103
 generalize W2.alloc (.cells [Value.slice none 0 0,.int .i64 0,.int .i64 0,.string { data:=#[] },.int .i64 0,.int .i64 0,.string { data:=#[] },.slice none 0 0].toArray 103)=W3 at z3 y3 ⊢
 have l1:=y1.lt
 have l2:=y2.lt
 have y3':=y3.put (bestc (.slice none 0 0) zero2 (.slice (some ⟨W1.heap.size,0,none⟩) S.m S.m)) (by rfl)
 rw [zB7] at y3'
 have hxx:=(z1.trans z2).trans z3
 have hs3:=(z1.trans z2).size
 have hs2:=z1.size
 have hx4:Ext w (setCells W3 ⟨W2.heap.size,0,none⟩ 0 [Value.slice none 0 0,.int .i64 0,.int .i64 0,.string { data:=#[] },.int .i64 0,.int .i64 0,.string { data:=#[] },.slice (some ⟨W1.heap.size,0,none⟩) S.m S.m]):=hxx.put hs3 _ _
 have k1:Box (setCells W3 ⟨W2.heap.size,0,none⟩ 0 [Value.slice none 0 0,.int .i64 0,.int .i64 0,.string { data:=#[] },.int .i64 0,.int .i64 0,.string { data:=#[] },.slice (some ⟨W1.heap.size,0,none⟩) S.m S.m]) w.heap.size 103 _:=((y1.ext z2).ext z3).away zAb (by omega)
 have k2:Box (setCells W3 ⟨W2.heap.size,0,none⟩ 0 [Value.slice none 0 0,.int .i64 0,.int .i64 0,.string { data:=#[] },.int .i64 0,.int .i64 0,.string { data:=#[] },.slice (some ⟨W1.heap.size,0,none⟩) S.m S.m]) W1.heap.size 88 _:=(y2.ext z3).away zAb (by omega)
 rw [<- zB7] at y3' hx4 k1 k2
 refine⟨y3.blk.writable (by decide),?_⟩
 rw [<- zB7]
 refine⟨_,(hT.ext hx4 hB).f0,fun vals w1=>∃ k:Nat,vals=[.int .i64 k]/\k<=S.n/\Box w1 w.heap.size 103 [Value.slice none 0 0,.int .i64 0,.int .i64 0,.string { data:=#[] },.int .i64 0,.int .i64 0,.string { data:=#[] },.slice none 0 0]/\Box w1 W1.heap.size 88 (QL (fun _=>0) S.m)/\Box w1 W2.heap.size 103 (bestc (.slice none 0 0) (zvF s c k) (.slice (some ⟨W1.heap.size,0,none⟩) S.m S.m))/\Ext w w1,mu1 S.n,⟨0,rfl,Nat.zero_le _,k1,k2,y3',hx4⟩,?_⟩
 clear k1 k2 y3' hx4 y3 y2 y1
 rintro m w1 ⟨k,hvk,hk,k1,k2,k3,hx⟩
 cases hvk
 refine zAd (fun hlt=>?_) (fun hge=>?_)
 ·have hkn:k<S.n:=by omega
  have hkl:k<S.n+S.m:=by omega
  intro K hK
  have hxd:=hx.drew
  have hTd:=hT.ext hxd hB
  have k3d:=k3.ext (Ext.refl _).drew
  obtain⟨b,o,ha,hcv⟩:=(hc.ext hxd).get hkn
  refine⟨_,_,_,_,_,_,k3d.bx,_,_,_,hTd.f6,_,rfl,⟨by omega,by omega⟩,_,_,_,_,_,_,hTd.valAt (v:=k) hkl,_,ha,⟨by omega,hlt⟩,_,_,_,hcv,Called.of (c121 ((hval k hkl).mono (by decide)) ((hC.sh k hkn).mono (by decide)) _ hTd.gg) ?_⟩
  rintro r w3 ⟨rfl,he3⟩
  have hT3:=hTd.ext he3 hTd.hB
  refine⟨_,_,_,_,_,_,rfl,he3,Called.of (c163 ((hzv k (by omega)).mono (by decide)) (((hval k hkl).scale (hC.sh k hkn)).mono (by decide)) _ hT3.gg) ?_⟩
  rintro r w4 ⟨rfl,he4⟩
  have k34:=(k3d.ext he3).ext he4
  have hx44:=(hxd.trans he3).trans he4
  refine⟨_,_,_,_,_,_,rfl,k34.blk.writable (by show 1+6<=8;decide),hK _ ?_⟩
  rw [zAh (by omega)]
  exact⟨⟨k+1,rfl,hkn,(((k1.ext (Ext.refl _).drew).ext he3).ext he4).away zAb (by omega),(((k2.ext (Ext.refl _).drew).ext he3).ext he4).away zAb (by omega),k34.bput _,hx44.put hs3 _ _⟩,by simp only [mu1,Int.toNat_natCast];omega⟩
 have ek:k=S.n:=by omega
 subst ek
 rw [zvF_eq] at k3
 have hT1:=hT.ext hx hB
 refine⟨_,_,_,hT1.f3,fun vals w5=>∃ J:Nat,vals=[.int .i64 J]/\J<=S.n/\Box w5 w.heap.size 103 [Value.slice none 0 0,.int .i64 0,.int .i64 0,.string { data:=#[] },.int .i64 0,.int .i64 0,.string { data:=#[] },.slice none 0 0]/\Box w5 W1.heap.size 88 (QL (dualP S s d J) S.m)/\Box w5 W2.heap.size 103 (bestc (.slice none 0 0) (zval S s c) (.slice (some ⟨W1.heap.size,0,none⟩) S.m S.m))/\Ext w w5,mu1 S.n,⟨0,rfl,Nat.zero_le _,k1,k2,k3,hx⟩,?_⟩
 clear k1 k2 k3 hx hT1 hge
 rintro m w5 ⟨J,hvJ,hJ,k1,k2,k3,hx⟩
 cases hvJ
 have hT5:=hT.ext hx hB
 refine zAd (fun hlt=>?_) (fun hge=>?_)
 ·have hJn:J<S.n:=by omega
  have hcol:=hp.col J hJn
  obtain⟨a2,hac,hcc⟩:=hT5.colsAt (j:=J) hJn
  refine⟨a2,hac,⟨by omega,hlt⟩,_,hcc,_,hT5.f0,zAd (fun h1=>?_) (fun h1=>?_)⟩
  ·have hge:S.n<=s.cols J:=by omega
   have hxd:=hx.drew
   have hTd:=hT.ext hxd hB
   obtain⟨b,o,ha,hdv⟩:=(hd.ext hxd).get hJn
   have k2d:=k2.ext (Ext.refl _).drew
   have hin:s.cols J - S.n<S.m:=by omega
   refine⟨_,_,_,(k3.ext (Ext.refl _).drew).blk.cell (j:=7) rfl,_,hTd.f0,_,ha,⟨by omega,hlt⟩,_,_,_,hdv,_,rfl,?_⟩
   rw [zFE hF.few hge hcol.1,Int.toNat_natCast]
   refine⟨⟨by omega,by omega⟩,k2d.qwr hin,?_⟩
   rw [zAh (by omega)]
   refine⟨⟨J+1,rfl,hJn,?_,?_,?_,?_⟩,by simp only [mu1,Int.toNat_natCast];omega⟩
   ·rw [zAk];exact (k1.ext (Ext.refl _).drew).away zAb (by omega)
   ·have:=k2d.qset hin (d J)
    rw [<- zAT fun k _=>dualP_succ hp d hJn hge k] at this
    exact this
   ·rw [zAk];exact (k3.ext (Ext.refl _).drew).away zAb (by omega)
   ·rw [zAk];exact hxd.put hs2 _ _
  ·rw [zAh (by omega)]
   refine⟨⟨J+1,rfl,hJn,k1,?_,k3,hx⟩,by simp only [mu1,Int.toNat_natCast];omega⟩
   rw [zAT fun k _=>dualP_same d (by omega) k]
   exact k2
 ·have eJ:J=S.n:=by omega
  subst eJ
  have p1:=k1.put (bestc (.slice none 0 0) (zval S s c) (.slice (some ⟨W1.heap.size,0,none⟩) S.m S.m)) (by rfl)
  refine⟨_,_,_,_,_,_,_,_,_,_,_,_,k3.blk.all,k1.blk.writable (by decide),_,_,_,_,_,_,_,_,_,_,_,_,p1.blk.all,W1.heap.size,rfl,hs2,?_,hx.put (Nat.le_refl _) _ _⟩
  exact k2.away zAb (by omega)
end Go.Proofs.Si
