/- Part of the proof: SiX, SiO, SiO2, SiO3, SiO4. -/
import Derived.Test.YtoaiappkhcjagaaGreatDoorMSiL5
import Derived.Test.YtoaiappkhcjagaaGreatDoorSiV3
set_option linter.unusedVariables false
set_option linter.unusedSimpArgs false
namespace Go.Proofs.Si
open Go Go.V Go.Proofs Go.RowKit Go.Num Go.Proofs.Tryz
set_option maxRecDepth 100000
theorem prefix_minus(l:List UInt8):Lib.hasPrefix l [45]=(zA0 l).1/\Lib.trimPrefix l [45]=(zA0 l).2:=by
 unfold Lib.trimPrefix
 match l with
 | []=>exact⟨rfl,rfl⟩
 | c::l =>
  by_cases h:c=45
  ·subst h
   refine⟨rfl,rfl⟩
  ·have h1:Lib.hasPrefix (c::l) [45]=false:=by
    unfold Lib.hasPrefix
    have:((45:UInt8)==c)=false:=by rw [beq_eq_false_iff_ne];exact fun e=>h e.symm
    simp [List.isPrefixOf,this]
   rw [h1]
   have h2:zA0 (c::l)=(false,c::l):=by
    unfold zA0;split
    ·rename_i h3;cases h3;exact absurd rfl h
    ·rfl
   rw [h2];exact⟨rfl,rfl⟩
theorem zE4 : ∀ l:List UInt8,Lib.index l [47]=if (l.takeWhile (· != 47)).length<l.length then ((l.takeWhile (· != 47)).length:Int) else -1
 | []=>by simp [Lib.index]
 | c::l=>by
  have ih:=zE4 l
  by_cases h:c=47
  ·subst h
   unfold Lib.index
   rw [if_pos (by simp [List.isPrefixOf])]
   simp
  ·have hne:((47:UInt8)==c)=false:=by rw [beq_eq_false_iff_ne];exact fun e=>h e.symm
   have b:(c != 47)=true:=by rw [bne_iff_ne];exact h
   unfold Lib.index
   rw [if_neg (by simp [List.isPrefixOf,hne]),List.takeWhile_cons,b,if_pos rfl,List.length_cons,List.length_cons]
   by_cases h2:(l.takeWhile (· != 47)).length<l.length
   ·rw [if_pos h2] at ih
    rw [ih,if_neg (by simp only [beq_iff_eq];omega),if_pos (by omega)]
    omega
   ·rw [if_neg h2] at ih
    rw [ih,if_pos (by decide),if_neg (by omega)]
theorem cut_stroke(l:List UInt8):Lib.cut l [47]=if (l.takeWhile (· != 47)).length<l.length then (l.takeWhile (· != 47),l.drop ((l.takeWhile (· != 47)).length+1),true) else (l,[],false):=by
 unfold Lib.cut;rw [zE4]
 by_cases h:(l.takeWhile (· != 47)).length<l.length
 ·rw [if_pos h,if_pos (by omega),if_pos h,yT]
  congr 1
  exact List.prefix_iff_eq_take.1 (List.takeWhile_prefix _) |>.symm
 ·rw [if_neg h,if_neg (by omega),if_neg h]
theorem pum : ∀ (l:List UInt8) (acc:Nat),l.all isDig=true->acc<=18446744073709551615->Lib.parseUintM 18446744073709551615 acc l=if acc*10 ^ l.length+val l<=18446744073709551615 then .ok (acc*10 ^ l.length+val l) else .range
 | [],acc,_,h=>by
  rw [Lib.parseUintM,zCV,List.length_nil,Nat.pow_zero,Nat.mul_one,Nat.add_zero,if_pos h]
 | c::r,acc,hd,h=>by
  rw [List.all_cons,Bool.and_eq_true] at hd
  obtain⟨h1,h2⟩:=zB4 hd.1
  have e:acc*10 ^ (c::r).length+val (c::r)=(acc*10+(c.toNat - 48))*10 ^ r.length+val r:=by
   rw [List.length_cons,zC5,Nat.pow_succ,dv,Nat.add_mul]
   have:acc*(10 ^ r.length*10)=acc*10*10 ^ r.length:=by rw [Nat.mul_comm (10 ^ r.length),Nat.mul_assoc]
   omega
  have hp:1<=10 ^ r.length:=Nat.one_le_pow _ _ (by omega);have b:acc*10+(c.toNat - 48)<=(acc*10+(c.toNat - 48))*10 ^ r.length:=Nat.le_mul_of_pos_right _ hp;rw [Lib.parseUintM,if_pos ⟨h1,h2⟩,e]
  by_cases h3:1844674407370955162<=acc
  ·rw [if_pos h3,if_neg (by omega)]
  ·rw [if_neg h3]
   by_cases h4:18446744073709551615<acc*10+(c.toNat - 48)
   ·rw [if_pos h4,if_neg (by omega)]
   ·rw [if_neg h4,pum r _ hd.2 (by omega)]
theorem pub{l:List UInt8}(hne:l≠[])(hd:l.all isDig=true):Lib.parseUintB 64 l=if val l<=18446744073709551615 then .ok (val l) else .range:=by
 unfold Lib.parseUintB;rw [if_neg hne];have:=pum l 0 hd (by omega);rw [Nat.zero_mul,Nat.zero_add] at this;exact this
theorem zFo{l:List UInt8}(hne:l≠[])(hd:l.all isDig=true):Lib.parseIntB 64 l=if val l<=9223372036854775807 then .ok (val l:Int) else .range:=by
 cases l with
 | nil=>exact absurd rfl hne
 | cons c r =>
  have hc:isDig c=true:=by rw [List.all_cons,Bool.and_eq_true] at hd;exact hd.1
  obtain⟨h1,h2⟩:=zB4 hc;rw [Lib.parseIntB_plain 64 c r (by omega) (by omega),pub hne hd]
  by_cases h3:val (c::r)<=18446744073709551615
  ·rw [if_pos h3,Lib.signlessC]
   by_cases h4:val (c::r)<=9223372036854775807
   ·rw [if_pos h4,if_neg (by omega)]
   ·rw [if_neg h4,if_pos (by omega)]
  ·rw [if_neg h3,if_neg (by omega)];rfl
theorem pib_minus{l:List UInt8}(hne:l≠[])(hd:l.all isDig=true):Lib.parseIntB 64 (45::l)=if val l<=9223372036854775808 then .ok (-(val l:Int)) else .range:=by
 rw [Lib.parseIntB_minus,pub hne hd]
 by_cases h3:val l<=18446744073709551615
 ·rw [if_pos h3,Lib.signedC]
  by_cases h4:val l<=9223372036854775808
  ·rw [if_pos h4,if_neg (by omega)]
  ·rw [if_neg h4,if_pos (by omega)]
 ·rw [if_neg h3,if_neg (by omega)];rfl
structure Gl (w:World):Prop where
 p10:P10 w
 ml : ∃ m,w.cell? ⟨1,0,none⟩=some (Iv m)
 er : ∃ tp p, w.var? prog "strconv.ErrRange" = some #[.iface tp p]
theorem Gl.ext{w w'}(h:Gl w)(he:Ext w w'):Gl w':=by
 refine⟨h.p10.ext he,?_,?_⟩
 ·obtain⟨m,hm⟩:=h.ml;exact⟨m,he.cell hm⟩
 ·obtain⟨tp,p,hm⟩:=h.er;exact⟨tp,p,var_ext he hm⟩
theorem c183(s:BA)(w:World):Ret prog 183 #[Sv s,Sv { data:=#[45] }] w fun v w'=>(∃ t,v = .tuple #[Sv t,Bv (zA0 (bs s)).1]/\bs t=(zA0 (bs s)).2)/\w' = w:=by
 refine Calls.mono (Tryz.strings_CutPrefix s { data:=#[45] } w) ?_;rintro e w' ⟨rfl,rfl⟩;obtain⟨h1,h2⟩:=prefix_minus (bs s);refine⟨_,rfl,⟨mk (Lib.trimPrefix (bs s) [45]),?_,by rw [bs_mk,h2]⟩,rfl⟩;rw [<- h1];rfl
theorem c149(s:BA)(hs:s.size<4294967281)(w)(hg:Gl w):Ret prog 149 #[Sv s,Sv { data:=#[47] }] w fun v w' =>
  (∃ t u,v = .tuple #[Sv t,Sv u,Bv (decide (((bs s).takeWhile (· != 47)).length<(bs s).length))]/\bs t=(dqCut (bs s)).1/\(if ((bs s).takeWhile (· != 47)).length<(bs s).length then bs u=(dqCut (bs s)).2 else bs u=[]))/\Ext w w':=by
 obtain⟨m,hm⟩:=hg.ml;refine Calls.mono (Tryz.strings_Cut s { data:=#[47] } m w hs hm) ?_;rintro e w' ⟨rfl,n,rfl⟩;have hc:Lib.cut s.data.toList ({ data:=#[47] } : BA).data.toList=_:=cut_stroke (bs s);rw [hc];unfold dqCut
 by_cases h:((bs s).takeWhile (· != 47)).length<(bs s).length
 ·simp only [if_pos h,decide_eq_true h]
  refine⟨_,rfl,⟨_,_,rfl,bs_mk _,bs_mk _⟩,?_⟩;exact⟨rfl,rfl,rfl,yL,fun _ _=>rfl⟩
 ·simp only [if_neg h,decide_eq_false h]
  refine⟨_,rfl,⟨_,_,rfl,bs_mk _,bs_mk _⟩,?_⟩;exact⟨rfl,rfl,rfl,yL,fun _ _=>rfl⟩
theorem c150(s:BA)(v:Int)(h:Lib.parseIntB 64 (bs s) = .ok v)(hz:s.size<=281474976710656)(w):Ret prog 150 #[Sv s,Iv 10,Iv 64] w fun u w'=>u = .tuple #[Iv v,.nilIface]/\Ext w w':=by
 refine Calls.mono (Tryz.strconv_ParseInt_10_at64_ok s (by omega) v h w) ?_;rintro e w' ⟨rfl,rfl | ⟨t,rfl⟩⟩
 ·exact⟨_,rfl,rfl,yE _⟩
 ·exact⟨_,rfl,rfl,Lib.bytesWorld_below w 5 t⟩
theorem c150r(s:BA)(h:Lib.parseIntB 64 (bs s) = .range)(hz:s.size<=281474976710656)(w)(hg:Gl w):Ret prog 150 #[Sv s,Iv 10,Iv 64] w fun u w'=>(∃ n t p,u = .tuple #[Iv n,.iface t p])/\Ext w w':=by
 obtain⟨tp,p,hv⟩:=hg.er;refine Calls.mono (Tryz.strconv_ParseInt_10_at64_range_var s hz h tp p w hv) ?_;rintro e w' ⟨N,rfl,_,_,hb⟩;exact⟨_,rfl,⟨_,_,_,rfl⟩,hb⟩
theorem textV{va:Value}{n:Nat}(w)(ha:NatV w va n)(hz:nd n<=1000000000000)(hg:Gl w):Ret prog 208 #[va] w fun v w'=>(∃ s,v=Sv s/\bs s=dec n)/\Ext w w':=by
 obtain⟨a,ca,A,rfl,b,d,oa,na,rfl,la⟩:=ha.cut;exact c208 w d oa na b (by omega) hg.p10
theorem oneV{va:Value}{n:Nat}(w)(ha:NatV w va n):Ret prog 188 #[va] w fun v w'=>v=Bv (decide (n=1))/\w' = w:=by
 obtain⟨a,ca,A,rfl,d,b,oa,na,rfl,la⟩:=ha.cut;exact c188 w b oa na
theorem sliceV{w:World}{v:Value}{n:Nat}(h:NatV w v n) : ∃ a l c,v=Lv a l c:=by
 obtain⟨a,c,L,e,_⟩:=h;exact⟨_,_,_,e⟩
theorem mulV{va vb:Value}{m n:Nat}(w)(ha:NatV w va m)(hb:NatV w vb n)(hz:nd m<=1000000000000/\nd n<=1000000000000):Ret prog 220 #[va,vb] w fun v w'=>(∃ a l c,v=Lv a l c)/\NatV w' v (m*n)/\Ext w w':=by
 obtain⟨a,ca,A,rfl,g,d,oa,na,rfl,la⟩:=ha.cut;obtain⟨b,cb,B,rfl,i,f,ob,nb,rfl,lb⟩:=hb.cut;refine (c220 w d f oa ob ⟨by omega,by omega⟩).mono ?_;rintro v w' ⟨h,_,he⟩;exact⟨sliceV h.natV,h.natV,he⟩
theorem addV{va vb:Value}{m n:Nat}(w)(ha:NatV w va m)(hb:NatV w vb n)(hz:nd m<=1000000000000/\nd n<=1000000000000):Ret prog 222 #[va,vb] w fun v w'=>(∃ a l c,v=Lv a l c)/\NatV w' v (m+n)/\Ext w w':=by
 obtain⟨a,ca,A,rfl,g,d,oa,na,rfl,la⟩:=ha.cut;obtain⟨b,cb,B,rfl,i,f,ob,nb,rfl,lb⟩:=hb.cut;refine (c222 w d f oa ob ⟨by omega,by omega⟩).mono ?_;rintro v w' ⟨h,he⟩;exact⟨sliceV h.natV,h.natV,he⟩
theorem subV{va vb:Value}{m n:Nat}(w)(ha:NatV w va m)(hb:NatV w vb n)(hle:n<=m)(hz:nd m<=1000000000000):Ret prog 224 #[va,vb] w fun v w'=>(∃ a l c,v=Lv a l c)/\NatV w' v (m - n)/\Ext w w':=by
 obtain⟨a,ca,A,rfl,g,d,oa,na,rfl,la⟩:=ha.cut;obtain⟨b,cb,B,rfl,i,f,ob,nb,rfl,lb⟩:=hb.cut;refine (c224 w d f oa ob nb hle (by omega)).mono ?_;rintro v w' ⟨h,he⟩;exact⟨sliceV h.natV,h.natV,he⟩
theorem cmpV{va vb:Value}{m n:Nat}(w)(ha:NatV w va m)(hb:NatV w vb n)(hz:nd m<=1000000000000/\nd n<=1000000000000):Ret prog 223 #[va,vb] w fun v w'=>(∃ z:Int,v=Iv z/\(z<0↔m<n))/\Ext w w':=by
 obtain⟨a,ca,A,rfl,g,d,oa,na,rfl,la⟩:=ha.cut;obtain⟨b,cb,B,rfl,h,f,ob,nb,rfl,lb⟩:=hb.cut;exact c223 w d f oa ob na nb ⟨by omega,by omega⟩
theorem NatV.drew{w:World}{v:Value}{n:Nat}(h:NatV w v n):NatV w.drew v n:=h.ext (yE w).drew
theorem Gl.drew{w}(h:Gl w):Gl w.drew:=h.ext (yE w).drew
theorem NatV.pos{w:World}{a:OA}{l c n:Nat}(h:NatV w (Lv a l c) n):0<l↔n≠0:=by
 obtain⟨a',c',L,e,_,_,_,hn,hl⟩:=h;cases e;rw [<- hl];constructor
 ·intro h0 e0
  have:=zEr hn h0;have h3:0<1000000000 ^ (L.length - 1):=Nat.pow_pos (by omega);omega
 ·intro h0
  refine Nat.pos_of_ne_zero fun e0=>h0 ?_;rw [List.eq_nil_of_length_eq_zero e0];rfl
theorem zAo(b:Bool)(a1:OA)(n1 c1:Nat)(a2:OA)(n2 c2:Nat) : ∀ x:Nat,u32v x∉[Bv b,Lv a1 n1 c1,Lv a2 n2 c2]:=fun x=>by simp [u32v]
theorem c195{v:Value}{neg:Bool}{a b:Nat}(w)(h:RatM w v neg a b)(hz:nd a<=1000000000/\nd b<=1000000000)(hg:Gl w) :
  Ret prog 195 #[v] w fun v w'=>(∃ s,v=Sv s/\bs s=txt3 (neg&&decide (a≠0)) a b)/\Ext w w':=by
 obtain⟨a1,n1,c1,a2,n2,c2,rfl,ha,hb⟩:=h;have hx:=(yE w).alloc (.cells #[Bv neg,Lv a1 n1 c1,Lv a2 n2 c2] 184);have k:=yN w [Bv neg,Lv a1 n1 c1,Lv a2 n2 c2] 184;refine run195 _ _ _ _ _ _ _ _ _ ⟨_,_,_,k.blk.cell (j:=1) rfl,yC (textV _ (ha.ext hx) (by omega) (hg.ext hx)) ?_⟩;rintro v w1 ⟨⟨s,rfl,hs⟩,d⟩;have f:=k.ext d
 have a4:s.size<=1000000000:=by rw [zAc,hs];exact hz.1
 refine⟨s,rfl,fun K hK K1 l=>?_⟩;have a5:=hx.trans d
 have fin : ∀ (s1:BA) (n0:Bool),s1.size<=1000000001->n0=(neg&&decide (a≠0))->bs s1=(if n0 then [45] else [])++dec a->K [Sv s1] w1:=by
  intro s1 n0 a0 m o;refine hK s1 ⟨_,_,_,f.blk.cell (j:=2) rfl,yC (oneV w1 ((hb.ext hx).ext d)) ?_⟩;rintro v w2 ⟨rfl,rfl⟩;refine⟨_,rfl,zAb (fun x=>?_) (fun n=>⟨⟨_,rfl,?_⟩,Ext.from_alloc d⟩)⟩
  ·have i:b≠1:=by simpa using x
   refine⟨_,_,_,f.blk.cell (j:=2) rfl,yC (textV _ ((hb.ext hx).ext d) (by omega) ((hg.ext hx).ext d)) ?_⟩;rintro v w3 ⟨⟨s2,rfl,p⟩,u⟩
   have a3:s2.size<=1000000000:=by rw [zAc,p];exact hz.2
   refine⟨s2,rfl,by omega,?_,⟨_,rfl,?_⟩,Ext.from_alloc (d.trans u)⟩
   ·rw [zDw]
    have:({ data:=#[47] } : BA).size=1:=rfl;omega
   ·rw [zBa,zBa,o,p,<- m,txt3,if_neg i];rfl
  ·have i:b=1:=by simpa using n
   rw [o,<- m,txt3,if_pos i,List.append_nil]
 refine⟨_,f.blk.cell (j:=0) rfl,zAb (fun hn=>?_) (fun hn=>?_)⟩
 ·refine⟨_,_,_,f.blk.cell (j:=1) rfl,l _ (zAd (fun h0=>?_) (fun h0=>?_))⟩
  ·have g:a≠0:=ha.pos.1 (by omega)
   refine⟨by omega,fin _ true ?_ (by rw [hn,decide_eq_true g];rfl) ?_⟩
   ·rw [zDw]
    have:({ data:=#[45] } : BA).size=1:=rfl;omega
   ·rw [zBa,hs];rfl
  ·have g : ¬ a≠0:=fun e=>h0 (by have:=ha.pos.2 e;omega)
   exact fin _ false (by omega) (by rw [decide_eq_false g,Bool.and_false]) (by rw [hs];rfl)
 ·refine l _ ?_
  rw [cond_false];exact fin _ false (by omega) (by rw [hn];rfl) (by rw [hs];rfl)
theorem txt_red(neg:Bool)(a:Nat){b:Nat}(hb:b≠0):txt3 (neg&&decide (a / Nat.gcd a b≠0)) (a / Nat.gcd a b) (b / Nat.gcd a b)=txtQ (red neg a b):=by
 unfold txtQ;rw [zD6 neg a hb,zEp neg a hb,zBS]
 congr 1
 rw [Bool.eq_iff_iff,decide_eq_true_eq,sgn_neg,Bool.and_eq_true,decide_eq_true_eq]
theorem c198{v u:Value}{m n:Bool}{a b c d:Nat}(w)(hv:RatM w v m a b)(hu:RatM w u n c d)(hb0:0<b)(hd0:0<d)(hz:nd a+nd c<=1000000000/\nd b+nd d<=1000000000) :
  Ret prog 198 #[v,u] w fun v w'=>RatM w' v (m != n) (a*c / Nat.gcd (a*c) (b*d)) (b*d / Nat.gcd (a*c) (b*d))/\Ext w w':=by
 obtain⟨a1,n1,c1,a2,n2,c2,rfl,ha,hb⟩:=hv;obtain⟨a3,n3,c3,a4,n4,c4,rfl,hc,hd⟩:=hu;have a6:=(yE w).alloc (.cells #[Bv m,Lv a1 n1 c1,Lv a2 n2 c2] 184);have x:=(yE (w.alloc (.cells #[Bv m,Lv a1 n1 c1,Lv a2 n2 c2] 184))).alloc (.cells #[Bv n,Lv a3 n3 c3,Lv a4 n4 c4] 184);have a0:=(yE ((w.alloc (.cells #[Bv m,Lv a1 n1 c1,Lv a2 n2 c2] 184)).alloc (.cells #[Bv n,Lv a3 n3 c3,Lv a4 n4 c4] 184))).alloc (.cells #[Bv false,N0,N0] 184);have o:=((yN w [Bv m,Lv a1 n1 c1,Lv a2 n2 c2] 184).ext x).ext a0.drew;have s:=(yN (w.alloc (.cells #[Bv m,Lv a1 n1 c1,Lv a2 n2 c2] 184)) [Bv n,Lv a3 n3 c3,Lv a4 n4 c4] 184).ext a0.drew;have a7:=(yN ((w.alloc (.cells #[Bv m,Lv a1 n1 c1,Lv a2 n2 c2] 184)).alloc (.cells #[Bv n,Lv a3 n3 c3,Lv a4 n4 c4] 184)) [Bv false,N0,N0] 184).ext (yE _).drew;have g:=(a6.trans x).trans a0.drew;have b1:w.heap.size<=((w.alloc (.cells #[Bv m,Lv a1 n1 c1,Lv a2 n2 c2] 184)).alloc (.cells #[Bv n,Lv a3 n3 c3,Lv a4 n4 c4] 184)).heap.size:=(a6.trans x).size;refine run198 _ _ _ _ _ _ _ _ _ _ _ _ _ _ _ _ fun K hK=>?_;refine⟨_,o.blk.cell (j:=0) rfl,_,s.blk.cell (j:=0) rfl,_,_,_,o.blk.cell (j:=1) rfl,_,_,_,s.blk.cell (j:=1) rfl,_,_,_,o.blk.cell (j:=2) rfl,_,_,_,s.blk.cell (j:=2) rfl,?_⟩;have za:=zE3 a;have zb:=zE3 b;have zc:=zE3 c;have zd:=zE3 d;refine yC (mulV _ (ha.ext g) (hc.ext g) ⟨by omega,by omega⟩) ?_;rintro v w2 ⟨⟨p,l,k,rfl⟩,hp,f⟩;refine⟨_,_,_,rfl,f,yC (mulV _ ((hb.ext g).ext f) ((hd.ext g).ext f) ⟨by omega,by omega⟩) ?_⟩;rintro v w3 ⟨⟨p',l',k',rfl⟩,a8,i⟩;have zac:nd (a*c)<=nd a+nd c:=zA1 a c;have zbd:nd (b*d)<=nd b+nd d:=zA1 b d;refine⟨_,_,_,rfl,f.trans i,yC (c221 _ _ (hp.ext i) a8 (Nat.mul_pos hb0 hd0) ⟨by omega,by omega⟩) ?_⟩;rintro v w4 ⟨hr,a5⟩;obtain⟨q1,l1,k1,q2,l2,k2,rfl,a9,b0⟩:=hr;have h:=((a7.ext f).ext i).ext a5;refine⟨_,_,_,_,_,_,_,rfl,h.blk.writable (by decide),hK _ ⟨_,_,_,_,_,_,_,(h.put _ (by rfl)).blk.all,⟨_,_,_,_,_,_,rfl,a9.put h (zAo _ _ _ _ _ _ _) _ _ _,b0.put h (zAo _ _ _ _ _ _ _) _ _ _⟩,?_⟩⟩;exact (((g.trans f).trans i).trans a5).put b1 _ _
set_option maxHeartbeats 1000000 in
theorem c194{v u:Value}{m n:Bool}{a b c d:Nat}(w)(hv:RatM w v m a b)(hu:RatM w u n c d)(hb0:0<b)(hd0:0<d)(hz:nd a+nd d<=1000000000/\nd c+nd b<=1000000000/\nd b+nd d<=1000000000) :
  Ret prog 194 #[v,u] w fun v w'=>(∃ (neg:Bool) (x:Nat),sgn m (a*d)+sgn n (c*b)=sgn neg x/\x<=a*d+c*b/\RatM w' v neg (x / Nat.gcd x (b*d)) (b*d / Nat.gcd x (b*d)))/\Ext w w':=by
 obtain⟨a1,n1,c1,a2,n2,c2,rfl,ha,hb⟩:=hv;obtain⟨a3,n3,c3,a4,n4,c4,rfl,hc,hd⟩:=hu;have d1:=(yE w).alloc (.cells #[Bv m,Lv a1 n1 c1,Lv a2 n2 c2] 184);have b6:=(yE (w.alloc (.cells #[Bv m,Lv a1 n1 c1,Lv a2 n2 c2] 184))).alloc (.cells #[Bv n,Lv a3 n3 c3,Lv a4 n4 c4] 184);have b7:=(yE ((w.alloc (.cells #[Bv m,Lv a1 n1 c1,Lv a2 n2 c2] 184)).alloc (.cells #[Bv n,Lv a3 n3 c3,Lv a4 n4 c4] 184))).alloc (.cells #[Bv false,N0,N0] 184);have a7:=((yN w [Bv m,Lv a1 n1 c1,Lv a2 n2 c2] 184).ext b6).ext b7.drew;have a8:=(yN (w.alloc (.cells #[Bv m,Lv a1 n1 c1,Lv a2 n2 c2] 184)) [Bv n,Lv a3 n3 c3,Lv a4 n4 c4] 184).ext b7.drew;have d4:=(yN ((w.alloc (.cells #[Bv m,Lv a1 n1 c1,Lv a2 n2 c2] 184)).alloc (.cells #[Bv n,Lv a3 n3 c3,Lv a4 n4 c4] 184)) [Bv false,N0,N0] 184).ext (yE _).drew;have o:=(d1.trans b6).trans b7.drew;have e3:w.heap.size<=((w.alloc (.cells #[Bv m,Lv a1 n1 c1,Lv a2 n2 c2] 184)).alloc (.cells #[Bv n,Lv a3 n3 c3,Lv a4 n4 c4] 184)).heap.size:=(d1.trans b6).size;refine run194 _ _ _ _ _ _ _ _ _ _ _ _ _ _ _ _ ?_;have za:=zE3 a;have zb:=zE3 b;have zc:=zE3 c;have zd:=zE3 d;have zad:nd (a*d)<=nd a+nd d:=zA1 a d;have zcb:nd (c*b)<=nd c+nd b:=zA1 c b;have zbd:nd (b*d)<=nd b+nd d:=zA1 b d;have zs:nd (a*d+c*b)<=max (nd (a*d)) (nd (c*b))+1:=zBG _ _
 have fin : ∀ (neg:Bool) (x:Nat) (vx vd:Value) (W:World),sgn m (a*d)+sgn n (c*b)=sgn neg x->x<=a*d+c*b->NatV W vx x->NatV W vd (b*d) ->
   Ext (((w.alloc (.cells #[Bv m,Lv a1 n1 c1,Lv a2 n2 c2] 184)).alloc (.cells #[Bv n,Lv a3 n3 c3,Lv a4 n4 c4] 184)).alloc (.cells #[Bv false,N0,N0] 184)).drew W ->
   ∀ {Q:World->Prop},(∀ W',(∃ b5 q1 l1 l2 q2 l3 l4,vcells W' ⟨((w.alloc (.cells #[Bv m,Lv a1 n1 c1,Lv a2 n2 c2] 184)).alloc (.cells #[Bv n,Lv a3 n3 c3,Lv a4 n4 c4] 184)).heap.size,0,none⟩ 0 [Bv b5,Lv q1 l1 l2,Lv q2 l3 l4] /\
    ((∃ (neg:Bool) (x:Nat),sgn m (a*d)+sgn n (c*b)=sgn neg x/\x<=a*d+c*b/\RatM W' (.agg #[Bv b5,Lv q1 l1 l2,Lv q2 l3 l4]) neg (x / Nat.gcd x (b*d)) (b*d / Nat.gcd x (b*d)))/\Ext w W'))->Q W') ->
   Called prog 221 #[Bv neg,vx,vd] W fun v w4=>∃ b4 p6 k12 k13 p7 k14 k15,v = .agg #[Bv b4,Lv p6 k12 k13,Lv p7 k14 k15] /\
    writable w4 ⟨((w.alloc (.cells #[Bv m,Lv a1 n1 c1,Lv a2 n2 c2] 184)).alloc (.cells #[Bv n,Lv a3 n3 c3,Lv a4 n4 c4] 184)).heap.size,0,none⟩ 3 /\
    Q (setCells w4 ⟨((w.alloc (.cells #[Bv m,Lv a1 n1 c1,Lv a2 n2 c2] 184)).alloc (.cells #[Bv n,Lv a3 n3 c3,Lv a4 n4 c4] 184)).heap.size,0,none⟩ 0 [Bv b4,Lv p6 k12 k13,Lv p7 k14 k15]):=by
  intro neg x vx vd W hs d2 e5 e4 hW Q hQ;have zx:nd x<=nd (a*d+c*b):=zB3 d2;refine yC (c221 neg W e5 e4 (Nat.mul_pos hb0 hd0) ⟨by omega,by omega⟩) ?_;rintro v w4 ⟨hr,s⟩;obtain⟨q1,l1,k1,q2,l2,k2,rfl,e1,e2⟩:=hr;have a9:=(d4.ext hW).ext s;refine⟨_,_,_,_,_,_,_,rfl,a9.blk.writable (by decide),hQ _ ⟨_,_,_,_,_,_,_,(a9.put _ (by rfl)).blk.all,⟨neg,x,hs,d2,_,_,_,_,_,_,rfl,e1.put a9 (zAo _ _ _ _ _ _ _) _ _ _,e2.put a9 (zAo _ _ _ _ _ _ _) _ _ _⟩,?_⟩⟩;exact ((o.trans hW).trans s).put e3 _ _
 intro K hK;refine⟨_,_,_,a7.blk.cell (j:=1) rfl,_,_,_,a8.blk.cell (j:=2) rfl,_,_,_,a8.blk.cell (j:=1) rfl,_,_,_,a7.blk.cell (j:=2) rfl,_,_,_,a7.blk.cell (j:=2) rfl,_,_,_,a8.blk.cell (j:=2) rfl,?_⟩;refine yC (mulV _ (ha.ext o) (hd.ext o) ⟨by omega,by omega⟩) ?_;rintro v w2 ⟨⟨p,l,k,rfl⟩,hp,g⟩;refine⟨_,_,_,rfl,g,yC (mulV _ ((hc.ext o).ext g) ((hb.ext o).ext g) ⟨by omega,by omega⟩) ?_⟩;rintro v w3 ⟨⟨p',l',k',rfl⟩,e0,a0⟩;refine⟨_,_,_,rfl,g.trans a0,yC (mulV _ (((hb.ext o).ext g).ext a0) (((hd.ext o).ext g).ext a0) ⟨by omega,by omega⟩) ?_⟩;rintro v w4 ⟨⟨p'',l'',k'',rfl⟩,a5,s⟩;have hq:=(hp.ext a0).ext s;have b0:=e0.ext s;have hW:=(g.trans a0).trans s;have b3:=a7.ext hW;have b8:=a8.ext hW;refine⟨_,_,_,rfl,hK _ _ _ _ _ _ _ _ _ _ ⟨_,b3.blk.cell (j:=0) rfl,_,b8.blk.cell (j:=0) rfl,zAb (fun d8=>?_) (fun d9=>?_)⟩⟩
 ·have b9:m=n:=by simpa using d8
  intro K1 d5;refine⟨_,b3.blk.cell (w:=w4.drew) (j:=0) rfl,yC (addV _ hq.drew b0.drew ⟨by omega,by omega⟩) ?_⟩;rintro v w5 ⟨⟨p5,l5,k5,rfl⟩,a6,f⟩;exact⟨_,_,_,rfl,f,fin m _ _ _ _ (by rw [<- b9,zCY]) yL a6 (a5.drew.ext f) (hW.drew.trans f) d5⟩
 ·have b2:m≠n:=by rintro rfl;simp at d9
  refine yC (cmpV _ hq b0 ⟨by omega,by omega⟩) ?_;rintro v w5 ⟨⟨z,rfl,d3⟩,f⟩;refine⟨_,rfl,zAd (fun e6=>?_) (fun e7=>?_)⟩
  ·have d0:c*b<=a*d:=by
    have : ¬ a*d<c*b:=fun h=>by have:=d3.2 h;omega
    omega
   intro K2 d6;refine⟨_,(b3.ext f).blk.cell (w:=w5.drew) (j:=0) rfl,yC (subV _ (hq.ext f).drew (b0.ext f).drew d0 (by omega)) ?_⟩;rintro v w6 ⟨⟨p5,l5,k5,rfl⟩,a6,i⟩;exact⟨_,_,_,rfl,i,fin m _ _ _ _ (zEn b2 d0) (by omega) a6 ((a5.ext f).drew.ext i) ((hW.trans f).drew.trans i) d6⟩
  ·have b1:a*d<c*b:=d3.1 (by omega)
   intro K3 d7;refine⟨_,(b8.ext f).blk.cell (w:=w5.drew) (j:=0) rfl,yC (subV _ (b0.ext f).drew (hq.ext f).drew (Nat.le_of_lt b1) (by omega)) ?_⟩;rintro v w6 ⟨⟨p5,l5,k5,rfl⟩,a6,i⟩;exact⟨_,_,_,rfl,i,fin n _ _ _ _ (zEm b2 b1) (by omega) a6 ((a5.ext f).drew.ext i) ((hW.trans f).drew.trans i) d7⟩
end Go.Proofs.Si
namespace Go.Num
def frac(l:List UInt8):Bool:=decide (((zA0 l).2.takeWhile (· != 47)).length<(zA0 l).2.length)
def numL(l:List UInt8):List UInt8:=(dqCut (zA0 l).2).1
def denL(l:List UInt8):List UInt8:=(dqCut (zA0 l).2).2
structure OkR (l:List UInt8):Prop where
 num:canon (numL l)=true
 zero:numL l=[48]->(zA0 l).1=false/\frac l=false
 den:frac l=true->canon (denL l)=true/\denL l≠[48]/\denL l≠[49]/\Nat.gcd (val (numL l)) (val (denL l))=1
theorem zC2{l:List UInt8}(h:canon l=true):l.all isDig=true/\l≠[]:=by
 unfold canon at h;rw [Bool.and_eq_true,Bool.and_eq_true] at h;refine⟨h.1.2,fun e=>?_⟩;rw [e] at h;simp at h
theorem zER{l:List UInt8}(h:frac l=false):denL l=[49]/\numL l=(zA0 l).2:=by
 have h' : ¬ ((zA0 l).2.takeWhile (· != 47)).length<(zA0 l).2.length:=of_decide_eq_false h;unfold denL numL dqCut;rw [if_neg h'];exact⟨rfl,rfl⟩
theorem stroke_at : ∀ s:List UInt8,(s.takeWhile (· != 47)).length<s.length->s.drop (s.takeWhile (· != 47)).length=47::s.drop ((s.takeWhile (· != 47)).length+1)
 | [],h=>by simp at h
 | c::s,h=>by
  by_cases hc:c=47
  ·subst hc;simp
  ·have hne:(c != 47)=true:=by rw [bne_iff_ne];exact hc
   rw [List.takeWhile_cons,hne,if_pos rfl,List.length_cons,List.length_cons] at h
   rw [List.takeWhile_cons,hne,if_pos rfl,List.length_cons,List.drop_succ_cons,List.drop_succ_cons]
   exact stroke_at s (by omega)
theorem zGe{l:List UInt8}(h:frac l=true):(zA0 l).2=numL l++47::denL l:=by
 have h' : ((zA0 l).2.takeWhile (· != 47)).length<(zA0 l).2.length:=of_decide_eq_true h;unfold denL numL dqCut;rw [if_pos h'];generalize (zA0 l).2=s at h';show s=s.takeWhile (· != 47)++47::s.drop ((s.takeWhile (· != 47)).length+1);have h1:s.takeWhile (· != 47)=s.take (s.takeWhile (· != 47)).length:=List.prefix_iff_eq_take.1 (List.takeWhile_prefix _)
 conv=>lhs;rw [<- List.take_append_drop (s.takeWhile (· != 47)).length s,stroke_at s h',<- h1]
theorem zEk(l:List UInt8):l=(if (zA0 l).1 then [45] else [])++(zA0 l).2:=by
 match l with
 | []=>rfl
 | c::r =>
  by_cases h:c=45
  ·subst h;rfl
  ·have:zA0 (c::r)=(false,c::r):=by
    unfold zA0;split
    ·rename_i h3;cases h3;exact absurd rfl h
    ·rfl
   rw [this];rfl
theorem val_pos{l:List UInt8}(h:canon l=true)(h0:l≠[48]):val l≠0:=fun e=>h0 (by rw [<- zF6 h,e,zBc])
theorem OkR.q{l:List UInt8}(h:OkR l) : ∃ q:Rat,l=txtQ q/\(decide (q.num<0))=(zA0 l).1/\q.num.natAbs=val (numL l)/\q.den=val (denL l):=by
 have hn:=zF6 h.num
 have key : ∀ (d:Nat) (hd:d≠0) (hc:Nat.gcd (val (numL l)) d=1),∃ q:Rat,decide (q.num<0)=(zA0 l).1/\q.num.natAbs=val (numL l)/\q.den=d:=by
  intro d hd hc;refine⟨⟨sgn (zA0 l).1 (val (numL l)),d,hd,by rw [zBS];exact hc⟩,?_,zBS _ _,rfl⟩;show decide (sgn _ _<0)=_;rw [Bool.eq_iff_iff,decide_eq_true_eq,sgn_neg];refine⟨fun h1=>h1.1,fun h1=>⟨h1,val_pos h.num fun e=>?_⟩⟩;rw [(h.zero e).1] at h1;cases h1
 cases hf:frac l with
 | true =>
  obtain⟨d1,d2,d3,d4⟩:=h.den hf;have hd:=zF6 d1;obtain⟨q,q1,q2,q3⟩:=key (val (denL l)) (val_pos d1 d2) d4;refine⟨q,?_,q1,q2,q3⟩;unfold txtQ txt3;have b:val (denL l)≠1:=fun e=>d3 (by rw [<- hd,e,zAu (by omega)];rfl);rw [q1,q2,q3,hn,hd,if_neg b,List.append_assoc,<- zGe hf];exact zEk l
 | false =>
  obtain⟨e1,e2⟩:=zER hf
  have ev:val (denL l)=1:=by rw [e1];rfl
  obtain⟨q,q1,q2,q3⟩:=key 1 (by omega) (Nat.gcd_one_right _);refine⟨q,?_,q1,q2,by rw [q3,ev]⟩;unfold txtQ txt3;rw [q1,q2,q3,hn,if_pos rfl,List.append_nil,e2];exact zEk l
theorem zFc(q:Rat):zA0 (txtQ q)=(decide (q.num<0),dec q.num.natAbs++(if q.den=1 then [] else 47::dec q.den))/\numL (txtQ q)=dec q.num.natAbs/\denL (txtQ q)=dec q.den/\(frac (txtQ q)=true↔q.den≠1):=by
 have h1:zA0 (txtQ q)=_:=zC0 _ _ _;have h2:=zDk q.num.natAbs q.den;refine⟨h1,?_,?_,?_⟩
 ·unfold numL;rw [h1,h2]
 ·unfold denL;rw [h1,h2]
 ·unfold frac
  rw [h1,decide_eq_true_eq]
  by_cases hb:q.den=1
  ·rw [if_pos hb,List.append_nil,zCu (zAE _)]
   simp [hb]
  ·rw [if_neg hb,zDp (zAE _)]
   simp [hb]
theorem okR_txt(q:Rat):OkR (txtQ q):=by
 obtain⟨h1,h2,h3,h4⟩:=zFc q;refine⟨by rw [h2];exact zFA _,fun e=>?_,fun hf=>?_⟩
 ·rw [h2,<- zBc] at e
  have e0:q.num=0:=Int.natAbs_eq_zero.1 (zCH e);refine⟨by rw [h1,e0];rfl,?_⟩;have hq:q=0:=Rat.num_eq_zero.1 e0
  cases hf:frac (txtQ q) with
  | false=>rfl
  | true=>exact absurd (by rw [hq];rfl) (h4.1 hf)
 ·have hd:=h4.1 hf
  rw [h3,h2,zAQ,zAQ];refine⟨zFA _,fun e=>?_,fun e=>?_,q.reduced⟩
  ·rw [<- zBc] at e;exact q.den_nz (zCH e)
  ·have:([49]:List UInt8)=dec 1:=by rw [zAu (n:=1) (by omega)];rfl
   rw [this] at e;exact hd (zCH e)
theorem okR_iff{l:List UInt8} : OkR l↔∃ q,l=txtQ q:=⟨fun h=>let ⟨q,h,_⟩:=h.q;⟨q,h⟩,fun ⟨q,h⟩=>h▸okR_txt q⟩
end Go.Num
namespace Go.Proofs.Si
open Go Go.V Go.Proofs Go.RowKit Go.Num Go.Proofs.Tryz
set_option maxRecDepth 100000
def ReadR(w:World)(l:List UInt8)(v:Value):Prop :=
 (∃ (q:Rat) (u:Value),l=txtQ q/\v = .tuple #[u,Bv true]/\RatM w u (decide (q.num<0)) q.num.natAbs q.den) \/
  ((¬ ∃ q,l=txtQ q)/\∃ b a1 n1 c1 a2 n2 c2,v = .tuple #[.agg #[Bv b,Lv a1 n1 c1,Lv a2 n2 c2],Bv false])
theorem natOne(w:World):NatV (w.alloc (.cells #[.int .u32 1] 209)) (Lv (some ⟨w.heap.size,0,none⟩) 1 1) 1:=by
 refine⟨_,_,[1],rfl,yL,.inr ⟨_,rfl,rfl,?_⟩,by simp [okL],by simp [normL],rfl⟩;exact zEd w [.int .u32 1] 209
theorem NatO.cut{w:World}{B:Nat}{v:Value}{n:Nat}(h:NatO w B v n) : ∃ a l c,v=Lv a l c:=sliceV h.natV
theorem zDQ(l:List UInt8):(zA0 l).2.length<=l.length:=by
 have:=zEk l
 conv=>rhs;rw [this]
 rw [List.length_append];omega
theorem cut_len(l:List UInt8):(numL l).length<=l.length/\(frac l=true->(denL l).length<=l.length):=by
 have h:=zDQ l
 cases hf:frac l with
 | true =>
  have:=zGe hf;rw [this,List.length_append,List.length_cons] at h;exact⟨by omega,fun _=>by omega⟩
 | false=>exact⟨by rw [(zER hf).2];exact h,fun e=>by cases e⟩
theorem val_nd{l:List UInt8}(h:l.all isDig=true)(h0:0<l.length):nd (val l)<=l.length:=(zA9 h0).2 (zDx h)
set_option maxHeartbeats 1000000 in
theorem c153(a:BA)(hz:a.size<=1000000000)(w)(hg:Gl w):Ret prog 153 #[Sv a] w fun v w'=>ReadR w' (bs a) v/\Ext w w':=by
 have h3:=(yE w).alloc (.cells #[Bv false,N0,N0] 184);have g3:=yN w [Bv false,N0,N0] 184;have h2:=zDQ (bs a);have d8:=cut_len (bs a);rw [<- zAc] at h2 d8;refine run153 _ _ _ (yC (c183 a _) ?_);rintro v w1 ⟨⟨s,rfl,hs⟩,rfl⟩
 have h8:s.size<=1000000000:=by rw [zAc,hs];omega
 refine⟨s,_,rfl,yC (c149 s (by omega) _ (hg.ext h3)) ?_⟩;rintro v w2 ⟨⟨t,u,rfl,ht,hu⟩,e1⟩
 have g8:decide (((bs s).takeWhile (· != 47)).length<(bs s).length)=frac (bs a):=by rw [hs];rfl
 rw [g8]
 have x:bs t=numL (bs a):=by rw [ht,hs];rfl
 have g:frac (bs a)=true->bs u=denL (bs a):=fun h=>by
  rw [if_pos (by rw [hs];exact of_decide_eq_true h)] at hu;rw [hu,hs];rfl
 have h9:t.size<=1000000000:=by rw [zAc,x];omega
 have e8:frac (bs a)=true->u.size<=1000000000:=fun h=>by rw [zAc,g h];have:=d8.2 h;omega
 have g4:=g3.ext e1;refine⟨t,u,_,rfl,yC (c184 t (by omega) w2) ?_⟩;rintro v w3 ⟨rfl,e2⟩;have b9:=g4.ext e2;have b6:Ext w w3:=Ext.from_alloc (e1.trans e2);refine⟨_,rfl,?_⟩
 have bad : ∀ W,Ext w W->Box W w.heap.size 184 [Bv false,N0,N0]->¬ OkR (bs a) ->
   writable W ⟨w.heap.size,0,none⟩ 3/\∃ b3 p k k1 p1 k2 k3,vcells (setCells W ⟨w.heap.size,0,none⟩ 0 [Bv false,N0,N0]) ⟨w.heap.size,0,none⟩ 0 [Bv b3,Lv p k k1,Lv p1 k2 k3] /\
    (ReadR (setCells W ⟨w.heap.size,0,none⟩ 0 [Bv false,N0,N0]) (bs a) (.tuple #[.agg #[Bv b3,Lv p k k1,Lv p1 k2 k3],Bv false])/\Ext w (setCells W ⟨w.heap.size,0,none⟩ 0 [Bv false,N0,N0])):=by
  intro W hW hB h0;exact⟨hB.blk.writable (by decide),_,_,_,_,_,_,_,(hB.put _ (by rfl)).blk.all,.inr ⟨fun h=>h0 (okR_iff.2 h),_,_,_,_,_,_,_,rfl⟩,hW.put yL _ _⟩
 have g1:(t.toList==({ data:=#[48] } : BA).toList)=decide (numL (bs a)=[48]):=by rw [zAv,<- x];rfl
 rw [g1,x];refine zAb (fun f=>?_) (fun i=>?_)
 ·refine bad w3 b6 b9 fun n=>?_
  rw [n.num,Bool.not_true,Bool.false_or,Bool.and_eq_true,decide_eq_true_eq] at f;obtain⟨z1,z2⟩:=n.zero f.1;rw [z1,z2] at f;simp at f
 have b1:canon (numL (bs a))=true:=by
  cases h:canon (numL (bs a)) with
  | true=>rfl
  | false=>rw [h] at i;simp at i
 have g0:numL (bs a)=[48]->(zA0 (bs a)).1=false/\frac (bs a)=false:=fun e=>by
  rw [b1,decide_eq_true e,Bool.not_true,Bool.false_or,Bool.true_and,Bool.or_eq_false_iff] at i;exact i
 obtain⟨e6,e7⟩:=zC2 b1;refine yC (c186 t (by rw [x];exact e6) (by omega) w3) ?_;rintro v w4 ⟨e9,e3⟩;obtain⟨p2,k4,k5,rfl⟩:=e9.cut;have d0:=b9.ext e3;have b7:=(yE w4).alloc (.cells #[.int .u32 1] 209);have b5:=(yE (w4.alloc (.cells #[.int .u32 1] 209))).alloc (.cells #[Bv false,N0,N0] 184);have hC:=yN (w4.alloc (.cells #[.int .u32 1] 209)) [Bv false,N0,N0] 184;have a9:=((e9.natV.ext b7).ext b5).put hC (zAo _ _ _ _ _ _ _) [Bv (zA0 (bs a)).1,Lv p2 k4 k5,Lv (some ⟨w4.heap.size,0,none⟩) 1 1] 0 0;have d7:=((natOne w4).ext b5).put hC (zAo _ _ _ _ _ _ _) [Bv (zA0 (bs a)).1,Lv p2 k4 k5,Lv (some ⟨w4.heap.size,0,none⟩) 1 1] 0 0;have a8:=hC.put [Bv (zA0 (bs a)).1,Lv p2 k4 k5,Lv (some ⟨w4.heap.size,0,none⟩) 1 1] rfl;have h6:w.heap.size<w4.heap.size:=d0.lt;have a1:=(d0.ext (b7.trans b5)).same (zAk (b:=(w4.alloc (.cells #[.int .u32 1] 209)).heap.size) (o:=0) (k:=w.heap.size) (by rw [size_alloc];omega) [Bv (zA0 (bs a)).1,Lv p2 k4 k5,Lv (some ⟨w4.heap.size,0,none⟩) 1 1] 0)
 have a0:Ext w (setCells ((w4.alloc (.cells #[.int .u32 1] 209)).alloc (.cells #[Bv false,N0,N0] 184)) ⟨(w4.alloc (.cells #[.int .u32 1] 209)).heap.size,0,none⟩ 0 [Bv (zA0 (bs a)).1,Lv p2 k4 k5,Lv (some ⟨w4.heap.size,0,none⟩) 1 1]) :=
  ((b6.trans e3).trans (b7.trans b5)).put (by rw [size_alloc];omega) _ _
 rw [x] at a9;refine⟨_,_,_,rfl,hC.blk.writable (by decide),?_⟩
 have g7:w.heap.size<(w4.alloc (.cells #[.int .u32 1] 209)).heap.size:=by rw [size_alloc];omega
 have g9:=hg.ext a0;generalize setCells ((w4.alloc (.cells #[.int .u32 1] 209)).alloc (.cells #[Bv false,N0,N0] 184)) ⟨(w4.alloc (.cells #[.int .u32 1] 209)).heap.size,0,none⟩ 0 [Bv (zA0 (bs a)).1,Lv p2 k4 k5,Lv (some ⟨w4.heap.size,0,none⟩) 1 1]=Wp at a9 d7 a8 a1 a0 g9 ⊢;generalize (w4.alloc (.cells #[.int .u32 1] 209)).heap.size=bc at a8 g7 ⊢;refine zAb (fun e4=>?_) (fun e5=>?_)
 ·have hf:frac (bs a)=false:=by simpa using e4
  have n:OkR (bs a):=⟨b1,g0,fun h=>by rw [hf] at h;cases h⟩;obtain⟨q,hq,q1,q2,q3⟩:=n.q
  have h1:q.den=1:=by rw [q3,(zER hf).1];rfl
  refine⟨_,_,_,_,_,_,_,a8.blk.all,a1.blk.writable (by decide),_,_,_,_,_,_,_,(a1.put _ (by rfl)).blk.all,.inl ⟨q,_,hq,rfl,_,_,_,_,_,_,by rw [q1],?_,?_⟩,a0.put yL _ _⟩
  ·rw [q2];exact a9.put a1 (zAo _ _ _ _ _ _ _) _ _ _
  ·rw [h1];exact d7.put a1 (zAo _ _ _ _ _ _ _) _ _ _
 ·have hf:frac (bs a)=true:=by simpa using e5
  have g:=g hf;have e8:=e8 hf;refine yC (c184 u (by omega) Wp) ?_;rintro v w5 ⟨rfl,b2⟩;have d4:=a1.ext b2;have f8:=a0.trans b2
  have b8:(u.toList==({ data:=#[48] } : BA).toList)=decide (denL (bs a)=[48]):=by rw [zAv,<- g];rfl
  have g2:(u.toList==({ data:=#[49] } : BA).toList)=decide (denL (bs a)=[49]):=by rw [zAv,<- g];rfl
  rw [g,b8,g2];refine⟨_,rfl,zAb (fun f=>?_) (fun d=>?_)⟩
  ·refine bad w5 f8 d4 fun n=>?_
   obtain⟨d1,d2,d3,_⟩:=n.den hf;rw [d1,decide_eq_false d2,decide_eq_false d3] at f;simp at f
  have b0:canon (denL (bs a))=true:=by
   cases h:canon (denL (bs a)) with
   | true=>rfl
   | false=>rw [h] at d;simp at d
  rw [b0,Bool.not_true,Bool.false_or,Bool.or_eq_false_iff,decide_eq_false_iff_not,decide_eq_false_iff_not] at d;obtain⟨d9,e0⟩:=zC2 b0;have h7:=val_pos b0 d.1;refine yC (c186 u (by rw [g];exact d9) (by omega) w5) ?_;rintro v w6 ⟨f7,b4⟩;obtain⟨p9,l,m,rfl⟩:=f7.cut;have a5:=(a8.ext b2).ext b4;have g5:=d4.ext b4;have g6:=(a9.ext b2).ext b4;have d6:=f7.natV;rw [g] at d6;have h4:=f8.trans b4;refine⟨_,_,_,rfl,⟨⟨_,a5.blk.cell (j:=2) rfl⟩,a5.blk.free⟩,fun K hK=>?_⟩;have a7:=a5.set 2 (Lv p9 l m);have a3:=g6.put a5 (zAo _ _ _ _ _ _ _) [Lv p9 l m] 2 0;have a2:=d6.put a5 (zAo _ _ _ _ _ _ _) [Lv p9 l m] 2 0;rw [setCells,zAi] at a3 a2;have d5:Box (w6.setCell ⟨bc,2,none⟩ (Lv p9 l m)) w.heap.size 184 [Bv false,N0,N0]:=g5.same (zA6 (by show w.heap.size≠bc;omega));have f9:Ext w (w6.setCell ⟨bc,2,none⟩ (Lv p9 l m)):=h4.setCell (by omega) _;have a3:NatV (w6.setCell ⟨bc,2,none⟩ (Lv p9 l m)) (Lv p2 k4 k5) (val (numL (bs a))):=a3;have a2:NatV (w6.setCell ⟨bc,2,none⟩ (Lv p9 l m)) (Lv p9 l m) (val (denL (bs a))):=a2;generalize w6.setCell ⟨bc,2,none⟩ (Lv p9 l m)=W7 at a7 a3 a2 d5 f9 ⊢;refine⟨_,_,_,_,_,_,_,(a7.ext (yE _).drew).blk.all,_,_,_,(a7.ext (yE _).drew).blk.cell (j:=1) rfl,_,_,_,(a7.ext (yE _).drew).blk.cell (j:=2) rfl,?_⟩
  have zn:nd (val (numL (bs a)))<=1000000000000:=by
   have:=val_nd e6 (List.length_pos_iff.2 e7);rw [<- x,<- zAc] at this;rw [x] at this;omega
  have zd:nd (val (denL (bs a)))<=1000000000000:=by
   have:=val_nd d9 (List.length_pos_iff.2 e0);rw [<- g,<- zAc] at this;rw [g] at this;omega
  refine yC (c187 _ a3.drew a2.drew ⟨zn,zd⟩) ?_;rintro v w8 ⟨⟨i2,i0,i1,rfl⟩,hG,a4⟩;refine⟨_,_,_,rfl,a4,yC (oneV w8 hG) ?_⟩;rintro v w9 ⟨rfl,rfl⟩;have a6:=(d5.ext (yE _).drew).ext a4;have h5:=f9.drew.trans a4;refine⟨_,rfl,a4,a6.blk.writable (by decide),hK _ _ ⟨_,_,_,_,_,_,_,(a6.put _ (by rfl)).blk.all,?_,h5.put yL _ _⟩⟩
  by_cases hgc:Nat.gcd (val (numL (bs a))) (val (denL (bs a)))=1
  ·have n:OkR (bs a):=⟨b1,g0,fun _=>⟨b0,d.1,d.2,hgc⟩⟩
   obtain⟨q,hq,q1,q2,q3⟩:=n.q;refine .inl ⟨q,_,hq,by rw [decide_eq_true hgc],_,_,_,_,_,_,by rw [q1],?_,?_⟩
   ·rw [q2];exact (a3.drew.ext a4).put a6 (zAo _ _ _ _ _ _ _) _ _ _
   ·rw [q3];exact (a2.drew.ext a4).put a6 (zAo _ _ _ _ _ _ _) _ _ _
  ·refine .inr ⟨fun h=>hgc ((okR_iff.2 h).den hf).2.2.2,_,_,_,_,_,_,_,by rw [decide_eq_false hgc]⟩
end Go.Proofs.Si
namespace Go.Proofs.Si
open Go Go.V Go.Proofs Go.RowKit Go.Num Go.Proofs.Tryz
open Go.IntKind (i64 u64 u32 u8)
set_option maxRecDepth 100000
def SmallR(l:List UInt8)(v:Value):Prop :=
 (∃ q:Rat,l=txtQ q/\v = .tuple #[.agg #[Iv q.num,Iv (q.den:Int)],Bv true]/\q.num.natAbs<1000000000/\q.den<1000000000) \/
  ∃ n d:Int,v = .tuple #[.agg #[Iv n,Iv d],Bv false]
theorem val_lt9{l:List UInt8}(h:l.all isDig=true)(h9:l.length<=9):val l<1000000000:=by
 have h1:=zDx h;have h2:10 ^ l.length<=10 ^ 9:=Nat.pow_le_pow_right (by omega) h9;omega
theorem parse9(s:BA)(hc:canon (bs s)=true)(h9:s.size<=9)(w):Ret prog 150 #[Sv s,Iv 10,Iv 64] w fun u w'=>u = .tuple #[Iv (val (bs s):Int),.nilIface]/\Ext w w':=by
 obtain⟨h1,h2⟩:=zC2 hc;have h3:=val_lt9 h1 (by rw [<- zAc];exact h9);refine c150 s _ ?_ (by omega) w;rw [zFo h2 h1,if_pos (by omega)]
set_option maxHeartbeats 1000000 in
theorem c152(a:BA)(hz:a.size<=1000000000)(w)(hg:Gl w):Ret prog 152 #[Sv a] w fun v w'=>SmallR (bs a) v/\Ext w w':=by
 have d7:=(yE w).alloc (.cells #[Iv 0,Iv 0] 178);have d0:=yN w [Iv 0,Iv 0] 178;have d6:=zDQ (bs a);rw [<- zAc] at d6;refine run152 _ _ _ (yC (c183 a _) ?_);rintro v w1 ⟨⟨s,rfl,hs⟩,rfl⟩
 have e2:s.size<=1000000000:=by rw [zAc,hs];omega
 refine⟨s,_,rfl,yC (c149 s (by omega) _ (hg.ext d7)) ?_⟩;rintro v w2 ⟨⟨t,u,rfl,ht,hu⟩,a7⟩
 have d4:decide (((bs s).takeWhile (· != 47)).length<(bs s).length)=frac (bs a):=by rw [hs];rfl
 rw [d4]
 have l:bs t=numL (bs a):=by rw [ht,hs];rfl
 have f:frac (bs a)=true->bs u=denL (bs a):=fun h=>by
  rw [if_pos (by rw [hs];exact of_decide_eq_true h)] at hu;rw [hu,hs];rfl
 have x:=d0.ext a7;have m:Ext w w2:=Ext.from_alloc a7;refine⟨t,u,_,rfl,fun K hK=>?_⟩
 have b9:(t.toList==({ data:=#[48] } : BA).toList)=decide (numL (bs a)=[48]):=by rw [zAv,<- l];rfl
 have bad : ∀ W,Ext w W->Box W w.heap.size 178 [Iv 0,Iv 0] ->
   writable W ⟨w.heap.size,0,none⟩ 2/\∃ n n1,vcells (setCells W ⟨w.heap.size,0,none⟩ 0 [Iv 0,Iv 0]) ⟨w.heap.size,0,none⟩ 0 [Iv n,Iv n1] /\
    (SmallR (bs a) (.tuple #[.agg #[Iv n,Iv n1],Bv false])/\Ext w (setCells W ⟨w.heap.size,0,none⟩ 0 [Iv 0,Iv 0])):=by
  intro W hW hB;exact⟨hB.blk.writable (by decide),_,_,(hB.put _ (by rfl)).blk.all,.inr ⟨_,_,rfl⟩,hW.put yL _ _⟩
 have g : ∀ W,Ext w W->Box W w.heap.size 178 [Iv 0,Iv 0]->K [Bv true] W:=fun W hW hB=>hK true W (by rw [cond_true];exact bad W hW hB);rw [b9];refine zAd (fun _=>by rw [Bool.true_or];exact g w2 m x) (fun h9=>zAd (fun _=>by rw [Bool.true_or];exact g w2 m x) (fun e0=>?_));refine yC (c184 t (by omega) w2) ?_;rintro v w3 ⟨rfl,a8⟩;have a1:=x.ext a8;have b3:=m.trans a8;refine⟨_,rfl,?_⟩;rw [l]
 by_cases hbad:(!canon (numL (bs a))||decide (numL (bs a)=[48])&&((zA0 (bs a)).1||frac (bs a)))=true
 ·rw [hbad];exact g w3 b3 a1
 have b:(!canon (numL (bs a))||decide (numL (bs a)=[48])&&((zA0 (bs a)).1||frac (bs a)))=false:=by simpa using hbad
 rw [b]
 have j:canon (numL (bs a))=true:=by
  cases h:canon (numL (bs a)) with
  | true=>rfl
  | false=>rw [h] at b;simp at b
 have b8:numL (bs a)=[48]->(zA0 (bs a)).1=false/\frac (bs a)=false:=fun e=>by
  rw [j,decide_eq_true e,Bool.not_true,Bool.false_or,Bool.true_and,Bool.or_eq_false_iff] at b;exact b
 obtain⟨d5,d9⟩:=zC2 j;have e1:val (numL (bs a))<1000000000:=val_lt9 d5 (by rw [<- l,<- zAc];omega);refine hK false w3 ?_;rw [cond_false];refine yC (parse9 t (by rw [l];exact j) (by omega) w3) ?_;rintro v w4 ⟨rfl,a9⟩;rw [l];have a2:=a1.ext a9;have b4:=b3.trans a9;refine⟨_,_,rfl,fun K1 d1=>?_⟩
 have fin : ∀ (d:Nat) (W:World),Ext w W->Box W w.heap.size 178 [Iv 0,Iv 0]->OkR (bs a)->val (denL (bs a))=d->d<1000000000->K1 [Iv (d:Int)] W:=by
  intro d W hW hB k hd a6;obtain⟨q,hq,q1,q2,q3⟩:=k.q;refine d1 d W fun K2 d2=>?_
  have o:K2 [Iv q.num] W:=by
   refine d2 _ ⟨hB.blk.writable (by decide),_,_,(hB.put _ (by rfl)).blk.all,.inl ⟨q,hq,by rw [q3,hd],by omega,by omega⟩,hW.put yL _ _⟩
  have p:q.num=sgn (zA0 (bs a)).1 (val (numL (bs a))):=by
   rw [<- q1,<- q2,zDq]
  refine zAb (fun hn=>?_) (fun hn=>?_)
  ·have:i64.wrap (0 - (val (numL (bs a)):Int))=q.num:=by
    rw [zAe (by omega) (by omega),p,hn,sgn,if_pos rfl];omega
   rw [this];exact o
  ·have:(val (numL (bs a)):Int)=q.num:=by rw [p,hn,sgn,if_neg (by decide)]
   rw [this];exact o
 refine zAb (fun hf=>?_) (fun hf=>?_)
 ·have f:=f hf
  refine yC (c184 u (by omega) w4) ?_;rintro v w5 ⟨rfl,b0⟩;have a3:=a2.ext b0;have b5:=b4.trans b0;refine⟨_,rfl,?_⟩;rw [f];refine zAb (fun _=>bad w5 b5 a3) (fun i=>?_)
  have i:canon (denL (bs a))=true:=by simpa using i
  obtain⟨d3,d8⟩:=zC2 i;have a6:val (denL (bs a))<1000000000:=val_lt9 d3 (by rw [<- f,<- zAc];omega);refine yC (parse9 u (by rw [f];exact i) (by omega) w5) ?_;rintro v w6 ⟨rfl,b1⟩;rw [f];have a4:=a3.ext b1;have b6:=b5.trans b1;refine⟨_,_,rfl,fun K3 a0=>zAd (fun _=>a0 true w6 (by rw [cond_true];exact bad w6 b6 a4)) (fun h2=>?_)⟩;refine yC (c185 (val (numL (bs a))) (val (denL (bs a))) w6) ?_;rintro v w7 ⟨rfl,b2⟩;have a5:=a4.ext b2;have b7:=b6.trans b2;refine⟨_,rfl,?_⟩
  by_cases hgc:Nat.gcd (val (numL (bs a))) (val (denL (bs a)))=1
  ·have k:OkR (bs a):=⟨j,b8,fun _=>⟨i,fun e=>by rw [e] at h2;exact h2 (by decide),fun e=>by rw [e] at h2;exact h2 (by decide),hgc⟩⟩
   rw [hgc];exact a0 false w7 (by rw [cond_false];exact fin _ w7 b7 a5 k rfl a6)
  ·have:(((Nat.gcd (val (numL (bs a))) (val (denL (bs a))):Nat):Int) != 1)=true:=by
    rw [bne_iff_ne];omega
   rw [this];exact a0 true w7 (by rw [cond_true];exact bad w7 b7 a5)
 ·have k:OkR (bs a):=⟨j,b8,fun h=>by rw [hf] at h;cases h⟩
  exact fin 1 w4 b4 a2 k (by rw [(zER hf).1];rfl) (by omega)
theorem zA2(q:Rat):txtQ q=((if q.num<0 then [45] else [])++dec q.num.natAbs)++(if q.den=1 then [] else 47::dec q.den):=by
 unfold txtQ txt3
 by_cases h:q.num<0
 ·rw [decide_eq_true h,if_pos h,if_pos rfl]
 ·rw [decide_eq_false h,if_neg h,if_neg (by decide)]
theorem c192(n d:Int)(hd:d≠0)(hn1 : -4000000000000000000<=n)(hn2:n<=4000000000000000000)(hd1 : -4000000000000000000<=d)(hd2:d<=4000000000000000000)(w)(hg:Gl w) :
  Ret prog 192 #[Iv n,Iv d] w fun v w'=>TxtV (Rat.divInt n d) v/\Ext w w':=by
 refine run192 _ _ _ _ fun K hK=>?_
 have key : ∀ (m:Int) (e:Nat),Rat.divInt n d=mkRat m e->e≠0 -> -4000000000000000000<=m->m<=4000000000000000000->e<=4000000000000000000->K [Iv m,Iv (e:Int)] w:=by
  intro m e hq he m1 m2 e2;refine hK m e ?_
  have emax:(if i64.wrap (0 - m)>m then i64.wrap (0 - m) else m)=(m.natAbs:Int):=by
   rw [zAe (by omega) (by omega)];split <;> omega
  rw [emax,hq];obtain⟨G,hG⟩ : ∃ G,G=Nat.gcd e m.natAbs:=⟨_,rfl⟩
  have a3:0<G:=by rw [hG];exact Nat.gcd_pos_of_pos_left _ (Nat.pos_of_ne_zero he)
  have g:(mkRat m e).num=m / (G:Int):=by rw [Rat.num_mkRat,if_neg he,hG]
  have f:(mkRat m e).den=e / G:=by rw [Rat.den_mkRat,if_neg he,hG]
  have i:((G:Nat):Int) ∣ m:=by rw [hG];exact Int.ofNat_dvd_left.2 (Nat.gcd_dvd_right _ _)
  have k:Nat.gcd m.natAbs e=G:=by rw [hG,Nat.gcd_comm]
  refine yC (c185 m.natAbs e w) ?_;rintro v w1 ⟨rfl,b⟩;rw [k];refine⟨_,rfl,zAd (fun h0=>absurd h0 (by omega)) (fun _=>zAd (fun h0=>absurd h0 (by omega)) (fun _=>?_))⟩
  have ed:m.tdiv (G:Int)=(mkRat m e).num:=by rw [g,Int.tdiv_eq_ediv_of_dvd i]
  have l:(mkRat m e).num.natAbs<=m.natAbs:=by
   rw [g,Int.natAbs_ediv_of_dvd i];exact Nat.div_le_self _ _
  have p:(mkRat m e).den<=e:=by rw [f];exact Nat.div_le_self _ _
  have o:=(mkRat m e).den_nz;rw [tdivN,ed,zAe (by omega) (by omega),show e / G=(mkRat m e).den from f.symm,zAe (by omega) (by omega)];generalize mkRat m e=q at l p o ⊢;refine yC (c132 q.num (by omega) (by omega) _ (hg.ext b).drew.p10) ?_;rintro v w2 ⟨⟨s,rfl,hs⟩,h⟩;have j : ∀ x:Nat,x<=4000000000000000000->nd x<=19:=fun x hx=>(zA9 (by omega)).2 (by omega)
  have a4:s.size<=20:=by
   rw [zAc,hs,List.length_append];have:(dec q.num.natAbs).length<=19:=j q.num.natAbs (by omega)
   have:(if q.num<0 then [(45:UInt8)] else []).length<=1:=by split <;> simp
   omega
  refine⟨s,rfl,zAd (fun h1=>?_) (fun h1=>?_)⟩
  ·refine yC (c132 (q.den:Int) (by omega) (by omega) _ ((hg.ext b).drew.ext h).p10) ?_
   rintro v w3 ⟨⟨u,rfl,hu⟩,a0⟩;rw [if_neg (by omega),List.nil_append,Int.natAbs_natCast] at hu
   have a5:u.size<=19:=by rw [zAc,hu];exact j _ (by omega)
   refine⟨u,rfl,by omega,?_,⟨_,rfl,?_⟩,(b.drew.trans h).trans a0⟩
   ·rw [zDw]
    have:({ data:=#[47] } : BA).size=1:=rfl;omega
   ·rw [zBa,zBa,hs,hu,zA2,if_neg (show ¬ q.den=1 by omega)];rfl
  ·refine⟨⟨_,rfl,?_⟩,b.drew.trans h⟩
   rw [hs,zA2,if_pos (show q.den=1 by omega),List.append_nil]
 refine zAd (fun a1=>?_) (fun a2=>?_)
 ·rw [zAe (by omega) (by omega),zAe (by omega) (by omega)]
  have:=key (0 - n) d.natAbs ?_ (by omega) (by omega) (by omega) (by omega)
  ·rw [show ((d.natAbs:Nat):Int)=0 - d by omega] at this;exact this
  ·rw [<- Rat.divInt_ofNat,show ((d.natAbs:Nat):Int) = -d by omega,show 0 - n = -n by omega,Rat.neg_divInt_neg]
 ·have:=key n d.natAbs ?_ (by omega) (by omega) (by omega) (by omega)
  ·rw [show ((d.natAbs:Nat):Int)=d by omega] at this;exact this
  ·rw [<- Rat.divInt_ofNat,show ((d.natAbs:Nat):Int)=d by omega]
theorem add_divInt(p q:Rat):Rat.divInt (p.num*(q.den:Int)+q.num*(p.den:Int)) ((p.den:Int)*(q.den:Int))=p+q:=by
 rw [Rat.add_def',<- Rat.divInt_ofNat,Int.natCast_mul]
theorem mul_divInt(p q:Rat):Rat.divInt (p.num*q.num) ((p.den:Int)*(q.den:Int))=p*q:=by
 rw [Rat.mul_def',<- Rat.divInt_ofNat,Int.natCast_mul]
theorem zGh(p q:Rat):Rat.divInt (p.num*(q.den:Int)) ((p.den:Int)*q.num)=p*q⁻¹:=by
 rw [Rat.inv_def,<- Rat.divInt_mul_divInt,Rat.num_divInt_den]
structure Sm (q:Rat):Prop where
 n1 : -1000000000<q.num
 n2:q.num<1000000000
 d:q.den<1000000000
theorem Sm.of{q:Rat}(h1:q.num.natAbs<1000000000)(h2:q.den<1000000000):Sm q:=⟨by omega,by omega,h2⟩
theorem zD7{a b:Int}(ha : -1000000000<a)(ha2:a<1000000000)(hb : -1000000000<b)(hb2:b<1000000000) : -1000000000000000000<=a*b/\a*b<=1000000000000000000:=by
 have h1:a.natAbs<=1000000000:=by omega
 have h2:b.natAbs<=1000000000:=by omega
 have h3:=Nat.mul_le_mul h1 h2;rw [<- Int.natAbs_mul] at h3;omega
theorem c191{p q:Rat}(hp:Sm p)(hq:Sm q)(w)(hg:Gl w):Ret prog 191 #[.agg #[Iv p.num,Iv (p.den:Int)],.agg #[Iv q.num,Iv (q.den:Int)]] w fun v w'=>TxtV (p+q) v/\Ext w w':=by
 have i:=(yE w).alloc (.cells #[Iv p.num,Iv (p.den:Int)] 178);have h:=(yE (w.alloc (.cells #[Iv p.num,Iv (p.den:Int)] 178))).alloc (.cells #[Iv q.num,Iv (q.den:Int)] 178);have f:=(yN w [Iv p.num,Iv (p.den:Int)] 178).ext h;have g:=yN (w.alloc (.cells #[Iv p.num,Iv (p.den:Int)] 178)) [Iv q.num,Iv (q.den:Int)] 178;have d1:=p.den_nz;have d2:=q.den_nz;have b1:=zD7 hp.n1 hp.n2 (b:=(q.den:Int)) (by omega) (by have:=hq.d;omega);have b2:=zD7 hq.n1 hq.n2 (b:=(p.den:Int)) (by omega) (by have:=hp.d;omega);have b3:=zD7 (a:=(p.den:Int)) (b:=(q.den:Int)) (by omega) (by have:=hp.d;omega) (by omega) (by have:=hq.d;omega);have b4:(p.den:Int)*(q.den:Int)≠0:=Int.mul_ne_zero (by omega) (by omega);refine run191 _ _ _ _ _ _ ⟨_,f.blk.cell (j:=0) rfl,_,g.blk.cell (j:=1) rfl,_,g.blk.cell (j:=0) rfl,_,f.blk.cell (j:=1) rfl,_,f.blk.cell (j:=1) rfl,_,g.blk.cell (j:=1) rfl,?_⟩;rw [zAe (n:=p.num*_) (by omega) (by omega),zAe (n:=q.num*_) (by omega) (by omega),zAe (by omega) (by omega),zAe (by omega) (by omega)];refine yC (c192 _ _ b4 (by omega) (by omega) (by omega) (by omega) _ (hg.ext (i.trans h))) ?_;rintro v w1 ⟨⟨s,rfl,hs⟩,he⟩;rw [add_divInt] at hs;exact⟨s,rfl,⟨s,rfl,hs⟩,(i.trans h).trans he⟩
theorem c196{p q:Rat}(hp:Sm p)(hq:Sm q)(w)(hg:Gl w):Ret prog 196 #[.agg #[Iv p.num,Iv (p.den:Int)],.agg #[Iv q.num,Iv (q.den:Int)]] w fun v w'=>TxtV (p*q) v/\Ext w w':=by
 have i:=(yE w).alloc (.cells #[Iv p.num,Iv (p.den:Int)] 178);have f:=(yE (w.alloc (.cells #[Iv p.num,Iv (p.den:Int)] 178))).alloc (.cells #[Iv q.num,Iv (q.den:Int)] 178);have g:=(yN w [Iv p.num,Iv (p.den:Int)] 178).ext f;have h:=yN (w.alloc (.cells #[Iv p.num,Iv (p.den:Int)] 178)) [Iv q.num,Iv (q.den:Int)] 178;have d1:=p.den_nz;have d2:=q.den_nz;have b1:=zD7 hp.n1 hp.n2 hq.n1 hq.n2;have b3:=zD7 (a:=(p.den:Int)) (b:=(q.den:Int)) (by omega) (by have:=hp.d;omega) (by omega) (by have:=hq.d;omega);have b4:(p.den:Int)*(q.den:Int)≠0:=Int.mul_ne_zero (by omega) (by omega);refine run196 _ _ _ _ _ _ ⟨_,g.blk.cell (j:=0) rfl,_,h.blk.cell (j:=0) rfl,_,g.blk.cell (j:=1) rfl,_,h.blk.cell (j:=1) rfl,?_⟩;rw [zAe (by omega) (by omega),zAe (by omega) (by omega)];refine yC (c192 _ _ b4 (by omega) (by omega) (by omega) (by omega) _ (hg.ext (i.trans f))) ?_;rintro v w1 ⟨⟨s,rfl,hs⟩,he⟩;rw [mul_divInt] at hs;exact⟨s,rfl,⟨s,rfl,hs⟩,(i.trans f).trans he⟩
theorem c199{p q:Rat}(hp:Sm p)(hq:Sm q)(h0:q≠0)(w)(hg:Gl w):Ret prog 199 #[.agg #[Iv p.num,Iv (p.den:Int)],.agg #[Iv q.num,Iv (q.den:Int)]] w fun v w'=>TxtV (p*q⁻¹) v/\Ext w w':=by
 have i:=(yE w).alloc (.cells #[Iv p.num,Iv (p.den:Int)] 178);have f:=(yE (w.alloc (.cells #[Iv p.num,Iv (p.den:Int)] 178))).alloc (.cells #[Iv q.num,Iv (q.den:Int)] 178);have g:=(yN w [Iv p.num,Iv (p.den:Int)] 178).ext f;have h:=yN (w.alloc (.cells #[Iv p.num,Iv (p.den:Int)] 178)) [Iv q.num,Iv (q.den:Int)] 178;have d1:=p.den_nz;have d2:=q.den_nz;have hn:q.num≠0:=fun e=>h0 (Rat.num_eq_zero.1 e);have b1:=zD7 hp.n1 hp.n2 (b:=(q.den:Int)) (by omega) (by have:=hq.d;omega);have b3:=zD7 (a:=(p.den:Int)) (by omega) (by have:=hp.d;omega) hq.n1 hq.n2;have b4:(p.den:Int)*q.num≠0:=Int.mul_ne_zero (by omega) hn;refine run199 _ _ _ _ _ _ ⟨_,g.blk.cell (j:=0) rfl,_,h.blk.cell (j:=1) rfl,_,g.blk.cell (j:=1) rfl,_,h.blk.cell (j:=0) rfl,?_⟩;rw [zAe (by omega) (by omega),zAe (by omega) (by omega)];refine yC (c192 _ _ b4 (by omega) (by omega) (by omega) (by omega) _ (hg.ext (i.trans f))) ?_;rintro v w1 ⟨⟨s,rfl,hs⟩,he⟩;rw [zGh] at hs;exact⟨s,rfl,⟨s,rfl,hs⟩,(i.trans f).trans he⟩
def RatQ(w:World)(v:Value)(q:Rat):Prop:=RatM w v (decide (q.num<0)) q.num.natAbs q.den
theorem red_end{w}{v:Value}{neg:Bool}{x b:Nat}{q:Rat}(hb:b≠0)(h:RatM w v neg (x / Nat.gcd x b) (b / Nat.gcd x b))(hq:red neg x b=q)(hz:nd x<=1000000000/\nd b<=1000000000)(hg:Gl w) :
  Ret prog 195 #[v] w fun v w'=>TxtV q v/\Ext w w':=by
 refine (c195 w h ⟨Nat.le_trans (zB3 (Nat.div_le_self _ _)) hz.1,Nat.le_trans (zB3 (Nat.div_le_self _ _)) hz.2⟩ hg).mono ?_;rintro v w' ⟨⟨s,rfl,hs⟩,he⟩;rw [txt_red neg x hb,hq] at hs;exact⟨⟨s,rfl,hs⟩,he⟩
theorem c193{p q:Rat}{v u:Value}(w)(hv:RatQ w v p)(hu:RatQ w u q)(hz:nd p.num.natAbs+nd p.den+nd q.num.natAbs+nd q.den<=900000000)(hg:Gl w):Ret prog 193 #[v,u] w fun v w'=>TxtV (p+q) v/\Ext w w':=by
 obtain⟨a1,n1,c1,a2,n2,c2,rfl,ha,hb⟩:=hv;obtain⟨a3,n3,c3,a4,n4,c4,rfl,hc,hd⟩:=hu;have k:=(yE w).alloc (.cells #[Bv (decide (p.num<0)),Lv a1 n1 c1,Lv a2 n2 c2] 184);have f:=(yE (w.alloc (.cells #[Bv (decide (p.num<0)),Lv a1 n1 c1,Lv a2 n2 c2] 184))).alloc (.cells #[Bv (decide (q.num<0)),Lv a3 n3 c3,Lv a4 n4 c4] 184);have g:=(yN w [Bv (decide (p.num<0)),Lv a1 n1 c1,Lv a2 n2 c2] 184).ext f;have h:=yN (w.alloc (.cells #[Bv (decide (p.num<0)),Lv a1 n1 c1,Lv a2 n2 c2] 184)) [Bv (decide (q.num<0)),Lv a3 n3 c3,Lv a4 n4 c4] 184;have b:=k.trans f;have d1:=Nat.pos_of_ne_zero p.den_nz;have d2:=Nat.pos_of_ne_zero q.den_nz;refine run193 _ _ _ _ _ _ _ _ _ _ _ _ _ _ _ _ ⟨_,_,_,_,_,_,_,g.blk.all,_,_,_,_,_,_,_,h.blk.all,?_⟩;refine yC (c194 _ ⟨_,_,_,_,_,_,rfl,ha.ext b,hb.ext b⟩ ⟨_,_,_,_,_,_,rfl,hc.ext b,hd.ext b⟩ d1 d2 ⟨by omega,by omega,by omega⟩) ?_;rintro v w1 ⟨⟨neg,x,hs,l,hr⟩,d⟩;have j:=hr;obtain⟨q1,l1,k1,q2,l2,k2,rfl,_,_⟩:=hr;have z1:nd (p.num.natAbs*q.den)<=nd p.num.natAbs+nd q.den:=zA1 _ _;have z2:nd (q.num.natAbs*p.den)<=nd q.num.natAbs+nd p.den:=zA1 _ _;have z3:nd (p.den*q.den)<=nd p.den+nd q.den:=zA1 _ _;have z4:nd (p.num.natAbs*q.den+q.num.natAbs*p.den)<=max (nd (p.num.natAbs*q.den)) (nd (q.num.natAbs*p.den))+1:=zBG _ _;have z5:=zB3 l;refine⟨_,_,_,_,_,_,_,rfl,yC (red_end (Nat.mul_ne_zero p.den_nz q.den_nz) j (zFD hs) ⟨by omega,by omega⟩ ((hg.ext b).ext d)) ?_⟩;rintro v w2 ⟨⟨s,rfl,hs⟩,i⟩;exact⟨s,rfl,⟨s,rfl,hs⟩,(b.trans d).trans i⟩
theorem c197{p q:Rat}{v u:Value}(w)(hv:RatQ w v p)(hu:RatQ w u q)(hz:nd p.num.natAbs+nd p.den+nd q.num.natAbs+nd q.den<=900000000)(hg:Gl w):Ret prog 197 #[v,u] w fun v w'=>TxtV (p*q) v/\Ext w w':=by
 obtain⟨a1,n1,c1,a2,n2,c2,rfl,ha,hb⟩:=hv;obtain⟨a3,n3,c3,a4,n4,c4,rfl,hc,hd⟩:=hu;have k:=(yE w).alloc (.cells #[Bv (decide (p.num<0)),Lv a1 n1 c1,Lv a2 n2 c2] 184);have f:=(yE (w.alloc (.cells #[Bv (decide (p.num<0)),Lv a1 n1 c1,Lv a2 n2 c2] 184))).alloc (.cells #[Bv (decide (q.num<0)),Lv a3 n3 c3,Lv a4 n4 c4] 184);have g:=(yN w [Bv (decide (p.num<0)),Lv a1 n1 c1,Lv a2 n2 c2] 184).ext f;have h:=yN (w.alloc (.cells #[Bv (decide (p.num<0)),Lv a1 n1 c1,Lv a2 n2 c2] 184)) [Bv (decide (q.num<0)),Lv a3 n3 c3,Lv a4 n4 c4] 184;have b:=k.trans f;have d1:=Nat.pos_of_ne_zero p.den_nz;have d2:=Nat.pos_of_ne_zero q.den_nz;refine run197 _ _ _ _ _ _ _ _ _ _ _ _ _ _ _ _ ⟨_,_,_,_,_,_,_,g.blk.all,_,_,_,_,_,_,_,h.blk.all,?_⟩;refine yC (c198 _ ⟨_,_,_,_,_,_,rfl,ha.ext b,hb.ext b⟩ ⟨_,_,_,_,_,_,rfl,hc.ext b,hd.ext b⟩ d1 d2 ⟨by omega,by omega⟩) ?_;rintro v w1 ⟨hr,d⟩;have j:=hr;obtain⟨q1,l1,k1,q2,l2,k2,rfl,_,_⟩:=hr;have z1:nd (p.num.natAbs*q.num.natAbs)<=nd p.num.natAbs+nd q.num.natAbs:=zA1 _ _;have z3:nd (p.den*q.den)<=nd p.den+nd q.den:=zA1 _ _;refine⟨_,_,_,_,_,_,_,rfl,yC (red_end (Nat.mul_ne_zero p.den_nz q.den_nz) j (mul_red p q) ⟨by omega,by omega⟩ ((hg.ext b).ext d)) ?_⟩;rintro v w2 ⟨⟨s,rfl,hs⟩,i⟩;exact⟨s,rfl,⟨s,rfl,hs⟩,(b.trans d).trans i⟩
theorem div_red(p q:Rat)(h0:q≠0):red (decide (p.num<0) != decide (q.num<0)) (p.num.natAbs*q.den) (p.den*q.num.natAbs)=p*q⁻¹:=by
 have hn:q.num≠0:=fun e=>h0 (Rat.num_eq_zero.1 e);unfold red;rw [<- zGh,<- sgn_mul2,zDq]
 have e:sgn (decide (q.num<0)) q.den=q.num.sign*(q.den:Int):=by
  unfold sgn
  by_cases h:q.num<0
  ·rw [decide_eq_true h,if_pos rfl,Int.sign_eq_neg_one_of_neg h];omega
  ·rw [decide_eq_false h,if_neg (by decide),Int.sign_eq_one_of_pos (by omega)];omega
 rw [e,<- Rat.divInt_ofNat,Int.natCast_mul]
 have e2:p.num*(q.num.sign*(q.den:Int))=q.num.sign*(p.num*(q.den:Int)):=by
  rw [<- Int.mul_assoc,Int.mul_comm p.num,Int.mul_assoc]
 have e3:(p.den:Int)*q.num=q.num.sign*((p.den:Int)*(q.num.natAbs:Int)):=by
  rw [<- Int.mul_assoc,Int.mul_comm q.num.sign,Int.mul_assoc,Int.sign_mul_natAbs]
 have e4 : ∀ x:Int,q.num.sign*(q.num.sign*x)=x:=by
  intro x;rw [<- Int.mul_assoc]
  have:q.num.sign*q.num.sign=1:=by
   by_cases h:q.num<0
   ·rw [Int.sign_eq_neg_one_of_neg h];rfl
   ·rw [Int.sign_eq_one_of_pos (by omega)];rfl
  rw [this,Int.one_mul]
 have b:q.num.sign≠0:=fun e=>hn (Int.sign_eq_zero_iff_zero.1 e);rw [e2,e3,<- Rat.divInt_mul_left b,e4]
theorem c200{p q:Rat}{v u:Value}(w)(hv:RatQ w v p)(hu:RatQ w u q)(h0:q≠0)(hz:nd p.num.natAbs+nd p.den+nd q.num.natAbs+nd q.den<=900000000)(hg:Gl w):Ret prog 200 #[v,u] w fun v w'=>TxtV (p*q⁻¹) v/\Ext w w':=by
 obtain⟨a1,n1,c1,a2,n2,c2,rfl,ha,hb⟩:=hv;obtain⟨a3,n3,c3,a4,n4,c4,rfl,hc,hd⟩:=hu;have l:=(yE w).alloc (.cells #[Bv (decide (p.num<0)),Lv a1 n1 c1,Lv a2 n2 c2] 184);have g:=(yE (w.alloc (.cells #[Bv (decide (p.num<0)),Lv a1 n1 c1,Lv a2 n2 c2] 184))).alloc (.cells #[Bv (decide (q.num<0)),Lv a3 n3 c3,Lv a4 n4 c4] 184);have h:=(yN w [Bv (decide (p.num<0)),Lv a1 n1 c1,Lv a2 n2 c2] 184).ext g;have d:=yN (w.alloc (.cells #[Bv (decide (p.num<0)),Lv a1 n1 c1,Lv a2 n2 c2] 184)) [Bv (decide (q.num<0)),Lv a3 n3 c3,Lv a4 n4 c4] 184;have b:=l.trans g;have d1:=Nat.pos_of_ne_zero p.den_nz;have hn:q.num≠0:=fun e=>h0 (Rat.num_eq_zero.1 e)
 have d2:0<q.num.natAbs:=by omega
 refine run200 _ _ _ _ _ _ _ _ _ _ _ _ _ _ _ _ ⟨_,_,_,_,_,_,_,h.blk.all,_,d.blk.cell (j:=0) rfl,_,_,_,d.blk.cell (j:=2) rfl,_,_,_,d.blk.cell (j:=1) rfl,?_⟩;refine yC (c198 _ ⟨_,_,_,_,_,_,rfl,ha.ext b,hb.ext b⟩ ⟨_,_,_,_,_,_,rfl,hd.ext b,hc.ext b⟩ d1 d2 ⟨by omega,by omega⟩) ?_;rintro v w1 ⟨hr,f⟩;have k:=hr;obtain⟨q1,l1,k1,q2,l2,k2,rfl,_,_⟩:=hr;have z1:nd (p.num.natAbs*q.den)<=nd p.num.natAbs+nd q.den:=zA1 _ _;have z3:nd (p.den*q.num.natAbs)<=nd p.den+nd q.num.natAbs:=zA1 _ _;refine⟨_,_,_,_,_,_,_,rfl,yC (red_end (Nat.mul_ne_zero p.den_nz (by omega)) k (div_red p q h0) ⟨by omega,by omega⟩ ((hg.ext b).ext f)) ?_⟩;rintro v w2 ⟨⟨s,rfl,hs⟩,i⟩;exact⟨s,rfl,⟨s,rfl,hs⟩,(b.trans f).trans i⟩
end Go.Proofs.Si
