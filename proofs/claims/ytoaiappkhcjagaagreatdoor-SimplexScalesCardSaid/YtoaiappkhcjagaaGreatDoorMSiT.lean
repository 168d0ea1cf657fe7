/- Part of the proof: SiT, SiX, SiO, SiO2, SiO3. -/
import Derived.Test.YtoaiappkhcjagaaGreatDoorMSiL4
import Derived.Test.YtoaiappkhcjagaaGreatDoorSiV3
set_option linter.unusedVariables false
set_option linter.unusedSimpArgs false
namespace Go.Proofs.Si
open Go Go.V Go.Proofs Go.RowKit Go.Num Go.Shelf Go.Proofs.Tryz
open Go.IntKind (i64 u64 u32 u8)
attribute [local go_sem] Oper.semAt_some
set_option maxRecDepth 100000
abbrev BF (B b:Nat) (l:List UInt8) (w:World):Prop:=Lib.IsBuilderF 257 5 B b (Lib.byteCells l) w
structure Kept (B b:Nat) (w w' : World):Prop where
 below:Below B w w'
 others:Lib.OthersKept 5 (some b) w w'
theorem Kept.refl (B b:Nat) (w:World):Kept B b w w:=⟨Below.refl _ _,Lib.OthersKept.refl _ _ _⟩
theorem Kept.trans {B b:Nat} {a c d:World} (h:Kept B b a c) (k:Kept B b c d):Kept B b a d:=⟨Below.trans h.below k.below,h.others.trans k.others⟩
theorem Kept.ofExt {B b:Nat} {c d:World} (k:Ext c d) (hB:B<=c.heap.size):Kept B b c d:=⟨Below.mono k hB,fun _ _ hi _ _=>k.blk hi⟩
theorem BF.lt {B b:Nat} {l:List UInt8} {w:World} (h:BF B b l w):b<w.heap.size:=by
 rcases h with h | h <;> exact h.lt
theorem BF.ge {B b:Nat} {l:List UInt8} {w:World} (h:BF B b l w):B<=b:=by
 rcases h with h | h <;> exact h.1
theorem BF.move {B b:Nat} {l:List UInt8} {w w' : World} (h:BF B b l w) (he : ∀ (k:Nat) c e f,w.heap[k]? = some (Obj.cells c e f)->w'.heap[k]? = some (Obj.cells c e f)):BF B b l w':=by
 have go : ∀ p,Lib.BuilderAtF 257 5 B b p (Lib.byteCells l) w->Lib.BuilderAtF 257 5 B b p (Lib.byteCells l) w':=by
  rintro p ⟨hB,v,hb,ho,hne⟩
  refine⟨hB,v,he _ _ _ _ hb,⟨ho.1,?_⟩,hne⟩
  rcases ho.2 with h2 | ⟨g,cap,cur,fz,hv,hg,hgg,r⟩
  ·exact .inl h2
  ·exact .inr ⟨g,cap,cur,fz,hv,hg,he _ _ _ _ hgg,r⟩
 exact h.imp (go _) (go _)
theorem BF.ext {B b:Nat} {l:List UInt8} {w w' : World} (h:BF B b l w) (he:Ext w w'):BF B b l w':=BF.move h fun _ _ _ _ hk=>he.blk hk
theorem k236 {B b:Nat} {l:List UInt8} (s:ByteArray) {w:World} (h:BF B b l w) (hlen:l.length+s.size<=140737488355328) :
  Calls prog 236 #[.pointer (some ⟨b,0,none⟩),.string s] w fun e w'=>e = .returned (.tuple #[.int .i64 s.size,.nilIface])/\BF B b (l++bs s) w'/\Kept B b w w':=by
 have hB:B<=w.heap.size:=Nat.le_trans h.ge (Nat.le_of_lt h.lt)
 refine Calls.mono (Any.Builder_WriteString_k { Tryz.lays166h with } Tryz.Builder_Extra_166h B b (Lib.byteCells l) s w h (by rw [Lib.byteCells_length];exact hlen) hB) ?_
 rintro e w' ⟨rfl,h1,h2,h3⟩
 refine⟨rfl,.inr ?_,h2,h3⟩
 rw [Lib.byteCells_append]
 exact h1
theorem k239 {B b:Nat} {l:List UInt8} {w:World} (h:BF B b l w) :
  Calls prog 239 #[.pointer (some ⟨b,0,none⟩)] w fun e w'=>e = .returned (.string (mk l))/\Kept B b w w':=by
 have hB:B<=w.heap.size:=Nat.le_trans h.ge (Nat.le_of_lt h.lt)
 refine Calls.mono (Any.Builder_String_any_k Tryz.lays169 Tryz.Builder_Extra_169 B b l w h hB) ?_
 rintro e w' ⟨rfl,h1,h2,h3⟩
 exact⟨rfl,h2,h3⟩
theorem Kept.kp {n0 B b:Nat} {w w' : World} (h:Kept B b w w') (hn:n0<=B):Kp n0 b w w':=⟨Below.mono h.below hn,fun k c e f hk he hb=>h.others k _ hk (fun e=>hb (Option.some.inj e)) (fun c' f' e2=>by cases e2;exact he rfl)⟩
theorem Kept.from {N B b:Nat} {w w' : World} (h:Kept B b w w') (hb:w.heap[b]? = none\/∃ o,w.heap[b]? = some o/\o.isCells=true):KeepsFrom N w w':=⟨h.below.size,fun k o _ hk ho=>by
 refine h.others k o hk (fun e=>?_) (fun c' f' e2=>by subst e2;cases ho)
 cases e
 rcases hb with hb | ⟨o',hb,hc⟩
 ·rw [hb] at hk;cases hk
 ·rw [hb] at hk;cases hk;rw [hc] at ho;cases ho⟩
theorem BF.isCells {B b:Nat} {l:List UInt8} {w:World} (h:BF B b l w) : ∃ o,w.heap[b]? = some o/\o.isCells=true:=by
 rcases h with ⟨_,v,hb,_⟩ | ⟨_,v,hb,_⟩ <;> exact⟨_,hb,rfl⟩
theorem BF.grown {B b:Nat} {l:List UInt8} {w w' : World} {row:Option Nat} (h:BF B b l w) (hg:w.grownBy w' row) (hr : ∀ r,row=some r->∃ o:Obj,w.heap[r]? = some o/\o.isCells=false):BF B b l w' :=
 BF.move h fun k c e f hk=>(hg.block k (Array.getElem?_eq_some_iff.1 hk).1 (fun er=>by
  obtain⟨o,ho,hc⟩:=hr k er.symm
  rw [hk] at ho;cases ho;cases hc)).trans hk
theorem kp_trans {n0 b:Nat} {A B C:World} (h:Kp n0 b A B) (k:Kp n0 b B C):Kp n0 b A C:=h.trans k
theorem kp_put {n0 b:Nat} {w:World} (hn:n0<=w.heap.size) (W:World) (l:Nat) (o o' : Obj) (hl:w.heap.size<=l) (h:W.heap[l]? = some o) (ho:o.isCells=false) (hw:o.isWalk=false):Kp n0 b W (W.putObj l o') :=
 ⟨belowK_b hn W l o o' hl h ho hw,fun k c e f hk _ _=>(World.putObj_heap_other (by rintro rfl;rw [h] at hk;cases hk;cases ho)).trans hk⟩
theorem size9 (k:Nat):(({ data:=#[48,48,48,48,48,48,48,48,48] } : ByteArray).extract k 9).size=9 - k:=by
 rw [ByteArray.size_extract];rfl
theorem zeros9 {k:Nat} (h:k<=9):bs (({ data:=#[48,48,48,48,48,48,48,48,48] } : ByteArray).extract k 9)=List.replicate (9 - k) 48:=by
 rw [zAW]
 show ((List.replicate 9 (48:UInt8)).drop k).take (9 - k)=_
 rw [List.drop_replicate,List.take_replicate,Nat.min_self]
theorem k237 (u:Nat) (hu64:u<18446744073709551616) (w:World) (htab:P10 w) :
  Calls prog 237 #[.int .u64 u,.int .i64 10] w fun e w'=>(∃ s,e = .returned (.string s)/\bs s=dec u)/\Ext w w' :=
 Calls.mono (c237 u hu64 w htab) fun e w' ⟨v,he,⟨s,hs,hb⟩,hx⟩=>⟨⟨s,by rw [he,hs],hb⟩,hx⟩
set_option maxHeartbeats 8000000 in
theorem c208 {a:Option Addr} {cap:Nat} {L:List Nat} (w:World) (hs:NatS w a L) (hok:okL L) (hn:normL L) (hcap:L.length<=cap) (hl:L.length<=1099511627776) (htab:P10 w) :
  Ret prog 208 #[.slice a L.length cap] w fun v w'=>(∃ s,v = .string s/\bs s=dec (lv L))/\Ext w w':=by
 have t182:=underlying182;have a182:=isAgg182;have z182:=sizeOf182;have v182:=zeroValue182
 have t209:=underlying209;have a209:=isAgg209;have z209:=sizeOf209;have v209:=zeroValue209
 have t201:=underlying201;have a201:=isAgg201;have z201:=sizeOf201;have v201:=zeroValue201
 have t257:=underlying257;have a257:=isAgg257;have z257:=sizeOf257;have v257:=zeroValue257
 have t9:=underlying9;have a9:=isAgg9;have z9:=sizeOf9;have v9:=zeroValue9
 have t3:=underlying3;have a3:=isAgg3;have z3:=sizeOf3;have v3:=zeroValue3
 have f236:Fence.wide.fn 236:=trivial
 have f237:Fence.wide.fn 237:=trivial
 have f238:Fence.wide.fn 238:=trivial
 have f239:Fence.wide.fn 239:=trivial
 have f260:Fence.wide.fn 260:=trivial
 refine (callsIn_wide (n:=9)).1 ?_
 refine callsIn_of_wp_marks func208 rfl trivial ?_
 simp only [ntmps208,List.size_toArray,List.length_cons,List.length_nil,Nat.reduceAdd,Nat.reduceSub,Array.replicate_succ,Array.replicate_zero,List.push_toArray,List.append_toArray,List.nil_append,List.cons_append]
 by_cases h0:L.length=0
 ·have hnil:=List.eq_nil_of_length_eq_zero h0
  subst hnil
  gi_wp2
  refine⟨_,results_tmp rfl _ _ _,_,rfl,⟨_,rfl,?_⟩,Ext.refl _⟩
  rw [zCH,zBc];rfl
 ·obtain⟨ad,had,_⟩:=hs.get (i:=0) (by omega)
  obtain⟨b,off,sp⟩:=ad
  have hrow : ∀ j,j<L.length->w.cell? ⟨b,off+j,none⟩=some (u32v (L.getD j 0))/\sp=none:=by
   intro j hj
   rcases hs with h | ⟨ad,h1,h2,h3⟩
   ·rw [List.map_eq_nil_iff] at h;rw [h] at hj;exact absurd hj (by simp)
   ·rw [had] at h1;cases h1
    cases h2
    refine⟨?_,rfl⟩
    have:=h3 j (u32v (L.getD j 0)) (by rw [List.getElem?_map,List.getElem?_eq_getElem hj,zCM hj];rfl)
    rwa [zAk] at this
  have hsp:=(hrow 0 (by omega)).2
  subst hsp had
  obtain⟨m,hm⟩ : ∃ m,L.length=m+1:=⟨L.length - 1,by omega⟩
  obtain⟨z,hz⟩ : ∃ z,z=L.getD m 0:=⟨_,rfl⟩
  have hlast:w.cell? ⟨b,off+m,none⟩=some (.int .u32 (z:Int)):=by rw [hz];exact (hrow m (by omega)).1
  have hz9:z<1000000000:=by rw [hz];exact zAz hok m
  have HZ:Hid (z=L.getD m 0):=hz
  have HL:Hid (L.length=m+1):=hm
  have HR:Hid (∀ j,j<L.length->w.cell? ⟨b,off+j,none⟩=some (u32v (L.getD j 0))):=fun j hj=>(hrow j hj).1
  have hm2:m+1<=1099511627776:=by omega
  have hcap2:m+1<=cap:=by omega
  have ew:i64.wrap (((m+1:Nat):Int) - 1)=(m:Int):=by rw [zAf] <;> omega
  have e64:u64.wrap (z:Int)=(z:Int):=w64u (by omega)
  rw [hm]
  clear hrow hm hz hs hcap hl h0
  have hea:=(Ext.refl w).alloc (.cells #[.pointer none,.slice none 0 0] 257)
  have hbf:BF w.heap.size w.heap.size [] (w.alloc (.cells #[.pointer none,.slice none 0 0] 257)) :=
   .inl ⟨Nat.le_refl _,.slice none 0 0,heap_alloc_new w _,⟨rfl,.inl ⟨rfl,rfl⟩⟩,by simp [Value.ownBlock]⟩
  have HP:Hid (P10 w):=htab
  have HE:Hid (Ext w (w.alloc (.cells #[.pointer none,.slice none 0 0] 257))):=hea
  have HB:Hid (BF w.heap.size w.heap.size [] (w.alloc (.cells #[.pointer none,.slice none 0 0] 257))):=hbf
  have hlast2:=hea.cell hlast
  clear hea hbf htab hlast
  gi_wp2_with (first
   | (gi_at_call 237;refine CallsIn.mono (callsIn_wide.2 (k237 z (by omega) _ (HP.out.ext HE.out))) ?_;rintro e w1 ⟨⟨s0,rfl,hs0⟩,hx1⟩)
   | (gi_at_call 236;refine CallsIn.mono (callsIn_wide.2 (k236 s0 (HB.out.ext hx1) (by have:=(zA9 (n:=z) (k:=9) (by omega)).2 (by omega);rw [zAg,hs0,List.length_nil];omega))) ?_;rintro e w2 ⟨rfl,hb2,hk2⟩)
   | (gi_at_call 238;refine CallsIn.mono (back_in Fence.wide 8 trivial rfl _ _ _ _) ?_;rintro e w3 ⟨rfl,rfl⟩))
  obtain⟨zs,hzs⟩ : ∃ zs,zs=L.take m:=⟨_,rfl⟩
  have hzl:zs.length=m:=by rw [hzs,List.length_take];have:=HL.out;omega
  have ozs:okL zs:=by rw [hzs];exact zBK hok _
  have hbw:b<w.heap.size:=World.block_lt_of_cell? w _ ((HR.out) 0 (by have:=HL.out;omega))
  have hw12:w.heap.size<w1.heap.size:=by have:=hx1.size;rw [size_alloc] at this;omega
  have hw13:w1.heap.size<=w2.heap.size:=hk2.below.size
  have hB2:Below w.heap.size w w2:=Below.trans (Below.trans HE.out (Below.mono hx1 (by rw [size_alloc];omega))) hk2.below
  have hx3:Ext w2 (w2.alloc (.cells #[.slice (some ⟨b,off,none⟩) m cap] 182)):=(Ext.refl w2).alloc _
  have hB3:Below w.heap.size w (w2.alloc (.cells #[.slice (some ⟨b,off,none⟩) m cap] 182)):=Below.trans hB2 (Below.mono hx3 (by omega))
  have hzc : ∀ j,j<zs.length->(w2.alloc (.cells #[.slice (some ⟨b,off,none⟩) m cap] 182)).cell? ⟨b,off+j,none⟩=some (.int .u32 ((zs.getD j 0:Nat):Int)):=by
   intro j hj
   rw [hB3.cell (p:=⟨b,off+j,none⟩) hbw,HR.out j (by have:=HL.out;omega)]
   have e:zs.getD j 0=L.getD j 0:=by
    rw [hzs,List.getD_eq_getElem?_getD,List.getD_eq_getElem?_getD,List.getElem?_take_of_lt (by omega)]
   rw [e];rfl
  have hBs:(w2.alloc (.cells #[.slice (some ⟨b,off,none⟩) m cap] 182)).heap[w2.heap.size]? = some (.cells #[.slice (some ⟨b,off,none⟩) zs.length cap] 182 (0,0)):=by
   rw [hzl];exact heap_alloc_new w2 _
  have HS:=back_stops Fence.wide 8 f260 rfl (by omega) w2.heap.size w.heap.size w.heap.size b cap off zs ozs (by omega) (w2.alloc (.cells #[.slice (some ⟨b,off,none⟩) m cap] 182)) hBs (by rw [size_alloc];omega) hbw (by omega) hzc
  refine wpIn_rangeFunc_ownG rfl (by omega) (gf:=260) (lb:=#[.pointer (some ⟨w2.heap.size,0,none⟩)]) rfl f260 (enters_of func260 (by kernel_rfl) rfl) HS kp_trans (kp_put (by rw [size_alloc];omega)) (Below.refl _ _) (fun _=>rfl)
   (fun pre W=>BF w.heap.size w.heap.size (zBW z pre) W/\Below w.heap.size w W/\(zBW z pre).length<=9+9*pre.length)
   (fun _ _ _=>False)
   (fun s A B row hs hg hr=>⟨hs.1.grown hg (fun r e=>(hr r e).2),hs.2.1.grown hg (by have:=hs.2.1.size;omega) (fun k e=>by have:=(hr k e).1;rw [size_alloc] at this;omega),hs.2.2⟩)
   (fun _ _ _ _ _ hs _ _=>hs)
   ⟨?_,hB3,?_⟩
   (fun x=>{ tmps:=#[.slice (some ⟨b,off,none⟩) (m+1) cap,undef,.string ⟨#[]⟩,.pointer (some ⟨w.heap.size,0,none⟩),undef,.int .u32 (x.1.2:Int),undef,.slice (some ⟨b,off,none⟩) (m+1) cap,.int .i64 ((m:Int)+1),.bool false,.slice (some ⟨b,off,none⟩) (m+1) cap,.slice (some ⟨b,off,none⟩) (m+1) cap,.int .i64 ((m:Int)+1),.int .i64 (m:Int),.pointer (some ⟨b,off+m,none⟩),.int .u32 (z:Int),.int .u64 (z:Int),.string s0,.tuple #[.int .i64 (s0.size:Int),.nilIface],.slice (some ⟨b,off,none⟩) (m+1) cap,.slice (some ⟨b,off,none⟩) (m+1) cap,.int .i64 ((m:Int)+1),.int .i64 (m:Int),.slice (some ⟨b,off,none⟩) m cap,.func (.func 260) #[] #[.pointer (some ⟨w2.heap.size,0,none⟩)],.int .i64 (x.1.1:Int),.int .u32 (x.1.2:Int),undef,undef,undef,undef,undef,undef,undef,undef,undef,undef],defers:=[] }) ?assign ?body ?done ?stop
  ·have:zBW z []=[]++bs s0:=by simp [zBW,hs0]
   rw [this]
   exact hb2.ext hx3
  ·have:=(zA9 (n:=z) (k:=9) (by omega)).2 (by omega)
   simpa [zBW] using this
  case assign =>
   intro l x W K hK
   gi_wp2
   exact hK
  case body =>
   rintro l pre ⟨⟨xi,xl⟩,hx9⟩ W ⟨hb,hB,hlen⟩ hlt
   have e64x:u64.wrap (xl:Int)=(xl:Int):=w64u (by have:xl<1000000000:=hx9;omega)
   have HB1:Hid (BF w.heap.size w.heap.size (zBW z pre) W):=hb
   have HB2:Hid (Below w.heap.size w W):=hB
   have HX:Hid (xl<1000000000):=hx9
   clear hb hB HS hzc hBs hB3 hx3 hB2
   dsimp only
   gi_wp2_with (first
    | (gi_at_call 237;refine CallsIn.mono (callsIn_wide.2 (k237 xl (by have:=HX.out;omega) _ (HP.out.ext HB2.out))) ?_;rintro e W1 ⟨⟨s1,rfl,hs1⟩,hy1⟩;have hs9:s1.size<=9:=by (rw [zAg,hs1];exact (zA9 (by omega)).2 (by have:=HX.out;omega)))
    | (gi_at_call 236;refine CallsIn.mono (callsIn_wide.2 (k236 _ hb4 (by rw [List.length_append,<- zAg,size9];omega))) ?_;rintro e W3 ⟨rfl,hb5,hk5⟩)
    | (gi_at_call 236;refine CallsIn.mono (callsIn_wide.2 (k236 _ (HB1.out.ext hy1) (by rw [size9];omega))) ?_;rintro e W2 ⟨rfl,hb4,hk4⟩))
   have hpad:bs (({ data:=#[48,48,48,48,48,48,48,48,48] } : ByteArray).extract s1.size 9)=List.replicate (9 - s1.size) 48:=zeros9 hs9
   have hpl:(List.replicate (9 - s1.size) (48:UInt8))++bs s1=pad9 xl:=by
    rw [pad9,hs1,show s1.size=(dec xl).length by rw [zAg,hs1]]
   have hk:Kept w.heap.size w.heap.size W W3:=((Kept.ofExt hy1 (by have:=HB2.out.size;omega)).trans hk4).trans hk5
   refine⟨hk.from (.inr HB1.out.isCells),hk.kp (Nat.le_refl _),?_,Below.trans HB2.out hk.below,?_⟩
   ·show BF _ _ (zBW z (pre++[⟨(xi,xl),hx9⟩])) W3
    rw [zD3]
    show BF _ _ (zBW z pre++pad9 xl) W3
    rw [<- hpl,<- hpad,<- List.append_assoc]
    exact hb5
   ·rw [zD3,List.length_append,List.length_append,List.length_singleton]
    have:(pad9 xl).length=9:=by
     rw [<- hpl,List.length_append,List.length_replicate,<- zAg];omega
    show _+(pad9 xl).length<=_
    omega
  case done =>
   rintro D ys W hD rfl ⟨hb,hB,_⟩ hK
   have HB1:Hid (BF w.heap.size w.heap.size (zBW z (upto (bk zs ozs) zs.length)) W):=hb
   clear hb HS hzc hBs hB3 hx3 hB2
   gi_wp2_with (gi_at_call 239;refine CallsIn.mono (callsIn_wide.2 (k239 HB1.out)) ?_;rintro e W1 ⟨rfl,hk6⟩)
   have hDw:w.heap.size<D:=by rw [size_alloc] at hD;omega
   have hK1:=hk6.others D _ hK (fun e=>by cases e;omega) (fun c f e=>by cases e)
   refine⟨by simp,.inl ⟨_,_,rfl,run_takeDeferred hK1,?_⟩⟩
   refine⟨_,results_tmp rfl _ _ _,_,rfl,⟨_,rfl,?_⟩,Below.trans (Below.trans hB hk6.below) (belowK_b (w:=w) (Nat.le_refl _) W1 D _ _ (by omega) hK1 rfl rfl)⟩
   rw [bs_mk]
   have hlen:=HL.out
   have h1:=(dec_limbs hok hn (by omega) m (by omega)).1
   rw [show L.length - 1 - m=0 by omega,List.drop_zero] at h1
   rw [h1]
   have e1:min m L.length=m:=by omega
   have e2:L.length - 1=m:=by omega
   subst hzs
   have hq : ∀ q,q=m->∀ h,upto (bk (L.take m) ozs) m=upto (bk (L.take q) h) m:=by rintro q rfl h;rfl
   rw [e1,HZ.out,hq _ e2 (zBK hok _)]
   simp only [e2]
  case stop =>
   rintro D c pre W _ _ h _
   exact h.elim
end Go.Proofs.Si
namespace Go.Proofs.Si
open Go Go.V Go.Proofs Go.RowKit Go.Num Go.Proofs.Tryz
set_option maxRecDepth 100000
theorem prefix_minus (l:List UInt8):Lib.hasPrefix l [45]=(zAv l).1/\Lib.trimPrefix l [45]=(zAv l).2:=by
 unfold Lib.trimPrefix
 match l with
 | []=>exact⟨rfl,rfl⟩
 | c::l =>
  by_cases h:c=45
  ·subst h
   refine⟨rfl,rfl⟩
  ·have h1:Lib.hasPrefix (c::l) [45]=false:=by
    unfold Lib.hasPrefix
    have:((45:UInt8)==c)=false:=by rw [beq_eq_false_iff_ne];exact fun e=>h e.symm
    simp [List.isPrefixOf,this]
   rw [h1]
   have h2:zAv (c::l)=(false,c::l):=by
    unfold zAv
    split
    ·rename_i h3;cases h3;exact absurd rfl h
    ·rfl
   rw [h2]
   exact⟨rfl,rfl⟩
theorem zEA : ∀ l:List UInt8,Lib.index l [47]=if (l.takeWhile (· != 47)).length<l.length then ((l.takeWhile (· != 47)).length:Int) else -1
 | []=>by simp [Lib.index]
 | c::l=>by
  have ih:=zEA l
  by_cases h:c=47
  ·subst h
   unfold Lib.index
   rw [if_pos (by simp [List.isPrefixOf])]
   simp
  ·have hne:((47:UInt8)==c)=false:=by rw [beq_eq_false_iff_ne];exact fun e=>h e.symm
   have hne2:(c != 47)=true:=by rw [bne_iff_ne];exact h
   unfold Lib.index
   rw [if_neg (by simp [List.isPrefixOf,hne]),List.takeWhile_cons,hne2,if_pos rfl,List.length_cons,List.length_cons]
   by_cases h2:(l.takeWhile (· != 47)).length<l.length
   ·rw [if_pos h2] at ih
    rw [ih,if_neg (by simp only [beq_iff_eq];omega),if_pos (by omega)]
    omega
   ·rw [if_neg h2] at ih
    rw [ih,if_pos (by decide),if_neg (by omega)]
theorem cut_stroke (l:List UInt8):Lib.cut l [47]=if (l.takeWhile (· != 47)).length<l.length then (l.takeWhile (· != 47),l.drop ((l.takeWhile (· != 47)).length+1),true) else (l,[],false):=by
 unfold Lib.cut
 rw [zEA]
 by_cases h:(l.takeWhile (· != 47)).length<l.length
 ·rw [if_pos h,if_pos (by omega),if_pos h,Int.toNat_natCast]
  congr 1
  exact List.prefix_iff_eq_take.1 (List.takeWhile_prefix _) |>.symm
 ·rw [if_neg h,if_neg (by omega),if_neg h]
theorem pum : ∀ (l:List UInt8) (acc:Nat),l.all isDig=true->acc<=18446744073709551615->Lib.parseUintM 18446744073709551615 acc l=if acc*10 ^ l.length+val l<=18446744073709551615 then .ok (acc*10 ^ l.length+val l) else .range
 | [],acc,_,h=>by
  rw [Lib.parseUintM,zC8,List.length_nil,Nat.pow_zero,Nat.mul_one,Nat.add_zero,if_pos h]
 | c::r,acc,hd,h=>by
  rw [List.all_cons,Bool.and_eq_true] at hd
  obtain⟨h1,h2⟩:=zBw hd.1
  have e:acc*10 ^ (c::r).length+val (c::r)=(acc*10+(c.toNat - 48))*10 ^ r.length+val r:=by
   rw [List.length_cons,zCp,Nat.pow_succ,dv,Nat.add_mul]
   have:acc*(10 ^ r.length*10)=acc*10*10 ^ r.length:=by rw [Nat.mul_comm (10 ^ r.length),Nat.mul_assoc]
   omega
  have hp:1<=10 ^ r.length:=Nat.one_le_pow _ _ (by omega)
  have hge:acc*10+(c.toNat - 48)<=(acc*10+(c.toNat - 48))*10 ^ r.length:=Nat.le_mul_of_pos_right _ hp
  rw [Lib.parseUintM,if_pos ⟨h1,h2⟩,e]
  by_cases h3:1844674407370955162<=acc
  ·rw [if_pos h3,if_neg (by omega)]
  ·rw [if_neg h3]
   by_cases h4:18446744073709551615<acc*10+(c.toNat - 48)
   ·rw [if_pos h4,if_neg (by omega)]
   ·rw [if_neg h4,pum r _ hd.2 (by omega)]
theorem pub {l:List UInt8} (hne:l≠[]) (hd:l.all isDig=true):Lib.parseUintB 64 l=if val l<=18446744073709551615 then .ok (val l) else .range:=by
 unfold Lib.parseUintB
 rw [if_neg hne]
 have:=pum l 0 hd (by omega)
 rw [Nat.zero_mul,Nat.zero_add] at this
 exact this
theorem zFo {l:List UInt8} (hne:l≠[]) (hd:l.all isDig=true):Lib.parseIntB 64 l=if val l<=9223372036854775807 then .ok (val l:Int) else .range:=by
 cases l with
 | nil=>exact absurd rfl hne
 | cons c r =>
  have hc:isDig c=true:=by rw [List.all_cons,Bool.and_eq_true] at hd;exact hd.1
  obtain⟨h1,h2⟩:=zBw hc
  rw [Lib.parseIntB_plain 64 c r (by omega) (by omega),pub hne hd]
  by_cases h3:val (c::r)<=18446744073709551615
  ·rw [if_pos h3,Lib.signlessC]
   by_cases h4:val (c::r)<=9223372036854775807
   ·rw [if_pos h4,if_neg (by omega)]
   ·rw [if_neg h4,if_pos (by omega)]
  ·rw [if_neg h3,if_neg (by omega)];rfl
theorem pib_minus {l:List UInt8} (hne:l≠[]) (hd:l.all isDig=true):Lib.parseIntB 64 (45::l)=if val l<=9223372036854775808 then .ok (-(val l:Int)) else .range:=by
 rw [Lib.parseIntB_minus,pub hne hd]
 by_cases h3:val l<=18446744073709551615
 ·rw [if_pos h3,Lib.signedC]
  by_cases h4:val l<=9223372036854775808
  ·rw [if_pos h4,if_neg (by omega)]
  ·rw [if_neg h4,if_pos (by omega)]
 ·rw [if_neg h3,if_neg (by omega)];rfl
structure Gl (w:World):Prop where
 p10:P10 w
 ml : ∃ m,w.cell? ⟨1,0,none⟩=some (.int .i64 m)
 er : ∃ tp p, w.var? prog "strconv.ErrRange" = some #[.iface tp p]
theorem Gl.ext {w w' : World} (h:Gl w) (he:Ext w w'):Gl w':=by
 refine⟨h.p10.ext he,?_,?_⟩
 ·obtain⟨m,hm⟩:=h.ml;exact⟨m,he.cell hm⟩
 ·obtain⟨tp,p,hm⟩:=h.er;exact⟨tp,p,var_ext he hm⟩
theorem c183 (s:ByteArray) (w:World):Ret prog 183 #[.string s,.string { data:=#[45] }] w fun v w'=>(∃ t,v = .tuple #[.string t,.bool (zAv (bs s)).1]/\bs t=(zAv (bs s)).2)/\w' = w:=by
 refine Calls.mono (Tryz.strings_CutPrefix s { data:=#[45] } w) ?_
 rintro e w' ⟨rfl,rfl⟩
 obtain⟨h1,h2⟩:=prefix_minus (bs s)
 refine⟨_,rfl,⟨mk (Lib.trimPrefix (bs s) [45]),?_,by rw [bs_mk,h2]⟩,rfl⟩
 rw [<- h1];rfl
theorem c149 (s:ByteArray) (hs:s.size<4294967281) (w:World) (hg:Gl w):Ret prog 149 #[.string s,.string { data:=#[47] }] w fun v w' =>
  (∃ t u,v = .tuple #[.string t,.string u,.bool (decide (((bs s).takeWhile (· != 47)).length<(bs s).length))]/\bs t=(dqCut (bs s)).1/\(if ((bs s).takeWhile (· != 47)).length<(bs s).length then bs u=(dqCut (bs s)).2 else bs u=[]))/\Ext w w':=by
 obtain⟨m,hm⟩:=hg.ml
 refine Calls.mono (Tryz.strings_Cut s { data:=#[47] } m w hs hm) ?_
 rintro e w' ⟨rfl,n,rfl⟩
 have hc:Lib.cut s.data.toList ({ data:=#[47] } : ByteArray).data.toList=_:=cut_stroke (bs s)
 rw [hc]
 unfold dqCut
 by_cases h:((bs s).takeWhile (· != 47)).length<(bs s).length
 ·simp only [if_pos h,decide_eq_true h]
  refine⟨_,rfl,⟨_,_,rfl,bs_mk _,bs_mk _⟩,?_⟩
  exact⟨rfl,rfl,rfl,Nat.le_refl _,fun _ _=>rfl⟩
 ·simp only [if_neg h,decide_eq_false h]
  refine⟨_,rfl,⟨_,_,rfl,bs_mk _,bs_mk _⟩,?_⟩
  exact⟨rfl,rfl,rfl,Nat.le_refl _,fun _ _=>rfl⟩
theorem c150 (s:ByteArray) (v:Int) (h:Lib.parseIntB 64 (bs s) = .ok v) (hz:s.size<=281474976710656) (w:World):Ret prog 150 #[.string s,.int .i64 10,.int .i64 64] w fun u w'=>u = .tuple #[.int .i64 v,.nilIface]/\Ext w w':=by
 refine Calls.mono (Tryz.strconv_ParseInt_10_at64_ok s (by omega) v h w) ?_
 rintro e w' ⟨rfl,rfl | ⟨t,rfl⟩⟩
 ·exact⟨_,rfl,rfl,Ext.refl _⟩
 ·exact⟨_,rfl,rfl,Lib.bytesWorld_below w 5 t⟩
theorem c150r (s:ByteArray) (h:Lib.parseIntB 64 (bs s) = .range) (hz:s.size<=281474976710656) (w:World) (hg:Gl w):Ret prog 150 #[.string s,.int .i64 10,.int .i64 64] w fun u w'=>(∃ n t p,u = .tuple #[.int .i64 n,.iface t p])/\Ext w w':=by
 obtain⟨tp,p,hv⟩:=hg.er
 refine Calls.mono (Tryz.strconv_ParseInt_10_at64_range_var s hz h tp p w hv) ?_
 rintro e w' ⟨N,rfl,_,_,hb⟩
 exact⟨_,rfl,⟨_,_,_,rfl⟩,hb⟩
theorem textV {va:Value} {n:Nat} (w:World) (ha:NatV w va n) (hz:nd n<=1000000000000) (hg:Gl w):Ret prog 208 #[va] w fun v w'=>(∃ s,v = .string s/\bs s=dec n)/\Ext w w':=by
 obtain⟨a,ca,A,rfl,hca,hsa,oa,na,rfl,la⟩:=ha.cut
 exact c208 w hsa oa na hca (by omega) hg.p10
theorem oneV {va:Value} {n:Nat} (w:World) (ha:NatV w va n):Ret prog 188 #[va] w fun v w'=>v = .bool (decide (n=1))/\w' = w:=by
 obtain⟨a,ca,A,rfl,hca,hsa,oa,na,rfl,la⟩:=ha.cut
 exact c188 w hsa oa na
theorem sliceV {w:World} {v:Value} {n:Nat} (h:NatV w v n) : ∃ a l c,v = .slice a l c:=by
 obtain⟨a,c,L,e,_⟩:=h
 exact⟨_,_,_,e⟩
theorem mulV {va vb:Value} {m n:Nat} (w:World) (ha:NatV w va m) (hb:NatV w vb n) (hz:nd m<=1000000000000/\nd n<=1000000000000):Ret prog 220 #[va,vb] w fun v w'=>(∃ a l c,v = .slice a l c)/\NatV w' v (m*n)/\Ext w w':=by
 obtain⟨a,ca,A,rfl,hca,hsa,oa,na,rfl,la⟩:=ha.cut
 obtain⟨b,cb,B,rfl,hcb,hsb,ob,nb,rfl,lb⟩:=hb.cut
 refine (c220 w hsa hsb oa ob ⟨by omega,by omega⟩).mono ?_
 rintro v w' ⟨h,_,he⟩
 exact⟨sliceV h.natV,h.natV,he⟩
theorem addV {va vb:Value} {m n:Nat} (w:World) (ha:NatV w va m) (hb:NatV w vb n) (hz:nd m<=1000000000000/\nd n<=1000000000000):Ret prog 222 #[va,vb] w fun v w'=>(∃ a l c,v = .slice a l c)/\NatV w' v (m+n)/\Ext w w':=by
 obtain⟨a,ca,A,rfl,hca,hsa,oa,na,rfl,la⟩:=ha.cut
 obtain⟨b,cb,B,rfl,hcb,hsb,ob,nb,rfl,lb⟩:=hb.cut
 refine (c222 w hsa hsb oa ob ⟨by omega,by omega⟩).mono ?_
 rintro v w' ⟨h,he⟩
 exact⟨sliceV h.natV,h.natV,he⟩
theorem subV {va vb:Value} {m n:Nat} (w:World) (ha:NatV w va m) (hb:NatV w vb n) (hle:n<=m) (hz:nd m<=1000000000000):Ret prog 224 #[va,vb] w fun v w'=>(∃ a l c,v = .slice a l c)/\NatV w' v (m - n)/\Ext w w':=by
 obtain⟨a,ca,A,rfl,hca,hsa,oa,na,rfl,la⟩:=ha.cut
 obtain⟨b,cb,B,rfl,hcb,hsb,ob,nb,rfl,lb⟩:=hb.cut
 refine (c224 w hsa hsb oa ob nb hle (by omega)).mono ?_
 rintro v w' ⟨h,he⟩
 exact⟨sliceV h.natV,h.natV,he⟩
theorem cmpV {va vb:Value} {m n:Nat} (w:World) (ha:NatV w va m) (hb:NatV w vb n) (hz:nd m<=1000000000000/\nd n<=1000000000000):Ret prog 223 #[va,vb] w fun v w'=>(∃ z:Int,v = .int .i64 z/\(z<0↔m<n))/\Ext w w':=by
 obtain⟨a,ca,A,rfl,hca,hsa,oa,na,rfl,la⟩:=ha.cut
 obtain⟨b,cb,B,rfl,hcb,hsb,ob,nb,rfl,lb⟩:=hb.cut
 exact c223 w hsa hsb oa ob na nb ⟨by omega,by omega⟩
theorem NatV.drew {w:World} {v:Value} {n:Nat} (h:NatV w v n):NatV w.drew v n:=h.ext (Ext.refl w).drew
theorem Gl.drew {w:World} (h:Gl w):Gl w.drew:=h.ext (Ext.refl w).drew
theorem NatV.pos {w:World} {a:Option Addr} {l c n:Nat} (h:NatV w (.slice a l c) n):0<l↔n≠0:=by
 obtain⟨a',c',L,e,_,_,_,hn,hl⟩:=h
 cases e
 rw [<- hl]
 constructor
 ·intro h0 e0
  have:=zEs hn h0
  have h3:0<1000000000 ^ (L.length - 1):=Nat.pow_pos (by omega)
  omega
 ·intro h0
  refine Nat.pos_of_ne_zero fun e0=>h0 ?_
  rw [List.eq_nil_of_length_eq_zero e0];rfl
theorem zAp (b:Bool) (a1:Option Addr) (n1 c1:Nat) (a2:Option Addr) (n2 c2:Nat) : ∀ x:Nat,u32v x∉[Value.bool b,.slice a1 n1 c1,.slice a2 n2 c2]:=fun x=>by simp [u32v]
theorem c195 {v:Value} {neg:Bool} {a b:Nat} (w:World) (h:RatM w v neg a b) (hz:nd a<=1000000000/\nd b<=1000000000) (hg:Gl w) :
  Ret prog 195 #[v] w fun v w'=>(∃ s,v = .string s/\bs s=txt3 (neg&&decide (a≠0)) a b)/\Ext w w':=by
 obtain⟨a1,n1,c1,a2,n2,c2,rfl,ha,hb⟩:=h
 have hx:=(Ext.refl w).alloc (.cells #[.bool neg,.slice a1 n1 c1,.slice a2 n2 c2] 184)
 have hB0:=Box.new w [.bool neg,.slice a1 n1 c1,.slice a2 n2 c2] 184
 refine run195 _ _ _ _ _ _ _ _ _ ⟨_,_,_,hB0.blk.cell (j:=1) rfl,Called.of (textV _ (ha.ext hx) (by omega) (hg.ext hx)) ?_⟩
 rintro v w1 ⟨⟨s,rfl,hs⟩,he1⟩
 have hB1:=hB0.ext he1
 have hss:s.size<=1000000000:=by rw [zAg,hs];exact hz.1
 refine⟨s,rfl,fun K hK K1 hK1=>?_⟩
 have hx1:=hx.trans he1
 have fin : ∀ (s1:ByteArray) (n0:Bool),s1.size<=1000000001->n0=(neg&&decide (a≠0))->bs s1=(if n0 then [45] else [])++dec a->K [.string s1] w1:=by
  intro s1 n0 hs1z hn0 hs1
  refine hK s1 ⟨_,_,_,hB1.blk.cell (j:=2) rfl,Called.of (oneV w1 ((hb.ext hx).ext he1)) ?_⟩
  rintro v w2 ⟨rfl,rfl⟩
  refine⟨_,rfl,zAa (fun hne=>?_) (fun hone=>⟨⟨_,rfl,?_⟩,Ext.from_alloc he1⟩)⟩
  ·have hb1:b≠1:=by simpa using hne
   refine⟨_,_,_,hB1.blk.cell (j:=2) rfl,Called.of (textV _ ((hb.ext hx).ext he1) (by omega) ((hg.ext hx).ext he1)) ?_⟩
   rintro v w3 ⟨⟨s2,rfl,hs2⟩,he3⟩
   have hs2z:s2.size<=1000000000:=by rw [zAg,hs2];exact hz.2
   refine⟨s2,rfl,by omega,?_,⟨_,rfl,?_⟩,Ext.from_alloc (he1.trans he3)⟩
   ·rw [zDo]
    have:({ data:=#[47] } : ByteArray).size=1:=rfl
    omega
   ·rw [zAP,zAP,hs1,hs2,<- hn0,txt3,if_neg hb1];rfl
  ·have hb1:b=1:=by simpa using hone
   rw [hs1,<- hn0,txt3,if_pos hb1,List.append_nil]
 refine⟨_,hB1.blk.cell (j:=0) rfl,zAa (fun hn=>?_) (fun hn=>?_)⟩
 ·refine⟨_,_,_,hB1.blk.cell (j:=1) rfl,hK1 _ (zAd (fun h0=>?_) (fun h0=>?_))⟩
  ·have ha0:a≠0:=ha.pos.1 (by omega)
   refine⟨by omega,fin _ true ?_ (by rw [hn,decide_eq_true ha0];rfl) ?_⟩
   ·rw [zDo]
    have:({ data:=#[45] } : ByteArray).size=1:=rfl
    omega
   ·rw [zAP,hs];rfl
  ·have ha0 : ¬ a≠0:=fun e=>h0 (by have:=ha.pos.2 e;omega)
   exact fin _ false (by omega) (by rw [decide_eq_false ha0,Bool.and_false]) (by rw [hs];rfl)
 ·refine hK1 _ ?_
  rw [cond_false]
  exact fin _ false (by omega) (by rw [hn];rfl) (by rw [hs];rfl)
theorem txt_red (neg:Bool) (a:Nat) {b:Nat} (hb:b≠0):txt3 (neg&&decide (a / Nat.gcd a b≠0)) (a / Nat.gcd a b) (b / Nat.gcd a b)=txtQ (red neg a b):=by
 unfold txtQ
 rw [zD0 neg a hb,zEo neg a hb,zCd]
 congr 1
 rw [Bool.eq_iff_iff,decide_eq_true_eq,sgn_neg,Bool.and_eq_true,decide_eq_true_eq]
theorem c198 {v u:Value} {m n:Bool} {a b c d:Nat} (w:World) (hv:RatM w v m a b) (hu:RatM w u n c d) (hb0:0<b) (hd0:0<d) (hz:nd a+nd c<=1000000000/\nd b+nd d<=1000000000) :
  Ret prog 198 #[v,u] w fun v w'=>RatM w' v (m != n) (a*c / Nat.gcd (a*c) (b*d)) (b*d / Nat.gcd (a*c) (b*d))/\Ext w w':=by
 obtain⟨a1,n1,c1,a2,n2,c2,rfl,ha,hb⟩:=hv
 obtain⟨a3,n3,c3,a4,n4,c4,rfl,hc,hd⟩:=hu
 have hx1:=(Ext.refl w).alloc (.cells #[.bool m,.slice a1 n1 c1,.slice a2 n2 c2] 184)
 have hx2:=(Ext.refl (w.alloc (.cells #[.bool m,.slice a1 n1 c1,.slice a2 n2 c2] 184))).alloc (.cells #[.bool n,.slice a3 n3 c3,.slice a4 n4 c4] 184)
 have hx3:=(Ext.refl ((w.alloc (.cells #[.bool m,.slice a1 n1 c1,.slice a2 n2 c2] 184)).alloc (.cells #[.bool n,.slice a3 n3 c3,.slice a4 n4 c4] 184))).alloc (.cells #[.bool false,.slice none 0 0,.slice none 0 0] 184)
 have hB1:=((Box.new w [.bool m,.slice a1 n1 c1,.slice a2 n2 c2] 184).ext hx2).ext hx3.drew
 have hB2:=(Box.new (w.alloc (.cells #[.bool m,.slice a1 n1 c1,.slice a2 n2 c2] 184)) [.bool n,.slice a3 n3 c3,.slice a4 n4 c4] 184).ext hx3.drew
 have hB3:=(Box.new ((w.alloc (.cells #[.bool m,.slice a1 n1 c1,.slice a2 n2 c2] 184)).alloc (.cells #[.bool n,.slice a3 n3 c3,.slice a4 n4 c4] 184)) [.bool false,.slice none 0 0,.slice none 0 0] 184).ext (Ext.refl _).drew
 have hxx:=(hx1.trans hx2).trans hx3.drew
 have hs3:w.heap.size<=((w.alloc (.cells #[.bool m,.slice a1 n1 c1,.slice a2 n2 c2] 184)).alloc (.cells #[.bool n,.slice a3 n3 c3,.slice a4 n4 c4] 184)).heap.size:=(hx1.trans hx2).size
 refine run198 _ _ _ _ _ _ _ _ _ _ _ _ _ _ _ _ fun K hK=>?_
 refine⟨_,hB1.blk.cell (j:=0) rfl,_,hB2.blk.cell (j:=0) rfl,_,_,_,hB1.blk.cell (j:=1) rfl,_,_,_,hB2.blk.cell (j:=1) rfl,_,_,_,hB1.blk.cell (j:=2) rfl,_,_,_,hB2.blk.cell (j:=2) rfl,?_⟩
 have za:=zE9 a
 have zb:=zE9 b
 have zc:=zE9 c
 have zd:=zE9 d
 refine Called.of (mulV _ (ha.ext hxx) (hc.ext hxx) ⟨by omega,by omega⟩) ?_
 rintro v w2 ⟨⟨p,l,k,rfl⟩,hp,he2⟩
 refine⟨_,_,_,rfl,he2,Called.of (mulV _ ((hb.ext hxx).ext he2) ((hd.ext hxx).ext he2) ⟨by omega,by omega⟩) ?_⟩
 rintro v w3 ⟨⟨p',l',k',rfl⟩,hp',he3⟩
 have zac:nd (a*c)<=nd a+nd c:=zA2 a c
 have zbd:nd (b*d)<=nd b+nd d:=zA2 b d
 refine⟨_,_,_,rfl,he2.trans he3,Called.of (c221 _ _ (hp.ext he3) hp' (Nat.mul_pos hb0 hd0) ⟨by omega,by omega⟩) ?_⟩
 rintro v w4 ⟨hr,he4⟩
 obtain⟨q1,l1,k1,q2,l2,k2,rfl,hq1,hq2⟩:=hr
 have hB4:=((hB3.ext he2).ext he3).ext he4
 refine⟨_,_,_,_,_,_,_,rfl,hB4.blk.writable (by decide),hK _ ⟨_,_,_,_,_,_,_,(hB4.put _ (by rfl)).blk.all,⟨_,_,_,_,_,_,rfl,hq1.put hB4 (zAp _ _ _ _ _ _ _) _ _ _,hq2.put hB4 (zAp _ _ _ _ _ _ _) _ _ _⟩,?_⟩⟩
 exact (((hxx.trans he2).trans he3).trans he4).put hs3 _ _
set_option maxHeartbeats 1000000 in
theorem c194 {v u:Value} {m n:Bool} {a b c d:Nat} (w:World) (hv:RatM w v m a b) (hu:RatM w u n c d) (hb0:0<b) (hd0:0<d) (hz:nd a+nd d<=1000000000/\nd c+nd b<=1000000000/\nd b+nd d<=1000000000) :
  Ret prog 194 #[v,u] w fun v w'=>(∃ (neg:Bool) (x:Nat),sgn m (a*d)+sgn n (c*b)=sgn neg x/\x<=a*d+c*b/\RatM w' v neg (x / Nat.gcd x (b*d)) (b*d / Nat.gcd x (b*d)))/\Ext w w':=by
 obtain⟨a1,n1,c1,a2,n2,c2,rfl,ha,hb⟩:=hv
 obtain⟨a3,n3,c3,a4,n4,c4,rfl,hc,hd⟩:=hu
 have hx1:=(Ext.refl w).alloc (.cells #[.bool m,.slice a1 n1 c1,.slice a2 n2 c2] 184)
 have hx2:=(Ext.refl (w.alloc (.cells #[.bool m,.slice a1 n1 c1,.slice a2 n2 c2] 184))).alloc (.cells #[.bool n,.slice a3 n3 c3,.slice a4 n4 c4] 184)
 have hx3:=(Ext.refl ((w.alloc (.cells #[.bool m,.slice a1 n1 c1,.slice a2 n2 c2] 184)).alloc (.cells #[.bool n,.slice a3 n3 c3,.slice a4 n4 c4] 184))).alloc (.cells #[.bool false,.slice none 0 0,.slice none 0 0] 184)
 have hB1:=((Box.new w [.bool m,.slice a1 n1 c1,.slice a2 n2 c2] 184).ext hx2).ext hx3.drew
 have hB2:=(Box.new (w.alloc (.cells #[.bool m,.slice a1 n1 c1,.slice a2 n2 c2] 184)) [.bool n,.slice a3 n3 c3,.slice a4 n4 c4] 184).ext hx3.drew
 have hB3:=(Box.new ((w.alloc (.cells #[.bool m,.slice a1 n1 c1,.slice a2 n2 c2] 184)).alloc (.cells #[.bool n,.slice a3 n3 c3,.slice a4 n4 c4] 184)) [.bool false,.slice none 0 0,.slice none 0 0] 184).ext (Ext.refl _).drew
 have hxx:=(hx1.trans hx2).trans hx3.drew
 have hs3:w.heap.size<=((w.alloc (.cells #[.bool m,.slice a1 n1 c1,.slice a2 n2 c2] 184)).alloc (.cells #[.bool n,.slice a3 n3 c3,.slice a4 n4 c4] 184)).heap.size:=(hx1.trans hx2).size
 refine run194 _ _ _ _ _ _ _ _ _ _ _ _ _ _ _ _ ?_
 have za:=zE9 a
 have zb:=zE9 b
 have zc:=zE9 c
 have zd:=zE9 d
 have zad:nd (a*d)<=nd a+nd d:=zA2 a d
 have zcb:nd (c*b)<=nd c+nd b:=zA2 c b
 have zbd:nd (b*d)<=nd b+nd d:=zA2 b d
 have zs:nd (a*d+c*b)<=max (nd (a*d)) (nd (c*b))+1:=zC1 _ _
 have fin : ∀ (neg:Bool) (x:Nat) (vx vd:Value) (W:World),sgn m (a*d)+sgn n (c*b)=sgn neg x->x<=a*d+c*b->NatV W vx x->NatV W vd (b*d) ->
   Ext (((w.alloc (.cells #[.bool m,.slice a1 n1 c1,.slice a2 n2 c2] 184)).alloc (.cells #[.bool n,.slice a3 n3 c3,.slice a4 n4 c4] 184)).alloc (.cells #[.bool false,.slice none 0 0,.slice none 0 0] 184)).drew W ->
   ∀ {Q:World->Prop},(∀ W',(∃ b5 q1 l1 l2 q2 l3 l4,vcells W' ⟨((w.alloc (.cells #[.bool m,.slice a1 n1 c1,.slice a2 n2 c2] 184)).alloc (.cells #[.bool n,.slice a3 n3 c3,.slice a4 n4 c4] 184)).heap.size,0,none⟩ 0 [.bool b5,.slice q1 l1 l2,.slice q2 l3 l4] /\
    ((∃ (neg:Bool) (x:Nat),sgn m (a*d)+sgn n (c*b)=sgn neg x/\x<=a*d+c*b/\RatM W' (.agg #[.bool b5,.slice q1 l1 l2,.slice q2 l3 l4]) neg (x / Nat.gcd x (b*d)) (b*d / Nat.gcd x (b*d)))/\Ext w W'))->Q W') ->
   Called prog 221 #[.bool neg,vx,vd] W fun v w4=>∃ b4 p6 k12 k13 p7 k14 k15,v = .agg #[.bool b4,.slice p6 k12 k13,.slice p7 k14 k15] /\
    writable w4 ⟨((w.alloc (.cells #[.bool m,.slice a1 n1 c1,.slice a2 n2 c2] 184)).alloc (.cells #[.bool n,.slice a3 n3 c3,.slice a4 n4 c4] 184)).heap.size,0,none⟩ 3 /\
    Q (setCells w4 ⟨((w.alloc (.cells #[.bool m,.slice a1 n1 c1,.slice a2 n2 c2] 184)).alloc (.cells #[.bool n,.slice a3 n3 c3,.slice a4 n4 c4] 184)).heap.size,0,none⟩ 0 [.bool b4,.slice p6 k12 k13,.slice p7 k14 k15]):=by
  intro neg x vx vd W hs hxl hvx hvd hW Q hQ
  have zx:nd x<=nd (a*d+c*b):=zEt hxl
  refine Called.of (c221 neg W hvx hvd (Nat.mul_pos hb0 hd0) ⟨by omega,by omega⟩) ?_
  rintro v w4 ⟨hr,he4⟩
  obtain⟨q1,l1,k1,q2,l2,k2,rfl,hq1,hq2⟩:=hr
  have hB4:=(hB3.ext hW).ext he4
  refine⟨_,_,_,_,_,_,_,rfl,hB4.blk.writable (by decide),hQ _ ⟨_,_,_,_,_,_,_,(hB4.put _ (by rfl)).blk.all,⟨neg,x,hs,hxl,_,_,_,_,_,_,rfl,hq1.put hB4 (zAp _ _ _ _ _ _ _) _ _ _,hq2.put hB4 (zAp _ _ _ _ _ _ _) _ _ _⟩,?_⟩⟩
  exact ((hxx.trans hW).trans he4).put hs3 _ _
 intro K hK
 refine⟨_,_,_,hB1.blk.cell (j:=1) rfl,_,_,_,hB2.blk.cell (j:=2) rfl,_,_,_,hB2.blk.cell (j:=1) rfl,_,_,_,hB1.blk.cell (j:=2) rfl,_,_,_,hB1.blk.cell (j:=2) rfl,_,_,_,hB2.blk.cell (j:=2) rfl,?_⟩
 refine Called.of (mulV _ (ha.ext hxx) (hd.ext hxx) ⟨by omega,by omega⟩) ?_
 rintro v w2 ⟨⟨p,l,k,rfl⟩,hp,he2⟩
 refine⟨_,_,_,rfl,he2,Called.of (mulV _ ((hc.ext hxx).ext he2) ((hb.ext hxx).ext he2) ⟨by omega,by omega⟩) ?_⟩
 rintro v w3 ⟨⟨p',l',k',rfl⟩,hp',he3⟩
 refine⟨_,_,_,rfl,he2.trans he3,Called.of (mulV _ (((hb.ext hxx).ext he2).ext he3) (((hd.ext hxx).ext he2).ext he3) ⟨by omega,by omega⟩) ?_⟩
 rintro v w4 ⟨⟨p'',l'',k'',rfl⟩,hp'',he4⟩
 have hq:=(hp.ext he3).ext he4
 have hq':=hp'.ext he4
 have hW:=(he2.trans he3).trans he4
 have hC1:=hB1.ext hW
 have hC2:=hB2.ext hW
 refine⟨_,_,_,rfl,hK _ _ _ _ _ _ _ _ _ _ ⟨_,hC1.blk.cell (j:=0) rfl,_,hC2.blk.cell (j:=0) rfl,zAa (fun heq=>?_) (fun hne=>?_)⟩⟩
 ·have heq' : m=n:=by simpa using heq
  intro K1 hK1
  refine⟨_,hC1.blk.cell (w:=w4.drew) (j:=0) rfl,Called.of (addV _ hq.drew hq'.drew ⟨by omega,by omega⟩) ?_⟩
  rintro v w5 ⟨⟨p5,l5,k5,rfl⟩,hp5,he5⟩
  exact⟨_,_,_,rfl,he5,fin m _ _ _ _ (by rw [<- heq',zCB]) (Nat.le_refl _) hp5 (hp''.drew.ext he5) (hW.drew.trans he5) hK1⟩
 ·have hne' : m≠n:=by rintro rfl;simp at hne
  refine Called.of (cmpV _ hq hq' ⟨by omega,by omega⟩) ?_
  rintro v w5 ⟨⟨z,rfl,hzz⟩,he5⟩
  refine⟨_,rfl,zAd (fun hge=>?_) (fun hlt=>?_)⟩
  ·have hle:c*b<=a*d:=by
    have : ¬ a*d<c*b:=fun h=>by have:=hzz.2 h;omega
    omega
   intro K2 hK2
   refine⟨_,(hC1.ext he5).blk.cell (w:=w5.drew) (j:=0) rfl,Called.of (subV _ (hq.ext he5).drew (hq'.ext he5).drew hle (by omega)) ?_⟩
   rintro v w6 ⟨⟨p5,l5,k5,rfl⟩,hp5,he6⟩
   exact⟨_,_,_,rfl,he6,fin m _ _ _ _ (zEn hne' hle) (by omega) hp5 ((hp''.ext he5).drew.ext he6) ((hW.trans he5).drew.trans he6) hK2⟩
  ·have hlt' : a*d<c*b:=hzz.1 (by omega)
   intro K3 hK3
   refine⟨_,(hC2.ext he5).blk.cell (w:=w5.drew) (j:=0) rfl,Called.of (subV _ (hq'.ext he5).drew (hq.ext he5).drew (Nat.le_of_lt hlt') (by omega)) ?_⟩
   rintro v w6 ⟨⟨p5,l5,k5,rfl⟩,hp5,he6⟩
   exact⟨_,_,_,rfl,he6,fin n _ _ _ _ (zEm hne' hlt') (by omega) hp5 ((hp''.ext he5).drew.ext he6) ((hW.trans he5).drew.trans he6) hK3⟩
end Go.Proofs.Si
namespace Go.Num
def frac (l:List UInt8):Bool:=decide (((zAv l).2.takeWhile (· != 47)).length<(zAv l).2.length)
def numL (l:List UInt8):List UInt8:=(dqCut (zAv l).2).1
def denL (l:List UInt8):List UInt8:=(dqCut (zAv l).2).2
structure OkR (l:List UInt8):Prop where
 num:canon (numL l)=true
 zero:numL l=[48]->(zAv l).1=false/\frac l=false
 den:frac l=true->canon (denL l)=true/\denL l≠[48]/\denL l≠[49]/\Nat.gcd (val (numL l)) (val (denL l))=1
theorem zCU {l:List UInt8} (h:canon l=true):l.all isDig=true/\l≠[]:=by
 unfold canon at h
 rw [Bool.and_eq_true,Bool.and_eq_true] at h
 refine⟨h.1.2,fun e=>?_⟩
 rw [e] at h
 simp at h
theorem zEV {l:List UInt8} (h:frac l=false):denL l=[49]/\numL l=(zAv l).2:=by
 have h' : ¬ ((zAv l).2.takeWhile (· != 47)).length<(zAv l).2.length:=of_decide_eq_false h
 unfold denL numL dqCut
 rw [if_neg h']
 exact⟨rfl,rfl⟩
theorem stroke_at : ∀ s:List UInt8,(s.takeWhile (· != 47)).length<s.length->s.drop (s.takeWhile (· != 47)).length=47::s.drop ((s.takeWhile (· != 47)).length+1)
 | [],h=>by simp at h
 | c::s,h=>by
  by_cases hc:c=47
  ·subst hc;simp
  ·have hne:(c != 47)=true:=by rw [bne_iff_ne];exact hc
   rw [List.takeWhile_cons,hne,if_pos rfl,List.length_cons,List.length_cons] at h
   rw [List.takeWhile_cons,hne,if_pos rfl,List.length_cons,List.drop_succ_cons,List.drop_succ_cons]
   exact stroke_at s (by omega)
theorem zGa {l:List UInt8} (h:frac l=true):(zAv l).2=numL l++47::denL l:=by
 have h' : ((zAv l).2.takeWhile (· != 47)).length<(zAv l).2.length:=of_decide_eq_true h
 unfold denL numL dqCut
 rw [if_pos h']
 generalize (zAv l).2=s at h'
 show s=s.takeWhile (· != 47)++47::s.drop ((s.takeWhile (· != 47)).length+1)
 have h1:s.takeWhile (· != 47)=s.take (s.takeWhile (· != 47)).length:=List.prefix_iff_eq_take.1 (List.takeWhile_prefix _)
 conv=>lhs;rw [<- List.take_append_drop (s.takeWhile (· != 47)).length s,stroke_at s h',<- h1]
theorem zEk (l:List UInt8):l=(if (zAv l).1 then [45] else [])++(zAv l).2:=by
 match l with
 | []=>rfl
 | c::r =>
  by_cases h:c=45
  ·subst h;rfl
  ·have:zAv (c::r)=(false,c::r):=by
    unfold zAv
    split
    ·rename_i h3;cases h3;exact absurd rfl h
    ·rfl
   rw [this];rfl
theorem val_pos {l:List UInt8} (h:canon l=true) (h0:l≠[48]):val l≠0:=fun e=>h0 (by rw [<- zF1 h,e,zBc])
theorem OkR.q {l:List UInt8} (h:OkR l) : ∃ q:Rat,l=txtQ q/\(decide (q.num<0))=(zAv l).1/\q.num.natAbs=val (numL l)/\q.den=val (denL l):=by
 have hn:=zF1 h.num
 have key : ∀ (d:Nat) (hd:d≠0) (hc:Nat.gcd (val (numL l)) d=1),∃ q:Rat,decide (q.num<0)=(zAv l).1/\q.num.natAbs=val (numL l)/\q.den=d:=by
  intro d hd hc
  refine⟨⟨sgn (zAv l).1 (val (numL l)),d,hd,by rw [zCd];exact hc⟩,?_,zCd _ _,rfl⟩
  show decide (sgn _ _<0)=_
  rw [Bool.eq_iff_iff,decide_eq_true_eq,sgn_neg]
  refine⟨fun h1=>h1.1,fun h1=>⟨h1,val_pos h.num fun e=>?_⟩⟩
  rw [(h.zero e).1] at h1;cases h1
 cases hf:frac l with
 | true =>
  obtain⟨d1,d2,d3,d4⟩:=h.den hf
  have hd:=zF1 d1
  obtain⟨q,q1,q2,q3⟩:=key (val (denL l)) (val_pos d1 d2) d4
  refine⟨q,?_,q1,q2,q3⟩
  unfold txtQ txt3
  have hne:val (denL l)≠1:=fun e=>d3 (by rw [<- hd,e,zA5 (by omega)];rfl)
  rw [q1,q2,q3,hn,hd,if_neg hne,List.append_assoc,<- zGa hf]
  exact zEk l
 | false =>
  obtain⟨e1,e2⟩:=zEV hf
  have ev:val (denL l)=1:=by rw [e1];rfl
  obtain⟨q,q1,q2,q3⟩:=key 1 (by omega) (Nat.gcd_one_right _)
  refine⟨q,?_,q1,q2,by rw [q3,ev]⟩
  unfold txtQ txt3
  rw [q1,q2,q3,hn,if_pos rfl,List.append_nil,e2]
  exact zEk l
theorem txt_parts (q:Rat):zAv (txtQ q)=(decide (q.num<0),dec q.num.natAbs++(if q.den=1 then [] else 47::dec q.den))/\numL (txtQ q)=dec q.num.natAbs/\denL (txtQ q)=dec q.den/\(frac (txtQ q)=true↔q.den≠1):=by
 have h1:zAv (txtQ q)=_:=zCm _ _ _
 have h2:=zCP q.num.natAbs q.den
 refine⟨h1,?_,?_,?_⟩
 ·unfold numL;rw [h1,h2]
 ·unfold denL;rw [h1,h2]
 ·unfold frac
  rw [h1,decide_eq_true_eq]
  by_cases hb:q.den=1
  ·rw [if_pos hb,List.append_nil,zDF (zAH _)]
   simp [hb]
  ·rw [if_neg hb,zEL (zAH _)]
   simp [hb]
theorem okR_txt (q:Rat):OkR (txtQ q):=by
 obtain⟨h1,h2,h3,h4⟩:=txt_parts q
 refine⟨by rw [h2];exact canon_dec _,fun e=>?_,fun hf=>?_⟩
 ·rw [h2,<- zBc] at e
  have e0:q.num=0:=Int.natAbs_eq_zero.1 (zC0 e)
  refine⟨by rw [h1,e0];rfl,?_⟩
  have hq:q=0:=Rat.num_eq_zero.1 e0
  cases hf:frac (txtQ q) with
  | false=>rfl
  | true=>exact absurd (by rw [hq];rfl) (h4.1 hf)
 ·have hd:=h4.1 hf
  rw [h3,h2,zAF,zAF]
  refine⟨canon_dec _,fun e=>?_,fun e=>?_,q.reduced⟩
  ·rw [<- zBc] at e;exact q.den_nz (zC0 e)
  ·have:([49]:List UInt8)=dec 1:=by rw [zA5 (n:=1) (by omega)];rfl
   rw [this] at e;exact hd (zC0 e)
theorem okR_iff {l:List UInt8} : OkR l↔∃ q,l=txtQ q:=⟨fun h=>let ⟨q,h,_⟩:=h.q;⟨q,h⟩,fun ⟨q,h⟩=>h▸okR_txt q⟩
end Go.Num
namespace Go.Proofs.Si
open Go Go.V Go.Proofs Go.RowKit Go.Num Go.Proofs.Tryz
set_option maxRecDepth 100000
def ReadR (w:World) (l:List UInt8) (v:Value):Prop :=
 (∃ (q:Rat) (u:Value),l=txtQ q/\v = .tuple #[u,.bool true]/\RatM w u (decide (q.num<0)) q.num.natAbs q.den) \/
  ((¬ ∃ q,l=txtQ q)/\∃ b a1 n1 c1 a2 n2 c2,v = .tuple #[.agg #[.bool b,.slice a1 n1 c1,.slice a2 n2 c2],.bool false])
theorem natOne (w:World):NatV (w.alloc (.cells #[.int .u32 1] 209)) (.slice (some ⟨w.heap.size,0,none⟩) 1 1) 1:=by
 refine⟨_,_,[1],rfl,Nat.le_refl _,.inr ⟨_,rfl,rfl,?_⟩,by simp [okL],by simp [normL],rfl⟩
 exact zEd w [.int .u32 1] 209
theorem NatO.cut {w:World} {B:Nat} {v:Value} {n:Nat} (h:NatO w B v n) : ∃ a l c,v = .slice a l c:=sliceV h.natV
theorem zFh (l:List UInt8):(zAv l).2.length<=l.length:=by
 have:=zEk l
 conv=>rhs;rw [this]
 rw [List.length_append];omega
theorem cut_len (l:List UInt8):(numL l).length<=l.length/\(frac l=true->(denL l).length<=l.length):=by
 have h:=zFh l
 cases hf:frac l with
 | true =>
  have:=zGa hf
  rw [this,List.length_append,List.length_cons] at h
  exact⟨by omega,fun _=>by omega⟩
 | false=>exact⟨by rw [(zEV hf).2];exact h,fun e=>by cases e⟩
theorem val_nd {l:List UInt8} (h:l.all isDig=true) (h0:0<l.length):nd (val l)<=l.length:=(zA9 h0).2 (zDq h)
set_option maxHeartbeats 1000000 in
theorem c153 (a:ByteArray) (hz:a.size<=1000000000) (w:World) (hg:Gl w):Ret prog 153 #[.string a] w fun v w'=>ReadR w' (bs a) v/\Ext w w':=by
 have hx0:=(Ext.refl w).alloc (.cells #[.bool false,.slice none 0 0,.slice none 0 0] 184)
 have hB0:=Box.new w [.bool false,.slice none 0 0,.slice none 0 0] 184
 have hsz:=zFh (bs a)
 have hcl:=cut_len (bs a)
 rw [<- zAg] at hsz hcl
 refine run153 _ _ _ (Called.of (c183 a _) ?_)
 rintro v w1 ⟨⟨s,rfl,hs⟩,rfl⟩
 have hss:s.size<=1000000000:=by rw [zAg,hs];omega
 refine⟨s,_,rfl,Called.of (c149 s (by omega) _ (hg.ext hx0)) ?_⟩
 rintro v w2 ⟨⟨t,u,rfl,ht,hu⟩,he2⟩
 have hfr:decide (((bs s).takeWhile (· != 47)).length<(bs s).length)=frac (bs a):=by rw [hs];rfl
 rw [hfr]
 have htn:bs t=numL (bs a):=by rw [ht,hs];rfl
 have hud:frac (bs a)=true->bs u=denL (bs a):=fun h=>by
  rw [if_pos (by rw [hs];exact of_decide_eq_true h)] at hu
  rw [hu,hs];rfl
 have htz:t.size<=1000000000:=by rw [zAg,htn];omega
 have huz:frac (bs a)=true->u.size<=1000000000:=fun h=>by rw [zAg,hud h];have:=hcl.2 h;omega
 have hB2:=hB0.ext he2
 refine⟨t,u,_,rfl,Called.of (c184 t (by omega) w2) ?_⟩
 rintro v w3 ⟨rfl,he3⟩
 have hB3:=hB2.ext he3
 have hxw3:Ext w w3:=Ext.from_alloc (he2.trans he3)
 refine⟨_,rfl,?_⟩
 have bad : ∀ W,Ext w W->Box W w.heap.size 184 [.bool false,.slice none 0 0,.slice none 0 0]->¬ OkR (bs a) ->
   writable W ⟨w.heap.size,0,none⟩ 3/\∃ b3 p k k1 p1 k2 k3,vcells (setCells W ⟨w.heap.size,0,none⟩ 0 [.bool false,.slice none 0 0,.slice none 0 0]) ⟨w.heap.size,0,none⟩ 0 [.bool b3,.slice p k k1,.slice p1 k2 k3] /\
    (ReadR (setCells W ⟨w.heap.size,0,none⟩ 0 [.bool false,.slice none 0 0,.slice none 0 0]) (bs a) (.tuple #[.agg #[.bool b3,.slice p k k1,.slice p1 k2 k3],.bool false])/\Ext w (setCells W ⟨w.heap.size,0,none⟩ 0 [.bool false,.slice none 0 0,.slice none 0 0])):=by
  intro W hW hB hno
  exact⟨hB.blk.writable (by decide),_,_,_,_,_,_,_,(hB.put _ (by rfl)).blk.all,.inr ⟨fun h=>hno (okR_iff.2 h),_,_,_,_,_,_,_,rfl⟩,hW.put (Nat.le_refl _) _ _⟩
 have e48:(t.toList==({ data:=#[48] } : ByteArray).toList)=decide (numL (bs a)=[48]):=by rw [zAw,<- htn];rfl
 rw [e48,htn]
 refine zAa (fun hbad=>?_) (fun hgood=>?_)
 ·refine bad w3 hxw3 hB3 fun hok=>?_
  rw [hok.num,Bool.not_true,Bool.false_or,Bool.and_eq_true,decide_eq_true_eq] at hbad
  obtain⟨z1,z2⟩:=hok.zero hbad.1
  rw [z1,z2] at hbad
  simp at hbad
 have hcn:canon (numL (bs a))=true:=by
  cases h:canon (numL (bs a)) with
  | true=>rfl
  | false=>rw [h] at hgood;simp at hgood
 have hz0:numL (bs a)=[48]->(zAv (bs a)).1=false/\frac (bs a)=false:=fun e=>by
  rw [hcn,decide_eq_true e,Bool.not_true,Bool.false_or,Bool.true_and,Bool.or_eq_false_iff] at hgood
  exact hgood
 obtain⟨hnd,hnne⟩:=zCU hcn
 refine Called.of (c186 t (by rw [htn];exact hnd) (by omega) w3) ?_
 rintro v w4 ⟨hv4,he4⟩
 obtain⟨p2,k4,k5,rfl⟩:=hv4.cut
 have hB4:=hB3.ext he4
 have hxa:=(Ext.refl w4).alloc (.cells #[.int .u32 1] 209)
 have hxb:=(Ext.refl (w4.alloc (.cells #[.int .u32 1] 209))).alloc (.cells #[.bool false,.slice none 0 0,.slice none 0 0] 184)
 have hC:=Box.new (w4.alloc (.cells #[.int .u32 1] 209)) [.bool false,.slice none 0 0,.slice none 0 0] 184
 have hN1:=((hv4.natV.ext hxa).ext hxb).put hC (zAp _ _ _ _ _ _ _) [.bool (zAv (bs a)).1,.slice p2 k4 k5,.slice (some ⟨w4.heap.size,0,none⟩) 1 1] 0 0
 have hO1:=((natOne w4).ext hxb).put hC (zAp _ _ _ _ _ _ _) [.bool (zAv (bs a)).1,.slice p2 k4 k5,.slice (some ⟨w4.heap.size,0,none⟩) 1 1] 0 0
 have hCp:=hC.put [.bool (zAv (bs a)).1,.slice p2 k4 k5,.slice (some ⟨w4.heap.size,0,none⟩) 1 1] rfl
 have hsz4:w.heap.size<w4.heap.size:=hB4.lt
 have hBp:=(hB4.ext (hxa.trans hxb)).same (zAx (b:=(w4.alloc (.cells #[.int .u32 1] 209)).heap.size) (o:=0) (k:=w.heap.size) (by rw [size_alloc];omega) [.bool (zAv (bs a)).1,.slice p2 k4 k5,.slice (some ⟨w4.heap.size,0,none⟩) 1 1] 0)
 have hxw4:Ext w (setCells ((w4.alloc (.cells #[.int .u32 1] 209)).alloc (.cells #[.bool false,.slice none 0 0,.slice none 0 0] 184)) ⟨(w4.alloc (.cells #[.int .u32 1] 209)).heap.size,0,none⟩ 0 [.bool (zAv (bs a)).1,.slice p2 k4 k5,.slice (some ⟨w4.heap.size,0,none⟩) 1 1]) :=
  ((hxw3.trans he4).trans (hxa.trans hxb)).put (by rw [size_alloc];omega) _ _
 rw [htn] at hN1
 refine⟨_,_,_,rfl,hC.blk.writable (by decide),?_⟩
 have hbc:w.heap.size<(w4.alloc (.cells #[.int .u32 1] 209)).heap.size:=by rw [size_alloc];omega
 have hgp:=hg.ext hxw4
 generalize setCells ((w4.alloc (.cells #[.int .u32 1] 209)).alloc (.cells #[.bool false,.slice none 0 0,.slice none 0 0] 184)) ⟨(w4.alloc (.cells #[.int .u32 1] 209)).heap.size,0,none⟩ 0 [.bool (zAv (bs a)).1,.slice p2 k4 k5,.slice (some ⟨w4.heap.size,0,none⟩) 1 1]=Wp at hN1 hO1 hCp hBp hxw4 hgp ⊢
 generalize (w4.alloc (.cells #[.int .u32 1] 209)).heap.size=bc at hCp hbc ⊢
 refine zAa (fun hfr0=>?_) (fun hfr1=>?_)
 ·have hf:frac (bs a)=false:=by simpa using hfr0
  have hok:OkR (bs a):=⟨hcn,hz0,fun h=>by rw [hf] at h;cases h⟩
  obtain⟨q,hq,q1,q2,q3⟩:=hok.q
  have hq3:q.den=1:=by rw [q3,(zEV hf).1];rfl
  refine⟨_,_,_,_,_,_,_,hCp.blk.all,hBp.blk.writable (by decide),_,_,_,_,_,_,_,(hBp.put _ (by rfl)).blk.all,.inl ⟨q,_,hq,rfl,_,_,_,_,_,_,by rw [q1],?_,?_⟩,hxw4.put (Nat.le_refl _) _ _⟩
  ·rw [q2];exact hN1.put hBp (zAp _ _ _ _ _ _ _) _ _ _
  ·rw [hq3];exact hO1.put hBp (zAp _ _ _ _ _ _ _) _ _ _
 ·have hf:frac (bs a)=true:=by simpa using hfr1
  have hud:=hud hf
  have huz:=huz hf
  refine Called.of (c184 u (by omega) Wp) ?_
  rintro v w5 ⟨rfl,he5⟩
  have hB5:=hBp.ext he5
  have hx5:=hxw4.trans he5
  have e48' : (u.toList==({ data:=#[48] } : ByteArray).toList)=decide (denL (bs a)=[48]):=by rw [zAw,<- hud];rfl
  have e49:(u.toList==({ data:=#[49] } : ByteArray).toList)=decide (denL (bs a)=[49]):=by rw [zAw,<- hud];rfl
  rw [hud,e48',e49]
  refine⟨_,rfl,zAa (fun hbad=>?_) (fun hgood2=>?_)⟩
  ·refine bad w5 hx5 hB5 fun hok=>?_
   obtain⟨d1,d2,d3,_⟩:=hok.den hf
   rw [d1,decide_eq_false d2,decide_eq_false d3] at hbad
   simp at hbad
  have hcd:canon (denL (bs a))=true:=by
   cases h:canon (denL (bs a)) with
   | true=>rfl
   | false=>rw [h] at hgood2;simp at hgood2
  rw [hcd,Bool.not_true,Bool.false_or,Bool.or_eq_false_iff,decide_eq_false_iff_not,decide_eq_false_iff_not] at hgood2
  obtain⟨hdd,hdne⟩:=zCU hcd
  have hd0:=val_pos hcd hgood2.1
  refine Called.of (c186 u (by rw [hud];exact hdd) (by omega) w5) ?_
  rintro v w6 ⟨hv6,he6⟩
  obtain⟨p9,k18,k19,rfl⟩:=hv6.cut
  have hC6:=(hCp.ext he5).ext he6
  have hB6:=hB5.ext he6
  have hN6:=(hN1.ext he5).ext he6
  have hD6:=hv6.natV
  rw [hud] at hD6
  have hx6:=hx5.trans he6
  refine⟨_,_,_,rfl,⟨⟨_,hC6.blk.cell (j:=2) rfl⟩,hC6.blk.free⟩,fun K hK=>?_⟩
  have hC7:=hC6.set 2 (.slice p9 k18 k19)
  have hN7:=hN6.put hC6 (zAp _ _ _ _ _ _ _) [.slice p9 k18 k19] 2 0
  have hD7:=hD6.put hC6 (zAp _ _ _ _ _ _ _) [.slice p9 k18 k19] 2 0
  rw [setCells,zAk] at hN7 hD7
  have hB7:Box (w6.setCell ⟨bc,2,none⟩ (.slice p9 k18 k19)) w.heap.size 184 [.bool false,.slice none 0 0,.slice none 0 0]:=hB6.same (zAs (by show w.heap.size≠bc;omega))
  have hx7:Ext w (w6.setCell ⟨bc,2,none⟩ (.slice p9 k18 k19)):=hx6.setCell (by omega) _
  have hN7:NatV (w6.setCell ⟨bc,2,none⟩ (.slice p9 k18 k19)) (.slice p2 k4 k5) (val (numL (bs a))):=hN7
  have hD7:NatV (w6.setCell ⟨bc,2,none⟩ (.slice p9 k18 k19)) (.slice p9 k18 k19) (val (denL (bs a))):=hD7
  generalize w6.setCell ⟨bc,2,none⟩ (.slice p9 k18 k19)=W7 at hC7 hN7 hD7 hB7 hx7 ⊢
  refine⟨_,_,_,_,_,_,_,(hC7.ext (Ext.refl _).drew).blk.all,_,_,_,(hC7.ext (Ext.refl _).drew).blk.cell (j:=1) rfl,_,_,_,(hC7.ext (Ext.refl _).drew).blk.cell (j:=2) rfl,?_⟩
  have zn:nd (val (numL (bs a)))<=1000000000000:=by
   have:=val_nd hnd (List.length_pos_iff.2 hnne)
   rw [<- htn,<- zAg] at this
   rw [htn] at this;omega
  have zd:nd (val (denL (bs a)))<=1000000000000:=by
   have:=val_nd hdd (List.length_pos_iff.2 hdne)
   rw [<- hud,<- zAg] at this
   rw [hud] at this;omega
  refine Called.of (c187 _ hN7.drew hD7.drew ⟨zn,zd⟩) ?_
  rintro v w8 ⟨⟨p16,k32,k33,rfl⟩,hG,he8⟩
  refine⟨_,_,_,rfl,he8,Called.of (oneV w8 hG) ?_⟩
  rintro v w9 ⟨rfl,rfl⟩
  have hB9:=(hB7.ext (Ext.refl _).drew).ext he8
  have hx9:=hx7.drew.trans he8
  refine⟨_,rfl,he8,hB9.blk.writable (by decide),hK _ _ ⟨_,_,_,_,_,_,_,(hB9.put _ (by rfl)).blk.all,?_,hx9.put (Nat.le_refl _) _ _⟩⟩
  by_cases hgc:Nat.gcd (val (numL (bs a))) (val (denL (bs a)))=1
  ·have hok:OkR (bs a):=⟨hcn,hz0,fun _=>⟨hcd,hgood2.1,hgood2.2,hgc⟩⟩
   obtain⟨q,hq,q1,q2,q3⟩:=hok.q
   refine .inl ⟨q,_,hq,by rw [decide_eq_true hgc],_,_,_,_,_,_,by rw [q1],?_,?_⟩
   ·rw [q2];exact (hN7.drew.ext he8).put hB9 (zAp _ _ _ _ _ _ _) _ _ _
   ·rw [q3];exact (hD7.drew.ext he8).put hB9 (zAp _ _ _ _ _ _ _) _ _ _
  ·refine .inr ⟨fun h=>hgc ((okR_iff.2 h).den hf).2.2.2,_,_,_,_,_,_,_,by rw [decide_eq_false hgc]⟩
end Go.Proofs.Si
namespace Go.Proofs.Si
open Go Go.V Go.Proofs Go.RowKit Go.Num Go.Proofs.Tryz
open Go.IntKind (i64 u64 u32 u8)
set_option maxRecDepth 100000
def SmallR (l:List UInt8) (v:Value):Prop :=
 (∃ q:Rat,l=txtQ q/\v = .tuple #[.agg #[.int .i64 q.num,.int .i64 (q.den:Int)],.bool true]/\q.num.natAbs<1000000000/\q.den<1000000000) \/
  ∃ n d:Int,v = .tuple #[.agg #[.int .i64 n,.int .i64 d],.bool false]
theorem val_lt9 {l:List UInt8} (h:l.all isDig=true) (h9:l.length<=9):val l<1000000000:=by
 have h1:=zDq h
 have h2:10 ^ l.length<=10 ^ 9:=Nat.pow_le_pow_right (by omega) h9
 omega
theorem parse9 (s:ByteArray) (hc:canon (bs s)=true) (h9:s.size<=9) (w:World):Ret prog 150 #[.string s,.int .i64 10,.int .i64 64] w fun u w'=>u = .tuple #[.int .i64 (val (bs s):Int),.nilIface]/\Ext w w':=by
 obtain⟨h1,h2⟩:=zCU hc
 have h3:=val_lt9 h1 (by rw [<- zAg];exact h9)
 refine c150 s _ ?_ (by omega) w
 rw [zFo h2 h1,if_pos (by omega)]
set_option maxHeartbeats 1000000 in
theorem c152 (a:ByteArray) (hz:a.size<=1000000000) (w:World) (hg:Gl w):Ret prog 152 #[.string a] w fun v w'=>SmallR (bs a) v/\Ext w w':=by
 have hx0:=(Ext.refl w).alloc (.cells #[.int .i64 0,.int .i64 0] 178)
 have hB0:=Box.new w [.int .i64 0,.int .i64 0] 178
 have hsz:=zFh (bs a)
 rw [<- zAg] at hsz
 refine run152 _ _ _ (Called.of (c183 a _) ?_)
 rintro v w1 ⟨⟨s,rfl,hs⟩,rfl⟩
 have hss:s.size<=1000000000:=by rw [zAg,hs];omega
 refine⟨s,_,rfl,Called.of (c149 s (by omega) _ (hg.ext hx0)) ?_⟩
 rintro v w2 ⟨⟨t,u,rfl,ht,hu⟩,he2⟩
 have hfr:decide (((bs s).takeWhile (· != 47)).length<(bs s).length)=frac (bs a):=by rw [hs];rfl
 rw [hfr]
 have htn:bs t=numL (bs a):=by rw [ht,hs];rfl
 have hud:frac (bs a)=true->bs u=denL (bs a):=fun h=>by
  rw [if_pos (by rw [hs];exact of_decide_eq_true h)] at hu
  rw [hu,hs];rfl
 have hB2:=hB0.ext he2
 have hxw2:Ext w w2:=Ext.from_alloc he2
 refine⟨t,u,_,rfl,fun K hK=>?_⟩
 have e48:(t.toList==({ data:=#[48] } : ByteArray).toList)=decide (numL (bs a)=[48]):=by rw [zAw,<- htn];rfl
 have bad : ∀ W,Ext w W->Box W w.heap.size 178 [.int .i64 0,.int .i64 0] ->
   writable W ⟨w.heap.size,0,none⟩ 2/\∃ n n1,vcells (setCells W ⟨w.heap.size,0,none⟩ 0 [.int .i64 0,.int .i64 0]) ⟨w.heap.size,0,none⟩ 0 [.int .i64 n,.int .i64 n1] /\
    (SmallR (bs a) (.tuple #[.agg #[.int .i64 n,.int .i64 n1],.bool false])/\Ext w (setCells W ⟨w.heap.size,0,none⟩ 0 [.int .i64 0,.int .i64 0])):=by
  intro W hW hB
  exact⟨hB.blk.writable (by decide),_,_,(hB.put _ (by rfl)).blk.all,.inr ⟨_,_,rfl⟩,hW.put (Nat.le_refl _) _ _⟩
 have badK : ∀ W,Ext w W->Box W w.heap.size 178 [.int .i64 0,.int .i64 0]->K [.bool true] W:=fun W hW hB=>hK true W (by rw [cond_true];exact bad W hW hB)
 rw [e48]
 refine zAd (fun _=>by rw [Bool.true_or];exact badK w2 hxw2 hB2) (fun h9=>zAd (fun _=>by rw [Bool.true_or];exact badK w2 hxw2 hB2) (fun h9u=>?_))
 refine Called.of (c184 t (by omega) w2) ?_
 rintro v w3 ⟨rfl,he3⟩
 have hB3:=hB2.ext he3
 have hx3:=hxw2.trans he3
 refine⟨_,rfl,?_⟩
 rw [htn]
 by_cases hbad:(!canon (numL (bs a))||decide (numL (bs a)=[48])&&((zAv (bs a)).1||frac (bs a)))=true
 ·rw [hbad];exact badK w3 hx3 hB3
 have hgood:(!canon (numL (bs a))||decide (numL (bs a)=[48])&&((zAv (bs a)).1||frac (bs a)))=false:=by simpa using hbad
 rw [hgood]
 have hcn:canon (numL (bs a))=true:=by
  cases h:canon (numL (bs a)) with
  | true=>rfl
  | false=>rw [h] at hgood;simp at hgood
 have hz0:numL (bs a)=[48]->(zAv (bs a)).1=false/\frac (bs a)=false:=fun e=>by
  rw [hcn,decide_eq_true e,Bool.not_true,Bool.false_or,Bool.true_and,Bool.or_eq_false_iff] at hgood
  exact hgood
 obtain⟨hnd,hnne⟩:=zCU hcn
 have hn9:val (numL (bs a))<1000000000:=val_lt9 hnd (by rw [<- htn,<- zAg];omega)
 refine hK false w3 ?_
 rw [cond_false]
 refine Called.of (parse9 t (by rw [htn];exact hcn) (by omega) w3) ?_
 rintro v w4 ⟨rfl,he4⟩
 rw [htn]
 have hB4:=hB3.ext he4
 have hx4:=hx3.trans he4
 refine⟨_,_,rfl,fun K1 hK1=>?_⟩
 have fin : ∀ (d:Nat) (W:World),Ext w W->Box W w.heap.size 178 [.int .i64 0,.int .i64 0]->OkR (bs a)->val (denL (bs a))=d->d<1000000000->K1 [.int .i64 (d:Int)] W:=by
  intro d W hW hB hok hd hd9
  obtain⟨q,hq,q1,q2,q3⟩:=hok.q
  refine hK1 d W fun K2 hK2=>?_
  have end2:K2 [.int .i64 q.num] W:=by
   refine hK2 _ ⟨hB.blk.writable (by decide),_,_,(hB.put _ (by rfl)).blk.all,.inl ⟨q,hq,by rw [q3,hd],by omega,by omega⟩,hW.put (Nat.le_refl _) _ _⟩
  have hnum:q.num=sgn (zAv (bs a)).1 (val (numL (bs a))):=by
   rw [<- q1,<- q2,zDb]
  refine zAa (fun hn=>?_) (fun hn=>?_)
  ·have:i64.wrap (0 - (val (numL (bs a)):Int))=q.num:=by
    rw [zAf (by omega) (by omega),hnum,hn,sgn,if_pos rfl];omega
   rw [this];exact end2
  ·have:(val (numL (bs a)):Int)=q.num:=by rw [hnum,hn,sgn,if_neg (by decide)]
   rw [this];exact end2
 refine zAa (fun hf=>?_) (fun hf=>?_)
 ·have hud:=hud hf
  refine Called.of (c184 u (by omega) w4) ?_
  rintro v w5 ⟨rfl,he5⟩
  have hB5:=hB4.ext he5
  have hx5:=hx4.trans he5
  refine⟨_,rfl,?_⟩
  rw [hud]
  refine zAa (fun _=>bad w5 hx5 hB5) (fun hcd=>?_)
  have hcd:canon (denL (bs a))=true:=by simpa using hcd
  obtain⟨hdd,hdne⟩:=zCU hcd
  have hd9:val (denL (bs a))<1000000000:=val_lt9 hdd (by rw [<- hud,<- zAg];omega)
  refine Called.of (parse9 u (by rw [hud];exact hcd) (by omega) w5) ?_
  rintro v w6 ⟨rfl,he6⟩
  rw [hud]
  have hB6:=hB5.ext he6
  have hx6:=hx5.trans he6
  refine⟨_,_,rfl,fun K3 hK3=>zAd (fun _=>hK3 true w6 (by rw [cond_true];exact bad w6 hx6 hB6)) (fun h2=>?_)⟩
  refine Called.of (c185 (val (numL (bs a))) (val (denL (bs a))) w6) ?_
  rintro v w7 ⟨rfl,he7⟩
  have hB7:=hB6.ext he7
  have hx7:=hx6.trans he7
  refine⟨_,rfl,?_⟩
  by_cases hgc:Nat.gcd (val (numL (bs a))) (val (denL (bs a)))=1
  ·have hok:OkR (bs a):=⟨hcn,hz0,fun _=>⟨hcd,fun e=>by rw [e] at h2;exact h2 (by decide),fun e=>by rw [e] at h2;exact h2 (by decide),hgc⟩⟩
   rw [hgc]
   exact hK3 false w7 (by rw [cond_false];exact fin _ w7 hx7 hB7 hok rfl hd9)
  ·have:(((Nat.gcd (val (numL (bs a))) (val (denL (bs a))):Nat):Int) != 1)=true:=by
    rw [bne_iff_ne];omega
   rw [this]
   exact hK3 true w7 (by rw [cond_true];exact bad w7 hx7 hB7)
 ·have hok:OkR (bs a):=⟨hcn,hz0,fun h=>by rw [hf] at h;cases h⟩
  exact fin 1 w4 hx4 hB4 hok (by rw [(zEV hf).1];rfl) (by omega)
end Go.Proofs.Si
