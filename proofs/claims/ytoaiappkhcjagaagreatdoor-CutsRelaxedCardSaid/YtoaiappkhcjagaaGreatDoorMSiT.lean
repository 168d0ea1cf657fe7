/- Part of the proof: SiT, SiX, SiO, SiO2, SiO3. -/
import Derived.Test.YtoaiappkhcjagaaGreatDoorMSiL4
import Derived.Test.YtoaiappkhcjagaaGreatDoorSiV3
set_option linter.unusedVariables false
set_option linter.unusedSimpArgs false
namespace Go.Proofs.Si
open Go Go.V Go.Proofs Go.RowKit Go.Num Go.Shelf Go.Proofs.Tryz
open Go.IntKind (i64 u64 u32 u8)
attribute [local go_sem] Oper.semAt_some
set_option maxRecDepth 100000
abbrev BF (B b:Nat) (l:List UInt8) (w:World):Prop:=Lib.IsBuilderF 257 5 B b (Lib.byteCells l) w
structure Kept (B b:Nat) (w w' : World):Prop where
 below:Below B w w'
 others:Lib.OthersKept 5 (some b) w w'
theorem Kept.trans {B b:Nat} {a c d:World} (h:Kept B b a c) (k:Kept B b c d):Kept B b a d:=⟨Below.trans h.below k.below,h.others.trans k.others⟩
theorem Kept.ofExt {B b:Nat} {c d:World} (k:Ext c d) (hB:B<=c.heap.size):Kept B b c d:=⟨Below.mono k hB,fun _ _ hi _ _=>k.blk hi⟩
theorem BF.lt {B b:Nat} {l:List UInt8} {w:World} (h:BF B b l w):b<w.heap.size:=by
 rcases h with h | h <;> exact h.lt
theorem BF.ge {B b:Nat} {l:List UInt8} {w:World} (h:BF B b l w):B<=b:=by
 rcases h with h | h <;> exact h.1
theorem BF.move {B b:Nat} {l:List UInt8} {w w' : World} (h:BF B b l w) (he : ∀ (k:Nat) c e f,w.heap[k]? = some (Obj.cells c e f)->w'.heap[k]? = some (Obj.cells c e f)):BF B b l w':=by
 have go : ∀ p,Lib.BuilderAtF 257 5 B b p (Lib.byteCells l) w->Lib.BuilderAtF 257 5 B b p (Lib.byteCells l) w':=by
  rintro p ⟨hB,v,hb,ho,d⟩
  refine⟨hB,v,he _ _ _ _ hb,⟨ho.1,?_⟩,d⟩
  rcases ho.2 with h2 | ⟨g,cap,cur,fz,hv,hg,hgg,r⟩
  ·exact .inl h2
  ·exact .inr ⟨g,cap,cur,fz,hv,hg,he _ _ _ _ hgg,r⟩
 exact h.imp (go _) (go _)
theorem BF.ext {B b:Nat} {l:List UInt8} {w w' : World} (h:BF B b l w) (he:Ext w w'):BF B b l w':=BF.move h fun _ _ _ _ hk=>he.blk hk
theorem k236 {B b:Nat} {l:List UInt8} (s:BA) {w:World} (h:BF B b l w) (hlen:l.length+s.size<=140737488355328) :
  Calls prog 236 #[.pointer (some ⟨b,0,none⟩),.string s] w fun e w'=>e = .returned (.tuple #[.int .i64 s.size,.nilIface])/\BF B b (l++bs s) w'/\Kept B b w w':=by
 have hB:B<=w.heap.size:=Nat.le_trans h.ge (Nat.le_of_lt h.lt)
 refine Calls.mono (Any.Builder_WriteString_k { Tryz.lays166h with } Tryz.Builder_Extra_166h B b (Lib.byteCells l) s w h (by rw [Lib.byteCells_length];exact hlen) hB) ?_
 rintro e w' ⟨rfl,h1,h2,h3⟩
 refine⟨rfl,.inr ?_,h2,h3⟩
 rw [Lib.byteCells_append]
 exact h1
theorem k239 {B b:Nat} {l:List UInt8} {w:World} (h:BF B b l w) :
  Calls prog 239 #[.pointer (some ⟨b,0,none⟩)] w fun e w'=>e = .returned (.string (mk l))/\Kept B b w w':=by
 have hB:B<=w.heap.size:=Nat.le_trans h.ge (Nat.le_of_lt h.lt)
 refine Calls.mono (Any.Builder_String_any_k Tryz.lays169 Tryz.Builder_Extra_169 B b l w h hB) ?_
 rintro e w' ⟨rfl,h1,h2,h3⟩
 exact⟨rfl,h2,h3⟩
theorem Kept.kp {n0 B b:Nat} {w w' : World} (h:Kept B b w w') (hn:n0<=B):Kp n0 b w w':=⟨Below.mono h.below hn,fun k c e f hk he hb=>h.others k _ hk (fun e=>hb (Option.some.inj e)) (fun c' f' e2=>by cases e2;exact he rfl)⟩
theorem Kept.from {N B b:Nat} {w w' : World} (h:Kept B b w w') (hb:w.heap[b]? = none\/∃ o,w.heap[b]? = some o/\o.isCells=true):KeepsFrom N w w':=⟨h.below.size,fun k o _ hk ho=>by
 refine h.others k o hk (fun e=>?_) (fun c' f' e2=>by subst e2;cases ho)
 cases e
 rcases hb with hb | ⟨o',hb,hc⟩
 ·rw [hb] at hk;cases hk
 ·rw [hb] at hk;cases hk;rw [hc] at ho;cases ho⟩
theorem BF.isCells {B b:Nat} {l:List UInt8} {w:World} (h:BF B b l w) : ∃ o,w.heap[b]? = some o/\o.isCells=true:=by
 rcases h with ⟨_,v,hb,_⟩ | ⟨_,v,hb,_⟩ <;> exact⟨_,hb,rfl⟩
theorem BF.grown {B b:Nat} {l:List UInt8} {w w' : World} {row:Option Nat} (h:BF B b l w) (hg:w.grownBy w' row) (hr : ∀ r,row=some r->∃ o:Obj,w.heap[r]? = some o/\o.isCells=false):BF B b l w' :=
 BF.move h fun k c e f hk=>(hg.block k (Array.getElem?_eq_some_iff.1 hk).1 (fun er=>by
  obtain⟨o,ho,hc⟩:=hr k er.symm
  rw [hk] at ho;cases ho;cases hc)).trans hk
theorem kp_trans {n0 b:Nat} {A B C:World} (h:Kp n0 b A B) (k:Kp n0 b B C):Kp n0 b A C:=h.trans k
theorem kp_put {n0 b:Nat} {w:World} (hn:n0<=w.heap.size) (W:World) (l:Nat) (o o' : Obj) (hl:w.heap.size<=l) (h:W.heap[l]? = some o) (ho:o.isCells=false) (hw:o.isWalk=false):Kp n0 b W (W.putObj l o') :=
 ⟨belowK_b hn W l o o' hl h ho hw,fun k c e f hk _ _=>(World.putObj_heap_other (by rintro rfl;rw [h] at hk;cases hk;cases ho)).trans hk⟩
theorem size9 (k:Nat):(({ data:=#[48,48,48,48,48,48,48,48,48] } : BA).extract k 9).size=9 - k:=by
 rw [ByteArray.size_extract];rfl
theorem zeros9 {k:Nat} (h:k<=9):bs (({ data:=#[48,48,48,48,48,48,48,48,48] } : BA).extract k 9)=List.replicate (9 - k) 48:=by
 rw [zAV]
 show ((List.replicate 9 (48:UInt8)).drop k).take (9 - k)=_
 rw [List.drop_replicate,List.take_replicate,Nat.min_self]
theorem k237 (u:Nat) (hu64:u<18446744073709551616) (w:World) (htab:P10 w) :
  Calls prog 237 #[.int .u64 u,.int .i64 10] w fun e w'=>(∃ s,e = .returned (.string s)/\bs s=dec u)/\Ext w w' :=
 Calls.mono (c237 u hu64 w htab) fun e w' ⟨v,he,⟨s,hs,hb⟩,hx⟩=>⟨⟨s,by rw [he,hs],hb⟩,hx⟩
set_option maxHeartbeats 8000000 in
theorem c208 {a:OA} {cap:Nat} {L:List Nat} (w:World) (hs:NatS w a L) (hok:okL L) (hn:normL L) (hcap:L.length<=cap) (hl:L.length<=1099511627776) (htab:P10 w) :
  Ret prog 208 #[.slice a L.length cap] w fun v w'=>(∃ s,v = .string s/\bs s=dec (lv L))/\Ext w w':=by
 have g3:=underlying182;have e5:=isAgg182;have h5:=sizeOf182;have g7:=zeroValue182
 have g5:=underlying209;have e7:=isAgg209;have h7:=sizeOf209;have g9:=zeroValue209
 have g4:=underlying201;have e6:=isAgg201;have h6:=sizeOf201;have g8:=zeroValue201
 have g6:=underlying257;have e8:=isAgg257;have h8:=sizeOf257;have h4:=zeroValue257
 have t9:=underlying9;have a9:=isAgg9;have z9:=sizeOf9;have v9:=zeroValue9
 have t3:=underlying3;have a3:=isAgg3;have z3:=sizeOf3;have v3:=zeroValue3
 have f7:Fence.wide.fn 236:=trivial
 have f8:Fence.wide.fn 237:=trivial
 have f9:Fence.wide.fn 238:=trivial
 have g0:Fence.wide.fn 239:=trivial
 have a1:Fence.wide.fn 260:=trivial
 refine (callsIn_wide (n:=9)).1 ?_
 refine callsIn_of_wp_marks func208 rfl trivial ?_
 simp only [ntmps208,List.size_toArray,List.length_cons,List.length_nil,Nat.reduceAdd,Nat.reduceSub,Array.replicate_succ,Array.replicate_zero,List.push_toArray,List.append_toArray,List.nil_append,List.cons_append]
 by_cases h0:L.length=0
 ·have b8:=List.eq_nil_of_length_eq_zero h0
  subst b8
  gi_wp2
  refine⟨_,results_tmp rfl _ _ _,_,rfl,⟨_,rfl,?_⟩,yE _⟩
  rw [zCH,zAQ];rfl
 ·obtain⟨ad,b2,_⟩:=hs.get (i:=0) (by omega)
  obtain⟨b,off,sp⟩:=ad
  have d : ∀ j,j<L.length->w.cell? ⟨b,off+j,none⟩=some (u32v (L.getD j 0))/\sp=none:=by
   intro j hj
   rcases hs with h | ⟨ad,h1,h2,h3⟩
   ·rw [List.map_eq_nil_iff] at h;rw [h] at hj;exact absurd hj (by simp)
   ·rw [b2] at h1;cases h1
    cases h2
    refine⟨?_,rfl⟩
    have:=h3 j (u32v (L.getD j 0)) (by rw [List.getElem?_map,List.getElem?_eq_getElem hj,zCN hj];rfl)
    rwa [zAi] at this
  have e3:=(d 0 (by omega)).2
  subst e3 b2
  obtain⟨m,hm⟩ : ∃ m,L.length=m+1:=⟨L.length - 1,by omega⟩
  obtain⟨z,hz⟩ : ∃ z,z=L.getD m 0:=⟨_,rfl⟩
  have g:w.cell? ⟨b,off+m,none⟩=some (.int .u32 (z:Int)):=by rw [hz];exact (d m (by omega)).1
  have i5:z<1000000000:=by rw [hz];exact zA5 hok m
  have HZ:Hid (z=L.getD m 0):=hz
  have HL:Hid (L.length=m+1):=hm
  have HR:Hid (∀ j,j<L.length->w.cell? ⟨b,off+j,none⟩=some (u32v (L.getD j 0))):=fun j hj=>(d j hj).1
  have i2:m+1<=1099511627776:=by omega
  have d7:m+1<=cap:=by omega
  have ew:i64.wrap (((m+1:Nat):Int) - 1)=(m:Int):=by rw [zAd] <;> omega
  have h9:u64.wrap (z:Int)=(z:Int):=w64u (by omega)
  rw [hm]
  clear d hm hz hs hcap hl h0
  have a5:=(yE w).alloc (.cells #[.pointer none,.slice none 0 0] 257)
  have b3:BF w.heap.size w.heap.size [] (w.alloc (.cells #[.pointer none,.slice none 0 0] 257)) :=
   .inl ⟨yL,.slice none 0 0,heap_alloc_new w _,⟨rfl,.inl ⟨rfl,rfl⟩⟩,by simp [Value.ownBlock]⟩
  have HP:Hid (P10 w):=htab
  have HE:Hid (Ext w (w.alloc (.cells #[.pointer none,.slice none 0 0] 257))):=a5
  have HB:Hid (BF w.heap.size w.heap.size [] (w.alloc (.cells #[.pointer none,.slice none 0 0] 257))):=b3
  have d3:=a5.cell g
  clear a5 b3 htab g
  gi_wp2_with (first
   | (gi_at_call 237;refine CallsIn.mono (callsIn_wide.2 (k237 z (by omega) _ (HP.out.ext HE.out))) ?_;rintro e w1 ⟨⟨s0,rfl,d1⟩,a7⟩)
   | (gi_at_call 236;refine CallsIn.mono (callsIn_wide.2 (k236 s0 (HB.out.ext a7) (by have:=(zA8 (n:=z) (k:=9) (by omega)).2 (by omega);rw [zAc,d1,List.length_nil];omega))) ?_;rintro e w2 ⟨rfl,d4,b5⟩)
   | (gi_at_call 238;refine CallsIn.mono (back_in Fence.wide 8 trivial rfl _ _ _ _) ?_;rintro e w3 ⟨rfl,rfl⟩))
  obtain⟨zs,a0⟩ : ∃ zs,zs=L.take m:=⟨_,rfl⟩
  have e4:zs.length=m:=by rw [a0,List.length_take];have:=HL.out;omega
  have ozs:okL zs:=by rw [a0];exact zBB hok _
  have b4:b<w.heap.size:=World.block_lt_of_cell? w _ ((HR.out) 0 (by have:=HL.out;omega))
  have g1:w.heap.size<w1.heap.size:=by have:=a7.size;rw [size_alloc] at this;omega
  have g2:w1.heap.size<=w2.heap.size:=b5.below.size
  have a2:Below w.heap.size w w2:=Below.trans (Below.trans HE.out (Below.mono a7 (by rw [size_alloc];omega))) b5.below
  have u:Ext w2 (w2.alloc (.cells #[.slice (some ⟨b,off,none⟩) m cap] 182)):=(yE w2).alloc _
  have o:Below w.heap.size w (w2.alloc (.cells #[.slice (some ⟨b,off,none⟩) m cap] 182)):=Below.trans a2 (Below.mono u (by omega))
  have b0 : ∀ j,j<zs.length->(w2.alloc (.cells #[.slice (some ⟨b,off,none⟩) m cap] 182)).cell? ⟨b,off+j,none⟩=some (.int .u32 ((zs.getD j 0:Nat):Int)):=by
   intro j hj
   rw [o.cell (p:=⟨b,off+j,none⟩) b4,HR.out j (by have:=HL.out;omega)]
   have e:zs.getD j 0=L.getD j 0:=by
    rw [a0,List.getD_eq_getElem?_getD,List.getD_eq_getElem?_getD,List.getElem?_take_of_lt (by omega)]
   rw [e];rfl
  have a4:(w2.alloc (.cells #[.slice (some ⟨b,off,none⟩) m cap] 182)).heap[w2.heap.size]? = some (.cells #[.slice (some ⟨b,off,none⟩) zs.length cap] 182 (0,0)):=by
   rw [e4];exact heap_alloc_new w2 _
  have HS:=back_stops Fence.wide 8 a1 rfl (by omega) w2.heap.size w.heap.size w.heap.size b cap off zs ozs (by omega) (w2.alloc (.cells #[.slice (some ⟨b,off,none⟩) m cap] 182)) a4 (by rw [size_alloc];omega) b4 (by omega) b0
  refine wpIn_rangeFunc_ownG rfl (by omega) (gf:=260) (lb:=#[.pointer (some ⟨w2.heap.size,0,none⟩)]) rfl a1 (enters_of func260 (by kernel_rfl) rfl) HS kp_trans (kp_put (by rw [size_alloc];omega)) (Below.refl _ _) (fun _=>rfl)
   (fun pre W=>BF w.heap.size w.heap.size (zBM z pre) W/\Below w.heap.size w W/\(zBM z pre).length<=9+9*pre.length)
   (fun _ _ _=>False)
   (fun s A B row hs hg hr=>⟨hs.1.grown hg (fun r e=>(hr r e).2),hs.2.1.grown hg (by have:=hs.2.1.size;omega) (fun k e=>by have:=(hr k e).1;rw [size_alloc] at this;omega),hs.2.2⟩)
   (fun _ _ _ _ _ hs _ _=>hs)
   ⟨?_,o,?_⟩
   (fun x=>{ tmps:=#[.slice (some ⟨b,off,none⟩) (m+1) cap,undef,.string ⟨#[]⟩,.pointer (some ⟨w.heap.size,0,none⟩),undef,.int .u32 (x.1.2:Int),undef,.slice (some ⟨b,off,none⟩) (m+1) cap,.int .i64 ((m:Int)+1),.bool false,.slice (some ⟨b,off,none⟩) (m+1) cap,.slice (some ⟨b,off,none⟩) (m+1) cap,.int .i64 ((m:Int)+1),.int .i64 (m:Int),.pointer (some ⟨b,off+m,none⟩),.int .u32 (z:Int),.int .u64 (z:Int),.string s0,.tuple #[.int .i64 (s0.size:Int),.nilIface],.slice (some ⟨b,off,none⟩) (m+1) cap,.slice (some ⟨b,off,none⟩) (m+1) cap,.int .i64 ((m:Int)+1),.int .i64 (m:Int),.slice (some ⟨b,off,none⟩) m cap,.func (.func 260) #[] #[.pointer (some ⟨w2.heap.size,0,none⟩)],.int .i64 (x.1.1:Int),.int .u32 (x.1.2:Int),undef,undef,undef,undef,undef,undef,undef,undef,undef,undef],defers:=[] }) ?assign ?body ?done ?stop
  ·have:zBM z []=[]++bs s0:=by simp [zBM,d1]
   rw [this]
   exact d4.ext u
  ·have:=(zA8 (n:=z) (k:=9) (by omega)).2 (by omega)
   simpa [zBM] using this
  case assign =>
   intro l x W K hK
   gi_wp2
   exact hK
  case body =>
   rintro l pre ⟨⟨xi,xl⟩,a8⟩ W ⟨hb,hB,b7⟩ i1
   have e9:u64.wrap (xl:Int)=(xl:Int):=w64u (by have:xl<1000000000:=a8;omega)
   have HB1:Hid (BF w.heap.size w.heap.size (zBM z pre) W):=hb
   have HB2:Hid (Below w.heap.size w W):=hB
   have HX:Hid (xl<1000000000):=a8
   clear hb hB HS b0 a4 o u a2
   dsimp only
   gi_wp2_with (first
    | (gi_at_call 237;refine CallsIn.mono (callsIn_wide.2 (k237 xl (by have:=HX.out;omega) _ (HP.out.ext HB2.out))) ?_;rintro e W1 ⟨⟨s1,rfl,a6⟩,d2⟩;have e0:s1.size<=9:=by (rw [zAc,a6];exact (zA8 (by omega)).2 (by have:=HX.out;omega)))
    | (gi_at_call 236;refine CallsIn.mono (callsIn_wide.2 (k236 _ d5 (by rw [List.length_append,<- zAc,size9];omega))) ?_;rintro e W3 ⟨rfl,d6,d9⟩)
    | (gi_at_call 236;refine CallsIn.mono (callsIn_wide.2 (k236 _ (HB1.out.ext d2) (by rw [size9];omega))) ?_;rintro e W2 ⟨rfl,d5,d8⟩))
   have b9:bs (({ data:=#[48,48,48,48,48,48,48,48,48] } : BA).extract s1.size 9)=List.replicate (9 - s1.size) 48:=zeros9 e0
   have d0:(List.replicate (9 - s1.size) (48:UInt8))++bs s1=pad9 xl:=by
    rw [pad9,a6,show s1.size=(dec xl).length by rw [zAc,a6]]
   have hk:Kept w.heap.size w.heap.size W W3:=((Kept.ofExt d2 (by have:=HB2.out.size;omega)).trans d8).trans d9
   refine⟨hk.from (.inr HB1.out.isCells),hk.kp yL,?_,Below.trans HB2.out hk.below,?_⟩
   ·show BF _ _ (zBM z (pre++[⟨(xi,xl),a8⟩])) W3
    rw [zDo]
    show BF _ _ (zBM z pre++pad9 xl) W3
    rw [<- d0,<- b9,<- List.append_assoc]
    exact d6
   ·rw [zDo,List.length_append,List.length_append,List.length_singleton]
    have:(pad9 xl).length=9:=by
     rw [<- d0,List.length_append,List.length_replicate,<- zAc];omega
    show _+(pad9 xl).length<=_
    omega
  case done =>
   rintro D ys W hD rfl ⟨hb,hB,_⟩ hK
   have HB1:Hid (BF w.heap.size w.heap.size (zBM z (upto (bk zs ozs) zs.length)) W):=hb
   clear hb HS b0 a4 o u a2
   gi_wp2_with (gi_at_call 239;refine CallsIn.mono (callsIn_wide.2 (k239 HB1.out)) ?_;rintro e W1 ⟨rfl,b6⟩)
   have i0:w.heap.size<D:=by rw [size_alloc] at hD;omega
   have b1:=b6.others D _ hK (fun e=>by cases e;omega) (fun c f e=>by cases e)
   refine⟨by simp,.inl ⟨_,_,rfl,run_takeDeferred b1,?_⟩⟩
   refine⟨_,results_tmp rfl _ _ _,_,rfl,⟨_,rfl,?_⟩,Below.trans (Below.trans hB b6.below) (belowK_b (w:=w) yL W1 D _ _ (by omega) b1 rfl rfl)⟩
   rw [bs_mk]
   have b7:=HL.out
   have h1:=(dec_limbs hok hn (by omega) m (by omega)).1
   rw [show L.length - 1 - m=0 by omega,List.drop_zero] at h1
   rw [h1]
   have e1:min m L.length=m:=by omega
   have e2:L.length - 1=m:=by omega
   subst a0
   have hq : ∀ q,q=m->∀ h,upto (bk (L.take m) ozs) m=upto (bk (L.take q) h) m:=by rintro q rfl h;rfl
   rw [e1,HZ.out,hq _ e2 (zBB hok _)]
   simp only [e2]
  case stop =>
   rintro D c pre W _ _ h _
   exact h.elim
end Go.Proofs.Si
namespace Go.Proofs.Si
open Go Go.V Go.Proofs Go.RowKit Go.Num Go.Proofs.Tryz
set_option maxRecDepth 100000
theorem prefix_minus (l:List UInt8):Lib.hasPrefix l [45]=(zAy l).1/\Lib.trimPrefix l [45]=(zAy l).2:=by
 unfold Lib.trimPrefix
 match l with
 | []=>exact⟨rfl,rfl⟩
 | c::l =>
  by_cases h:c=45
  ·subst h
   refine⟨rfl,rfl⟩
  ·have h1:Lib.hasPrefix (c::l) [45]=false:=by
    unfold Lib.hasPrefix
    have:((45:UInt8)==c)=false:=by rw [beq_eq_false_iff_ne];exact fun e=>h e.symm
    simp [List.isPrefixOf,this]
   rw [h1]
   have h2:zAy (c::l)=(false,c::l):=by
    unfold zAy
    split
    ·rename_i h3;cases h3;exact absurd rfl h
    ·rfl
   rw [h2]
   exact⟨rfl,rfl⟩
theorem zEk : ∀ l:List UInt8,Lib.index l [47]=if (l.takeWhile (· != 47)).length<l.length then ((l.takeWhile (· != 47)).length:Int) else -1
 | []=>by simp [Lib.index]
 | c::l=>by
  have ih:=zEk l
  by_cases h:c=47
  ·subst h
   unfold Lib.index
   rw [if_pos (by simp [List.isPrefixOf])]
   simp
  ·have hne:((47:UInt8)==c)=false:=by rw [beq_eq_false_iff_ne];exact fun e=>h e.symm
   have b:(c != 47)=true:=by rw [bne_iff_ne];exact h
   unfold Lib.index
   rw [if_neg (by simp [List.isPrefixOf,hne]),List.takeWhile_cons,b,if_pos rfl,List.length_cons,List.length_cons]
   by_cases h2:(l.takeWhile (· != 47)).length<l.length
   ·rw [if_pos h2] at ih
    rw [ih,if_neg (by simp only [beq_iff_eq];omega),if_pos (by omega)]
    omega
   ·rw [if_neg h2] at ih
    rw [ih,if_pos (by decide),if_neg (by omega)]
theorem cut_stroke (l:List UInt8):Lib.cut l [47]=if (l.takeWhile (· != 47)).length<l.length then (l.takeWhile (· != 47),l.drop ((l.takeWhile (· != 47)).length+1),true) else (l,[],false):=by
 unfold Lib.cut
 rw [zEk]
 by_cases h:(l.takeWhile (· != 47)).length<l.length
 ·rw [if_pos h,if_pos (by omega),if_pos h,yT]
  congr 1
  exact List.prefix_iff_eq_take.1 (List.takeWhile_prefix _) |>.symm
 ·rw [if_neg h,if_neg (by omega),if_neg h]
theorem pum : ∀ (l:List UInt8) (acc:Nat),l.all isDig=true->acc<=18446744073709551615->Lib.parseUintM 18446744073709551615 acc l=if acc*10 ^ l.length+val l<=18446744073709551615 then .ok (acc*10 ^ l.length+val l) else .range
 | [],acc,_,h=>by
  rw [Lib.parseUintM,zC6,List.length_nil,Nat.pow_zero,Nat.mul_one,Nat.add_zero,if_pos h]
 | c::r,acc,hd,h=>by
  rw [List.all_cons,Bool.and_eq_true] at hd
  obtain⟨h1,h2⟩:=zBq hd.1
  have e:acc*10 ^ (c::r).length+val (c::r)=(acc*10+(c.toNat - 48))*10 ^ r.length+val r:=by
   rw [List.length_cons,zCk,Nat.pow_succ,dv,Nat.add_mul]
   have:acc*(10 ^ r.length*10)=acc*10*10 ^ r.length:=by rw [Nat.mul_comm (10 ^ r.length),Nat.mul_assoc]
   omega
  have hp:1<=10 ^ r.length:=Nat.one_le_pow _ _ (by omega)
  have b:acc*10+(c.toNat - 48)<=(acc*10+(c.toNat - 48))*10 ^ r.length:=Nat.le_mul_of_pos_right _ hp
  rw [Lib.parseUintM,if_pos ⟨h1,h2⟩,e]
  by_cases h3:1844674407370955162<=acc
  ·rw [if_pos h3,if_neg (by omega)]
  ·rw [if_neg h3]
   by_cases h4:18446744073709551615<acc*10+(c.toNat - 48)
   ·rw [if_pos h4,if_neg (by omega)]
   ·rw [if_neg h4,pum r _ hd.2 (by omega)]
theorem pub {l:List UInt8} (hne:l≠[]) (hd:l.all isDig=true):Lib.parseUintB 64 l=if val l<=18446744073709551615 then .ok (val l) else .range:=by
 unfold Lib.parseUintB
 rw [if_neg hne]
 have:=pum l 0 hd (by omega)
 rw [Nat.zero_mul,Nat.zero_add] at this
 exact this
theorem zEQ {l:List UInt8} (hne:l≠[]) (hd:l.all isDig=true):Lib.parseIntB 64 l=if val l<=9223372036854775807 then .ok (val l:Int) else .range:=by
 cases l with
 | nil=>exact absurd rfl hne
 | cons c r =>
  have hc:isDig c=true:=by rw [List.all_cons,Bool.and_eq_true] at hd;exact hd.1
  obtain⟨h1,h2⟩:=zBq hc
  rw [Lib.parseIntB_plain 64 c r (by omega) (by omega),pub hne hd]
  by_cases h3:val (c::r)<=18446744073709551615
  ·rw [if_pos h3,Lib.signlessC]
   by_cases h4:val (c::r)<=9223372036854775807
   ·rw [if_pos h4,if_neg (by omega)]
   ·rw [if_neg h4,if_pos (by omega)]
  ·rw [if_neg h3,if_neg (by omega)];rfl
theorem pib_minus {l:List UInt8} (hne:l≠[]) (hd:l.all isDig=true):Lib.parseIntB 64 (45::l)=if val l<=9223372036854775808 then .ok (-(val l:Int)) else .range:=by
 rw [Lib.parseIntB_minus,pub hne hd]
 by_cases h3:val l<=18446744073709551615
 ·rw [if_pos h3,Lib.signedC]
  by_cases h4:val l<=9223372036854775808
  ·rw [if_pos h4,if_neg (by omega)]
  ·rw [if_neg h4,if_pos (by omega)]
 ·rw [if_neg h3,if_neg (by omega)];rfl
structure Gl (w:World):Prop where
 p10:P10 w
 ml : ∃ m,w.cell? ⟨1,0,none⟩=some (.int .i64 m)
 er : ∃ tp p, w.var? prog "strconv.ErrRange" = some #[.iface tp p]
theorem Gl.ext {w w' : World} (h:Gl w) (he:Ext w w'):Gl w':=by
 refine⟨h.p10.ext he,?_,?_⟩
 ·obtain⟨m,hm⟩:=h.ml;exact⟨m,he.cell hm⟩
 ·obtain⟨tp,p,hm⟩:=h.er;exact⟨tp,p,var_ext he hm⟩
theorem c183 (s:BA) (w:World):Ret prog 183 #[.string s,.string { data:=#[45] }] w fun v w'=>(∃ t,v = .tuple #[.string t,.bool (zAy (bs s)).1]/\bs t=(zAy (bs s)).2)/\w' = w:=by
 refine Calls.mono (Tryz.strings_CutPrefix s { data:=#[45] } w) ?_
 rintro e w' ⟨rfl,rfl⟩
 obtain⟨h1,h2⟩:=prefix_minus (bs s)
 refine⟨_,rfl,⟨mk (Lib.trimPrefix (bs s) [45]),?_,by rw [bs_mk,h2]⟩,rfl⟩
 rw [<- h1];rfl
theorem c149 (s:BA) (hs:s.size<4294967281) (w:World) (hg:Gl w):Ret prog 149 #[.string s,.string { data:=#[47] }] w fun v w' =>
  (∃ t u,v = .tuple #[.string t,.string u,.bool (decide (((bs s).takeWhile (· != 47)).length<(bs s).length))]/\bs t=(dqCut (bs s)).1/\(if ((bs s).takeWhile (· != 47)).length<(bs s).length then bs u=(dqCut (bs s)).2 else bs u=[]))/\Ext w w':=by
 obtain⟨m,hm⟩:=hg.ml
 refine Calls.mono (Tryz.strings_Cut s { data:=#[47] } m w hs hm) ?_
 rintro e w' ⟨rfl,n,rfl⟩
 have hc:Lib.cut s.data.toList ({ data:=#[47] } : BA).data.toList=_:=cut_stroke (bs s)
 rw [hc]
 unfold dqCut
 by_cases h:((bs s).takeWhile (· != 47)).length<(bs s).length
 ·simp only [if_pos h,decide_eq_true h]
  refine⟨_,rfl,⟨_,_,rfl,bs_mk _,bs_mk _⟩,?_⟩
  exact⟨rfl,rfl,rfl,yL,fun _ _=>rfl⟩
 ·simp only [if_neg h,decide_eq_false h]
  refine⟨_,rfl,⟨_,_,rfl,bs_mk _,bs_mk _⟩,?_⟩
  exact⟨rfl,rfl,rfl,yL,fun _ _=>rfl⟩
theorem c150 (s:BA) (v:Int) (h:Lib.parseIntB 64 (bs s) = .ok v) (hz:s.size<=281474976710656) (w:World):Ret prog 150 #[.string s,.int .i64 10,.int .i64 64] w fun u w'=>u = .tuple #[.int .i64 v,.nilIface]/\Ext w w':=by
 refine Calls.mono (Tryz.strconv_ParseInt_10_at64_ok s (by omega) v h w) ?_
 rintro e w' ⟨rfl,rfl | ⟨t,rfl⟩⟩
 ·exact⟨_,rfl,rfl,yE _⟩
 ·exact⟨_,rfl,rfl,Lib.bytesWorld_below w 5 t⟩
theorem c150r (s:BA) (h:Lib.parseIntB 64 (bs s) = .range) (hz:s.size<=281474976710656) (w:World) (hg:Gl w):Ret prog 150 #[.string s,.int .i64 10,.int .i64 64] w fun u w'=>(∃ n t p,u = .tuple #[.int .i64 n,.iface t p])/\Ext w w':=by
 obtain⟨tp,p,hv⟩:=hg.er
 refine Calls.mono (Tryz.strconv_ParseInt_10_at64_range_var s hz h tp p w hv) ?_
 rintro e w' ⟨N,rfl,_,_,hb⟩
 exact⟨_,rfl,⟨_,_,_,rfl⟩,hb⟩
theorem textV {va:Value} {n:Nat} (w:World) (ha:NatV w va n) (hz:nd n<=1000000000000) (hg:Gl w):Ret prog 208 #[va] w fun v w'=>(∃ s,v = .string s/\bs s=dec n)/\Ext w w':=by
 obtain⟨a,ca,A,rfl,b,d,oa,na,rfl,la⟩:=ha.cut
 exact c208 w d oa na b (by omega) hg.p10
theorem oneV {va:Value} {n:Nat} (w:World) (ha:NatV w va n):Ret prog 188 #[va] w fun v w'=>v = .bool (decide (n=1))/\w' = w:=by
 obtain⟨a,ca,A,rfl,d,b,oa,na,rfl,la⟩:=ha.cut
 exact c188 w b oa na
theorem sliceV {w:World} {v:Value} {n:Nat} (h:NatV w v n) : ∃ a l c,v = .slice a l c:=by
 obtain⟨a,c,L,e,_⟩:=h
 exact⟨_,_,_,e⟩
theorem mulV {va vb:Value} {m n:Nat} (w:World) (ha:NatV w va m) (hb:NatV w vb n) (hz:nd m<=1000000000000/\nd n<=1000000000000):Ret prog 220 #[va,vb] w fun v w'=>(∃ a l c,v = .slice a l c)/\NatV w' v (m*n)/\Ext w w':=by
 obtain⟨a,ca,A,rfl,g,d,oa,na,rfl,la⟩:=ha.cut
 obtain⟨b,cb,B,rfl,i,f,ob,nb,rfl,lb⟩:=hb.cut
 refine (c220 w d f oa ob ⟨by omega,by omega⟩).mono ?_
 rintro v w' ⟨h,_,he⟩
 exact⟨sliceV h.natV,h.natV,he⟩
theorem addV {va vb:Value} {m n:Nat} (w:World) (ha:NatV w va m) (hb:NatV w vb n) (hz:nd m<=1000000000000/\nd n<=1000000000000):Ret prog 222 #[va,vb] w fun v w'=>(∃ a l c,v = .slice a l c)/\NatV w' v (m+n)/\Ext w w':=by
 obtain⟨a,ca,A,rfl,g,d,oa,na,rfl,la⟩:=ha.cut
 obtain⟨b,cb,B,rfl,i,f,ob,nb,rfl,lb⟩:=hb.cut
 refine (c222 w d f oa ob ⟨by omega,by omega⟩).mono ?_
 rintro v w' ⟨h,he⟩
 exact⟨sliceV h.natV,h.natV,he⟩
theorem subV {va vb:Value} {m n:Nat} (w:World) (ha:NatV w va m) (hb:NatV w vb n) (hle:n<=m) (hz:nd m<=1000000000000):Ret prog 224 #[va,vb] w fun v w'=>(∃ a l c,v = .slice a l c)/\NatV w' v (m - n)/\Ext w w':=by
 obtain⟨a,ca,A,rfl,g,d,oa,na,rfl,la⟩:=ha.cut
 obtain⟨b,cb,B,rfl,i,f,ob,nb,rfl,lb⟩:=hb.cut
 refine (c224 w d f oa ob nb hle (by omega)).mono ?_
 rintro v w' ⟨h,he⟩
 exact⟨sliceV h.natV,h.natV,he⟩
theorem cmpV {va vb:Value} {m n:Nat} (w:World) (ha:NatV w va m) (hb:NatV w vb n) (hz:nd m<=1000000000000/\nd n<=1000000000000):Ret prog 223 #[va,vb] w fun v w'=>(∃ z:Int,v = .int .i64 z/\(z<0↔m<n))/\Ext w w':=by
 obtain⟨a,ca,A,rfl,g,d,oa,na,rfl,la⟩:=ha.cut
 obtain⟨b,cb,B,rfl,h,f,ob,nb,rfl,lb⟩:=hb.cut
 exact c223 w d f oa ob na nb ⟨by omega,by omega⟩
theorem NatV.drew {w:World} {v:Value} {n:Nat} (h:NatV w v n):NatV w.drew v n:=h.ext (yE w).drew
theorem Gl.drew {w:World} (h:Gl w):Gl w.drew:=h.ext (yE w).drew
theorem NatV.pos {w:World} {a:OA} {l c n:Nat} (h:NatV w (.slice a l c) n):0<l↔n≠0:=by
 obtain⟨a',c',L,e,_,_,_,hn,hl⟩:=h
 cases e
 rw [<- hl]
 constructor
 ·intro h0 e0
  have:=zDV hn h0
  have h3:0<1000000000 ^ (L.length - 1):=Nat.pow_pos (by omega)
  omega
 ·intro h0
  refine Nat.pos_of_ne_zero fun e0=>h0 ?_
  rw [List.eq_nil_of_length_eq_zero e0];rfl
theorem zAo (b:Bool) (a1:OA) (n1 c1:Nat) (a2:OA) (n2 c2:Nat) : ∀ x:Nat,u32v x∉[Value.bool b,.slice a1 n1 c1,.slice a2 n2 c2]:=fun x=>by simp [u32v]
theorem c195 {v:Value} {neg:Bool} {a b:Nat} (w:World) (h:RatM w v neg a b) (hz:nd a<=1000000000/\nd b<=1000000000) (hg:Gl w) :
  Ret prog 195 #[v] w fun v w'=>(∃ s,v = .string s/\bs s=txt3 (neg&&decide (a≠0)) a b)/\Ext w w':=by
 obtain⟨a1,n1,c1,a2,n2,c2,rfl,ha,hb⟩:=h
 have hx:=(yE w).alloc (.cells #[.bool neg,.slice a1 n1 c1,.slice a2 n2 c2] 184)
 have k:=yN w [.bool neg,.slice a1 n1 c1,.slice a2 n2 c2] 184
 refine run195 _ _ _ _ _ _ _ _ _ ⟨_,_,_,k.blk.cell (j:=1) rfl,yC (textV _ (ha.ext hx) (by omega) (hg.ext hx)) ?_⟩
 rintro v w1 ⟨⟨s,rfl,hs⟩,d⟩
 have f:=k.ext d
 have a4:s.size<=1000000000:=by rw [zAc,hs];exact hz.1
 refine⟨s,rfl,fun K hK K1 l=>?_⟩
 have a5:=hx.trans d
 have fin : ∀ (s1:BA) (n0:Bool),s1.size<=1000000001->n0=(neg&&decide (a≠0))->bs s1=(if n0 then [45] else [])++dec a->K [.string s1] w1:=by
  intro s1 n0 a0 m o
  refine hK s1 ⟨_,_,_,f.blk.cell (j:=2) rfl,yC (oneV w1 ((hb.ext hx).ext d)) ?_⟩
  rintro v w2 ⟨rfl,rfl⟩
  refine⟨_,rfl,zAb (fun x=>?_) (fun n=>⟨⟨_,rfl,?_⟩,Ext.from_alloc d⟩)⟩
  ·have i:b≠1:=by simpa using x
   refine⟨_,_,_,f.blk.cell (j:=2) rfl,yC (textV _ ((hb.ext hx).ext d) (by omega) ((hg.ext hx).ext d)) ?_⟩
   rintro v w3 ⟨⟨s2,rfl,p⟩,u⟩
   have a3:s2.size<=1000000000:=by rw [zAc,p];exact hz.2
   refine⟨s2,rfl,by omega,?_,⟨_,rfl,?_⟩,Ext.from_alloc (d.trans u)⟩
   ·rw [zDc]
    have:({ data:=#[47] } : BA).size=1:=rfl
    omega
   ·rw [zAN,zAN,o,p,<- m,txt3,if_neg i];rfl
  ·have i:b=1:=by simpa using n
   rw [o,<- m,txt3,if_pos i,List.append_nil]
 refine⟨_,f.blk.cell (j:=0) rfl,zAb (fun hn=>?_) (fun hn=>?_)⟩
 ·refine⟨_,_,_,f.blk.cell (j:=1) rfl,l _ (zAe (fun h0=>?_) (fun h0=>?_))⟩
  ·have g:a≠0:=ha.pos.1 (by omega)
   refine⟨by omega,fin _ true ?_ (by rw [hn,decide_eq_true g];rfl) ?_⟩
   ·rw [zDc]
    have:({ data:=#[45] } : BA).size=1:=rfl
    omega
   ·rw [zAN,hs];rfl
  ·have g : ¬ a≠0:=fun e=>h0 (by have:=ha.pos.2 e;omega)
   exact fin _ false (by omega) (by rw [decide_eq_false g,Bool.and_false]) (by rw [hs];rfl)
 ·refine l _ ?_
  rw [cond_false]
  exact fin _ false (by omega) (by rw [hn];rfl) (by rw [hs];rfl)
theorem txt_red (neg:Bool) (a:Nat) {b:Nat} (hb:b≠0):txt3 (neg&&decide (a / Nat.gcd a b≠0)) (a / Nat.gcd a b) (b / Nat.gcd a b)=txtQ (red neg a b):=by
 unfold txtQ
 rw [zDm neg a hb,zDT neg a hb,zB6]
 congr 1
 rw [Bool.eq_iff_iff,decide_eq_true_eq,sgn_neg,Bool.and_eq_true,decide_eq_true_eq]
theorem c198 {v u:Value} {m n:Bool} {a b c d:Nat} (w:World) (hv:RatM w v m a b) (hu:RatM w u n c d) (hb0:0<b) (hd0:0<d) (hz:nd a+nd c<=1000000000/\nd b+nd d<=1000000000) :
  Ret prog 198 #[v,u] w fun v w'=>RatM w' v (m != n) (a*c / Nat.gcd (a*c) (b*d)) (b*d / Nat.gcd (a*c) (b*d))/\Ext w w':=by
 obtain⟨a1,n1,c1,a2,n2,c2,rfl,ha,hb⟩:=hv
 obtain⟨a3,n3,c3,a4,n4,c4,rfl,hc,hd⟩:=hu
 have a6:=(yE w).alloc (.cells #[.bool m,.slice a1 n1 c1,.slice a2 n2 c2] 184)
 have x:=(yE (w.alloc (.cells #[.bool m,.slice a1 n1 c1,.slice a2 n2 c2] 184))).alloc (.cells #[.bool n,.slice a3 n3 c3,.slice a4 n4 c4] 184)
 have a0:=(yE ((w.alloc (.cells #[.bool m,.slice a1 n1 c1,.slice a2 n2 c2] 184)).alloc (.cells #[.bool n,.slice a3 n3 c3,.slice a4 n4 c4] 184))).alloc (.cells #[.bool false,.slice none 0 0,.slice none 0 0] 184)
 have o:=((yN w [.bool m,.slice a1 n1 c1,.slice a2 n2 c2] 184).ext x).ext a0.drew
 have s:=(yN (w.alloc (.cells #[.bool m,.slice a1 n1 c1,.slice a2 n2 c2] 184)) [.bool n,.slice a3 n3 c3,.slice a4 n4 c4] 184).ext a0.drew
 have a7:=(yN ((w.alloc (.cells #[.bool m,.slice a1 n1 c1,.slice a2 n2 c2] 184)).alloc (.cells #[.bool n,.slice a3 n3 c3,.slice a4 n4 c4] 184)) [.bool false,.slice none 0 0,.slice none 0 0] 184).ext (yE _).drew
 have g:=(a6.trans x).trans a0.drew
 have b1:w.heap.size<=((w.alloc (.cells #[.bool m,.slice a1 n1 c1,.slice a2 n2 c2] 184)).alloc (.cells #[.bool n,.slice a3 n3 c3,.slice a4 n4 c4] 184)).heap.size:=(a6.trans x).size
 refine run198 _ _ _ _ _ _ _ _ _ _ _ _ _ _ _ _ fun K hK=>?_
 refine⟨_,o.blk.cell (j:=0) rfl,_,s.blk.cell (j:=0) rfl,_,_,_,o.blk.cell (j:=1) rfl,_,_,_,s.blk.cell (j:=1) rfl,_,_,_,o.blk.cell (j:=2) rfl,_,_,_,s.blk.cell (j:=2) rfl,?_⟩
 have za:=zEj a
 have zb:=zEj b
 have zc:=zEj c
 have zd:=zEj d
 refine yC (mulV _ (ha.ext g) (hc.ext g) ⟨by omega,by omega⟩) ?_
 rintro v w2 ⟨⟨p,l,k,rfl⟩,hp,f⟩
 refine⟨_,_,_,rfl,f,yC (mulV _ ((hb.ext g).ext f) ((hd.ext g).ext f) ⟨by omega,by omega⟩) ?_⟩
 rintro v w3 ⟨⟨p',l',k',rfl⟩,a8,i⟩
 have zac:nd (a*c)<=nd a+nd c:=zAz a c
 have zbd:nd (b*d)<=nd b+nd d:=zAz b d
 refine⟨_,_,_,rfl,f.trans i,yC (c221 _ _ (hp.ext i) a8 (Nat.mul_pos hb0 hd0) ⟨by omega,by omega⟩) ?_⟩
 rintro v w4 ⟨hr,a5⟩
 obtain⟨q1,l1,k1,q2,l2,k2,rfl,a9,b0⟩:=hr
 have h:=((a7.ext f).ext i).ext a5
 refine⟨_,_,_,_,_,_,_,rfl,h.blk.writable (by decide),hK _ ⟨_,_,_,_,_,_,_,(h.put _ (by rfl)).blk.all,⟨_,_,_,_,_,_,rfl,a9.put h (zAo _ _ _ _ _ _ _) _ _ _,b0.put h (zAo _ _ _ _ _ _ _) _ _ _⟩,?_⟩⟩
 exact (((g.trans f).trans i).trans a5).put b1 _ _
set_option maxHeartbeats 1000000 in
theorem c194 {v u:Value} {m n:Bool} {a b c d:Nat} (w:World) (hv:RatM w v m a b) (hu:RatM w u n c d) (hb0:0<b) (hd0:0<d) (hz:nd a+nd d<=1000000000/\nd c+nd b<=1000000000/\nd b+nd d<=1000000000) :
  Ret prog 194 #[v,u] w fun v w'=>(∃ (neg:Bool) (x:Nat),sgn m (a*d)+sgn n (c*b)=sgn neg x/\x<=a*d+c*b/\RatM w' v neg (x / Nat.gcd x (b*d)) (b*d / Nat.gcd x (b*d)))/\Ext w w':=by
 obtain⟨a1,n1,c1,a2,n2,c2,rfl,ha,hb⟩:=hv
 obtain⟨a3,n3,c3,a4,n4,c4,rfl,hc,hd⟩:=hu
 have d1:=(yE w).alloc (.cells #[.bool m,.slice a1 n1 c1,.slice a2 n2 c2] 184)
 have b6:=(yE (w.alloc (.cells #[.bool m,.slice a1 n1 c1,.slice a2 n2 c2] 184))).alloc (.cells #[.bool n,.slice a3 n3 c3,.slice a4 n4 c4] 184)
 have b7:=(yE ((w.alloc (.cells #[.bool m,.slice a1 n1 c1,.slice a2 n2 c2] 184)).alloc (.cells #[.bool n,.slice a3 n3 c3,.slice a4 n4 c4] 184))).alloc (.cells #[.bool false,.slice none 0 0,.slice none 0 0] 184)
 have a7:=((yN w [.bool m,.slice a1 n1 c1,.slice a2 n2 c2] 184).ext b6).ext b7.drew
 have a8:=(yN (w.alloc (.cells #[.bool m,.slice a1 n1 c1,.slice a2 n2 c2] 184)) [.bool n,.slice a3 n3 c3,.slice a4 n4 c4] 184).ext b7.drew
 have d4:=(yN ((w.alloc (.cells #[.bool m,.slice a1 n1 c1,.slice a2 n2 c2] 184)).alloc (.cells #[.bool n,.slice a3 n3 c3,.slice a4 n4 c4] 184)) [.bool false,.slice none 0 0,.slice none 0 0] 184).ext (yE _).drew
 have o:=(d1.trans b6).trans b7.drew
 have e3:w.heap.size<=((w.alloc (.cells #[.bool m,.slice a1 n1 c1,.slice a2 n2 c2] 184)).alloc (.cells #[.bool n,.slice a3 n3 c3,.slice a4 n4 c4] 184)).heap.size:=(d1.trans b6).size
 refine run194 _ _ _ _ _ _ _ _ _ _ _ _ _ _ _ _ ?_
 have za:=zEj a
 have zb:=zEj b
 have zc:=zEj c
 have zd:=zEj d
 have zad:nd (a*d)<=nd a+nd d:=zAz a d
 have zcb:nd (c*b)<=nd c+nd b:=zAz c b
 have zbd:nd (b*d)<=nd b+nd d:=zAz b d
 have zs:nd (a*d+c*b)<=max (nd (a*d)) (nd (c*b))+1:=zBy _ _
 have fin : ∀ (neg:Bool) (x:Nat) (vx vd:Value) (W:World),sgn m (a*d)+sgn n (c*b)=sgn neg x->x<=a*d+c*b->NatV W vx x->NatV W vd (b*d) ->
   Ext (((w.alloc (.cells #[.bool m,.slice a1 n1 c1,.slice a2 n2 c2] 184)).alloc (.cells #[.bool n,.slice a3 n3 c3,.slice a4 n4 c4] 184)).alloc (.cells #[.bool false,.slice none 0 0,.slice none 0 0] 184)).drew W ->
   ∀ {Q:World->Prop},(∀ W',(∃ b5 q1 l1 l2 q2 l3 l4,vcells W' ⟨((w.alloc (.cells #[.bool m,.slice a1 n1 c1,.slice a2 n2 c2] 184)).alloc (.cells #[.bool n,.slice a3 n3 c3,.slice a4 n4 c4] 184)).heap.size,0,none⟩ 0 [.bool b5,.slice q1 l1 l2,.slice q2 l3 l4] /\
    ((∃ (neg:Bool) (x:Nat),sgn m (a*d)+sgn n (c*b)=sgn neg x/\x<=a*d+c*b/\RatM W' (.agg #[.bool b5,.slice q1 l1 l2,.slice q2 l3 l4]) neg (x / Nat.gcd x (b*d)) (b*d / Nat.gcd x (b*d)))/\Ext w W'))->Q W') ->
   Called prog 221 #[.bool neg,vx,vd] W fun v w4=>∃ b4 p6 k12 k13 p7 k14 k15,v = .agg #[.bool b4,.slice p6 k12 k13,.slice p7 k14 k15] /\
    writable w4 ⟨((w.alloc (.cells #[.bool m,.slice a1 n1 c1,.slice a2 n2 c2] 184)).alloc (.cells #[.bool n,.slice a3 n3 c3,.slice a4 n4 c4] 184)).heap.size,0,none⟩ 3 /\
    Q (setCells w4 ⟨((w.alloc (.cells #[.bool m,.slice a1 n1 c1,.slice a2 n2 c2] 184)).alloc (.cells #[.bool n,.slice a3 n3 c3,.slice a4 n4 c4] 184)).heap.size,0,none⟩ 0 [.bool b4,.slice p6 k12 k13,.slice p7 k14 k15]):=by
  intro neg x vx vd W hs d2 e5 e4 hW Q hQ
  have zx:nd x<=nd (a*d+c*b):=zBp d2
  refine yC (c221 neg W e5 e4 (Nat.mul_pos hb0 hd0) ⟨by omega,by omega⟩) ?_
  rintro v w4 ⟨hr,s⟩
  obtain⟨q1,l1,k1,q2,l2,k2,rfl,e1,e2⟩:=hr
  have a9:=(d4.ext hW).ext s
  refine⟨_,_,_,_,_,_,_,rfl,a9.blk.writable (by decide),hQ _ ⟨_,_,_,_,_,_,_,(a9.put _ (by rfl)).blk.all,⟨neg,x,hs,d2,_,_,_,_,_,_,rfl,e1.put a9 (zAo _ _ _ _ _ _ _) _ _ _,e2.put a9 (zAo _ _ _ _ _ _ _) _ _ _⟩,?_⟩⟩
  exact ((o.trans hW).trans s).put e3 _ _
 intro K hK
 refine⟨_,_,_,a7.blk.cell (j:=1) rfl,_,_,_,a8.blk.cell (j:=2) rfl,_,_,_,a8.blk.cell (j:=1) rfl,_,_,_,a7.blk.cell (j:=2) rfl,_,_,_,a7.blk.cell (j:=2) rfl,_,_,_,a8.blk.cell (j:=2) rfl,?_⟩
 refine yC (mulV _ (ha.ext o) (hd.ext o) ⟨by omega,by omega⟩) ?_
 rintro v w2 ⟨⟨p,l,k,rfl⟩,hp,g⟩
 refine⟨_,_,_,rfl,g,yC (mulV _ ((hc.ext o).ext g) ((hb.ext o).ext g) ⟨by omega,by omega⟩) ?_⟩
 rintro v w3 ⟨⟨p',l',k',rfl⟩,e0,a0⟩
 refine⟨_,_,_,rfl,g.trans a0,yC (mulV _ (((hb.ext o).ext g).ext a0) (((hd.ext o).ext g).ext a0) ⟨by omega,by omega⟩) ?_⟩
 rintro v w4 ⟨⟨p'',l'',k'',rfl⟩,a5,s⟩
 have hq:=(hp.ext a0).ext s
 have b0:=e0.ext s
 have hW:=(g.trans a0).trans s
 have b3:=a7.ext hW
 have b8:=a8.ext hW
 refine⟨_,_,_,rfl,hK _ _ _ _ _ _ _ _ _ _ ⟨_,b3.blk.cell (j:=0) rfl,_,b8.blk.cell (j:=0) rfl,zAb (fun d8=>?_) (fun d9=>?_)⟩⟩
 ·have b9:m=n:=by simpa using d8
  intro K1 d5
  refine⟨_,b3.blk.cell (w:=w4.drew) (j:=0) rfl,yC (addV _ hq.drew b0.drew ⟨by omega,by omega⟩) ?_⟩
  rintro v w5 ⟨⟨p5,l5,k5,rfl⟩,a6,f⟩
  exact⟨_,_,_,rfl,f,fin m _ _ _ _ (by rw [<- b9,zC9]) yL a6 (a5.drew.ext f) (hW.drew.trans f) d5⟩
 ·have b2:m≠n:=by rintro rfl;simp at d9
  refine yC (cmpV _ hq b0 ⟨by omega,by omega⟩) ?_
  rintro v w5 ⟨⟨z,rfl,d3⟩,f⟩
  refine⟨_,rfl,zAe (fun e6=>?_) (fun e7=>?_)⟩
  ·have d0:c*b<=a*d:=by
    have : ¬ a*d<c*b:=fun h=>by have:=d3.2 h;omega
    omega
   intro K2 d6
   refine⟨_,(b3.ext f).blk.cell (w:=w5.drew) (j:=0) rfl,yC (subV _ (hq.ext f).drew (b0.ext f).drew d0 (by omega)) ?_⟩
   rintro v w6 ⟨⟨p5,l5,k5,rfl⟩,a6,i⟩
   exact⟨_,_,_,rfl,i,fin m _ _ _ _ (zDS b2 d0) (by omega) a6 ((a5.ext f).drew.ext i) ((hW.trans f).drew.trans i) d6⟩
  ·have b1:a*d<c*b:=d3.1 (by omega)
   intro K3 d7
   refine⟨_,(b8.ext f).blk.cell (w:=w5.drew) (j:=0) rfl,yC (subV _ (b0.ext f).drew (hq.ext f).drew (Nat.le_of_lt b1) (by omega)) ?_⟩
   rintro v w6 ⟨⟨p5,l5,k5,rfl⟩,a6,i⟩
   exact⟨_,_,_,rfl,i,fin n _ _ _ _ (zDR b2 b1) (by omega) a6 ((a5.ext f).drew.ext i) ((hW.trans f).drew.trans i) d7⟩
end Go.Proofs.Si
namespace Go.Num
def frac (l:List UInt8):Bool:=decide (((zAy l).2.takeWhile (· != 47)).length<(zAy l).2.length)
def numL (l:List UInt8):List UInt8:=(dqCut (zAy l).2).1
def denL (l:List UInt8):List UInt8:=(dqCut (zAy l).2).2
structure OkR (l:List UInt8):Prop where
 num:canon (numL l)=true
 zero:numL l=[48]->(zAy l).1=false/\frac l=false
 den:frac l=true->canon (denL l)=true/\denL l≠[48]/\denL l≠[49]/\Nat.gcd (val (numL l)) (val (denL l))=1
theorem zCg {l:List UInt8} (h:canon l=true):l.all isDig=true/\l≠[]:=by
 unfold canon at h
 rw [Bool.and_eq_true,Bool.and_eq_true] at h
 refine⟨h.1.2,fun e=>?_⟩
 rw [e] at h
 simp at h
theorem zE5 {l:List UInt8} (h:frac l=false):denL l=[49]/\numL l=(zAy l).2:=by
 have h' : ¬ ((zAy l).2.takeWhile (· != 47)).length<(zAy l).2.length:=of_decide_eq_false h
 unfold denL numL dqCut
 rw [if_neg h']
 exact⟨rfl,rfl⟩
theorem stroke_at : ∀ s:List UInt8,(s.takeWhile (· != 47)).length<s.length->s.drop (s.takeWhile (· != 47)).length=47::s.drop ((s.takeWhile (· != 47)).length+1)
 | [],h=>by simp at h
 | c::s,h=>by
  by_cases hc:c=47
  ·subst hc;simp
  ·have hne:(c != 47)=true:=by rw [bne_iff_ne];exact hc
   rw [List.takeWhile_cons,hne,if_pos rfl,List.length_cons,List.length_cons] at h
   rw [List.takeWhile_cons,hne,if_pos rfl,List.length_cons,List.drop_succ_cons,List.drop_succ_cons]
   exact stroke_at s (by omega)
theorem zF9 {l:List UInt8} (h:frac l=true):(zAy l).2=numL l++47::denL l:=by
 have h' : ((zAy l).2.takeWhile (· != 47)).length<(zAy l).2.length:=of_decide_eq_true h
 unfold denL numL dqCut
 rw [if_pos h']
 generalize (zAy l).2=s at h'
 show s=s.takeWhile (· != 47)++47::s.drop ((s.takeWhile (· != 47)).length+1)
 have h1:s.takeWhile (· != 47)=s.take (s.takeWhile (· != 47)).length:=List.prefix_iff_eq_take.1 (List.takeWhile_prefix _)
 conv=>lhs;rw [<- List.take_append_drop (s.takeWhile (· != 47)).length s,stroke_at s h',<- h1]
theorem zDQ (l:List UInt8):l=(if (zAy l).1 then [45] else [])++(zAy l).2:=by
 match l with
 | []=>rfl
 | c::r =>
  by_cases h:c=45
  ·subst h;rfl
  ·have:zAy (c::r)=(false,c::r):=by
    unfold zAy
    split
    ·rename_i h3;cases h3;exact absurd rfl h
    ·rfl
   rw [this];rfl
theorem val_pos {l:List UInt8} (h:canon l=true) (h0:l≠[48]):val l≠0:=fun e=>h0 (by rw [<- zFh h,e,zAQ])
theorem OkR.q {l:List UInt8} (h:OkR l) : ∃ q:Rat,l=txtQ q/\(decide (q.num<0))=(zAy l).1/\q.num.natAbs=val (numL l)/\q.den=val (denL l):=by
 have hn:=zFh h.num
 have key : ∀ (d:Nat) (hd:d≠0) (hc:Nat.gcd (val (numL l)) d=1),∃ q:Rat,decide (q.num<0)=(zAy l).1/\q.num.natAbs=val (numL l)/\q.den=d:=by
  intro d hd hc
  refine⟨⟨sgn (zAy l).1 (val (numL l)),d,hd,by rw [zB6];exact hc⟩,?_,zB6 _ _,rfl⟩
  show decide (sgn _ _<0)=_
  rw [Bool.eq_iff_iff,decide_eq_true_eq,sgn_neg]
  refine⟨fun h1=>h1.1,fun h1=>⟨h1,val_pos h.num fun e=>?_⟩⟩
  rw [(h.zero e).1] at h1;cases h1
 cases hf:frac l with
 | true =>
  obtain⟨d1,d2,d3,d4⟩:=h.den hf
  have hd:=zFh d1
  obtain⟨q,q1,q2,q3⟩:=key (val (denL l)) (val_pos d1 d2) d4
  refine⟨q,?_,q1,q2,q3⟩
  unfold txtQ txt3
  have b:val (denL l)≠1:=fun e=>d3 (by rw [<- hd,e,zAv (by omega)];rfl)
  rw [q1,q2,q3,hn,hd,if_neg b,List.append_assoc,<- zF9 hf]
  exact zDQ l
 | false =>
  obtain⟨e1,e2⟩:=zE5 hf
  have ev:val (denL l)=1:=by rw [e1];rfl
  obtain⟨q,q1,q2,q3⟩:=key 1 (by omega) (Nat.gcd_one_right _)
  refine⟨q,?_,q1,q2,by rw [q3,ev]⟩
  unfold txtQ txt3
  rw [q1,q2,q3,hn,if_pos rfl,List.append_nil,e2]
  exact zDQ l
theorem zEH (q:Rat):zAy (txtQ q)=(decide (q.num<0),dec q.num.natAbs++(if q.den=1 then [] else 47::dec q.den))/\numL (txtQ q)=dec q.num.natAbs/\denL (txtQ q)=dec q.den/\(frac (txtQ q)=true↔q.den≠1):=by
 have h1:zAy (txtQ q)=_:=zCd _ _ _
 have h2:=zCQ q.num.natAbs q.den
 refine⟨h1,?_,?_,?_⟩
 ·unfold numL;rw [h1,h2]
 ·unfold denL;rw [h1,h2]
 ·unfold frac
  rw [h1,decide_eq_true_eq]
  by_cases hb:q.den=1
  ·rw [if_pos hb,List.append_nil,zBY (zAC _)]
   simp [hb]
  ·rw [if_neg hb,zCV (zAC _)]
   simp [hb]
theorem okR_txt (q:Rat):OkR (txtQ q):=by
 obtain⟨h1,h2,h3,h4⟩:=zEH q
 refine⟨by rw [h2];exact zFk _,fun e=>?_,fun hf=>?_⟩
 ·rw [h2,<- zAQ] at e
  have e0:q.num=0:=Int.natAbs_eq_zero.1 (zCy e)
  refine⟨by rw [h1,e0];rfl,?_⟩
  have hq:q=0:=Rat.num_eq_zero.1 e0
  cases hf:frac (txtQ q) with
  | false=>rfl
  | true=>exact absurd (by rw [hq];rfl) (h4.1 hf)
 ·have hd:=h4.1 hf
  rw [h3,h2,zAH,zAH]
  refine⟨zFk _,fun e=>?_,fun e=>?_,q.reduced⟩
  ·rw [<- zAQ] at e;exact q.den_nz (zCy e)
  ·have:([49]:List UInt8)=dec 1:=by rw [zAv (n:=1) (by omega)];rfl
   rw [this] at e;exact hd (zCy e)
theorem okR_iff {l:List UInt8} : OkR l↔∃ q,l=txtQ q:=⟨fun h=>let ⟨q,h,_⟩:=h.q;⟨q,h⟩,fun ⟨q,h⟩=>h▸okR_txt q⟩
end Go.Num
namespace Go.Proofs.Si
open Go Go.V Go.Proofs Go.RowKit Go.Num Go.Proofs.Tryz
set_option maxRecDepth 100000
def ReadR (w:World) (l:List UInt8) (v:Value):Prop :=
 (∃ (q:Rat) (u:Value),l=txtQ q/\v = .tuple #[u,.bool true]/\RatM w u (decide (q.num<0)) q.num.natAbs q.den) \/
  ((¬ ∃ q,l=txtQ q)/\∃ b a1 n1 c1 a2 n2 c2,v = .tuple #[.agg #[.bool b,.slice a1 n1 c1,.slice a2 n2 c2],.bool false])
theorem natOne (w:World):NatV (w.alloc (.cells #[.int .u32 1] 209)) (.slice (some ⟨w.heap.size,0,none⟩) 1 1) 1:=by
 refine⟨_,_,[1],rfl,yL,.inr ⟨_,rfl,rfl,?_⟩,by simp [okL],by simp [normL],rfl⟩
 exact zDH w [.int .u32 1] 209
theorem NatO.cut {w:World} {B:Nat} {v:Value} {n:Nat} (h:NatO w B v n) : ∃ a l c,v = .slice a l c:=sliceV h.natV
theorem zD3 (l:List UInt8):(zAy l).2.length<=l.length:=by
 have:=zDQ l
 conv=>rhs;rw [this]
 rw [List.length_append];omega
theorem cut_len (l:List UInt8):(numL l).length<=l.length/\(frac l=true->(denL l).length<=l.length):=by
 have h:=zD3 l
 cases hf:frac l with
 | true =>
  have:=zF9 hf
  rw [this,List.length_append,List.length_cons] at h
  exact⟨by omega,fun _=>by omega⟩
 | false=>exact⟨by rw [(zE5 hf).2];exact h,fun e=>by cases e⟩
theorem val_nd {l:List UInt8} (h:l.all isDig=true) (h0:0<l.length):nd (val l)<=l.length:=(zA8 h0).2 (zDd h)
set_option maxHeartbeats 1000000 in
theorem c153 (a:BA) (hz:a.size<=1000000000) (w:World) (hg:Gl w):Ret prog 153 #[.string a] w fun v w'=>ReadR w' (bs a) v/\Ext w w':=by
 have h3:=(yE w).alloc (.cells #[.bool false,.slice none 0 0,.slice none 0 0] 184)
 have g3:=yN w [.bool false,.slice none 0 0,.slice none 0 0] 184
 have h2:=zD3 (bs a)
 have d8:=cut_len (bs a)
 rw [<- zAc] at h2 d8
 refine run153 _ _ _ (yC (c183 a _) ?_)
 rintro v w1 ⟨⟨s,rfl,hs⟩,rfl⟩
 have h8:s.size<=1000000000:=by rw [zAc,hs];omega
 refine⟨s,_,rfl,yC (c149 s (by omega) _ (hg.ext h3)) ?_⟩
 rintro v w2 ⟨⟨t,u,rfl,ht,hu⟩,e1⟩
 have g8:decide (((bs s).takeWhile (· != 47)).length<(bs s).length)=frac (bs a):=by rw [hs];rfl
 rw [g8]
 have x:bs t=numL (bs a):=by rw [ht,hs];rfl
 have g:frac (bs a)=true->bs u=denL (bs a):=fun h=>by
  rw [if_pos (by rw [hs];exact of_decide_eq_true h)] at hu
  rw [hu,hs];rfl
 have h9:t.size<=1000000000:=by rw [zAc,x];omega
 have e8:frac (bs a)=true->u.size<=1000000000:=fun h=>by rw [zAc,g h];have:=d8.2 h;omega
 have g4:=g3.ext e1
 refine⟨t,u,_,rfl,yC (c184 t (by omega) w2) ?_⟩
 rintro v w3 ⟨rfl,e2⟩
 have b9:=g4.ext e2
 have b6:Ext w w3:=Ext.from_alloc (e1.trans e2)
 refine⟨_,rfl,?_⟩
 have bad : ∀ W,Ext w W->Box W w.heap.size 184 [.bool false,.slice none 0 0,.slice none 0 0]->¬ OkR (bs a) ->
   writable W ⟨w.heap.size,0,none⟩ 3/\∃ b3 p k k1 p1 k2 k3,vcells (setCells W ⟨w.heap.size,0,none⟩ 0 [.bool false,.slice none 0 0,.slice none 0 0]) ⟨w.heap.size,0,none⟩ 0 [.bool b3,.slice p k k1,.slice p1 k2 k3] /\
    (ReadR (setCells W ⟨w.heap.size,0,none⟩ 0 [.bool false,.slice none 0 0,.slice none 0 0]) (bs a) (.tuple #[.agg #[.bool b3,.slice p k k1,.slice p1 k2 k3],.bool false])/\Ext w (setCells W ⟨w.heap.size,0,none⟩ 0 [.bool false,.slice none 0 0,.slice none 0 0])):=by
  intro W hW hB h0
  exact⟨hB.blk.writable (by decide),_,_,_,_,_,_,_,(hB.put _ (by rfl)).blk.all,.inr ⟨fun h=>h0 (okR_iff.2 h),_,_,_,_,_,_,_,rfl⟩,hW.put yL _ _⟩
 have g1:(t.toList==({ data:=#[48] } : BA).toList)=decide (numL (bs a)=[48]):=by rw [zAt,<- x];rfl
 rw [g1,x]
 refine zAb (fun f=>?_) (fun i=>?_)
 ·refine bad w3 b6 b9 fun n=>?_
  rw [n.num,Bool.not_true,Bool.false_or,Bool.and_eq_true,decide_eq_true_eq] at f
  obtain⟨z1,z2⟩:=n.zero f.1
  rw [z1,z2] at f
  simp at f
 have b1:canon (numL (bs a))=true:=by
  cases h:canon (numL (bs a)) with
  | true=>rfl
  | false=>rw [h] at i;simp at i
 have g0:numL (bs a)=[48]->(zAy (bs a)).1=false/\frac (bs a)=false:=fun e=>by
  rw [b1,decide_eq_true e,Bool.not_true,Bool.false_or,Bool.true_and,Bool.or_eq_false_iff] at i
  exact i
 obtain⟨e6,e7⟩:=zCg b1
 refine yC (c186 t (by rw [x];exact e6) (by omega) w3) ?_
 rintro v w4 ⟨e9,e3⟩
 obtain⟨p2,k4,k5,rfl⟩:=e9.cut
 have d0:=b9.ext e3
 have b7:=(yE w4).alloc (.cells #[.int .u32 1] 209)
 have b5:=(yE (w4.alloc (.cells #[.int .u32 1] 209))).alloc (.cells #[.bool false,.slice none 0 0,.slice none 0 0] 184)
 have hC:=yN (w4.alloc (.cells #[.int .u32 1] 209)) [.bool false,.slice none 0 0,.slice none 0 0] 184
 have a9:=((e9.natV.ext b7).ext b5).put hC (zAo _ _ _ _ _ _ _) [.bool (zAy (bs a)).1,.slice p2 k4 k5,.slice (some ⟨w4.heap.size,0,none⟩) 1 1] 0 0
 have d7:=((natOne w4).ext b5).put hC (zAo _ _ _ _ _ _ _) [.bool (zAy (bs a)).1,.slice p2 k4 k5,.slice (some ⟨w4.heap.size,0,none⟩) 1 1] 0 0
 have a8:=hC.put [.bool (zAy (bs a)).1,.slice p2 k4 k5,.slice (some ⟨w4.heap.size,0,none⟩) 1 1] rfl
 have h6:w.heap.size<w4.heap.size:=d0.lt
 have a1:=(d0.ext (b7.trans b5)).same (zAk (b:=(w4.alloc (.cells #[.int .u32 1] 209)).heap.size) (o:=0) (k:=w.heap.size) (by rw [size_alloc];omega) [.bool (zAy (bs a)).1,.slice p2 k4 k5,.slice (some ⟨w4.heap.size,0,none⟩) 1 1] 0)
 have a0:Ext w (setCells ((w4.alloc (.cells #[.int .u32 1] 209)).alloc (.cells #[.bool false,.slice none 0 0,.slice none 0 0] 184)) ⟨(w4.alloc (.cells #[.int .u32 1] 209)).heap.size,0,none⟩ 0 [.bool (zAy (bs a)).1,.slice p2 k4 k5,.slice (some ⟨w4.heap.size,0,none⟩) 1 1]) :=
  ((b6.trans e3).trans (b7.trans b5)).put (by rw [size_alloc];omega) _ _
 rw [x] at a9
 refine⟨_,_,_,rfl,hC.blk.writable (by decide),?_⟩
 have g7:w.heap.size<(w4.alloc (.cells #[.int .u32 1] 209)).heap.size:=by rw [size_alloc];omega
 have g9:=hg.ext a0
 generalize setCells ((w4.alloc (.cells #[.int .u32 1] 209)).alloc (.cells #[.bool false,.slice none 0 0,.slice none 0 0] 184)) ⟨(w4.alloc (.cells #[.int .u32 1] 209)).heap.size,0,none⟩ 0 [.bool (zAy (bs a)).1,.slice p2 k4 k5,.slice (some ⟨w4.heap.size,0,none⟩) 1 1]=Wp at a9 d7 a8 a1 a0 g9 ⊢
 generalize (w4.alloc (.cells #[.int .u32 1] 209)).heap.size=bc at a8 g7 ⊢
 refine zAb (fun e4=>?_) (fun e5=>?_)
 ·have hf:frac (bs a)=false:=by simpa using e4
  have n:OkR (bs a):=⟨b1,g0,fun h=>by rw [hf] at h;cases h⟩
  obtain⟨q,hq,q1,q2,q3⟩:=n.q
  have h1:q.den=1:=by rw [q3,(zE5 hf).1];rfl
  refine⟨_,_,_,_,_,_,_,a8.blk.all,a1.blk.writable (by decide),_,_,_,_,_,_,_,(a1.put _ (by rfl)).blk.all,.inl ⟨q,_,hq,rfl,_,_,_,_,_,_,by rw [q1],?_,?_⟩,a0.put yL _ _⟩
  ·rw [q2];exact a9.put a1 (zAo _ _ _ _ _ _ _) _ _ _
  ·rw [h1];exact d7.put a1 (zAo _ _ _ _ _ _ _) _ _ _
 ·have hf:frac (bs a)=true:=by simpa using e5
  have g:=g hf
  have e8:=e8 hf
  refine yC (c184 u (by omega) Wp) ?_
  rintro v w5 ⟨rfl,b2⟩
  have d4:=a1.ext b2
  have f8:=a0.trans b2
  have b8:(u.toList==({ data:=#[48] } : BA).toList)=decide (denL (bs a)=[48]):=by rw [zAt,<- g];rfl
  have g2:(u.toList==({ data:=#[49] } : BA).toList)=decide (denL (bs a)=[49]):=by rw [zAt,<- g];rfl
  rw [g,b8,g2]
  refine⟨_,rfl,zAb (fun f=>?_) (fun d=>?_)⟩
  ·refine bad w5 f8 d4 fun n=>?_
   obtain⟨d1,d2,d3,_⟩:=n.den hf
   rw [d1,decide_eq_false d2,decide_eq_false d3] at f
   simp at f
  have b0:canon (denL (bs a))=true:=by
   cases h:canon (denL (bs a)) with
   | true=>rfl
   | false=>rw [h] at d;simp at d
  rw [b0,Bool.not_true,Bool.false_or,Bool.or_eq_false_iff,decide_eq_false_iff_not,decide_eq_false_iff_not] at d
  obtain⟨d9,e0⟩:=zCg b0
  have h7:=val_pos b0 d.1
  refine yC (c186 u (by rw [g];exact d9) (by omega) w5) ?_
  rintro v w6 ⟨f7,b4⟩
  obtain⟨p9,l,m,rfl⟩:=f7.cut
  have a5:=(a8.ext b2).ext b4
  have g5:=d4.ext b4
  have g6:=(a9.ext b2).ext b4
  have d6:=f7.natV
  rw [g] at d6
  have h4:=f8.trans b4
  refine⟨_,_,_,rfl,⟨⟨_,a5.blk.cell (j:=2) rfl⟩,a5.blk.free⟩,fun K hK=>?_⟩
  have a7:=a5.set 2 (.slice p9 l m)
  have a3:=g6.put a5 (zAo _ _ _ _ _ _ _) [.slice p9 l m] 2 0
  have a2:=d6.put a5 (zAo _ _ _ _ _ _ _) [.slice p9 l m] 2 0
  rw [setCells,zAi] at a3 a2
  have d5:Box (w6.setCell ⟨bc,2,none⟩ (.slice p9 l m)) w.heap.size 184 [.bool false,.slice none 0 0,.slice none 0 0]:=g5.same (zA4 (by show w.heap.size≠bc;omega))
  have f9:Ext w (w6.setCell ⟨bc,2,none⟩ (.slice p9 l m)):=h4.setCell (by omega) _
  have a3:NatV (w6.setCell ⟨bc,2,none⟩ (.slice p9 l m)) (.slice p2 k4 k5) (val (numL (bs a))):=a3
  have a2:NatV (w6.setCell ⟨bc,2,none⟩ (.slice p9 l m)) (.slice p9 l m) (val (denL (bs a))):=a2
  generalize w6.setCell ⟨bc,2,none⟩ (.slice p9 l m)=W7 at a7 a3 a2 d5 f9 ⊢
  refine⟨_,_,_,_,_,_,_,(a7.ext (yE _).drew).blk.all,_,_,_,(a7.ext (yE _).drew).blk.cell (j:=1) rfl,_,_,_,(a7.ext (yE _).drew).blk.cell (j:=2) rfl,?_⟩
  have zn:nd (val (numL (bs a)))<=1000000000000:=by
   have:=val_nd e6 (List.length_pos_iff.2 e7)
   rw [<- x,<- zAc] at this
   rw [x] at this;omega
  have zd:nd (val (denL (bs a)))<=1000000000000:=by
   have:=val_nd d9 (List.length_pos_iff.2 e0)
   rw [<- g,<- zAc] at this
   rw [g] at this;omega
  refine yC (c187 _ a3.drew a2.drew ⟨zn,zd⟩) ?_
  rintro v w8 ⟨⟨i2,i0,i1,rfl⟩,hG,a4⟩
  refine⟨_,_,_,rfl,a4,yC (oneV w8 hG) ?_⟩
  rintro v w9 ⟨rfl,rfl⟩
  have a6:=(d5.ext (yE _).drew).ext a4
  have h5:=f9.drew.trans a4
  refine⟨_,rfl,a4,a6.blk.writable (by decide),hK _ _ ⟨_,_,_,_,_,_,_,(a6.put _ (by rfl)).blk.all,?_,h5.put yL _ _⟩⟩
  by_cases hgc:Nat.gcd (val (numL (bs a))) (val (denL (bs a)))=1
  ·have n:OkR (bs a):=⟨b1,g0,fun _=>⟨b0,d.1,d.2,hgc⟩⟩
   obtain⟨q,hq,q1,q2,q3⟩:=n.q
   refine .inl ⟨q,_,hq,by rw [decide_eq_true hgc],_,_,_,_,_,_,by rw [q1],?_,?_⟩
   ·rw [q2];exact (a3.drew.ext a4).put a6 (zAo _ _ _ _ _ _ _) _ _ _
   ·rw [q3];exact (a2.drew.ext a4).put a6 (zAo _ _ _ _ _ _ _) _ _ _
  ·refine .inr ⟨fun h=>hgc ((okR_iff.2 h).den hf).2.2.2,_,_,_,_,_,_,_,by rw [decide_eq_false hgc]⟩
end Go.Proofs.Si
namespace Go.Proofs.Si
open Go Go.V Go.Proofs Go.RowKit Go.Num Go.Proofs.Tryz
open Go.IntKind (i64 u64 u32 u8)
set_option maxRecDepth 100000
def SmallR (l:List UInt8) (v:Value):Prop :=
 (∃ q:Rat,l=txtQ q/\v = .tuple #[.agg #[.int .i64 q.num,.int .i64 (q.den:Int)],.bool true]/\q.num.natAbs<1000000000/\q.den<1000000000) \/
  ∃ n d:Int,v = .tuple #[.agg #[.int .i64 n,.int .i64 d],.bool false]
theorem val_lt9 {l:List UInt8} (h:l.all isDig=true) (h9:l.length<=9):val l<1000000000:=by
 have h1:=zDd h
 have h2:10 ^ l.length<=10 ^ 9:=Nat.pow_le_pow_right (by omega) h9
 omega
theorem parse9 (s:BA) (hc:canon (bs s)=true) (h9:s.size<=9) (w:World):Ret prog 150 #[.string s,.int .i64 10,.int .i64 64] w fun u w'=>u = .tuple #[.int .i64 (val (bs s):Int),.nilIface]/\Ext w w':=by
 obtain⟨h1,h2⟩:=zCg hc
 have h3:=val_lt9 h1 (by rw [<- zAc];exact h9)
 refine c150 s _ ?_ (by omega) w
 rw [zEQ h2 h1,if_pos (by omega)]
set_option maxHeartbeats 1000000 in
theorem c152 (a:BA) (hz:a.size<=1000000000) (w:World) (hg:Gl w):Ret prog 152 #[.string a] w fun v w'=>SmallR (bs a) v/\Ext w w':=by
 have d7:=(yE w).alloc (.cells #[.int .i64 0,.int .i64 0] 178)
 have d0:=yN w [.int .i64 0,.int .i64 0] 178
 have d6:=zD3 (bs a)
 rw [<- zAc] at d6
 refine run152 _ _ _ (yC (c183 a _) ?_)
 rintro v w1 ⟨⟨s,rfl,hs⟩,rfl⟩
 have e2:s.size<=1000000000:=by rw [zAc,hs];omega
 refine⟨s,_,rfl,yC (c149 s (by omega) _ (hg.ext d7)) ?_⟩
 rintro v w2 ⟨⟨t,u,rfl,ht,hu⟩,a7⟩
 have d4:decide (((bs s).takeWhile (· != 47)).length<(bs s).length)=frac (bs a):=by rw [hs];rfl
 rw [d4]
 have l:bs t=numL (bs a):=by rw [ht,hs];rfl
 have f:frac (bs a)=true->bs u=denL (bs a):=fun h=>by
  rw [if_pos (by rw [hs];exact of_decide_eq_true h)] at hu
  rw [hu,hs];rfl
 have x:=d0.ext a7
 have m:Ext w w2:=Ext.from_alloc a7
 refine⟨t,u,_,rfl,fun K hK=>?_⟩
 have b9:(t.toList==({ data:=#[48] } : BA).toList)=decide (numL (bs a)=[48]):=by rw [zAt,<- l];rfl
 have bad : ∀ W,Ext w W->Box W w.heap.size 178 [.int .i64 0,.int .i64 0] ->
   writable W ⟨w.heap.size,0,none⟩ 2/\∃ n n1,vcells (setCells W ⟨w.heap.size,0,none⟩ 0 [.int .i64 0,.int .i64 0]) ⟨w.heap.size,0,none⟩ 0 [.int .i64 n,.int .i64 n1] /\
    (SmallR (bs a) (.tuple #[.agg #[.int .i64 n,.int .i64 n1],.bool false])/\Ext w (setCells W ⟨w.heap.size,0,none⟩ 0 [.int .i64 0,.int .i64 0])):=by
  intro W hW hB
  exact⟨hB.blk.writable (by decide),_,_,(hB.put _ (by rfl)).blk.all,.inr ⟨_,_,rfl⟩,hW.put yL _ _⟩
 have g : ∀ W,Ext w W->Box W w.heap.size 178 [.int .i64 0,.int .i64 0]->K [.bool true] W:=fun W hW hB=>hK true W (by rw [cond_true];exact bad W hW hB)
 rw [b9]
 refine zAe (fun _=>by rw [Bool.true_or];exact g w2 m x) (fun h9=>zAe (fun _=>by rw [Bool.true_or];exact g w2 m x) (fun e0=>?_))
 refine yC (c184 t (by omega) w2) ?_
 rintro v w3 ⟨rfl,a8⟩
 have a1:=x.ext a8
 have b3:=m.trans a8
 refine⟨_,rfl,?_⟩
 rw [l]
 by_cases hbad:(!canon (numL (bs a))||decide (numL (bs a)=[48])&&((zAy (bs a)).1||frac (bs a)))=true
 ·rw [hbad];exact g w3 b3 a1
 have b:(!canon (numL (bs a))||decide (numL (bs a)=[48])&&((zAy (bs a)).1||frac (bs a)))=false:=by simpa using hbad
 rw [b]
 have j:canon (numL (bs a))=true:=by
  cases h:canon (numL (bs a)) with
  | true=>rfl
  | false=>rw [h] at b;simp at b
 have b8:numL (bs a)=[48]->(zAy (bs a)).1=false/\frac (bs a)=false:=fun e=>by
  rw [j,decide_eq_true e,Bool.not_true,Bool.false_or,Bool.true_and,Bool.or_eq_false_iff] at b
  exact b
 obtain⟨d5,d9⟩:=zCg j
 have e1:val (numL (bs a))<1000000000:=val_lt9 d5 (by rw [<- l,<- zAc];omega)
 refine hK false w3 ?_
 rw [cond_false]
 refine yC (parse9 t (by rw [l];exact j) (by omega) w3) ?_
 rintro v w4 ⟨rfl,a9⟩
 rw [l]
 have a2:=a1.ext a9
 have b4:=b3.trans a9
 refine⟨_,_,rfl,fun K1 d1=>?_⟩
 have fin : ∀ (d:Nat) (W:World),Ext w W->Box W w.heap.size 178 [.int .i64 0,.int .i64 0]->OkR (bs a)->val (denL (bs a))=d->d<1000000000->K1 [.int .i64 (d:Int)] W:=by
  intro d W hW hB k hd a6
  obtain⟨q,hq,q1,q2,q3⟩:=k.q
  refine d1 d W fun K2 d2=>?_
  have o:K2 [.int .i64 q.num] W:=by
   refine d2 _ ⟨hB.blk.writable (by decide),_,_,(hB.put _ (by rfl)).blk.all,.inl ⟨q,hq,by rw [q3,hd],by omega,by omega⟩,hW.put yL _ _⟩
  have p:q.num=sgn (zAy (bs a)).1 (val (numL (bs a))):=by
   rw [<- q1,<- q2,zCW]
  refine zAb (fun hn=>?_) (fun hn=>?_)
  ·have:i64.wrap (0 - (val (numL (bs a)):Int))=q.num:=by
    rw [zAd (by omega) (by omega),p,hn,sgn,if_pos rfl];omega
   rw [this];exact o
  ·have:(val (numL (bs a)):Int)=q.num:=by rw [p,hn,sgn,if_neg (by decide)]
   rw [this];exact o
 refine zAb (fun hf=>?_) (fun hf=>?_)
 ·have f:=f hf
  refine yC (c184 u (by omega) w4) ?_
  rintro v w5 ⟨rfl,b0⟩
  have a3:=a2.ext b0
  have b5:=b4.trans b0
  refine⟨_,rfl,?_⟩
  rw [f]
  refine zAb (fun _=>bad w5 b5 a3) (fun i=>?_)
  have i:canon (denL (bs a))=true:=by simpa using i
  obtain⟨d3,d8⟩:=zCg i
  have a6:val (denL (bs a))<1000000000:=val_lt9 d3 (by rw [<- f,<- zAc];omega)
  refine yC (parse9 u (by rw [f];exact i) (by omega) w5) ?_
  rintro v w6 ⟨rfl,b1⟩
  rw [f]
  have a4:=a3.ext b1
  have b6:=b5.trans b1
  refine⟨_,_,rfl,fun K3 a0=>zAe (fun _=>a0 true w6 (by rw [cond_true];exact bad w6 b6 a4)) (fun h2=>?_)⟩
  refine yC (c185 (val (numL (bs a))) (val (denL (bs a))) w6) ?_
  rintro v w7 ⟨rfl,b2⟩
  have a5:=a4.ext b2
  have b7:=b6.trans b2
  refine⟨_,rfl,?_⟩
  by_cases hgc:Nat.gcd (val (numL (bs a))) (val (denL (bs a)))=1
  ·have k:OkR (bs a):=⟨j,b8,fun _=>⟨i,fun e=>by rw [e] at h2;exact h2 (by decide),fun e=>by rw [e] at h2;exact h2 (by decide),hgc⟩⟩
   rw [hgc]
   exact a0 false w7 (by rw [cond_false];exact fin _ w7 b7 a5 k rfl a6)
  ·have:(((Nat.gcd (val (numL (bs a))) (val (denL (bs a))):Nat):Int) != 1)=true:=by
    rw [bne_iff_ne];omega
   rw [this]
   exact a0 true w7 (by rw [cond_true];exact bad w7 b7 a5)
 ·have k:OkR (bs a):=⟨j,b8,fun h=>by rw [hf] at h;cases h⟩
  exact fin 1 w4 b4 a2 k (by rw [(zE5 hf).1];rfl) (by omega)
end Go.Proofs.Si
