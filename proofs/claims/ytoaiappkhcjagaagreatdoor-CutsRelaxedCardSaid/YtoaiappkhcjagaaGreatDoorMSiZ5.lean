/- Part of the proof: SiZ5, SiZ6, SiZ7, SiZ8, SiZ9, TbK. -/
import Derived.Test.YtoaiappkhcjagaaGreatDoorMSiZ2
import Derived.Test.YtoaiappkhcjagaaGreatDoorSiV11
import Derived.Test.YtoaiappkhcjagaaGreatDoorMSiS15
set_option linter.unusedVariables false
set_option linter.unusedSimpArgs false
namespace Go.Proofs.Si
open Go Go.V Go.Proofs Go.RowKit Go.Num Go.Tb Go.Proofs.Tryz
set_option maxRecDepth 100000
open Classical in
noncomputable def uC (n:Nat) (C:Nat->Rat) (rel:Nat) (K:Rat):Nat->Rat:=if tOk n C rel K then tC n C else fun _=>0
open Classical in
noncomputable def uRel (n:Nat) (C:Nat->Rat) (rel:Nat) (K:Rat):Nat:=if tOk n C rel K then tRel n C rel else 1
open Classical in
noncomputable def uK (n:Nat) (C:Nat->Rat) (rel:Nat) (K:Rat):Rat:=if tOk n C rel K then tK n C rel K else ((-1:Int):Rat)
set_option maxHeartbeats 1000000 in
theorem c140 {C:Nat->Rat} {n rel d cc:Nat} {K:Rat} {ra:OA} (hn:n<=40) (hrel:1<=rel/\rel<=3) (hd:0<d/\d<=20000) (hC : ∀ j,j<n->dg d (C j)) (hK:dg 1000000 K) (w:World) (hQ:QS w ra C n) (hg:Gl w) :
  Ret prog 140 #[.int .i64 n,v90 ra n cc (rel:Int) K] w fun v w'=>∃ p c',v=v90 p n c' (uRel n C rel K:Nat) (uK n C rel K)/\w'.ownsRow w.heap.size 88 3 (.slice p n c') n (QL (uC n C rel K) n)/\Ext w w':=by
 have z1:=(yE w).alloc (.cells (r90 ra n cc rel K).toArray 90)
 have bA:=yN w (r90 ra n cc rel K) 90
 refine run140 _ _ _ _ _ _ _ _ _ _ ?_
 unfold vc140
 rw [show (Obj.cells #[Value.slice ra n cc,.int .i64 (rel:Int),.int .i64 (qn K),.int .i64 (ql K),.string (qb K)] 90) = .cells (r90 ra n cc rel K).toArray 90 from rfl]
 generalize w.alloc (.cells (r90 ra n cc rel K).toArray 90)=W1 at z1 bA ⊢
 have z2:=(yE W1).alloc (.cells z90.toArray 90)
 have bO:=yN W1 z90 90
 rw [show (Obj.cells #[Value.slice none 0 0,.int .i64 0,.int .i64 0,.int .i64 0,.string { data:=#[] }] 90) = .cells z90.toArray 90 from rfl]
 have u:=bA.ext z2
 have lA:=bA.lt
 generalize W1.alloc (.cells z90.toArray 90)=W2 at z2 bO u ⊢
 have lO:=bO.lt
 have g:=z1.trans z2
 refine⟨_,_,_,_,_,_,_,u.blk.all,yC (c97 hn hrel hd hC hK W2 (hQ.ext g) (hg.ext g)) ?_⟩
 rintro v w1 ⟨p,c',b,rfl,hb,a5,a2⟩
 have a9:=g.trans a2
 have x:=bO.ext a2
 have b1:=x.lt
 have bT:=yN w1 z90 90
 have zT:=(yE w1).alloc (.cells z90.toArray 90)
 refine⟨_,_,_,_,_,_,_,_,rfl,bT.blk.writable (by decide),?_⟩
 have bP:=bT.put (r90 p n c' (tRel n C rel:Nat) (tK n C rel K)) (by rfl)
 have eP:Ext w1 (setCells (w1.alloc (.cells z90.toArray 90)) ⟨w1.heap.size,0,none⟩ 0 (r90 p n c' (tRel n C rel:Nat) (tK n C rel K))):=zT.put yL _ _
 have f:=x.ext eP
 have i:=a9.trans eP
 refine zAb (fun a6=>?_) (fun a1=>?_)
 ·have s:=hb.1 a6
  have l:=zAm a5 eP
  have hP:=f.put (r90 p n c' (tRel n C rel:Nat) (tK n C rel K)) (by rfl)
  refine⟨_,_,_,_,_,_,_,bP.blk.all,f.blk.writable (by decide),_,_,_,_,_,_,_,hP.blk.all,p,c',?_,?_,i.put (Nat.le_of_lt lA) _ _⟩
  ·unfold uRel uK;rw [if_pos s,if_pos s];rfl
  ·unfold uC;rw [if_pos s]
   exact zBo (zAZ l fun k' a7=>zAh k' fun e=>zA2 l f (by decide) (e▸a7)) g.size
 ·have m : ¬ tOk n C rel K:=fun h=>by rw [hb.2 h] at a1;cases a1
  refine yC (c142 (k := -1) (by omega) (by decide) _ (hg.ext i)) ?_
  rintro v w2 ⟨bz,rfl,a4,hq,a3⟩
  have a0:=f.ext a3
  have hP:=a0.put (r90 (some ⟨bz,0,none⟩) n n 1 ((-1:Int):Rat)) (by rfl)
  have b0:=i.trans a3
  have sP:=eP.size
  refine⟨_,_,_,_,_,_,_,rfl,a0.blk.writable (by decide),_,_,_,_,_,_,_,hP.blk.all,some ⟨bz,0,none⟩,n,?_,?_,b0.put (Nat.le_of_lt lA) _ _⟩
  ·unfold uRel uK;rw [if_neg m,if_neg m];rfl
  ·unfold uC;rw [if_neg m]
   have a8:bz≠W1.heap.size:=Nat.ne_of_gt (Nat.lt_trans f.lt a4)
   have hB:=hq.same (zAk (b:=W1.heap.size) (o:=0) (k:=bz) a8 (r90 (some ⟨bz,0,none⟩) n n 1 ((-1:Int):Rat)) 0)
   exact zBo (zET (n:=n) (size:=3) hB (by rw [zAL,Nat.mul_comm]) (by unfold maxLen;omega)) (Nat.le_of_lt (Nat.lt_of_le_of_lt i.size a4))
set_option maxHeartbeats 1000000 in
theorem c96 {X:TX} {A:TA} {n:Int} {i:Nat} (hX:Tame X) (hi:i<X.m) (w:World) (hs:SS w (A.cA i) (X.C i) (X.n i)) (hg:Gl w) :
  Ret prog 96 #[.int .i64 n,.agg #[.slice (A.cA i) (X.n i) (A.cC i),.int .i64 (X.rel i),.string (X.K i)]] w fun v w'=>(∃ b,v = .bool b/\(b=true↔okRow X n i))/\Ext w w':=by
 have d:=(yE w).alloc (.cells (rtc X A i).toArray 49)
 have bA:=yN w (rtc X A i) 49
 refine run96 _ _ _ _ _ _ _ _ fun K hK=>⟨_,_,_,bA.blk.cell (j:=0) rfl,?_⟩
 have no : ∀ w2,Ext w w2->¬ okRow X n i->K [.bool false] w2:=fun w2 h2 h=>hK false w2 ⟨⟨false,rfl,by simp [h]⟩,h2⟩
 refine zAb (fun h1=>?_) (fun h1=>no _ d fun h=>by rw [show ((X.n i:Int)==n)=true by simpa using h.1] at h1;cases h1)
 have h1:(X.n i:Int)=n:=by simpa using h1
 refine⟨_,bA.blk.cell (j:=1) rfl,zAe (fun h2=>?_) (fun h2=>no _ d fun h=>h2 h.2.1)⟩
 refine⟨_,bA.blk.cell (j:=1) rfl,zAe (fun h3=>?_) (fun h3=>no _ d fun h=>h3 h.2.2.1)⟩
 refine⟨_,_,_,bA.blk.cell (j:=0) rfl,yC (c62 (Nat.le_trans (hX.n i hi) (by decide)) _ (hs.ext d) (fun j hj=>Nat.le_trans (hX.c i hi j hj) (by decide)) (hg.ext d)) ?_⟩
 rintro v w2 ⟨⟨b1,rfl,g⟩,l⟩
 have f:=d.trans l
 refine⟨_,rfl,zAb (fun h4=>?_) (fun h4=>no _ f fun h=>by rw [g.2 h.2.2.2.1] at h4;cases h4)⟩
 have h4:=g.1 h4
 have z:=(yE w2).alloc (.cells #[.string (X.K i)] 9)
 have u:SS (w2.alloc (.cells #[.string (X.K i)] 9)) (some ⟨w2.heap.size,0,none⟩) (fun _=>X.K i) 1:=(yN w2 [.string (X.K i)] 9).blk.sl
 refine⟨_,(bA.ext l).blk.cell (j:=2) rfl,yC (c62 (s:=fun _=>X.K i) (n:=1) (by decide) _ u (fun j hj=>Nat.le_trans (hX.k i hi) (by decide)) (hg.ext (f.trans z))) ?_⟩
 rintro v w3 ⟨⟨b2,rfl,o⟩,p⟩
 refine⟨_,rfl,hK _ _ ⟨⟨b2,rfl,?_⟩,(f.trans z).trans p⟩⟩
 rw [o]
 exact⟨fun h=>⟨h1,h2,h3,h4,h 0 (by omega)⟩,fun h _ _=>h.2.2.2.2⟩
set_option maxHeartbeats 1000000 in
theorem c92 {X:TX} {A:TA} {n:Int} {a:OA} {c:Nat} (hX:Tame X) (w:World) (hR:RowsT w a X A) (hg:Gl w) :
  Ret prog 92 #[.int .i64 n,.slice a X.m c] w fun v w'=>(∃ b,v = .bool b/\(b=true↔okRows X n))/\Ext w w':=by
 refine run92 _ _ _ _ _ _ fun K hK=>?_
 have key : ∀ b:Bool,(b=true↔¬ (0<=n/\n<=40/\X.m<=200))->K [.bool b] w:=by
  intro b hb
  refine hK b (zAb (fun h=>⟨⟨false,rfl,by simp only [Bool.false_eq_true,false_iff];exact fun h2=>(hb.1 h) ⟨h2.1,h2.2.1,h2.2.2.1⟩⟩,yE _⟩) (fun h=>?_))
  have f:0<=n/\n<=40/\X.m<=200:=Classical.byContradiction fun h2=>by rw [hb.2 h2] at h;cases h
  refine⟨fun vals w1=>∃ i:Nat,vals=[.int .i64 i]/\i<=X.m/\(∀ k,k<i->okRow X n k)/\Ext w w1,mu1 X.m,⟨0,rfl,Nat.zero_le _,fun k hk=>by omega,yE _⟩,?_⟩
  rintro m w1 ⟨i,hv,hi,g,he⟩
  cases hv
  refine zAe (fun p=>?_) (fun o=>⟨⟨true,rfl,by simp only [true_iff];exact⟨f.1,f.2.1,f.2.2,fun k hk=>g k (by omega)⟩⟩,he⟩)
  have d:i<X.m:=by omega
  obtain⟨ad,ha,hc⟩:=(hR.ext he).get d
  have bN:=yN w1 [Value.slice none 0 0,.int .i64 0,.string { data:=#[] }] 49
  have bP:=bN.put (rtc X A i) (by rfl)
  have hx:Ext w (setCells (w1.alloc (.cells [Value.slice none 0 0,.int .i64 0,.string { data:=#[] }].toArray 49)) ⟨w1.heap.size,0,none⟩ 0 (rtc X A i)):=(he.alloc _).put he.size _ _
  refine⟨ad,ha,⟨by omega,by omega⟩,_,_,_,_,_,hc,bN.blk.writable (by decide),_,_,_,_,_,bP.blk.all,yC (c96 hX d _ ((hR.ext hx).2 i d) (hg.ext hx)) ?_⟩
  rintro v w2 ⟨⟨b1,rfl,j⟩,l⟩
  refine⟨_,rfl,?_⟩
  cases b1 with
  | false=>exact⟨⟨false,rfl,by simp only [Bool.false_eq_true,false_iff];exact fun h2=>by have:=j.2 (h2.2.2.2 i d);cases this⟩,hx.trans l⟩
  | true =>
   rw [Bool.not_true,cond_false,zAf (by omega)]
   refine⟨⟨i+1,rfl,d,fun k hk=>?_,hx.trans l⟩,by simp only [mu1,yT];omega⟩
   by_cases e:k=i
   ·rw [e];exact j.1 rfl
   ·exact g k (by omega)
 refine zAb (fun h=>key true (by simp only [true_iff];rw [Bool.or_eq_true,decide_eq_true_eq,decide_eq_true_eq] at h;omega)) (fun h=>key _ ?_)
 rw [Bool.or_eq_false_iff,decide_eq_false_iff_not,decide_eq_false_iff_not] at h
 rw [decide_eq_true_eq]
 omega
set_option maxHeartbeats 1000000 in
theorem c98 {X:TX} {A:TA} {i:Nat} {f:Nat->Rat} {q:Rat} (hX:Tame X) (hi:i<X.m) (hf : ∀ j,j<X.n i->bs (X.C i j)=txtQ (f j)) (hq:bs (X.K i)=txtQ q) (w:World) (hs:SS w (A.cA i) (X.C i) (X.n i)) (hg:Gl w) :
  Ret prog 98 #[.agg #[.slice (A.cA i) (X.n i) (A.cC i),.int .i64 (X.rel i),.string (X.K i)]] w fun v w'=>∃ b,v=v90 (some ⟨b,0,none⟩) (X.n i) (X.n i) (X.rel i) q/\w.heap.size<=b/\Box w' b 88 (QL f (X.n i))/\Ext w w':=by
 have z1:=(yE w).alloc (.cells (rtc X A i).toArray 49)
 have bA:=yN w (rtc X A i) 49
 refine run98 _ _ _ _ _ _ _ fun K hK=>?_
 change ∃ p1 k2 k3,((w.alloc (.cells (rtc X A i).toArray 49)).alloc (.cells z90.toArray 90)).drew.cell? _=some (.slice p1 k2 k3)/\∃ n3,((w.alloc (.cells (rtc X A i).toArray 49)).alloc (.cells z90.toArray 90)).drew.cell? _=some (.int .i64 n3)/\∃ s1,((w.alloc (.cells (rtc X A i).toArray 49)).alloc (.cells z90.toArray 90)).drew.cell? _=some (.string s1)/\Called _ _ _ ((w.alloc (.cells (rtc X A i).toArray 49)).alloc (.cells z90.toArray 90)).drew _
 have z2:=(yE (w.alloc (.cells (rtc X A i).toArray 49))).alloc (.cells z90.toArray 90)
 have hd:=(yE ((w.alloc (.cells (rtc X A i).toArray 49)).alloc (.cells z90.toArray 90))).drew
 have l:=(bA.ext z2).ext hd
 have bO:=(yN (w.alloc (.cells (rtc X A i).toArray 49)) z90 90).ext hd
 have g:=(z1.trans z2).trans hd
 have lA:=bA.lt
 have lO:=bO.lt
 refine⟨_,_,_,l.blk.cell (j:=0) rfl,_,l.blk.cell (j:=1) rfl,_,l.blk.cell (j:=2) rfl,yC (c64 (hX.n i hi) _ (hs.ext g) (fun j hj=>Nat.le_trans (hX.c i hi j hj) (by decide)) hf (hg.ext g)) ?_⟩
 rintro v w2 ⟨rfl,hL,d⟩
 refine⟨_,_,_,rfl,d,yC (c104 hq (Nat.le_trans (hX.k i hi) (by decide)) w2 (hg.ext (g.trans d))) ?_⟩
 rintro v w3 ⟨rfl,h⟩
 have p:=(bO.ext d).ext h
 have s:=hL.ext h
 have hP:=p.put (r90 (some ⟨((w.alloc (.cells (rtc X A i).toArray 49)).alloc (.cells z90.toArray 90)).drew.heap.size,0,none⟩) (X.n i) (X.n i) (X.rel i) q) (by rfl)
 refine⟨_,_,_,rfl,d.trans h,p.blk.writable (by decide),hK _ ⟨_,_,_,_,_,_,_,hP.blk.all,_,rfl,g.size,?_,((g.trans d).trans h).put (Nat.le_of_lt lA) _ _⟩⟩
 exact s.same (zAk (b:=(w.alloc (.cells (rtc X A i).toArray 49)).heap.size) (o:=0) (k:=((w.alloc (.cells (rtc X A i).toArray 49)).alloc (.cells z90.toArray 90)).drew.heap.size) (Nat.ne_of_gt lO) _ 0)
def oneX (X:TX) (i:Nat):TX:={ m:=1,n:=fun _=>X.n i,C:=fun _=>X.C i,rel:=fun _=>X.rel i,K:=fun _=>X.K i }
def oneA (A:TA) (i:Nat):TA:={ cA:=fun _=>A.cA i,cC:=fun _=>A.cC i }
noncomputable def rC (X:TX) (i:Nat):Nat->Rat:=fun j=>rd (X.C i j)
noncomputable def rK (X:TX) (i:Nat):Rat:=rd (X.K i)
def rR (X:TX) (i:Nat):Nat:=(X.rel i).toNat
def okT (X:TX) (i:Nat):Prop:=X.n i<=40/\okRow X (X.n i:Nat) i
def sm60 (X:TX) (i:Nat):Prop:=(X.K i).size<=60/\X.n i<=60/\∀ j,j<X.n i->(X.C i j).size<=60
def TigX (X:TX) (i:Nat) (w:World) (v:Value):Prop :=
 (¬ okT X i/\v = .tuple #[.agg #[nsl,.int .i64 0,.string { data:=#[] }],.bool false,.int .i64 1]) \/
 (okT X i/\((¬ tOk (X.n i) (rC X i) (rR X i) (rK X i)/\v = .tuple #[.agg #[nsl,.int .i64 0,.string { data:=#[] }],.bool false,.int .i64 0]) \/
  (tOk (X.n i) (rC X i) (rR X i) (rK X i)/\∃ p c sK,v = .tuple #[.agg #[.slice p (X.n i) c,.int .i64 (tRel (X.n i) (rC X i) (rR X i):Nat),.string sK],.bool true,.int .i64 0]/\bs sK=txtQ (tK (X.n i) (rC X i) (rR X i) (rK X i))/\w.ownsRow 0 9 1 (.slice p (X.n i) c) (X.n i) (SL (fun j=>mk (txtQ (tC (X.n i) (rC X i) j))) (X.n i)))))
set_option maxHeartbeats 4000000 in
theorem c48 {X:TX} {A:TA} {i:Nat} (hs6:sm60 X i) (w:World) (hS:SS w (A.cA i) (X.C i) (X.n i)) :
  Ret prog 48 #[.agg #[.slice (A.cA i) (X.n i) (A.cC i),.int .i64 (X.rel i),.string (X.K i)]] w fun v w'=>TigX X i w' v/\Ext w w':=by
 have z1:=(yE w).alloc (.cells (rtc X A i).toArray 49)
 have bA:=yN w (rtc X A i) 49
 refine run48 _ _ _ _ _ _ _ ?_
 unfold vc48
 rw [show (Obj.cells #[Value.slice (A.cA i) (X.n i) (A.cC i),.int .i64 (X.rel i),.string (X.K i)] 49) = .cells (rtc X A i).toArray 49 from rfl]
 generalize w.alloc (.cells (rtc X A i).toArray 49)=W1 at z1 bA ⊢
 have z2:=(yE W1).alloc (.cells zrow.toArray 49)
 have bO:=yN W1 zrow 49
 rw [show (Obj.cells #[Value.slice none 0 0,.int .i64 0,.string { data:=#[] }] 49) = .cells zrow.toArray 49 from rfl]
 have d9:=bA.ext z2
 have lA:=bA.lt
 generalize W1.alloc (.cells zrow.toArray 49)=W2 at z2 bO d9 ⊢
 have lO:=bO.lt
 have l6:=z1.trans z2
 obtain⟨n,u5⟩ : ∃ n,n=X.n i:=⟨_,rfl⟩
 intro K hK
 have t1:Tame (oneX X i):={ n:=fun _ _=>Nat.le_trans hs6.2.1 (by decide),c:=fun _ _ j hj=>Nat.le_trans (hs6.2.2 j hj) (by decide),k:=fun _ _=>Nat.le_trans hs6.1 (by decide) }
 have no : ∀ (b:Bool) w2,Ext W2 w2->b=true->¬ okT X i->K [.bool b] w2:=by
  intro b w2 h2 hb l1
  subst hb
  refine hK true w2 ?_
  rw [cond_true]
  have m1:=bO.ext h2
  have hP:=m1.put zrow (by rfl)
  exact⟨m1.blk.writable (by decide),_,_,_,_,_,hP.blk.all,.inl ⟨l1,rfl⟩,(l6.trans h2).put (Nat.le_of_lt lA) _ _⟩
 refine⟨_,_,_,d9.blk.cell (j:=0) rfl,?_⟩
 by_cases hn40:X.n i<=40
 rotate_left
 ·rw [decide_eq_true (by omega),cond_true]
  exact no true _ (yE _) rfl fun h=>hn40 h.1
 rw [decide_eq_false (by omega),cond_false]
 refine⟨_,_,_,d9.blk.cell (j:=0) rfl,_,_,_,_,_,d9.blk.all,yC (c39 (X:=oneX X i) (A:=oneA A i) (i:=0) (n:=((X.n i:Nat):Int)) t1 Nat.one_pos W2 (hS.ext l6)) ?_⟩
 rintro v q9 ⟨⟨b4,rfl,n3⟩,d1⟩
 refine⟨_,rfl,?_⟩
 cases b4 with
 | false=>exact no _ _ d1 rfl fun h=>by have:=n3.2 h.2;cases this
 | true =>
 have o8:okRow X (X.n i:Nat) i:=n3.1 rfl
 have d2:okT X i:=⟨hn40,o8⟩
 refine hK (!true) q9 ?_
 rw [Bool.not_true,cond_false]
 obtain⟨_,u6,u7,i2,i5⟩:=o8
 have g0:=l6.trans d1
 have e4:=d9.ext d1
 have m3:=bO.ext d1
 have a8 : ∀ j,j<X.n i->bs (X.C i j)=txtQ (rC X i j):=fun j hj=>rd_ok (i2 j hj)
 have j9:bs (X.K i)=txtQ (rK X i):=rd_ok i5
 have g8 : ∀ j,j<X.n i->dg 61 (rC X i j):=fun j hj=>rd_dg (i2 j hj) (hs6.2.2 j hj)
 have j8:dg 61 (rK X i):=rd_dg i5 hs6.1
 have n1:X.rel i=(rR X i:Nat):=by unfold rR;omega
 have p0:1<=rR X i/\rR X i<=3:=by unfold rR;omega
 have wno : ∀ w2,Ext w w2->Box w2 W1.heap.size 49 zrow->¬ tOk (X.n i) (rC X i) (rR X i) (rK X i)->writable w2 ⟨W1.heap.size,0,none⟩ 3/\∃ p k k1 n s,vcells (setCells w2 ⟨W1.heap.size,0,none⟩ 0 [.slice none 0 0,.int .i64 0,.string { data:=#[] }]) ⟨W1.heap.size,0,none⟩ 0 [.slice p k k1,.int .i64 n,.string s]/\TigX X i (setCells w2 ⟨W1.heap.size,0,none⟩ 0 [.slice none 0 0,.int .i64 0,.string { data:=#[] }]) (.tuple #[.agg #[.slice p k k1,.int .i64 n,.string s],.bool false,.int .i64 0])/\Ext w (setCells w2 ⟨W1.heap.size,0,none⟩ 0 [.slice none 0 0,.int .i64 0,.string { data:=#[] }]):=by
  intro w2 h2 hB l1
  have hP:=hB.put zrow (by rfl)
  exact⟨hB.blk.writable (by decide),_,_,_,_,_,hP.blk.all,.inr ⟨d2,.inl ⟨l1,rfl⟩⟩,h2.put (Nat.le_of_lt lA) _ _⟩
 refine⟨_,_,_,e4.blk.cell (j:=0) rfl,yC (c80 (Nat.le_trans hs6.2.1 (by decide)) q9 (hS.ext g0)) ?_⟩
 rintro v w2 ⟨⟨b1,rfl,n2⟩,rfl⟩
 have g2:(b1=true)↔∀ j,j<X.n i->rC X i j=0:=by
  rw [n2]
  exact⟨fun h j hj=>zA0 (by rw [<- a8 j hj,h j hj,txtQ_zero]),fun h j hj=>by rw [a8 j hj,h j hj,txtQ_zero]⟩
 refine⟨_,rfl,zAb (fun n6=>?_) (fun n5=>?_)⟩
 ·have hz:=g2.1 n6
  have o5:Few (sysX (oneX X i) (X.n i)):=by unfold Few;show X.n i+1<=1048576;omega
  have s6:Reads (oneX X i) (sysX (oneX X i) (X.n i)):=zCX fun k hk=>d2.2
  have f8 : ∀ j,j<X.n i->(sysX (oneX X i) (X.n i)).C 0 j*rC X i j=0:=fun j hj=>by rw [hz j hj,Rat.mul_zero]
  have j1 : ∀ k,k<=X.n i->(sumN k fun j=>(sysX (oneX X i) (X.n i)).C 0 j*rC X i j)=0:=fun k hk=>zAY fun j hj=>f8 j (by omega)
  refine⟨_,_,_,_,_,e4.blk.all,_,_,_,e4.blk.cell (j:=0) rfl,yC (c42 (X:=oneX X i) (A:=oneA A i) (S:=sysX (oneX X i) (X.n i)) (i:=0) (x:=rC X i) o5 t1 s6 Nat.one_pos rfl a8 (fun j hj=>Nat.le_trans (hs6.2.2 j hj) (by decide)) (fun j hj=>by rw [f8 j hj];exact zBs (by decide)) (fun k hk=>by rw [j1 k hk];exact zBs (by decide)) w2 (hS.ext g0) (hS.ext g0)) ?_⟩
  rintro v w3 ⟨⟨b2,rfl,k2⟩,k8⟩
  have l7:=g0.trans k8
  have r1:=e4.ext k8
  have m4:=m3.ext k8
  have s5:meets (sysX (oneX X i) (X.n i)) (rC X i) 0↔tOk (X.n i) (rC X i) (rR X i) (rK X i):=by
   have e0:lhs (sysX (oneX X i) (X.n i)) (rC X i) 0=0:=j1 _ yL
   have eK:(sysX (oneX X i) (X.n i)).K 0=rK X i:=rfl
   have eR:(sysX (oneX X i) (X.n i)).rel 0=rR X i:=rfl
   unfold meets tOk
   rw [if_pos hz,e0,eK,eR]
   constructor
   ·rintro⟨h1,h2,h3⟩
    rcases (show rR X i=1\/rR X i=2\/rR X i=3 by omega) with h | h | h
    ·exact .inl ⟨h,h1⟩
    ·exact .inr (.inl ⟨h,h2 h⟩)
    ·exact .inr (.inr ⟨h,(h3 h).symm⟩)
   ·rintro (⟨h,h1⟩ | ⟨h,h1⟩ | ⟨h,h1⟩)
    ·exact⟨h1,fun e=>by omega,fun e=>by omega⟩
    ·exact⟨Rat.le_of_lt h1,fun _=>h1,fun e=>by omega⟩
    ·exact⟨by rw [h1];exact Rat.le_refl,fun e=>by omega,fun _=>h1.symm⟩
  rw [s5] at k2
  refine⟨_,rfl,?_⟩
  cases b2 with
  | false =>
   rw [Bool.not_false,cond_true]
   exact wno w3 l7 m4 fun h=>by have:=k2.2 h;cases this
  | true =>
   rw [Bool.not_true,cond_false]
   have p9:=k2.1 rfl
   have zE:=(yE w3).alloc (.cells #[] 9)
   refine⟨_,_,_,(r1.ext zE).blk.cell (j:=0) rfl,_,_,_,copy_ok (hS.ext l7) (by omega),?_⟩
   intro p6 q7 w4 r
   obtain⟨_,o3⟩:=copy_res r
   have j6:=m4.ext o3
   have hP:=j6.put [.slice p6 (0+X.n i) q7,.int .i64 1,.string { data:=#[48] }] (by rfl)
   refine⟨j6.blk.writable (by decide),_,_,_,_,_,hP.blk.all,.inr ⟨d2,.inr ⟨p9,p6,q7,{ data:=#[48] },?_,?_,?_⟩⟩,(l7.trans o3).put (Nat.le_of_lt lA) _ _⟩
   ·have e1:tRel (X.n i) (rC X i) (rR X i)=1:=by unfold tRel;rw [if_pos hz]
    rw [e1,Nat.zero_add];rfl
   ·have e2:tK (X.n i) (rC X i) (rR X i) (rK X i)=0:=by unfold tK;rw [if_pos hz]
    rw [e2,txtQ_zero];rfl
   ·have ho:=r.own
    rw [List.nil_append,Nat.zero_add] at ho
    have e3:SL (X.C i) (X.n i)=SL (fun j=>mk (txtQ (tC (X.n i) (rC X i) j))) (X.n i):=zA6 fun j hj=>by
     show Value.string _=Value.string (mk (txtQ (tC (X.n i) (rC X i) j)))
     have:tC (X.n i) (rC X i) j=0:=by unfold tC;rw [if_pos hz]
     rw [this,txtQ_zero,<- n2.1 n6 j hj,mk_bs]
    rw [e3] at ho
    rw [Nat.zero_add]
    exact zBo (zAZ ho fun k' k9=>zAh k' fun e=>zA2 ho j6 (by decide) (e▸k9)) (Nat.zero_le _)
 have l2 : ∃ j,j<X.n i/\rC X i j≠0:=Classical.byContradiction fun h=>by
  have:b1=true:=g2.2 fun j hj=>Classical.byContradiction fun e=>h ⟨j,hj,e⟩
  rw [this] at n5;cases n5
 have a2 : ¬ ∀ j,j<X.n i->rC X i j=0:=fun h=>by obtain⟨j,hj,e⟩:=l2;exact e (h j hj)
 obtain⟨C,hC⟩ : ∃ C,C=rC X i:=⟨_,rfl⟩
 obtain⟨q,hq⟩ : ∃ q,q=rK X i:=⟨_,rfl⟩
 obtain⟨rel,l3⟩ : ∃ rel,rel=rR X i:=⟨_,rfl⟩
 obtain⟨l,hl⟩ : ∃ l,l=lcmD C (X.n i):=⟨_,rfl⟩
 obtain⟨g,e9⟩ : ∃ g,g=gcdD C l (X.n i):=⟨_,rfl⟩
 rw [<- hC] at l2 a2 a8 g8
 rw [<- hq] at j9 j8
 rw [<- l3] at n1 p0
 have s3:0<l:=by rw [hl];exact zCu C _
 have s2:g≠0:=by rw [e9];exact zFa s3 l2
 have h5:((g:Nat):Rat)≠0:=fun h=>s2 (by exact_mod_cast h)
 have k5 : ∀ k,k<=X.n i->(dec (lcmD C k)).length<=2441:=fun k hk=>by
  have h1:=zDA (C:=C) (d:=61) (n:=k) fun j hj=>g8 j (by omega)
  omega
 have k4:dg 2441 ((l:Nat):Rat):=zCF (hl▸k5 _ yL)
 have j7 : ∀ j,j<X.n i->dg 2503 (C j*((l:Nat):Rat)):=fun j hj=>((g8 j hj).mul k4).mono (by decide)
 have e7 : ∀ k,k<=X.n i->(dec (gcdD C l k)).length<=2503:=fun k hk=>zDE (by decide) fun j hj=>j7 j (by omega)
 obtain⟨f,hf⟩ : ∃ f,f=facT (X.n i) C:=⟨_,rfl⟩
 have o4:f=((l:Nat):Rat)*(((g:Nat):Rat))⁻¹:=by rw [hf,e9,hl];rfl
 have r7:dg 4946 f:=by
  rw [o4,e9]
  exact (k4.mul (zCF (e7 _ yL)).inv).mono (by decide)
 have n7:dg 5008 (q*f):=(j8.mul r7).mono (by decide)
 have assoc : ∀ x:Rat,x*((l:Nat):Rat)*(((g:Nat):Rat))⁻¹=x*f:=fun x=>by rw [o4,Rat.mul_assoc]
 have s7 : ∀ j,tC (X.n i) C j=C j*f:=fun j=>by unfold tC;rw [if_neg a2,<- hf]
 have l5:tRel (X.n i) C rel=if rel=3 then 3 else 1:=by unfold tRel;rw [if_neg a2]
 have l4:tK (X.n i) C rel q=if rel=3 then q*f else if rel=2 then ((-(flo (-(q*f))) - 1:Int):Rat) else ((flo (q*f):Int):Rat):=by unfold tK;rw [if_neg a2,<- hf]
 have h9:tOk (X.n i) C rel q↔(rel=3->(q*f).den=1):=by unfold tOk;rw [if_neg a2,<- hf]
 have sz : ∀ {k:Nat} {x:Rat} {u:BA},dg k x->bs u=txtQ x->u.size<=2*k+2:=fun h hu=>zBV h hu
 have szn : ∀ {u:BA} {m k:Nat},bs u=dec m->(dec m).length<=k->u.size<=k:=fun hu h=>by rw [zAc,hu];exact h
 refine⟨fun vals w5=>∃ (j:Nat) (s:BA),vals=[.int .i64 j,.string s]/\j<=X.n i/\bs s=dec (lcmD C j)/\Ext w2 w5,mu1 (X.n i),⟨0,_,rfl,Nat.zero_le _,by rw [lcmD,zBx];rfl,yE _⟩,?_⟩
 rintro m s4 w5 ⟨j,s,hv,hj,hs,h0⟩
 cases hv
 have j3:=e4.ext h0
 have p7:=g0.trans h0
 refine⟨_,_,_,j3.blk.cell (j:=0) rfl,zAe (fun f7=>?_) (fun o6=>?_)⟩
 ·have o:j<X.n i:=by omega
  obtain⟨ad,ha,hc⟩:=(hS.ext p7).get o
  refine⟨_,_,_,j3.blk.cell (j:=0) rfl,ad,ha,⟨by omega,f7⟩,_,hc,yC (c86 (a8 j o) (Nat.le_trans (hs6.2.2 j o) (by decide)) w5) ?_⟩
  rintro v w6 ⟨⟨u,rfl,hu⟩,r9⟩
  have r8:(dec (C j).den).length<=61:=(g8 j o).2
  have zu:=szn (u:=u) (by rw [hu,zBe]) r8
  have zs:=szn hs (k5 j (by omega))
  have m8:=c85 (a:=s4) (b:=u) (x:=((lcmD C j:Nat):Int)) (y:=(((C j).den:Nat):Int)) (by rw [hs,Rat.intCast_natCast,zBe]) (by rw [hu,Rat.intCast_natCast]) (by have:=zCu C j;omega) (by have:=(C j).den_pos;omega) ⟨by omega,by omega⟩ w6
  rw [Int.natAbs_natCast,Int.natAbs_natCast] at m8
  refine⟨_,rfl,yC m8 ?_⟩
  rintro v w7 ⟨⟨u2,rfl,a0⟩,s0⟩
  rw [zAf (by omega)]
  exact⟨_,rfl,⟨j+1,u2,rfl,o,a0,(h0.trans r9).trans s0⟩,by simp only [mu1,yT];omega⟩
 have o:j=X.n i:=by omega
 subst o
 rw [<- hl] at hs
 refine⟨fun vals w8=>∃ (j:Nat) (s:BA),vals=[.int .i64 j,.string s]/\j<=X.n i/\bs s=dec (gcdD C l j)/\Ext w5 w8,mu1 (X.n i),⟨0,_,rfl,Nat.zero_le _,by rw [gcdD,zAQ];rfl,yE _⟩,?_⟩
 rintro m s8 w8 ⟨j,s',hv,hj,f9,h4⟩
 cases hv
 have j4:=j3.ext h4
 have p8:=p7.trans h4
 have zl:=szn hs (hl▸k5 _ yL)
 have h8:bs s4=txtQ ((l:Nat):Rat):=by rw [hs,zBe]
 refine⟨_,_,_,j4.blk.cell (j:=0) rfl,zAe (fun f7=>?_) (fun o6=>?_)⟩
 ·have o:j<X.n i:=by omega
  obtain⟨ad,ha,hc⟩:=(hS.ext p8).get o
  refine⟨_,_,_,j4.blk.cell (j:=0) rfl,ad,ha,⟨by omega,f7⟩,_,hc,yC (c44 (a8 j o) h8 ⟨Nat.le_trans (hs6.2.2 j o) (by decide),by omega⟩ w8) ?_⟩
  rintro v w9 ⟨⟨u,rfl,hu⟩,s1⟩
  have ez:((((C j*((l:Nat):Rat)).num:Int)):Rat)=C j*((l:Nat):Rat):=int_num (zDY (hl▸zEz C o))
  have zu:=sz (j7 j o) hu
  have zs:=szn f9 (e7 j (by omega))
  have m9:=c87 (a:=s8) (b:=u) (x:=((gcdD C l j:Nat):Int)) (y:=(C j*((l:Nat):Rat)).num) (by rw [f9,Rat.intCast_natCast,zBe]) (by rw [hu,ez]) ⟨by omega,by omega⟩ w9
  rw [Int.natAbs_natCast] at m9
  refine⟨_,rfl,yC m9 ?_⟩
  rintro v u9 ⟨⟨u2,rfl,a0⟩,n8⟩
  rw [zAf (by omega)]
  exact⟨_,rfl,⟨j+1,u2,rfl,o,a0,(h4.trans s1).trans n8⟩,by simp only [mu1,yT];omega⟩
 have o:j=X.n i:=by omega
 subst o
 rw [<- e9] at f9
 have zg:=szn f9 (e9▸e7 _ yL)
 have h7:bs s8=txtQ ((g:Nat):Rat):=by rw [f9,zBe]
 intro K1 r2
 have k6:=(yE w8).drew
 have i0:=p8.trans k6
 have j5:=j4.ext k6
 have m5:=((m3.ext h0).ext h4).ext k6
 have u0:=m5.lt
 have main : ∀ a6 b u,bs u=txtQ (q*f)->w8.drew.heap.size<=b->Box a6 b 49 [nsl,.int .i64 (X.rel i),.string u]->Ext w8.drew a6->K1 [.pointer (some ⟨b,0,none⟩)] a6:=by
  intro a6 b u hu g9 n0 i7
  refine r2 _ a6 ⟨fun vals a7=>∃ (j:Nat) (p:OA) (c' : Nat),vals=[.int .i64 j]/\j<=X.n i/\Box a7 b 49 [.slice p j c',.int .i64 (X.rel i),.string u]/\a7.ownsRow a6.heap.size 9 1 (.slice p j c') j (SL (fun j=>mk (txtQ (tC (X.n i) C j))) j)/\a6.heap.size<=a7.heap.size/\Ext w8.drew a7,mu1 (X.n i),⟨0,none,0,rfl,Nat.zero_le _,n0,World.ownsRow_nil _ _ _ _,yL,i7⟩,?_⟩
  rintro m a7 ⟨j,p,c',hv,hj,a1,d3,p1,d4⟩
  cases hv
  have g1:=i0.trans d4
  have d8:=j5.ext d4
  refine⟨_,_,_,d8.blk.cell (j:=0) rfl,zAe (fun f7=>?_) (fun o6=>?_)⟩
  ·have o:j<X.n i:=by omega
   have d6:=(yE a7).drew
   have i1:=a1.ext d6
   have h6:=zAm d3 d6
   obtain⟨ad,ha,hc⟩:=(hS.ext (g1.trans d6)).get o
   intro K2 r3
   refine⟨_,_,_,i1.blk.cell (j:=0) rfl,_,_,_,(d8.ext d6).blk.cell (j:=0) rfl,ad,ha,⟨by omega,f7⟩,_,hc,yC (c44 (a8 j o) h8 ⟨Nat.le_trans (hs6.2.2 j o) (by decide),by omega⟩ _) ?_⟩
   rintro v t4 ⟨⟨u1,rfl,p2⟩,i8⟩
   have zu:=sz (j7 j o) p2
   refine⟨_,rfl,i8,yC (c88 p2 h7 h5 ⟨by omega,by omega⟩ t4) ?_⟩
   rintro v d7 ⟨⟨u2,rfl,a0⟩,n9⟩
   rw [assoc] at a0
   have d5:=i8.trans n9
   have a5:=zAm h6 d5
   have e6:=i1.ext d5
   have t3:a6.heap.size<=d7.heap.size:=Nat.le_trans p1 (d6.trans d5).size
   have j2:=d4.trans (d6.trans d5)
   refine⟨_,rfl,d5,d5.alloc _,_,_,_,AppOk.one (L:=[.string u2]) a5 rfl rfl (by unfold maxLen;omega) (by omega) t3,?_⟩
   intro p3 k7 l8 r
   have za:=(yE d7).alloc (.cells #[.string u2] 9)
   have sa:(d7.alloc (.cells #[.string u2] 9)).heap.size=d7.heap.size+1:=size_alloc ..
   have g3 : ∀ k,k<d7.heap.size->(Value.slice p j c').ownBlock≠some k->l8.heap[k]? = d7.heap[k]?:=fun k hk a9 =>
    (r.grown.block k (Nat.lt_of_lt_of_le hk za.size) (Ne.symm a9)).trans (za.block k hk)
   have b6:Box l8 b 49 _:=e6.same (g3 _ e6.lt (zA2 a5 e6 (by decide)))
   have p5:Ext w8.drew l8:=r.below (zAm a5 za) (j2.trans za) (Nat.le_trans j2.size za.size) i7.size
   refine⟨⟨⟨_,b6.blk.cell (j:=0) rfl⟩,b6.blk.free⟩,r3 _ ?_⟩
   rw [zAf (by omega)]
   have eu:u2=(fun j=>mk (txtQ (tC (X.n i) C j))) j:=zDF (by
    show bs u2=bs (mk (txtQ (tC (X.n i) C j)))
    rw [bs_mk,a0,s7])
   have hr:=r.own
   rw [eu,<- zGk (fun j=>mk (txtQ (tC (X.n i) C j))) j] at hr
   have u8:=Nat.le_trans za.size r.grown.size
   have a9:(Value.slice p3 (j+1) k7).ownBlock≠some b:=zA2 hr b6 (by decide)
   refine⟨⟨j+1,p3,k7,rfl,o,b6.set 0 _,zAK hr a9 _,?_,p5.setCell g9 _⟩,by simp only [mu1,yT];omega⟩
   rw [zB3];omega
  have o:j=X.n i:=by omega
  subst o
  intro K3 r4
  have b5:=m5.ext d4
  have k3:b≠W1.heap.size:=by omega
  have fin : ∀ b0 rel' u',Box b0 b 49 [.slice p (X.n i) c',.int .i64 rel',.string u']->Box b0 W1.heap.size 49 zrow->b0.ownsRow a6.heap.size 9 1 (.slice p (X.n i) c') (X.n i) (SL (fun j=>mk (txtQ (tC (X.n i) C j))) (X.n i))->Ext w b0->rel' = (tRel (X.n i) C rel:Nat)->bs u' = txtQ (tK (X.n i) C rel q)->tOk (X.n i) C rel q->K3 [] b0:=by
   intro b0 rel' u' r5 k0 o7 s9 e1 e2 e3
   have hP:=k0.put [.slice p (X.n i) c',.int .i64 rel',.string u'] (by rfl)
   refine r4 b0 ⟨_,_,_,_,_,r5.blk.all,k0.blk.writable (by decide),_,_,_,_,_,hP.blk.all,.inr ⟨d2,.inr ?_⟩,s9.put (Nat.le_of_lt lA) _ _⟩
   rw [<- hC,<- hq,<- l3]
   exact⟨e3,p,c',u',by rw [e1],e2,zBo (zAZ o7 fun k' k9=>zAh k' fun e=>zA2 o7 k0 (by decide) (e▸k9)) (Nat.zero_le _)⟩
  have zu:=sz n7 hu
  refine⟨_,d8.blk.cell (j:=1) rfl,?_⟩
  rcases (show rel=1\/rel=2\/rel=3 by omega) with h1 | h2 | h3
  ·have e1:X.rel i=1:=by omega
   rw [e1]
   rw [show ((1:Int)==1)=true from rfl,cond_true]
   refine⟨_,a1.blk.cell (j:=2) rfl,yC (c89 hu (by omega) a7) ?_⟩
   rintro v v0 ⟨⟨u2,rfl,a0⟩,d0⟩
   have b7:=a1.ext d0
   have g4:=zAm d3 d0
   have a9:=zA2 g4 b7 (by decide)
   refine⟨_,rfl,⟨⟨_,b7.blk.cell (j:=2) rfl⟩,b7.blk.free⟩,fin _ 1 u2 ?_ ((b5.ext d0).away zAg (fun e=>k3 e.symm)) (zAK (a:=⟨b,2,none⟩) g4 a9 _) ((g1.trans d0).setCell (Nat.le_trans i0.size g9) _) ?_ ?_ ?_⟩
   ·have:=b7.set 2 (.string u2)
    rw [e1] at this
    exact this
   ·rw [l5,if_neg (by omega)];rfl
   ·rw [a0,l4,if_neg (by omega),if_neg (by omega)]
   ·rw [h9];intro h;omega
  ·have e1:X.rel i=2:=by omega
   rw [e1]
   rw [show ((2:Int)==1)=false from rfl,cond_false,show ((2:Int)==2)=true from rfl,cond_true]
   refine⟨_,a1.blk.cell (j:=2) rfl,yC (c90 hu (by omega) a7) ?_⟩
   rintro v t6 ⟨⟨u2,rfl,a0⟩,o0⟩
   have dfl:dg 5008 ((-(flo (-(q*f))):Int):Rat):=zCR (by rw [Int.natAbs_neg];exact Nat.le_trans (zAu (zCP _)) n7.neg.1)
   have v5:=sz dfl a0
   have o9:bs ({ data:=#[49] } : BA)=txtQ ((1:Int):Rat):=by rw [zAP,if_neg (by decide),List.nil_append,show (1:Int).natAbs=1 from rfl,zBx];rfl
   refine⟨_,rfl,yC (c59 a0 o9 ⟨by omega,by decide⟩ t6) ?_⟩
   rintro v l9 ⟨⟨u3,rfl,p4⟩,o1⟩
   rw [<- Rat.intCast_sub] at p4
   have g7:=o0.trans o1
   have b8:=a1.ext g7
   have g5:=zAm d3 g7
   have a9:=zA2 g5 b8 (by decide)
   have b9:Box (l9.setCell ⟨b,1,none⟩ (.int .i64 1)) b 49 [.slice p (X.n i) c',.int .i64 1,.string u]:=b8.set 1 _
   have g6:=zAK (a:=⟨b,1,none⟩) g5 a9 (.int .i64 1)
   have m2:=(b5.ext g7).away (w':=l9.setCell ⟨b,1,none⟩ (.int .i64 1)) zAg (fun e=>k3 e.symm)
   have t9:Ext w (l9.setCell ⟨b,1,none⟩ (.int .i64 1)):=(g1.trans g7).setCell (Nat.le_trans i0.size g9) _
   have l0:=zA2 g6 b9 (by decide)
   refine⟨_,rfl,⟨⟨_,b8.blk.cell (j:=1) rfl⟩,b8.blk.free⟩,⟨⟨_,b9.blk.cell (j:=2) rfl⟩,b9.blk.free⟩,fin _ 1 u3 (b9.set 2 (.string u3)) (m2.away zAg (fun e=>k3 e.symm)) (zAK (a:=⟨b,2,none⟩) g6 l0 _) (t9.setCell (Nat.le_trans i0.size g9) _) ?_ ?_ ?_⟩
   ·rw [l5,if_neg (by omega)];rfl
   ·rw [p4,l4,if_neg (by omega),if_pos h2]
   ·rw [h9];intro h;omega
  ·have e1:X.rel i=3:=by omega
   rw [e1]
   rw [show ((3:Int)==1)=false from rfl,cond_false,show ((3:Int)==2)=false from rfl,cond_false]
   refine⟨_,a1.blk.cell (j:=2) rfl,yC (c91 u (by omega) a7) ?_⟩
   rintro v q8 ⟨⟨b3,rfl,r6⟩,a3⟩
   have n4:b3=true↔(q*f).den=1:=by
    rw [r6,hu,isZ_iff]
    exact⟨fun ⟨x,h1,h2⟩=>by rw [zA0 h1];exact h2,fun h=>⟨_,rfl,h⟩⟩
   refine⟨_,rfl,?_⟩
   cases b3 with
   | false =>
    rw [Bool.not_false,cond_true]
    exact wno q8 (g1.trans a3) (b5.ext a3) (by rw [<- hC,<- hq,<- l3,h9];exact fun h=>by have:=n4.2 (h h3);cases this)
   | true =>
    rw [Bool.not_true,cond_false]
    refine fin q8 3 u ?_ (b5.ext a3) (zAm d3 a3) (g1.trans a3) (by rw [l5,if_pos h3];rfl) (by rw [hu,l4,if_pos h3]) (by rw [h9];exact fun _=>n4.1 rfl)
    have:=a1.ext a3
    rw [e1] at this
    exact this
 have zK:(X.K i).size<=268435456:=Nat.le_trans hs6.1 (by decide)
 have i6:dg 2503 (q*((l:Nat):Rat)):=(j8.mul k4).mono (by decide)
 have zz:=(yE w8.drew).alloc (.cells zrow.toArray 49)
 refine⟨_,j5.blk.cell (j:=1) rfl,_,j5.blk.cell (j:=2) rfl,?_,zz,?_⟩
 ·refine yC (c44 j9 h8 ⟨zK,by omega⟩ _) ?_
  rintro v m0 ⟨⟨u,rfl,hu⟩,a4⟩
  have zu:=sz i6 hu
  have r0:=(yE m0).alloc (.cells zrow.toArray 49)
  refine⟨_,rfl,a4,?_,a4.trans r0,?_⟩
  ·refine yC (c88 hu h7 h5 ⟨by omega,by omega⟩ m0) ?_
   rintro v t7 ⟨⟨u2,rfl,a0⟩,o2⟩
   rw [assoc] at a0
   have bN:=yN t7 zrow 49
   have hP:=bN.put [nsl,.int .i64 (X.rel i),.string u2] (by rfl)
   have e5:=a4.trans o2
   exact⟨_,rfl,e5,e5.alloc _,bN.blk.writable (by decide),main _ _ u2 a0 e5.size hP ((e5.alloc _).put e5.size _ _)⟩
  ·refine yC (c88 hu h7 h5 ⟨by omega,by omega⟩ _) ?_
   rintro v v3 ⟨⟨u2,rfl,a0⟩,i9⟩
   rw [assoc] at a0
   have bN:=(yN m0 zrow 49).ext i9
   have hP:=bN.put [nsl,.int .i64 (X.rel i),.string u2] (by rfl)
   have m6:=a4.trans (r0.trans i9)
   exact⟨_,rfl,m6,bN.blk.writable (by decide),main _ _ u2 a0 a4.size hP (m6.put a4.size _ _)⟩
 ·refine yC (c44 j9 h8 ⟨zK,by omega⟩ _) ?_
  rintro v t8 ⟨⟨u,rfl,hu⟩,e8⟩
  have zu:=sz i6 hu
  refine⟨_,rfl,zz.trans e8,yC (c88 hu h7 h5 ⟨by omega,by omega⟩ t8) ?_⟩
  rintro v v4 ⟨⟨u2,rfl,a0⟩,j0⟩
  rw [assoc] at a0
  have bN:=((yN w8.drew zrow 49).ext e8).ext j0
  have hP:=bN.put [nsl,.int .i64 (X.rel i),.string u2] (by rfl)
  have m7:=(zz.trans e8).trans j0
  exact⟨_,rfl,m7,bN.blk.writable (by decide),main _ _ u2 a0 yL hP (m7.put yL _ _)⟩
theorem tK_dg {n rel d:Nat} {C:Nat->Rat} {K:Rat} (hn:n<=40) (hd:0<d/\d<=20000) (hC : ∀ j,j<n->dg d (C j)) (hK:dg 1000000 K):dg 2620040 (tK n C rel K)/\∀ j,j<n->dg 2620040 (tC n C j):=by
 have g:dg 800001 ((lcmD C n:Nat):Rat):=zCF (by
  have h1:=zDA (C:=C) (d:=d) (n:=n) fun j hj=>hC j hj
  have h2:n*d<=40*20000:=Nat.mul_le_mul hn hd.2
  omega)
 have h : ∀ j,j<n->dg 820002 (C j*((lcmD C n:Nat):Rat)):=fun j hj=>((hC j hj).mul g).mono (by omega)
 have hg:dg 820002 ((gcdD C (lcmD C n) n:Nat):Rat):=zCF (zDE (by decide) fun j hj=>h j (by omega))
 have f:dg 1620005 (facT n C):=(g.mul hg.inv).mono (by decide)
 have b:dg 2620006 (K*facT n C):=(hK.mul f).mono (by decide)
 constructor
 ·unfold tK
  split
  ·exact zBs (by decide)
  ·split
   ·exact b.mono (by decide)
   ·split
    ·have dfl:dg 2620006 ((flo (-(K*facT n C)):Int):Rat):=zCR (Nat.le_trans (zAu (zCP _)) b.neg.1)
     rw [Rat.intCast_sub,Rat.intCast_neg]
     exact (dfl.neg.sub (zCR (z:=1) (k:=1) (by rw [show (1:Int).natAbs=1 from rfl,zBx];decide))).mono (by decide)
    ·exact (zCR (Nat.le_trans (zAu (zCP _)) b.1)).mono (by decide)
 ·intro j hj
  unfold tC
  split
  ·exact zBs (by decide)
  ·exact ((hC j hj).mul f).mono (by omega)
set_option maxHeartbeats 2000000 in
theorem c51 {X:TX} {A:TA} {i:Nat} (hs6:sm60 X i) (w:World) (hS:SS w (A.cA i) (X.C i) (X.n i)) (hg:Gl w) :
  Ret prog 51 #[.agg #[.slice (A.cA i) (X.n i) (A.cC i),.int .i64 (X.rel i),.string (X.K i)]] w fun v w'=>TigX X i w' v/\Ext w w':=by
 have z1:=(yE w).alloc (.cells (rtc X A i).toArray 49)
 have bA:=yN w (rtc X A i) 49
 refine run51 _ _ _ _ _ _ _ ?_
 unfold vc51
 rw [show (Obj.cells #[Value.slice (A.cA i) (X.n i) (A.cC i),.int .i64 (X.rel i),.string (X.K i)] 49) = .cells (rtc X A i).toArray 49 from rfl]
 generalize w.alloc (.cells (rtc X A i).toArray 49)=W1 at z1 bA ⊢
 have z2:=(yE W1).alloc (.cells zrow.toArray 49)
 have bO:=yN W1 zrow 49
 rw [show (Obj.cells #[Value.slice none 0 0,.int .i64 0,.string { data:=#[] }] 49) = .cells zrow.toArray 49 from rfl]
 have l:=bA.ext z2
 have lA:=bA.lt
 generalize W1.alloc (.cells zrow.toArray 49)=W2 at z2 bO l ⊢
 have lO:=bO.lt
 have a0:=z1.trans z2
 intro K hK
 have t1:Tame (oneX X i):={ n:=fun _ _=>Nat.le_trans hs6.2.1 (by decide),c:=fun _ _ j hj=>Nat.le_trans (hs6.2.2 j hj) (by decide),k:=fun _ _=>Nat.le_trans hs6.1 (by decide) }
 have no : ∀ (b:Bool) w2,Ext W2 w2->b=true->¬ okT X i->K [.bool b] w2:=by
  intro b w2 h2 hb e3
  subst hb
  refine hK true w2 ?_
  rw [cond_true]
  have a7:=bO.ext h2
  have hP:=a7.put zrow (by rfl)
  exact⟨a7.blk.writable (by decide),_,_,_,_,_,hP.blk.all,.inl ⟨e3,rfl⟩,(a0.trans h2).put (Nat.le_of_lt lA) _ _⟩
 refine⟨_,_,_,l.blk.cell (j:=0) rfl,?_⟩
 by_cases hn40:X.n i<=40
 rotate_left
 ·rw [decide_eq_true (by omega),cond_true]
  exact no true _ (yE _) rfl fun h=>hn40 h.1
 rw [decide_eq_false (by omega),cond_false]
 refine⟨_,_,_,l.blk.cell (j:=0) rfl,_,_,_,_,_,l.blk.all,yC (c96 (X:=oneX X i) (A:=oneA A i) (i:=0) (n:=((X.n i:Nat):Int)) t1 Nat.one_pos W2 (hS.ext a0) (hg.ext a0)) ?_⟩
 rintro v d4 ⟨⟨b4,rfl,b6⟩,g⟩
 refine⟨_,rfl,?_⟩
 cases b4 with
 | false=>exact no _ _ g rfl fun h=>by have:=b6.2 h.2;cases this
 | true =>
 have b9:okRow X (X.n i:Nat) i:=b6.1 rfl
 have a4:okT X i:=⟨hn40,b9⟩
 refine hK (!true) d4 ?_
 rw [Bool.not_true,cond_false]
 obtain⟨_,e6,e7,a2,a3⟩:=b9
 have a6:=a0.trans g
 have d5:=l.ext g
 have d6:=bO.ext g
 have d8 : ∀ j,j<X.n i->bs (X.C i j)=txtQ (rC X i j):=fun j hj=>rd_ok (a2 j hj)
 have e0:bs (X.K i)=txtQ (rK X i):=rd_ok a3
 have b0 : ∀ j,j<X.n i->dg 61 (rC X i j):=fun j hj=>rd_dg (a2 j hj) (hs6.2.2 j hj)
 have b2:dg 61 (rK X i):=rd_dg a3 hs6.1
 have b3:X.rel i=(rR X i:Nat):=by unfold rR;omega
 have d1:1<=rR X i/\rR X i<=3:=by unfold rR;omega
 refine⟨_,_,_,_,_,d5.blk.all,yC (c98 (X:=oneX X i) (A:=oneA A i) (i:=0) t1 Nat.one_pos d8 e0 d4 (hS.ext a6) (hg.ext a6)) ?_⟩
 rintro v w2 ⟨bq,rfl,e5,hL,b7⟩
 have d2:=a6.trans b7
 refine⟨_,_,_,_,_,_,_,rfl,?_⟩
 have a9:=c97 (cc:=X.n i) (d:=61) hn40 d1 (by decide) b0 (b2.mono (by decide)) w2 hL.qs (hg.ext d2)
 rw [<- b3] at a9
 refine yC a9 ?_
 rintro v w3 ⟨p,c',b1,rfl,b5,d0,b8⟩
 have e4:=d2.trans b8
 have d7:=(d6.ext b7).ext b8
 have bT:=yN w3 z90 90
 have zT:=(yE w3).alloc (.cells z90.toArray 90)
 refine⟨_,_,_,_,_,_,_,_,rfl,bT.blk.writable (by decide),?_⟩
 have bP:=bT.put (r90 p (X.n i) c' (tRel (X.n i) (rC X i) (rR X i):Nat) (tK (X.n i) (rC X i) (rR X i) (rK X i))) (by rfl)
 have eP:Ext w3 (setCells (w3.alloc (.cells z90.toArray 90)) ⟨w3.heap.size,0,none⟩ 0 (r90 p (X.n i) c' (tRel (X.n i) (rC X i) (rR X i):Nat) (tK (X.n i) (rC X i) (rR X i) (rK X i)))):=zT.put yL _ _
 have s:=d7.ext eP
 have a1:=e4.trans eP
 cases b1 with
 | false =>
  rw [Bool.not_false,cond_true]
  have hP:=s.put zrow (by rfl)
  exact⟨s.blk.writable (by decide),_,_,_,_,_,hP.blk.all,.inr ⟨a4,.inl ⟨fun h=>by (have:=b5.2 h;cases this),rfl⟩⟩,a1.put (Nat.le_of_lt lA) _ _⟩
 | true =>
  rw [Bool.not_true,cond_false]
  have d3:=b5.1 rfl
  intro K1 d9
  have f:=(yE (setCells (w3.alloc (.cells z90.toArray 90)) ⟨w3.heap.size,0,none⟩ 0 (r90 p (X.n i) c' (tRel (X.n i) (rC X i) (rR X i):Nat) (tK (X.n i) (rC X i) (rR X i) (rK X i))))).drew
  have a5:=bP.ext f
  obtain⟨dK,dC⟩:=tK_dg (rel:=rR X i) hn40 (by decide:0<61/\61<=20000) b0 (b2.mono (by decide))
  refine⟨_,_,_,a5.blk.cell (j:=0) rfl,_,a5.blk.cell (j:=1) rfl,_,_,_,r90_k a5,yC (c72 (by omega) _ (zAJ (zAm d0 (eP.trans f))) (fun j hj=>(dC j hj).mono (by decide)) (hg.ext (a1.trans f))) ?_⟩
  rintro v w5 ⟨rfl,hT,m⟩
  refine⟨_,_,_,rfl,m,yC (c76 (dK.mono (by decide)) w5 (hg.ext ((a1.trans f).trans m))) ?_⟩
  rintro v w6 ⟨⟨u,rfl,hu⟩,x⟩
  have a8:=((s.ext f).ext m).ext x
  have e1:=hT.ext x
  have hP:=a8.put [.slice (some ⟨(setCells (w3.alloc (.cells z90.toArray 90)) ⟨w3.heap.size,0,none⟩ 0 (r90 p (X.n i) c' (tRel (X.n i) (rC X i) (rR X i):Nat) (tK (X.n i) (rC X i) (rR X i) (rK X i)))).drew.heap.size,0,none⟩) (X.n i) (X.n i),.int .i64 (tRel (X.n i) (rC X i) (rR X i):Nat),.string u] (by rfl)
  have lB:=(s.ext f).lt
  refine⟨_,rfl,m.trans x,a8.blk.writable (by decide),d9 _ _ _ ⟨_,_,_,_,_,hP.blk.all,.inr ⟨a4,.inr ⟨d3,_,_,u,rfl,hu,?_⟩⟩,(((a1.trans f).trans m).trans x).put (Nat.le_of_lt lA) _ _⟩⟩
  have e2:=e1.same (zAk (b:=W1.heap.size) (o:=0) (Nat.ne_of_gt lB) [.slice (some ⟨(setCells (w3.alloc (.cells z90.toArray 90)) ⟨w3.heap.size,0,none⟩ 0 (r90 p (X.n i) c' (tRel (X.n i) (rC X i) (rR X i):Nat) (tK (X.n i) (rC X i) (rR X i) (rK X i)))).drew.heap.size,0,none⟩) (X.n i) (X.n i),.int .i64 (tRel (X.n i) (rC X i) (rR X i):Nat),.string u] 0)
  exact zBo (zET (n:=X.n i) (size:=1) e2 (by rw [zCh,Nat.mul_one]) (by unfold maxLen;omega)) (Nat.zero_le _)
end Go.Proofs.Si
namespace Go.Proofs.Si
open Go Go.V Go.Proofs Go.RowKit Go.Num Go.Tb Go.Proofs.Tryz
open Go.IntKind (i64 u64 u32 u8)
set_option maxRecDepth 100000
def IL (n:Nat):List Value:=upto (fun k => .int .i64 (k:Int)) n
theorem IL_snoc (n:Nat):IL (n+1)=IL n++[.int .i64 (n:Int)]:=zC7 _ n
def sbox (n:Nat) (ra:OA) (m rc:Nat) (bud:Int) (pa:OA) (pn pc:Nat) (fa:OA) (fn fc:Nat):List Value:=[.int .i64 n,.slice ra m rc,.int .i64 bud,.slice pa pn pc,.slice fa fn fc]
set_option maxHeartbeats 2000000 in
theorem c171r {S:Tb.Sys} {Rl:RowL} {sb rc:Nat} {ra:OA} {bud:Int} {fa:OA} {fn fc:Nat} (hf:Few S) (w:World) (hB:Box w sb 160 (sbox S.n ra S.m rc bud none 0 0 fa fn fc)) (hR:RowsR w ra S Rl) :
  Ret prog 171 #[.pointer (some ⟨sb,0,none⟩)] w fun v w'=>∃ p c q d,v = .tuple #[.slice p S.m c,.slice q S.m d]/\RowsR w' p S Rl/\w'.ownsRow w.heap.size 3 1 (.slice q S.m d) S.m (IL S.m)/\Ext w w':=by
 unfold Few at hf
 have hd:=(yE w).drew
 have a8:=hB.ext hd
 have b4:=hR.ext hd
 refine run171 _ _ _ fun K hK=>?_
 refine⟨_,_,_,a8.blk.cell (j:=1) rfl,_,_,_,a8.blk.cell (j:=3) rfl,w.heap.size,[],GL (rowc S Rl) S.m,?_,?_⟩
 ·exact {
   own := .inl (World.ownsRow_nil _ _ _ _)
   len:=by rw [zBd (m:=5) fun _=>rfl,Nat.mul_comm]
   src:=by
    rcases b4.1 with e | ⟨ad,g1,g2,g3⟩
    ·left
     have:=congrArg List.length e
     rw [zBd (m:=5) fun _=>rfl] at this
     simp only [List.length_nil] at this
     omega
    ·exact .inr ⟨ad,g1,zBD.2 g3⟩
   plain:=plain_GL (fun _=>rfl) _
   max:=by unfold maxLen;omega
   bytes:=by omega
   base:=hd.size }
 intro d7 d4 b8 r
 have u:Ext w.drew b8:=r.below (World.ownsRow_nil _ _ _ _) (yE _) yL yL
 have l:=r.own
 rw [List.nil_append] at l
 refine⟨u,w.heap.size,GL (rowc S Rl) S.m,[],?_,?_⟩
 ·exact {
   own := .inl l
   len:=rfl
   src := .inl rfl
   plain:=rfl
   max:=by unfold maxLen;omega
   bytes:=by omega
   base:=(hd.trans u).size }
 intro b7 d5 f r2
 have x:Ext w f:=r2.below l (hd.trans u) (hd.trans u).size yL
 have s:=r2.own
 rw [List.append_nil] at s
 rw [show 0+S.m+0=S.m by omega] at s ⊢
 have a9:SlAt f b7 (GL (rowc S Rl) S.m):=zAJ s
 have a7:=hB.ext x
 refine hK _ _ _ f ⟨fun vals w2=>∃ (i:Nat) (p1:OA) (c1:Nat) (p2:OA) (c2:Nat),vals=[.int .i64 i,.slice p1 i c1,.slice p2 i c2]/\i<=S.m/\w2.ownsRow f.heap.size 3 1 (.slice p1 i c1) i (IL i)/\w2.ownsRow f.heap.size 90 5 (.slice p2 i c2) i (GL (rowc S Rl) i)/\Ext f w2,mu1 S.m,⟨0,none,0,none,0,rfl,Nat.zero_le _,World.ownsRow_nil _ _ _ _,World.ownsRow_nil _ _ _ _,yE _⟩,?_⟩
 rintro m p1 i c1 p2 k4 c2 w2 ⟨i0,d6,b9,d8,d0,hv,hi,b0,b1,a0⟩
 cases hv
 refine zAe (fun b6=>?_) (fun d1=>?_)
 ·have a3:i<S.m:=by omega
  obtain⟨b,o,ha,hc⟩:=SlAt.gget (m:=5) (by omega) (fun _=>rfl) (SlAt.ext a9 a0) a3
  have bN:=yN w2 z90 90
  have zN:=(yE w2).alloc (.cells z90.toArray 90)
  have bP:=bN.put (rowc S Rl i) (by rfl)
  have eP:Ext w2 (setCells (w2.alloc (.cells z90.toArray 90)) ⟨w2.heap.size,0,none⟩ 0 (rowc S Rl i)):=zN.put yL _ _
  have b2:=(a7.ext a0).ext eP
  refine⟨_,ha,⟨by omega,b6⟩,_,_,_,_,_,_,_,hc,bN.blk.writable (by decide),_,_,_,b2.blk.cell (j:=1) rfl,fun K1 b3=>?_⟩
  rw [decide_eq_true (show (i:Int)<(S.m:Int) by omega),Bool.not_true,cond_false]
  refine b3 true _ ?_
  rw [cond_true]
  have a4:=zAm b0 eP
  have a2:=zAm b1 eP
  have sP:f.heap.size<=(setCells (w2.alloc (.cells z90.toArray 90)) ⟨w2.heap.size,0,none⟩ 0 (rowc S Rl i)).heap.size:=(a0.trans eP).size
  refine⟨_,_,_,_,_,_,_,bP.blk.all,_,_,_,AppOk.one (L:=rowc S Rl i) a2 rfl rfl (by unfold maxLen;omega) (by omega) sP,?_⟩
  intro p6 d2 w4 r3
  have z3:=(yE (setCells (w2.alloc (.cells z90.toArray 90)) ⟨w2.heap.size,0,none⟩ 0 (rowc S Rl i))).alloc (.cells (rowc S Rl i).toArray 90)
  have a5:Ext f w4:=r3.below (zAm a2 z3) ((a0.trans eP).trans z3) (Nat.le_trans sP z3.size) yL
  have g:=zER r3.grown (zAm a4 z3) fun k hk e=>zB7 (zAm a4 z3) (zAm a2 z3) (by decide) k hk e
  have h:=r3.own
  have e2:GL (rowc S Rl) i++rowc S Rl i=GL (rowc S Rl) (i+1):=by rw [GL]
  rw [e2] at h
  refine⟨_,_,_,AppOk.one (L:=[.int .i64 (i:Int)]) g rfl rfl (by unfold maxLen;omega) (by omega) a5.size,?_⟩
  intro p7 d3 w5 r4
  have z4:=(yE w4).alloc (.cells [Value.int .i64 (i:Int)].toArray 3)
  have b5:Ext f w5:=r4.below (zAm g z4) (a5.trans z4) (Nat.le_trans a5.size z4.size) yL
  have a6:=zER r4.grown (zAm h z4) fun k hk e=>zB7 (zAm h z4) (zAm g z4) (by decide) k hk e
  have a1:=r4.own
  rw [<- IL_snoc] at a1
  rw [zAf (by omega)]
  exact⟨⟨i+1,_,_,_,_,rfl,a3,a1,a6,b5⟩,by simp only [mu1,yT];omega⟩
 ·have a3:i=S.m:=by omega
  subst a3
  exact⟨p2,c2,p1,c1,rfl,⟨zAJ b1,fun j hj=>(hR.ext (x.trans a0)).2 j hj⟩,zBo b0 x.size,x.trans a0⟩
def lfc (b m:Nat):List Value:=[.bool true,.slice none 0 0,.int .i64 0,.int .i64 0,.string { data:=#[] },.slice (some ⟨b,0,none⟩) m m]
set_option maxHeartbeats 2000000 in
theorem c172r {S:Tb.Sys} {sb rc:Nat} {ra ma qa:OA} {mc qc' : Nat} {bud:Int} {y:Nat->Rat} (hf:Few S) (w:World) (hB:Box w sb 160 (sbox S.n ra S.m rc bud none 0 0 none 0 0)) (hy:QS w ma y S.m) (hq:SlAt w qa (IL S.m)) :
  Ret prog 172 #[.pointer (some ⟨sb,0,none⟩),.slice ma S.m mc,.slice qa S.m qc'] w fun v w'=>v = .tuple #[]/\∃ pf cf b,Box w' sb 160 (sbox S.n ra S.m rc bud none 0 0 pf 1 cf)/\w.heap.size<=b/\SlAt w' pf (lfc b S.m)/\Box w' b 88 (QL y S.m)/\Below sb w w':=by
 unfold Few at hf
 have hd:=(yE w).drew
 have x:=hB.ext hd
 have a0:=hB.lt
 refine run172 _ _ _ _ _ _ _ _ _ ⟨_,_,_,x.blk.cell (j:=1) rfl,_,_,_,x.blk.cell (j:=3) rfl,?_⟩
 have ew:i64.wrap ((S.m:Int)+((0:Nat):Int))=(S.m:Int):=by rw [zAd (by omega) (by omega)];omega
 simp only [ew,yT,zFx]
 have e0:madeCells (Value.agg #[Value.int .i64 0,.int .i64 0,.string { data:=#[] }]).cells (S.m*3)=(QL (fun _=>0) S.m).toArray:=zEd S.m
 rw [e0]
 refine⟨⟨by omega,by omega,by omega,by omega⟩,fun vals w1=>∃ i:Nat,vals=[.int .i64 i]/\i<=S.m/\Box w1 w.heap.size 88 (QL (fun k=>if k<i then y k else 0) S.m)/\Ext w w1,mu1 S.m,⟨0,rfl,Nat.zero_le _,?_,hd.alloc _⟩,?_⟩
 ·have:QL (fun k=>if k<0 then y k else 0) S.m=QL (fun _=>0) S.m:=zAR fun k _=>if_neg (by omega)
  rw [this]
  exact yN w.drew _ 88
 rintro m w1 ⟨i,hv,hi,hL,he⟩
 cases hv
 refine zAe (fun s=>?_) (fun a6=>?_)
 ·have d:i<S.m:=by omega
  obtain⟨b,o,ha,hc⟩:=SlAt.get (SlAt.ext hq he) (k:=i) (zAX (f:=fun k=>Value.int .i64 (k:Int)) d)
  obtain⟨b2,o2,a2,a3⟩:=(hy.ext he).get d
  have hw:=hL.qwr d
  have hs:=hL.qset d (y i)
  refine⟨_,ha,⟨by omega,s⟩,_,by rw [yT,Nat.mul_one,zAi];exact hc,_,a2,⟨by omega,s⟩,_,_,_,a3,_,rfl,⟨by omega,s⟩,hw,⟨i+1,by rw [zAf (by omega)],d,?_,by rw [zAi];exact he.put (b:=w.heap.size) (o:=0+i*3) yL _ _⟩,by rw [zAf (by omega)];simp only [mu1,yT];omega⟩
  have e:QL (upd (fun k=>if k<i then y k else 0) i (y i)) S.m=QL (fun k=>if k<i+1 then y k else 0) S.m:=zAR fun k hk=>by
   by_cases ek:k=i
   ·rw [ek,zA1,if_pos (by omega)]
   ·rw [zAs _ ek]
    by_cases h:k<i
    ·rw [if_pos h,if_pos (by omega)]
    ·rw [if_neg h,if_neg (by omega)]
  rw [<- e]
  exact hs
 ·have d:i=S.m:=by omega
  subst d
  have eL:QL (fun k=>if k<S.m then y k else 0) S.m=QL y S.m:=zAR fun k hk=>if_pos hk
  rw [eL] at hL
  have u:=hB.ext he
  refine⟨_,_,_,u.blk.cell (j:=4) rfl,_,_,_,AppOk.one (base:=w1.heap.size) (xs:=[]) (L:=lfc w.heap.size S.m) (World.ownsRow_nil _ _ _ _) rfl rfl (by unfold maxLen;omega) (by omega) yL,?_⟩
  intro p3 k7 w2 r
  have zL:=(yE w1).alloc (.cells (lfc w.heap.size S.m).toArray 165)
  have l:Ext w1 w2:=r.below (zAm (World.ownsRow_nil w1 _ _ _) zL) zL zL.size yL
  have g:=u.ext l
  have a1:=hL.ext l
  have lL:=hL.lt
  have hr:=r.own
  rw [List.nil_append] at hr
  have a4:=zA2 hr g (by decide)
  have a5:=zAK (a:=⟨sb,4,none⟩) hr a4 (.slice p3 (0+1) k7)
  refine⟨⟨⟨_,g.blk.cell (j:=4) rfl⟩,g.blk.free⟩,trivial,p3,k7,w.heap.size,g.set 4 _,yL,zAJ a5,a1.away zAg (Nat.ne_of_gt a0),?_⟩
  exact Below.setCell (p:=⟨sb,4,none⟩) (Below.mono (he.trans l) (Nat.le_of_lt a0)) yL _
set_option maxHeartbeats 2000000 in
theorem c173r {sb:Nat} {ra pa:OA} {rn rc n pc:Nat} {pt:Nat->Rat} (hn:n<=1048576) (hd : ∀ j,j<n->dg 400000000 (pt j)) (hint : ∀ j,j<n->(pt j).den=1) (w:World) (hp:QS w pa pt n) :
  Ret prog 173 #[.pointer (some ⟨sb,0,none⟩),.slice ra rn rc,.slice pa n pc] w fun v w'=>(∃ a b u,v = .tuple #[nsl,.agg #[.int .i64 a,.int .i64 b,.string u],.bool false])/\Ext w w':=by
 have z1:=(yE w).alloc (.cells zq.toArray 88)
 have bK:=yN w zq 88
 refine run173 _ _ _ _ _ _ _ _ _ ⟨fun vals w1=>∃ i:Nat,vals=[.int .i64 i]/\i<=n/\Box w1 w.heap.size 88 zq/\Ext w w1,mu1 n,⟨0,rfl,Nat.zero_le _,bK,z1⟩,?_⟩
 rintro m w1 ⟨i,hv,hi,hK,he⟩
 cases hv
 refine zAe (fun g=>?_) (fun h=>?_)
 ·have d:i<n:=by omega
  obtain⟨b,o,ha,hc⟩:=(hp.ext he).get d
  have bN:=yN w1 zq 88
  have eP:Ext w1 (setCells (w1.alloc (.cells zq.toArray 88)) ⟨w1.heap.size,0,none⟩ 0 (qc (pt i))):=((yE w1).alloc _).put yL _ _
  refine⟨_,ha,⟨by omega,g⟩,_,_,_,hc,bN.blk.writable (by decide),_,_,_,(bN.put (qc (pt i)) (by rfl)).blk.all,yC (c147 (hd i d) _) ?_⟩
  rintro v w2 ⟨rfl,f⟩
  refine⟨_,rfl,?_⟩
  rw [decide_eq_true (hint i d),cond_true,zAf (by omega)]
  exact⟨⟨i+1,rfl,d,(hK.ext eP).ext f,(he.trans eP).trans f⟩,by simp only [mu1,yT];omega⟩
 ·have hP:=hK.put zq (by rfl)
  exact⟨hK.blk.writable (by decide),_,_,_,hP.blk.all,⟨_,_,_,rfl⟩,he.put yL _ _⟩
noncomputable def tSys (X:TX) (n:Nat):Tb.Sys:={ n:=n,m:=X.m,C:=fun i=>uC n (rC X i) (rR X i) (rK X i),rel:=fun i=>uRel n (rC X i) (rR X i) (rK X i),K:=fun i=>uK n (rC X i) (rR X i) (rK X i) }
def RowsO (B:Nat) (w:World) (b:Nat) (S:Tb.Sys) (R:RowL):Prop:=B<=b/\Box w b 90 (GL (rowc S R) S.m)/\∀ i,i<S.m->w.ownsRow B 88 3 (.slice (R.cA i) S.n (R.cC i)) S.n (QL (S.C i) S.n)
theorem RowsO.rows {B:Nat} {w:World} {b:Nat} {S:Tb.Sys} {R:RowL} (h:RowsO B w b S R):RowsR w (some ⟨b,0,none⟩) S R:=⟨h.2.1.blk.sl,fun i hi=>zAJ (h.2.2 i hi)⟩
set_option maxHeartbeats 2000000 in
theorem c94s {X:TX} {A:TA} {n:Nat} {a:OA} {c:Nat} (hX:Tame X) (hok:okRows X n) (hd : ∀ i,i<X.m->(∀ j,j<n->dg 61 (rC X i j))/\dg 61 (rK X i)) (w:World) (hR:RowsT w a X A) (hg:Gl w) :
  Ret prog 94 #[.int .i64 n,.slice a X.m c] w fun v w'=>∃ Rl,v = .slice (some ⟨w.heap.size,0,none⟩) X.m X.m/\RowsO w.heap.size w' w.heap.size (tSys X n) Rl/\Ext w w':=by
 have hm:=hok.2.2.1
 have a2:n<=40:=by have:=hok.2.1;omega
 refine run94 _ _ _ _ _ _ ⟨⟨by omega,by omega,by omega,by omega⟩,?_⟩
 simp only [yT,size90]
 have e0:madeCells (Value.agg #[Value.slice none 0 0,.int .i64 0,.int .i64 0,.int .i64 0,.string { data:=#[] }]).cells (X.m*5)=(GL (fun _=>zr) X.m).toArray:=ZR_made X.m
 rw [e0]
 refine⟨fun vals w1=>∃ (k:Nat) (Rl:RowL),vals=[.int .i64 k]/\k<=X.m/\Box w1 w.heap.size 90 (GL (fun i=>if i<k then rowc (tSys X n) Rl i else zr) X.m)/\(∀ i,i<k->w1.ownsRow w.heap.size 88 3 (.slice (Rl.cA i) n (Rl.cC i)) n (QL ((tSys X n).C i) n))/\Ext w w1,mu1 X.m,⟨0,⟨fun _=>none,fun _=>0⟩,rfl,Nat.zero_le _,?_,fun i hi=>by omega,(yE w).alloc _⟩,?_⟩
 ·rw [zBQ (g:=fun _=>zr) fun i _=>if_neg (by omega)]
  exact yN w _ 90
 rintro m w1 ⟨k,Rl,hv,hk,hB,hQ,he⟩
 cases hv
 refine zAe (fun a1=>?_) (fun b2=>?_)
 ·have b:k<X.m:=by omega
  obtain⟨ad,ha,hc⟩:=(hR.ext he).get b
  have hN:=yN w1 [Value.slice none 0 0,.int .i64 0,.string { data:=#[] }] 49
  have e1:Ext w1 (setCells (w1.alloc (.cells [Value.slice none 0 0,.int .i64 0,.string { data:=#[] }].toArray 49)) ⟨w1.heap.size,0,none⟩ 0 (rtc X A k)):=((yE w1).alloc _).put yL _ _
  have hP:=hN.put (rtc X A k) (by rfl)
  have hx:=he.trans e1
  obtain⟨q1,q2,q3,q4,q5⟩:=hok.2.2.2 k b
  have a3:X.n k=n:=by omega
  have x:X.rel k=(rR X k:Nat):=by unfold rR;omega
  have a9:1<=rR X k/\rR X k<=3:=by unfold rR;omega
  refine⟨ad,ha,⟨by omega,a1⟩,_,_,_,_,_,hc,hN.blk.writable (by decide),_,_,_,_,_,hP.blk.all,yC (c98 (X:=X) (A:=A) (i:=k) (f:=rC X k) (q:=rK X k) hX b (fun j hj=>rd_ok (q4 j hj)) (rd_ok q5) _ ((hR.ext hx).2 k b) (hg.ext hx)) ?_⟩
  rintro v w2 ⟨bq,rfl,b1,hL,a0⟩
  have a6:=hx.trans a0
  refine⟨_,_,_,_,_,_,_,rfl,?_⟩
  rw [a3] at hL
  have l:=c140 (cc:=X.n k) (d:=61) (rel:=rR X k) a2 a9 (by decide) (hd k b).1 ((hd k b).2.mono (by decide)) w2 hL.qs (hg.ext a6)
  rw [<- x] at l
  rw [a3] at l ⊢
  refine yC l ?_
  rintro v w3 ⟨p,c',rfl,a4,a7⟩
  have s:=(e1.trans a0).trans a7
  have u:=hB.ext s
  have b0:=he.trans s
  refine⟨_,_,_,_,_,_,_,rfl,_,rfl,⟨by omega,a1⟩,?_,?_⟩
  ·rw [zAi]
   exact u.blk.writable (by rw [zBd (m:=5) fun i=>by split <;> rfl,yT];omega)
  rw [zAf (by omega)]
  have h1:=u.setCells (o:=0+k*5) (rowc (tSys X n) ⟨upd Rl.cA k p,upd Rl.cC k c'⟩ k) 0
  rw [show 0+k*5+0=5*k by omega,GL_set (m:=5) (by omega) (fun i=>by split <;> rfl) b (rowc (tSys X n) ⟨upd Rl.cA k p,upd Rl.cC k c'⟩ k) rfl] at h1
  rw [zBQ (g:=fun i=>if i<k+1 then rowc (tSys X n) ⟨upd Rl.cA k p,upd Rl.cC k c'⟩ i else zr) fun i hi=>?_] at h1
  ·have e:[Value.slice p n c',.int .i64 (uRel n (rC X k) (rR X k) (rK X k):Nat),.int .i64 (qn (uK n (rC X k) (rR X k) (rK X k))),.int .i64 (ql (uK n (rC X k) (rR X k) (rK X k))),.string (qb (uK n (rC X k) (rR X k) (rK X k)))]=rowc (tSys X n) ⟨upd Rl.cA k p,upd Rl.cC k c'⟩ k:=by
    unfold rowc
    simp only [zA1]
    rfl
   have a5 : ∀ {v xs},w3.ownsRow w.heap.size 88 3 v n xs->(setCells w3 ⟨w.heap.size,0+k*5,none⟩ 0 (rowc (tSys X n) ⟨upd Rl.cA k p,upd Rl.cC k c'⟩ k)).ownsRow w.heap.size 88 3 v n xs:=fun h=>zAZ h fun k' a8=>zAh k' fun e=>zA2 h u (by decide) (e▸a8)
   rw [zAi,yT,e]
   refine⟨⟨k+1,⟨upd Rl.cA k p,upd Rl.cC k c'⟩,rfl,b,h1,fun i hi=>?_,b0.put yL _ _⟩,by simp only [mu1,yT];omega⟩
   by_cases ei:i=k
   ·subst ei
    simp only [zA1]
    exact a5 (zBo a4 a6.size)
   ·simp only [zAs _ ei]
    exact a5 (zAm (hQ i (by omega)) s)
  ·by_cases e:i=k
   ·subst e;rw [zA1,if_pos (by omega)]
   ·rw [zAs _ e]
    by_cases h:i<k
    ·rw [if_pos h,if_pos (by omega)]
     unfold rowc
     simp only [zAs _ e]
    ·rw [if_neg h,if_neg (by omega)]
 ·have ek:k=X.m:=by omega
  subst ek
  rw [zBQ (g:=rowc (tSys X n) Rl) fun i hi=>if_pos hi] at hB
  exact⟨Rl,trivial,⟨yL,hB,hQ⟩,he⟩
theorem c94 {X:TX} {A:TA} {n:Nat} {a:OA} {c:Nat} (hX:Tame X) (hok:okRows X n) (hd : ∀ i,i<X.m->(∀ j,j<n->dg 61 (rC X i j))/\dg 61 (rK X i)) (w:World) (hR:RowsT w a X A) (hg:Gl w) :
  Ret prog 94 #[.int .i64 n,.slice a X.m c] w fun v w'=>∃ Rl,v = .slice (some ⟨w.heap.size,0,none⟩) X.m X.m/\RowsR w' (some ⟨w.heap.size,0,none⟩) (tSys X n) Rl/\Ext w w' :=
 (c94s hX hok hd w hR hg).mono fun v w' ⟨Rl,h1,h2,h3⟩=>⟨Rl,h1,h2.rows,h3⟩
def RunR (S:Tb.Sys) (w:World) (sb:Nat) (ra:OA) (rc:Nat) (bud:Int) (v:Value):Prop :=
 (∃ y b pf cf,v = .tuple #[nsl,.int .i64 2]/\Box w sb 160 (sbox S.n ra S.m rc bud none 0 0 pf 1 cf)/\SlAt w pf (lfc b S.m)/\Box w b 88 (QL y S.m)/\zBg S y/\∀ k,dg 2000000 (y k)) \/
 (∃ b pt,v = .tuple #[.slice (some ⟨b,0,none⟩) S.n S.n,.int .i64 1]/\Box w b 88 (QL pt S.n)/\Sat S pt/\(∀ j,j<S.n->(pt j).den=1)/\∀ j,j<S.n->dg 14000000 (pt j))
set_option maxHeartbeats 2000000 in
theorem c139r {S:Tb.Sys} {Rl:RowL} {sb rc:Nat} {ra:OA} {bud:Int} (hF:Fits S) (H : ∀ f s',zAS S f (init S)=some (s',none)->∀ j,j<S.n->(zB4 s' (zBj S s') j).den=1) (w:World) (hB:Box w sb 160 (sbox S.n ra S.m rc bud none 0 0 none 0 0)) (hR:RowsR w ra S Rl) (hg:Gl w) :
  Ret prog 139 #[.pointer (some ⟨sb,0,none⟩)] w fun v w'=>RunR S w' sb ra rc bud v/\Below sb w w':=by
 have b4:=hF.few
 unfold Few at b4
 have x:=hB.lt
 refine run139 _ _ _ (yC (c171r hF.few w hB hR) ?_)
 rintro v w1 ⟨p,c,q,d,rfl,a6,b5,h⟩
 have a3:=hB.ext h
 refine⟨_,_,_,_,_,_,rfl,_,a3.blk.cell (j:=0) rfl,yC (c70 (rc:=c) hF.few w1 a6 (hg.ext h)) ?_⟩
 rintro v w2 ⟨T,rfl,_,_,hT,b0⟩
 refine⟨_,rfl,yC (c71 hF (zE0 S) w2 hT) ?_⟩
 rintro v w3 ⟨f,s',r,a0,hI,hV,a7,a9⟩
 have o:Ext w1 w3:=Below.trans b0 a9
 have l:=h.trans o
 have a4:=hB.ext l
 obtain⟨_,b6,b7⟩:=zDN f (zE0 S) a0
 cases r with
 | none =>
  cases hV
  refine⟨_,_,_,_,rfl,?_⟩
  rw [show (!true)=false from rfl,cond_false]
  refine yC (c73 (rel:=false) hF.few hF.short (hF.val s' hI) w3 a7) ?_
  rintro v w5 ⟨b,rfl,d0,hP,b2⟩
  have u:=point_dg hF hI (zGi hF.short (hF.val s' hI) S.m yL)
  have g:=H f s' a0
  refine⟨_,_,_,rfl,yC (c173r (by omega) (fun j hj=>(u j (by omega)).mono (by decide)) (by exact g) w5 hP.qs) ?_⟩
  rintro v w6 ⟨⟨a1,b1,u1,rfl⟩,s⟩
  have bN:=yN w6 zq 88
  have eP:Ext w6 (setCells (w6.alloc (.cells zq.toArray 88)) ⟨w6.heap.size,0,none⟩ 0 [.int .i64 a1,.int .i64 b1,.string u1]):=((yE w6).alloc _).put yL _ _
  refine⟨_,_,_,_,_,_,_,rfl,bN.blk.writable (by decide),?_⟩
  rw [show (!false)=true from rfl,cond_true]
  refine⟨.inr ⟨b,_,rfl,(hP.ext s).ext eP,point_sat hI (feas_of hI (b6 rfl)),g,fun j hj=>u j (by omega)⟩,?_⟩
  exact Below.mono (((l.trans b2).trans s).trans eP) (Nat.le_of_lt x)
 | some q' =>
  obtain⟨i,up⟩:=q'
  obtain⟨b,rfl,b9,hM⟩:=hV
  obtain⟨bd,a2,b3⟩:=b7 i up rfl
  have hi:=(zBF hI.dict.perm a2).1
  refine⟨_,_,_,_,rfl,?_⟩
  rw [show (!false)=true from rfl,cond_true]
  have b8 : ∀ k,dg 2000000 (refv S s' i up k):=refv_dg (by decide) (hF.a s' hI i hi)
  refine yC (c172r (y:=refv S s' i up) (mc:=S.m) (qc':=d) hF.few w3 a4 hM.qs (SlAt.ext (zAJ b5) o)) ?_
  rintro v w4 ⟨rfl,pf,cf,b',a5,_,hL,hY,a8⟩
  refine⟨rfl,.inl ⟨_,b',pf,cf,rfl,a5,hL,hY,refute_ok hI a2 b3,b8⟩,?_⟩
  exact Below.trans (Below.mono l (Nat.le_of_lt x)) a8
def SolR (S:Tb.Sys) (w:World) (v:Value):Prop :=
 (∃ y b pf cf,v = .tuple #[nsl,.slice pf 1 cf,.int .i64 2]/\SlAt w pf (lfc b S.m)/\Box w b 88 (QL y S.m)/\zBg S y/\∀ k,dg 2000000 (y k)) \/
 (∃ b pt,v = .tuple #[.slice (some ⟨b,0,none⟩) S.n S.n,nsl,.int .i64 1]/\Box w b 88 (QL pt S.n)/\Sat S pt/\(∀ j,j<S.n->(pt j).den=1)/\∀ j,j<S.n->dg 14000000 (pt j))
theorem c93r {S:Tb.Sys} {Rl:RowL} {rc:Nat} {ra:OA} {bud:Int} (hF:Fits S) (H : ∀ f s',zAS S f (init S)=some (s',none)->∀ j,j<S.n->(zB4 s' (zBj S s') j).den=1) (w:World) (hR:RowsR w ra S Rl) (hg:Gl w) :
  Ret prog 93 #[.int .i64 S.n,.slice ra S.m rc,.int .i64 bud] w fun v w'=>SolR S w' v/\Ext w w':=by
 have z1:=(yE w).alloc (.cells (sbox S.n ra S.m rc bud none 0 0 none 0 0).toArray 160)
 have bS:=yN w (sbox S.n ra S.m rc bud none 0 0 none 0 0) 160
 refine run93 _ _ _ _ _ _ _ (yC (c139r hF H _ bS (hR.ext z1) (hg.ext z1)) ?_)
 rintro v w1 ⟨hr,d⟩
 have he:Ext w w1:=Below.trans z1 d
 rcases hr with ⟨y,b,pf,cf,rfl,hB,hL,hY,href,hyd⟩ | ⟨b,pt,rfl,hP,hs,hi,hd⟩
 ·refine⟨_,_,_,_,rfl,?_⟩
  rw [show ((2:Int) != 2)=false from rfl,cond_false]
  have hd:=(yE w1).drew
  exact⟨_,_,_,(hB.ext hd).blk.cell (j:=4) rfl,.inl ⟨y,b,pf,cf,rfl,SlAt.ext hL hd,hY.ext hd,href,hyd⟩,he.trans hd⟩
 ·refine⟨_,_,_,_,rfl,?_⟩
  rw [show ((1:Int) != 2)=true from rfl,cond_true]
  exact⟨.inr ⟨b,pt,rfl,hP,hs,hi,hd⟩,he⟩
def ltc (b m:Nat):List Value:=[.bool true,.slice none 0 0,.string { data:=#[] },.slice (some ⟨b,0,none⟩) m m]
set_option maxHeartbeats 1000000 in
theorem c95r {pf:OA} {cf b m:Nat} {y:Nat->Rat} (hm:m<=1048576) (hyd : ∀ k,k<m->dg 400000000 (y k)) (w:World) (hL:SlAt w pf (lfc b m)) (hY:Box w b 88 (QL y m)) (hg:Gl w) :
  Ret prog 95 #[.slice pf 1 cf] w fun v w'=>∃ b',v = .slice (some ⟨w.heap.size,0,none⟩) 1 1/\Box w' w.heap.size 115 (ltc b' m)/\Box w' b' 9 (SL (fun i=>mk (txtQ (y i))) m)/\Ext w w':=by
 refine run95 _ _ _ _ _ ⟨⟨by decide,by decide,by decide,by decide⟩,?_⟩
 have e0:madeCells (Value.agg #[Value.bool false,.slice none 0 0,.string { data:=#[] },.slice none 0 0]).cells (((1:Nat):Int).toNat*siE.P.types[115].size)=[Value.bool false,.slice none 0 0,.string { data:=#[] },.slice none 0 0].toArray:=by
  show madeCells _ 4=_
  apply Array.ext'
  simp only [madeCells,Array.toList_map,Array.toList_range]
  rfl
 rw [e0]
 have zN:=(yE w).alloc (.cells [Value.bool false,.slice none 0 0,.string { data:=#[] },.slice none 0 0].toArray 115)
 have bN:=yN w [Value.bool false,.slice none 0 0,.string { data:=#[] },.slice none 0 0] 115
 refine⟨fun vals w1=>(vals=[.int .i64 0]/\Box w1 w.heap.size 115 [Value.bool false,.slice none 0 0,.string { data:=#[] },.slice none 0 0]/\Ext w w1)\/(vals=[.int .i64 1]/\∃ b',Box w1 w.heap.size 115 (ltc b' m)/\Box w1 b' 9 (SL (fun i=>mk (txtQ (y i))) m)/\Ext w w1),mu1 1,.inl ⟨rfl,bN,zN⟩,?_⟩
 rintro k w1 (⟨hv,hB,he⟩ | ⟨hv,b',hB,hT,he⟩)
 ·cases hv
  rw [show decide ((0:Int)<((1:Nat):Int))=true from rfl,cond_true]
  have u:=SlAt.ext hL he
  rcases u with e | ⟨ad,g1,g2,g3⟩
  ·cases e
  obtain⟨bo,oo,so⟩:=ad
  cases g2
  have bC:=yN w1 [Value.bool false,.slice none 0 0,.int .i64 0,.int .i64 0,.string { data:=#[] },.slice none 0 0] 165
  have eP:Ext w1 (setCells (w1.alloc (.cells [Value.bool false,.slice none 0 0,.int .i64 0,.int .i64 0,.string { data:=#[] },.slice none 0 0].toArray 165)) ⟨w1.heap.size,0,none⟩ 0 (lfc b m)):=((yE w1).alloc _).put yL _ _
  have bP:=bC.put (lfc b m) (by rfl)
  have hv:vcells w1 ((⟨bo,oo,none⟩:Addr).add ((0:Int).toNat*6)) 0 (lfc b m):=by
   rw [show (0:Int).toNat*6=0 from rfl,zAi]
   exact zBD.2 g3
  have g:=hB.ext eP
  have d:((⟨w.heap.size,0,none⟩:Addr).add ((0:Int).toNat*4))=⟨w.heap.size,0,none⟩:=by rw [show (0:Int).toNat*4=0 from rfl,zAi]
  have l:((⟨w.heap.size,0,none⟩:Addr).add 3)=⟨w.heap.size,3,none⟩:=by rw [zAi]
  refine⟨_,g1,⟨by decide,by decide⟩,_,_,_,_,_,_,_,_,_,_,hv,bC.blk.writable (by decide),_,bP.blk.cell (j:=0) rfl,_,rfl,⟨by decide,by decide⟩,?_⟩
  rw [d]
  have a0:w.heap.size≠w1.heap.size:=Nat.ne_of_lt hB.lt
  have p:Box ((setCells (w1.alloc (.cells [Value.bool false,.slice none 0 0,.int .i64 0,.int .i64 0,.string { data:=#[] },.slice none 0 0].toArray 165)) ⟨w1.heap.size,0,none⟩ 0 (lfc b m)).setCell ⟨w.heap.size,0,none⟩ (.bool true)) w.heap.size 115 [Value.bool true,.slice none 0 0,.string { data:=#[] },.slice none 0 0]:=g.set 0 _
  have o:=bP.away (w':=(setCells (w1.alloc (.cells [Value.bool false,.slice none 0 0,.int .i64 0,.int .i64 0,.string { data:=#[] },.slice none 0 0].toArray 165)) ⟨w1.heap.size,0,none⟩ 0 (lfc b m)).setCell ⟨w.heap.size,0,none⟩ (.bool true)) zAg (fun e=>a0 e.symm)
  have n:Ext w ((setCells (w1.alloc (.cells [Value.bool false,.slice none 0 0,.int .i64 0,.int .i64 0,.string { data:=#[] },.slice none 0 0].toArray 165)) ⟨w1.heap.size,0,none⟩ 0 (lfc b m)).setCell ⟨w.heap.size,0,none⟩ (.bool true)):=(he.trans eP).setCell yL _
  refine⟨⟨⟨_,g.blk.cell (j:=0) rfl⟩,g.blk.free⟩,_,o.blk.cell (j:=0) rfl,?_⟩
  rw [cond_true]
  refine⟨_,_,_,o.blk.cell (j:=5) rfl,yC (c72 (f:=y) hm _ (hY.ext n).qs (fun j hj=>hyd j hj) (hg.ext n)) ?_⟩
  rintro v w2 ⟨rfl,hT,s⟩
  have h:=p.ext s
  refine⟨_,_,_,rfl,_,rfl,⟨by decide,by decide⟩,?_⟩
  rw [d,l]
  have x:=p.lt
  refine⟨⟨⟨_,h.blk.cell (j:=3) rfl⟩,h.blk.free⟩,.inr ⟨rfl,_,h.set 3 _,hT.away zAg (Nat.ne_of_gt x),(n.trans s).setCell yL _⟩,by show 1 - (i64.wrap (0+1)).toNat<1 - (0:Int).toNat;decide⟩
 ·cases hv
  rw [show decide ((1:Int)<((1:Nat):Int))=false from rfl,cond_false]
  exact⟨b',rfl,hB,hT,he⟩
end Go.Proofs.Si
namespace Go.Tb
open Go Go.Num
theorem le_flo {z:Int} {q:Rat} : (z:Rat)<=q↔z<=flo q:=by
 unfold flo
 rw [Int.le_ediv_iff_mul_le (by have:=q.den_pos;omega),Rat.le_iff,Rat.num_intCast,Rat.den_intCast,Int.natCast_one,Int.mul_one]
theorem flo_le (q:Rat):((flo q:Int):Rat)<=q:=le_flo.2 (Int.le_refl _)
theorem lt_cei {z:Int} {q:Rat} : (z:Rat)<q↔z <= -(flo (-q)) - 1:=by
 have h : ¬ ((-z:Int):Rat) <= -q↔(z:Rat)<q:=by
  rw [Rat.intCast_neg,Rat.neg_le_neg_iff,Rat.not_le]
 rw [<- h,le_flo]
 omega
theorem gcdD_dvd {C:Nat->Rat} {l:Nat} : ∀ {n j:Nat},j<n->gcdD C l n ∣ (C j*(l:Nat)).num.natAbs
 | n+1,j,h=>by
  rw [gcdD]
  by_cases e:j=n
  ·subst e;exact Nat.gcd_dvd_right _ _
  ·exact Nat.dvd_trans (Nat.gcd_dvd_left _ _) (gcdD_dvd (by omega))
theorem fac_pos {n:Nat} {C:Nat->Rat} (h : ¬ ∀ k,k<n->C k=0):0<facT n C:=by
 have h1:=zCu C n
 have h2:gcdD C (lcmD C n) n≠0:=zFa h1 (Classical.byContradiction fun h2=>h fun k hk=>Classical.byContradiction fun e=>h2 ⟨k,hk,e⟩)
 unfold facT
 refine Rat.mul_pos (by exact_mod_cast h1) (Rat.inv_pos.2 (by exact_mod_cast Nat.pos_of_ne_zero h2))
theorem tC_int {n:Nat} {C:Nat->Rat} {j:Nat} (hj:j<n) : ∃ z:Int,tC n C j=(z:Rat)/\z.natAbs<=(C j*((lcmD C n:Nat):Rat)).num.natAbs:=by
 unfold tC
 split
 ·exact⟨0,rfl,Nat.zero_le _⟩
 ·rename_i h
  have h1:=zCu C n
  have h2:gcdD C (lcmD C n) n≠0:=zFa h1 (Classical.byContradiction fun h2=>h fun k hk=>Classical.byContradiction fun e=>h2 ⟨k,hk,e⟩)
  have h3:((gcdD C (lcmD C n) n:Nat):Rat)≠0:=fun e=>h2 (by exact_mod_cast e)
  have hz:(((C j*((lcmD C n:Nat):Rat)).num:Int):Rat)=C j*((lcmD C n:Nat):Rat):=int_num (zDY (zEz C hj))
  obtain⟨k,hk⟩:((gcdD C (lcmD C n) n:Nat):Int) ∣ (C j*((lcmD C n:Nat):Rat)).num:=Int.natAbs_dvd_natAbs.1 (by rw [Int.natAbs_natCast];exact gcdD_dvd hj)
  refine⟨k,?_,?_⟩
  ·unfold facT
   rw [<- Rat.mul_assoc,<- hz,hk,Rat.intCast_mul,Rat.intCast_natCast,Rat.mul_comm _ (k:Rat),Rat.mul_assoc,Rat.mul_inv_cancel _ h3,Rat.mul_one]
  ·rw [hk,Int.natAbs_mul,Int.natAbs_natCast]
   exact Nat.le_mul_of_pos_left _ (Nat.pos_of_ne_zero h2)
def meetsR (rel:Nat) (l K:Rat):Prop:=l<=K/\(rel=2->l<K)/\(rel=3->l=K)
theorem lhs_t {n:Nat} {C:Nat->Rat} (h : ¬ ∀ k,k<n->C k=0) (x:Nat->Rat):(sumN n fun j=>tC n C j*x j)=(sumN n fun j=>C j*x j)*facT n C:=by
 rw [Rat.mul_comm,<- zBK]
 refine zAn fun j hj=>?_
 unfold tC
 rw [if_neg h,Rat.mul_comm (C j),Rat.mul_assoc]
theorem zero_lhs {n:Nat} {C:Nat->Rat} (h : ∀ k,k<n->C k=0) (x:Nat->Rat):(sumN n fun j=>C j*x j)=0:=zAY fun j hj=>by rw [h j hj,Rat.zero_mul]
theorem mul_eq_iff {a b g:Rat} (hp:0<g):a*g=b*g↔a=b:=by
 refine⟨fun e=>?_,fun e=>by rw [e]⟩
 have d:g≠0:=fun e0=>by rw [e0] at hp;exact Rat.lt_irrefl hp
 have:=congrArg (fun q=>q*g⁻¹) e
 simp only [Rat.mul_assoc,Rat.mul_inv_cancel _ d,Rat.mul_one] at this
 exact this
theorem tight_back {n rel:Nat} {C:Nat->Rat} {K:Rat} {x:Nat->Rat} (hr:1<=rel/\rel<=3) (hok:tOk n C rel K) (h:meetsR (tRel n C rel) (sumN n fun j=>tC n C j*x j) (tK n C rel K)):meetsR rel (sumN n fun j=>C j*x j) K:=by
 by_cases hz : ∀ k,k<n->C k=0
 ·unfold tOk at hok
  rw [if_pos hz] at hok
  rw [zero_lhs hz]
  unfold meetsR
  rcases hok with ⟨h1,h2⟩ | ⟨h1,h2⟩ | ⟨h1,h2⟩
  ·exact⟨h2,fun e=>by omega,fun e=>by omega⟩
  ·exact⟨Rat.le_of_lt h2,fun _=>h2,fun e=>by omega⟩
  ·exact⟨by rw [h2];exact Rat.le_refl,fun e=>by omega,fun _=>h2.symm⟩
 ·have hp:=fac_pos hz
  rw [lhs_t hz] at h
  obtain⟨h1,h2,h3⟩:=h
  unfold tRel at h2 h3
  unfold tK at h1 h2 h3
  rw [if_neg hz] at h1
  simp only [if_neg hz] at h2 h3
  generalize (sumN n fun j=>C j*x j)=s at *
  unfold meetsR
  rcases (show rel=1\/rel=2\/rel=3 by omega) with e | e | e
  ·subst e
   rw [if_neg (by decide),if_neg (by decide)] at h1
   have:=Rat.le_trans h1 (flo_le _)
   exact⟨(mul_le_iff hp).1 this,fun e=>by omega,fun e=>by omega⟩
  ·subst e
   rw [if_neg (by decide),if_pos rfl] at h1
   have h4:s*facT n C<K*facT n C:=Rat.not_le.1 fun hh=>Rat.not_lt.2 (Rat.le_trans hh h1) (lt_cei.2 (Int.le_refl _))
   have h5:=(Rat.mul_lt_mul_right hp).1 h4
   exact⟨Rat.le_of_lt h5,fun _=>h5,fun e=>by omega⟩
  ·subst e
   have h4:=h3 (if_pos rfl)
   rw [if_pos rfl] at h4
   have h5:=(mul_eq_iff hp).1 h4
   exact⟨by rw [h5];exact Rat.le_refl,fun e=>by omega,fun _=>h5⟩
end Go.Tb
