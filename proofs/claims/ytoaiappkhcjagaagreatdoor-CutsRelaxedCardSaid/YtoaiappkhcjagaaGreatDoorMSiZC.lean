/- Part of the proof: SiZC, SiZD, SiZE, SiZF, SiZG, SiZH. -/
import Derived.Test.YtoaiappkhcjagaaGreatDoorMSiZA
import Derived.Test.YtoaiappkhcjagaaGreatDoorSiV12
import Derived.Test.YtoaiappkhcjagaaGreatDoorSiV13
import Derived.Tactics
import Derived.Tactics2
import Derived.Defers
import Derived.Recover
import Derived.Laws.Pointers
import Derived.Test.YtoaiappkhcjagaaGreatDoorSiV15
import Derived.Test.YtoaiappkhcjagaaGreatDoorMSiS15
set_option linter.unusedVariables false
set_option linter.unusedSimpArgs false
namespace Go.Proofs.Si
open Go Go.V Go.Proofs Go.RowKit Go.Num Go.Tb Go.Proofs.Tryz
set_option maxRecDepth 100000
theorem zFU {fn:Func} {t:Tmp} {tmps:Array Value} {P:Program} {w w' : World} {v:Value} (h:fn.results = #[.tmp t]) (hr:(results fn tmps).run P w = .ok v w'):tmps.getD t undef=v:=by
 rw [results_tmp h] at hr
 cases hr;rfl
theorem sat_args {n:Nat} {args:List Value} {a:Act} (hd:a.defers=[]) (hn:a.tmps.size=n) (hv : ∀ (t:Nat) v,args[t]? = some v->a.tmps[t]? = some v):Sat n (argFr args 0) a:=by
 refine⟨hd,hn,fun t cs v hl=>?_⟩
 obtain⟨rfl,_,h3⟩:=zDX args 0 t cs v hl
 exact⟨fun _=>hv t v (by simpa using h3),fun b=>absurd (zAE _) b⟩
structure Regs (a:Act) (l:List Value):Prop where
 d:a.defers=[]
 n:a.tmps.size=98
 v : ∀ (t:Nat) u,l[t]? = some u->a.tmps[t]? = some u
theorem Regs.sat {a:Act} {l:List Value} (h:Regs a l) (hl:l.length<=98) {fn:Func} (hf:fn.ntmps=98):Sat (l.length+(fn.ntmps - l.length)) (argFr l 0) a:=sat_args h.d (by rw [h.n,hf];omega) h.v
theorem Regs.keep {a a' : Act} {l:List Value} {W:List Nat} (h:Regs a l) (hag:V.Agree W a a') (hd:a'.defers=[]) (hn:a'.tmps.size=98) (hW : ∀ t,t<l.length->t∉W):Regs a' l :=
 ⟨hd,hn,fun t u ht=>by rw [hag t (hW t (List.getElem?_eq_some_iff.1 ht).1)];exact h.v t u ht⟩
def wrMin (c:Code) (k:Nat):Bool:=match (wr c).nrm with
 | some W=>W.all fun t=>decide (k<=t)
 | none=>false
theorem Regs.keep' {a a' : Act} {l:List Value} {c:Code} (h:Regs a l) (hk:wrMin c l.length=true) (hag : ∃ W,(wr c).nrm=some W/\V.Agree W a a') (hd:a'.defers=[]) (hn:a'.tmps.size=98):Regs a' l:=by
 obtain⟨W,hW,hg⟩:=hag
 refine h.keep hg hd hn fun t ht hm=>?_
 unfold wrMin at hk
 rw [hW] at hk
 have:=List.all_eq_true.1 hk t hm
 have:=of_decide_eq_true this
 omega
theorem Regs.take {a:Act} {l:List Value} (h:Regs a l) (k:Nat):Regs a (l.take k) :=
 ⟨h.d,h.n,fun t u ht=>h.v t u (by
  rw [List.getElem?_take] at ht
  split at ht
  ·exact ht
  ·cases ht)⟩
theorem Regs.snoc {a:Act} {l:List Value} {v:Value} (h:Regs a l) (hl:l.length<98) (hv:a.eval (.tmp l.length)=v):Regs a (l++[v]) :=
 ⟨h.d,h.n,fun t u ht=>by
  by_cases e:t<l.length
  ·rw [List.getElem?_append_left e] at ht;exact h.v t u ht
  ·rw [List.getElem?_append_right (by omega)] at ht
   have e0:t=l.length:=by
    have:=(List.getElem?_eq_some_iff.1 ht).1
    simp at this;omega
   subst e0
   simp at ht
   subst ht
   subst hv
   have hn:=h.n
   have b:l.length<a.tmps.size:=by omega
   simp [Act.eval,Array.getD_eq_getD_getElem?,b]⟩
noncomputable def q0:Code:=codeL (codeL body100)
noncomputable def q1:Code:=codeT (codeR (codeL body100))
noncomputable def q2:Code:=codeL (codeR body100)
noncomputable def q3:Code:=codeL (codeR (codeR body100))
noncomputable def q4:Code:=codeL (codeL rest4)
noncomputable def q5:Code:=codeL (codeL leaf5)
noncomputable def q6:Code:=codeT (codeR (codeL leaf5))
theorem body_eq:body100 = .seq (.seq q0 (.cond (.tmp 12) q1 .skip)) (.seq q2 (.seq q3 (.seq (.seq q4 (.cond (.tmp 22) (.seq (.seq q5 (.cond (.tmp 43) q6 .skip)) .ret) .skip)) rest7))):=by kernel_rfl
theorem SiPb0:pc0.body=some q0:=rfl
theorem SiPb2:pc2.body=some q2:=rfl
theorem SiPb3:pc3.body=some q3:=rfl
theorem SiPb4:pc4.body=some q4:=rfl
theorem SiPb5:pc5.body=some q5:=rfl
theorem f100b:f100.body=some body100:=by kernel_rfl
theorem wm0:wrMin q0 6=true:=by kernel_rfl
theorem wm2:wrMin q2 6=true:=by kernel_rfl
theorem wm3:wrMin q3 7=true:=by kernel_rfl
theorem wm4:wrMin q4 7=true:=by kernel_rfl
noncomputable def bad3 (i d1 d2:Nat) (s:String):Code := .region i #[{ dst:=some d1,op:=Op.build 126 #[],type:=126,pos:=s,after:=#[],guard:=none },{ dst:=some d2,op:=Op.makeInterface 126 (Operand.tmp d1),type:=20,pos:=s,after:=#[{ on:=0,ground := .data }],guard:=none },{ dst:=none,op:=Op.panic (Operand.tmp d2),type:=0,pos:=s,after:=#[{ on:=1,ground := .data }],guard:=none }] false
theorem q1_eq : q1 = bad3 1 13 14 "cuts.go:114" := by kernel_rfl
theorem q6_eq : q6 = bad3 6 44 45 "cuts.go:120" := by kernel_rfl
theorem run_build126 (w:World):Sem.run prog (Instr.build 126 #[]) w = .ok (.agg #[]) w:=by kernel_rfl
theorem run_iface126 (v:Value) (w:World):Sem.run prog (Instr.makeInterface 126 v) w = .ok (.iface 126 v) w:=by kernel_rfl
theorem run_panic (v:Value) (w:World):Sem.run prog (Instr.panic (.iface 126 v)) w = .halt (.panic (.iface 126 v)) w:=by kernel_rfl
theorem zBT {a:Act} {d:Nat} {v:Value} (h:d<a.tmps.size):(a.put (some d) v).eval (.tmp d)=v:=by
 simp [Act.put,Act.eval,Array.getD_eq_getD_getElem?,h]
theorem put_size {a:Act} {d:Option Nat} {v:Value} : (a.put d v).tmps.size=a.tmps.size:=by
 cases d <;> simp [Act.put]
theorem put_defers {a:Act} {d:Option Nat} {v:Value} : (a.put d v).defers=a.defers:=by
 cases d <;> simp [Act.put]
theorem zDJ {P:Program} {ops:Array Oper} {Q:Exit->Act->World->Prop} {i:Nat} {rest:List Nat} {a:Act} {w:World} {o:Oper} {r:Result Next} (ho:ops[i]? = some o) (hg:o.guard=none) (hx:(execOp a.eval o).run P w=r) (h:o.upon P a (wpOps P ops Q rest) Q r):wpOps P ops Q (i::rest) a w:=by
 unfold wpOps
 rw [ho]
 simp only [Region.wanted,hg,if_true]
 refine .inl ?_
 unfold Oper.wp
 rw [hx]
 exact h
def badC:List PanicEntry:=[{ v := .iface 126 (.agg #[]),recovered:=false }]
theorem bad3_wp {i d1 d2:Nat} {s:String} {a:Act} {w:World} {Q:Exit->Act->World->Prop} (h1:d1<a.tmps.size) (h2:d2<a.tmps.size) (h : ∀ a',a'.defers=a.defers->Q (.panic badC) a' w):(bad3 i d1 d2 s).wp prog Q a w:=by
 refine wp_region ?_
 show wpOps _ _ _ [0,1,2] _ _
 refine zDJ (r := .ok (.value (.agg #[])) w) rfl rfl (by simp [execOp,run_build126]) ?_
 rw [Oper.upon_value]
 refine zDJ (r := .ok (.value (.iface 126 (.agg #[]))) w) rfl rfl (by simp [execOp,zBT h1,run_iface126]) ?_
 rw [Oper.upon_value]
 refine zDJ (r := .halt (.panic (.iface 126 (.agg #[]))) w) rfl rfl (by
  have h3:d2<(a.put (some d1) (.agg #[])).tmps.size:=by rw [put_size];exact h2
  simp [execOp,zBT h3,run_panic]) ?_
 rw [Oper.upon_panic]
 exact h _ (by rw [put_defers,put_defers])
structure But (b:Nat) (w w' : World):Prop where
 os:w'.os=w.os
 tape:w'.tape=w.tape
 output:w'.output=w.output
 size:w.heap.size<=w'.heap.size
 block : ∀ k,k≠b->k<w.heap.size->w'.heap[k]? = w.heap[k]?
theorem But.trans {b:Nat} {w w' w'' : World} (h:But b w w') (k:But b w' w''):But b w w'' :=
 ⟨k.os.trans h.os,k.tape.trans h.tape,k.output.trans h.output,Nat.le_trans h.size k.size,fun i hi hl=>(k.block i hi (Nat.lt_of_lt_of_le hl h.size)).trans (h.block i hi hl)⟩
theorem But.ext {b:Nat} {w w' : World} (h:Ext w w'):But b w w':=⟨h.os,h.tape,h.output,h.size,fun k _ hl=>h.block k hl⟩
theorem But.refl (b:Nat) (w:World):But b w w:=But.ext (yE w)
theorem But.set {b:Nat} (w:World) (j:Nat) (v:Value):But b w (w.setCell ⟨b,j,none⟩ v):=⟨rfl,rfl,rfl,by simp [World.setCell],fun k hk _=>Below.heap_setCell _ _ _ _ hk⟩
theorem But.below {b B:Nat} {w w' : World} (h:But b w w') (hB:B<=b) (hs:B<=w.heap.size):Below B w w':=⟨h.os,h.tape,h.output,h.size,fun k hk=>h.block k (by omega) (by omega)⟩
def Kpt (b:Nat) (w:World) (P:World->Prop):Prop:=∀ w',But b w w'->P w'
theorem Kpt.now {b:Nat} {w:World} {P:World->Prop} (h:Kpt b w P):P w:=h w (But.refl b w)
structure PX where
 m:Nat
 leaf:Nat->Bool
 cN:Nat->Nat
 C:Nat->Nat->BA
 K:Nat->BA
 fN:Nat->Nat
 F:Nat->Nat->BA
structure PA where
 cA:Nat->Option Addr
 cC:Nat->Nat
 fA:Nat->Option Addr
 fC:Nat->Nat
def cutc (Y:PX) (A:PA) (i:Nat):List Value:=[.bool (Y.leaf i),.slice (A.cA i) (Y.cN i) (A.cC i),.string (Y.K i),.slice (A.fA i) (Y.fN i) (A.fC i)]
def CutsT (w:World) (a:OA) (Y:PX) (A:PA):Prop:=SlAt w a (GL (cutc Y A) Y.m)/\∀ i,i<Y.m->SS w (A.cA i) (Y.C i) (Y.cN i)/\SS w (A.fA i) (Y.F i) (Y.fN i)
theorem CutsT.ext {w w' : World} {a:OA} {Y:PX} {A:PA} (h:CutsT w a Y A) (he:Ext w w'):CutsT w' a Y A:=⟨SlAt.ext h.1 he,fun i hi=>⟨(h.2 i hi).1.ext he,(h.2 i hi).2.ext he⟩⟩
theorem CutsT.get {w:World} {a:OA} {Y:PX} {A:PA} (h:CutsT w a Y A) {i:Nat} (hi:i<Y.m) : ∃ ad,a=some ad/\vcells w (ad.add (i*4)) 0 (cutc Y A i):=by
 obtain⟨b,o,ha,hv⟩:=SlAt.gget (m:=4) (by omega) (fun _=>rfl) h.1 hi
 exact⟨_,ha,hv⟩
def smallY (Y:PX):Prop:=Y.m<=60/\∀ i,i<Y.m->Y.cN i<=10/\(∀ j,j<Y.cN i->(Y.C i j).size<=60)/\(Y.K i).size<=60/\Y.fN i<=80/\∀ j,j<Y.fN i->(Y.F i j).size<=60
structure SmP (S:Tb.Sys):Prop where
 n:S.n<=5
 m:S.m<=100
 rel : ∀ i,i<S.m->1<=S.rel i/\S.rel i<=3
 C : ∀ i,i<S.m->∀ j,j<S.n->dg 370 (S.C i j)
 K : ∀ i,i<S.m->dg 745 (S.K i)
theorem SmP.few {S:Tb.Sys} (h:SmP S):Few S:=by
 have:=h.n;have:=h.m
 unfold Few;omega
def zCE (S:Tb.Sys) (Y:PX) (i:Nat):Prop:=Y.fN i=S.m/\(∀ k,k<Y.fN i->okQ (bs (Y.F i k))=true)/\zBg S fun k=>rd (Y.F i k)
def lfSm (S:Tb.Sys) (Y:PX) (i:Nat):Prop:=Y.fN i<=1000/\(∀ j,j<Y.fN i->(Y.F i j).size<=200000000)/\((∀ k,k<Y.fN i->okQ (bs (Y.F i k))=true)->Y.fN i=S.m->(∀ k,k<S.m->dg 60000000 (rd (Y.F i k)))/\DotsZ S (fun k=>rd (Y.F i k)) 60000000)
set_option maxHeartbeats 4000000 in
theorem leaf_wp {S:Tb.Sys} {Rl:RowL} {Y:PX} {A:PA} {pa:OA} {pc i cb b0 b1 b2 b3:Nat} {x5:Value} {a:Act} (hS:SmP S) (hY:lfSm S Y i) (w:World)
  (ha:Regs a [.slice pa S.m pc,.pointer (some ⟨b0,0,none⟩),.pointer (some ⟨b1,0,none⟩),.pointer (some ⟨b2,0,none⟩),.pointer (some ⟨b3,0,none⟩),x5,.pointer (some ⟨cb,0,none⟩)])
  (hc:Box w cb 115 (cutc Y A i)) (h2:Box w b2 3 [.int .i64 S.n]) (hF:SS w (A.fA i) (Y.F i) (Y.fN i)) (hR:RowsR w pa S Rl) (hg:Gl w) :
  (Code.seq (.seq q5 (.cond (.tmp 43) q6 .skip)) .ret).wp prog (fun e a' w'=>Ext w w'/\a'.defers=[]/\(zCE S Y i->e = .ret)/\(¬ zCE S Y i->e = .panic badC)) a w:=by
 have hm:=hS.m
 have hn:=hS.n
 obtain⟨b7,a4,b5⟩:=hY
 have zd:=(yE w).drew
 have o:=hc.ext zd
 refine wp_seq (wp_seq ?_)
 refine wp_mono (zC5 siE_ok (fn:=pc5) (args:=[.slice pa S.m pc,.pointer (some ⟨b0,0,none⟩),.pointer (some ⟨b1,0,none⟩),.pointer (some ⟨b2,0,none⟩),.pointer (some ⟨b3,0,none⟩),x5,.pointer (some ⟨cb,0,none⟩)]) (R:=fun v w'=>(∃ b,v = .bool b/\(b=true↔¬ zCE S Y i))/\Ext w w') SiPb5 ?_ (ha.sat (by simp) ntmps100)) ?_
 ·refine runP5 _ _ _ _ _ _ _ _ _ _ _ fun K hK=>⟨_,_,_,o.blk.cell (j:=3) rfl,?_⟩
  have no : ∀ w',Ext w w'->¬ zCE S Y i->K [.bool true] w':=fun w' he h=>hK true w' ⟨⟨true,rfl,by simpa using h⟩,he⟩
  refine zAb (fun h1=>no _ zd fun h=>by rw [show (((Y.fN i:Nat):Int) != (S.m:Int))=false by simp [h.1]] at h1;cases h1) (fun h1=>?_)
  have s:Y.fN i=S.m:=by
   have:((Y.fN i:Nat):Int)=(S.m:Int):=by simpa using h1
   omega
  refine⟨_,_,_,o.blk.cell (j:=3) rfl,yC (c62 (by omega) _ (hF.ext zd) (fun j hj=>Nat.le_trans (a4 j hj) (by decide)) (hg.ext zd)) ?_⟩
  rintro v w2 ⟨⟨b,rfl,hb⟩,p⟩
  have g:=zd.trans p
  refine⟨b,rfl,p,zAb (fun h3=>no _ g fun h=>?_) (fun h3=>?_)⟩
  ·rw [hb.2 h.2.1] at h3;cases h3
  have d:=hb.1 (by simpa using h3)
  refine⟨_,(h2.ext zd).blk.cell (j:=0) rfl,_,_,_,o.blk.cell (j:=3) rfl,yC (c64 (f:=fun k=>rd (Y.F i k)) (by omega) w2 (hF.ext g) (fun j hj=>Nat.le_trans (a4 j hj) (by decide)) (fun j hj=>rd_ok (d j hj)) (hg.ext g)) ?_⟩
  rintro v w3 ⟨rfl,hM,a2⟩
  have u:=g.trans a2
  refine⟨_,_,_,rfl,p.trans a2,?_⟩
  rw [s] at hM ⊢
  obtain⟨hy,a5⟩:=b5 d s
  refine yC (c101 (y:=fun k=>rd (Y.F i k)) hS.few hS.rel (fun i hi j hj=>(hS.C i hi j hj).mono (by decide)) (fun i hi=>(hS.K i hi).mono (by decide)) hy a5 w3 (hR.ext u) hM.qs (hg.ext u)) ?_
  rintro v w4 ⟨⟨b2,rfl,x⟩,a7⟩
  refine⟨b2,rfl,hK _ _ ⟨⟨!b2,rfl,?_⟩,u.trans a7⟩⟩
  constructor
  ·intro h h4
   rw [x.2 h4.2.2] at h;cases h
  ·intro h
   cases b2
   ·rfl
   ·exact absurd ⟨s,d,x.1 rfl⟩ h
 rintro e a1 w1 ⟨rfl,⟨v,hr,⟨b,rfl,hb⟩,he⟩,b6,a0,a8⟩
 have l:a1.tmps.size=98:=a8.trans (by rw [show pc5.ntmps=98 from ntmps100];rfl)
 have hv:=zFU (fn:=pc5) (t:=43) rfl hr
 have a3:a1.eval (.tmp 43) = .bool b:=hv
 cases b with
 | false =>
  have b4:zCE S Y i:=Classical.not_not.1 fun h=>by have:=hb.2 h;cases this
  refine wp_cond_false a3 (wp_skip ?_)
  exact wp_ret ⟨he,a0,fun _=>rfl,fun h=>absurd b4 h⟩
 | true =>
  have a9:=hb.1 rfl
  rw [q6_eq]
  refine wp_cond_true a3 (bad3_wp (by rw [l];decide) (by rw [l];decide) fun a' a6=>?_)
  exact⟨he,a6.trans a0,fun h=>absurd h a9,fun _=>rfl⟩
theorem c99p (p:Addr) (x:Bool) (u:TypeId) (pv:Value) (older:List PanicEntry) (w:World) (hc:w.cell? p=some (.bool x)) (hz:w.frozen? p=false) :
  CallsD prog 99 #[.pointer (some p)] (.panicking ({ v := .iface u pv,recovered:=false }::older)) w fun e u' w' =>
   e = .returned (.tuple #[])/\u' = .panicking ({ v := .iface u pv,recovered:=true }::older)/\w' = w.setCell p (.bool false):=by
 refine callsD_of_wpS func99 rfl fun c₀ cs hu=>?_
 apply wpS_seq
 apply wpS_region
 simp [wpOpsS,go_sem,recoverD,hu,ntmps99,Exit.thenS]
 refine wpS_cond (t:=true) (by simp [Act.eval,Array.replicate]) ?_
 simp only [if_true]
 apply wpS_region
 simp [wpOpsS,go_sem,hc,hz,bodyPostS,results,Tryz.results99]
theorem c99i (p:Addr) (w:World) :
  CallsD prog 99 #[.pointer (some p)] .returning w fun e u' w'=>e = .returned (.tuple #[])/\u' = .returning/\w' = w:=by
 refine callsD_of_wpS func99 rfl fun c₀ cs hu=>?_
 apply wpS_seq
 apply wpS_region
 simp [wpOpsS,go_sem,recoverD,hu,ntmps99,Exit.thenS]
 refine wpS_cond (t:=false) (by simp [Act.eval,Array.replicate]) ?_
 simp only [Bool.false_eq_true,if_false]
 refine wpS_of_wp (wp_skip ?_)
 cases c₀
 simp_all [bodyPostS,results,Tryz.results99]
theorem zA9 {P:Program} {ops:Array Oper} {Q:Exit->Act->World->Prop} {rest:List Oper} {a:Act} {w:World} {o:Oper} {r:Result Next} (hg:o.guard=none) (hx:(execOp a.eval o).run P w=r) (h:o.upon P a (wpList P ops Q rest) Q r):wpList P ops Q (o::rest) a w:=by
 unfold wpList
 simp only [Region.wanted,hg,if_true]
 refine .inl ?_
 unfold Oper.wp
 rw [hx]
 exact h
theorem zGh {P:Program} {ρ:Operand->Value} {o:Oper} {w:World} {t:TypeId} {x:Operand} {ad:Addr} {v:Value} {d:TypeDesc} (ho:o.op = .load t x) (hd:P.underlying t=some d) (hag:aggD d=false) (hx:ρ x = .pointer (some ad)) (hc:w.cell? ad=some v):(execOp ρ o).run P w = .ok (.value v) w:=by
 unfold execOp
 simp [ho,Instr.loadAt,Instr.sureAddr,hx,zCt hd hag hc]
theorem zE1 {P:Program} {ρ:Operand->Value} {o:Oper} {w:World} {t:TypeId} {x y:Operand} {ad:Addr} {u v:Value} {i:TypeInfo} (ho:o.op = .store t x y) (hi:P.info? t=some i) (hs:i.size=1) (hx:ρ x = .pointer (some ad)) (hy:ρ y=v) (hp:V.plainCell v=true) (hc:w.cell? ad=some u) (hf:w.frozen? ad=false):(execOp ρ o).run P w = .ok .skip (w.setCell ad v):=by
 obtain⟨w',hr,rfl⟩:=zEe (P:=P) (t:=t) (a:=ad) (v:=v) (w:=w) (K:=fun w'=>w' = w.setCell ad v) (by
  unfold vstore
  rw [hi]
  cases v with
  | agg cs=>cases hp
  | tuple cs=>cases hp
  | _=>simp only [hs];exact⟨⟨⟨u,hc⟩,hf⟩,trivial⟩)
 unfold execOp
 simp [ho,Instr.storeAt,Instr.sureAddr,hx,hy,hr]
theorem ex_alloc {P:Program} {ρ:Operand->Value} {o:Oper} {w w' : World} {t:TypeId} {v:Value} (ho:o.op = .alloc t) (h:(Instr.alloc t true (.tuple #[])).run P w = .ok v w'):(execOp ρ o).run P w = .ok (.value v) w':=by
 unfold execOp
 simp [ho,h]
theorem al3 (w:World):(Instr.alloc 3 true (.tuple #[])).run prog w = .ok (.pointer (some ⟨w.heap.size,0,none⟩)) (w.alloc (.cells #[.int .i64 0] 3)):=by kernel_rfl
theorem al124 (w:World):(Instr.alloc 124 true (.tuple #[])).run prog w = .ok (.pointer (some ⟨w.heap.size,0,none⟩)) (w.alloc (.cells #[.nilFunc] 124)):=by kernel_rfl
theorem mkf (fn:Fn) (first cap:Array Value) (w:World):(Instr.makeFunc fn first cap).run prog w = .ok (.func fn first cap) w:=rfl
theorem u3:prog.underlying 3=some (.int .i64):=by kernel_rfl
theorem u4:prog.underlying 4=some .bool:=by kernel_rfl
theorem u63 : ∃ d,prog.underlying 63=some d/\aggD d=false:=⟨_,rfl,by kernel_rfl⟩
theorem u124 : ∃ d,prog.underlying 124=some d/\aggD d=false:=⟨_,rfl,by kernel_rfl⟩
theorem i3 : ∃ i,prog.info? 3=some i/\i.size=1:=⟨_,rfl,by kernel_rfl⟩
theorem i124 : ∃ i,prog.info? 124=some i/\i.size=1:=⟨_,rfl,by kernel_rfl⟩
theorem i4 : ∃ i,prog.info? 4=some i/\i.size=1:=⟨_,rfl,by kernel_rfl⟩
theorem zBL {a:Act} {d t:Nat} {v:Value} (h:d≠t):(a.put (some d) v).eval (.tmp t)=a.eval (.tmp t):=by
 simp [Act.put,Act.eval,Array.getD_eq_getD_getElem?,Array.getElem?_setIfInBounds_ne h]
def o70 : Oper := { dst := some 15, op := Op.load 124 (Operand.tmp 8), type := 124, pos := "cuts.go:131", after := #[], guard := none }
def o71 : Oper := { dst := some 16, op := Op.load 3 (Operand.tmp 3), type := 3, pos := "cuts.go:131", after := #[], guard := none }
def o72 : Oper := { dst := some 17, op := Op.move (Operand.tmp 1), type := 22, pos := "cuts.go:131", after := #[], guard := none }
def o73 : Oper := { dst := some 18, op := Op.call { callee := Callee.value (Operand.func 94), args := #[Operand.tmp 16, Operand.tmp 17], argTypes := #[3, 22] }, type := 85, pos := "cuts.go:131", after := #[{ on := 1, ground := Ground.data }, { on := 2, ground := Ground.data }], guard := none }
def o74 : Oper := { dst := some 19, op := Op.call { callee := Callee.value (Operand.tmp 15), args := #[Operand.tmp 18], argTypes := #[85] }, type := 0, pos := "cuts.go:131", after := #[{ on := 0, ground := Ground.data }, { on := 3, ground := Ground.data }, { on := 3, ground := Ground.chain }], guard := none }
def ops7:Array Oper:=#[o70,o71,o72,o73,o74]
theorem rd7a:Region.ready .any ops7 (Array.replicate 5 false)=[0,1,2]:=by kernel_rfl
theorem rd7b:Region.ready .any ops7 ((Array.replicate 5 false).setIfInBounds 0 true)=[1,2]:=by kernel_rfl
theorem rd7c:Region.ready .any ops7 (((Array.replicate 5 false).setIfInBounds 0 true).setIfInBounds 1 true)=[2]:=by kernel_rfl
theorem rd7d:Region.ready .any ops7 ((((Array.replicate 5 false).setIfInBounds 0 true).setIfInBounds 1 true).setIfInBounds 2 true)=[3]:=by kernel_rfl
theorem rd7e:Region.ready .any ops7 (((((Array.replicate 5 false).setIfInBounds 0 true).setIfInBounds 1 true).setIfInBounds 2 true).setIfInBounds 3 true)=[4]:=by kernel_rfl
theorem rd7f:Region.ready .any ops7 ((((((Array.replicate 5 false).setIfInBounds 0 true).setIfInBounds 1 true).setIfInBounds 2 true).setIfInBounds 3 true).setIfInBounds 4 true)=[]:=by kernel_rfl
theorem fr7a:Region.free .any ops7 (Array.replicate 5 false) 0=true:=by kernel_rfl
theorem fr7b:Region.free .any ops7 ((Array.replicate 5 false).setIfInBounds 0 true) 1=true:=by kernel_rfl
theorem fr7c:Region.free .any ops7 (((Array.replicate 5 false).setIfInBounds 0 true).setIfInBounds 1 true) 2=true:=by kernel_rfl
theorem ns74:needS ops7 4=false:=by kernel_rfl
theorem ns7:Region.noSelect ops7=true:=by kernel_rfl
theorem ex73 {ρ:Operand->Value} {w:World} {x y:Value} (h0:ρ (.func 94) = .func (.func 94) #[] #[]) (h1:ρ (.tmp 16)=y) (h2:ρ (.tmp 17)=x):(execOp ρ o73).run prog w = .ok (.enter 94 #[y,x]) w:=by
 simp [o73,go_sem,h0,h1,h2]
theorem ex74 {ρ:Operand->Value} {w:World} {first cap:Array Value} {v:Value} (h1:ρ (.tmp 15) = .func (.func 100) first cap) (h2:ρ (.tmp 18)=v):(execOp ρ o74).run prog w = .ok (.enter 100 (first++#[v]++cap)) w:=by
 simp [o74,go_sem,h1,h2]
theorem wpOp_step {P:Program} {ops:Array Oper} {Q:Exit->Act->World->Prop} {K:Act->World->Prop} {i:Nat} {a:Act} {w:World} {o:Oper} {r:Result Next} (ho:ops[i]? = some o) (hg:o.guard=none) (hx:(execOp a.eval o).run P w=r) (h:o.upon P a K Q r):wpOp P ops Q i K a w:=by
 unfold wpOp
 rw [ho]
 simp only [Region.wanted,hg,if_true]
 refine .inl ?_
 unfold Oper.wp
 rw [hx]
 exact h
set_option maxHeartbeats 2000000 in
theorem reg7 {Q:Exit->Act->World->Prop} {l:Array Value} {D:List Deferred} {w:World} {fv x y:Value} {pn pf:Addr} (hQ : ∀ c a d v w,15<=d->Q (.panic c) (a.put (some d) v) w->Q (.panic c) a w) (hl:l.size=24) (h1:l.getD 1 undef=x) (h3:l.getD 3 undef = .pointer (some pn)) (h8:l.getD 8 undef = .pointer (some pf)) (hn:w.cell? pn=some y) (hf:w.cell? pf=some fv) (hpn:pn.block<w.heap.size) (hpf:pf.block<w.heap.size)
  (h:Calls prog 94 #[y,x] w.drew fun e w1=>∃ v,e = .returned v/\Below w.drew.heap.size w.drew w1/\∃ first cap,fv = .func (.func 100) first cap/\Calls prog 100 (first++#[v]++cap) w1 fun
   | .returned u,w2=>∀ l' : Array Value,l'.size=24->(∀ t,t∉[15,16,17,18,19]->l'[t]? = l[t]?)->Q .normal ⟨l',D⟩ w2
   | .panicked c,w2=>∀ l' : Array Value,l'.size=24->(∀ t,t∉[15,16,17,18,19]->l'[t]? = l[t]?)->Q (.panic c) ⟨l',D⟩ w2
   | .outgrown,_=>LetsOut Q) :
  (Code.region 7 ops7 true).wp prog Q ⟨l,D⟩ w:=by
 have j:=Region.noSelect_spec (ops:=ops7) ns7
 refine wp_region_any siE_ok.mixed ?_
 refine wpA_any (S:=Below w.drew.heap.size w.drew) _ _ _ _ ?_
 show wpA _ _ _ _ 5 (Array.replicate 5 false) _ _
 have m:zEp ops7 (Array.replicate 5 false):=fun k ok hk hl=>(by rw [zB9] at hl;cases hl)
 have m0:0∈Region.ready .any ops7 (Array.replicate 5 false):=by rw [rd7a];simp
 have m1:1∈Region.ready .any ops7 ((Array.replicate 5 false).setIfInBounds 0 true):=by rw [rd7b];simp
 have m2:2∈Region.ready .any ops7 (((Array.replicate 5 false).setIfInBounds 0 true).setIfInBounds 1 true):=by rw [rd7c];simp
 have n:=zBz m m0
 have a2:=zBz n m1
 have p : ∀ {ad:Addr} {v:Value} {w' : World},w.cell? ad=some v->ad.block<w.heap.size->Below w.drew.heap.size w.drew w'->w'.cell? ad=some v:=fun h1 h2 h3=>(h3.cell h2).trans h1
 obtain⟨a3,g,f⟩:=u124
 refine zBW (i:=0) (oi:=o70) (v:=fv) (T:=Below w.drew.heap.size w.drew) rfl j (fun c a w=>hQ c a _ _ w (by decide)) (.inr ⟨rfl,fun w h=>h⟩) 4 _ _ _ (Region.free_spec rfl fr7a) m0 m (.inl ⟨rfl,fun w' b=>zGh (o:=o70) rfl g f h8 (p hf hpf b)⟩) (Below.refl _ _) ?_
 show wpA _ _ _ _ 4 _ (({ tmps:=l,defers:=D } : Act).put (some 15) fv) w.drew
 refine zBW (i:=1) (oi:=o71) (v:=y) (T:=Below w.drew.heap.size w.drew) rfl j (fun c a w=>hQ c a _ _ w (by decide)) (.inr ⟨rfl,fun w h=>h⟩) 3 _ _ _ (Region.free_spec rfl fr7b) m1 n (.inl ⟨rfl,fun w' b=>zGh (o:=o71) (x := .tmp 3) rfl u3 rfl (by rw [zBL (by decide)];exact h3) (p hn hpn b)⟩) (Below.refl _ _) ?_
 show wpA _ _ _ _ 3 _ ((({ tmps:=l,defers:=D } : Act).put (some 15) fv).put (some 16) y) w.drew
 refine zBW (i:=2) (oi:=o72) (v:=x) (T:=fun _=>True) rfl j (fun c a w=>hQ c a _ _ w (by decide)) (.inl fun _=>trivial) 2 _ _ _ (Region.free_spec rfl fr7c) m2 a2 (.inl ⟨rfl,fun w' b=>?_⟩) trivial ?_
 ·have e1:((({ tmps:=l,defers:=D } : Act).put (some 15) fv).put (some 16) y).eval (.tmp 1)=x:=by rw [zBL (by decide),zBL (by decide)];exact h1
  unfold execOp
  simp [o72,e1]
 show wpA _ _ _ _ 2 _ (((({ tmps:=l,defers:=D } : Act).put (some 15) fv).put (some 16) y).put (some 17) x) w.drew
 have s:(((({ tmps:=l,defers:=D } : Act).put (some 15) fv).put (some 16) y).put (some 17) x).eval (.tmp 15)=fv:=by
  rw [zBL (by decide),zBL (by decide),zBT (by show 15<l.size;omega)]
 have a0:(((({ tmps:=l,defers:=D } : Act).put (some 15) fv).put (some 16) y).put (some 17) x).eval (.tmp 16)=y:=by
  rw [zBL (by decide),zBT (by rw [put_size];show 16<l.size;omega)]
 have a1:(((({ tmps:=l,defers:=D } : Act).put (some 15) fv).put (some 16) y).put (some 17) x).eval (.tmp 17)=x:=by
  rw [zBT (by rw [put_size,put_size];show 17<l.size;omega)]
 refine⟨fun hh=>(by rw [rd7d] at hh;cases hh),fun i hi=>?_⟩
 rw [rd7d] at hi
 simp only [List.mem_singleton] at hi
 subst hi
 refine wpOp_step (o:=o73) rfl rfl (ex73 rfl a0 a1) ?_
 rw [Oper.upon_enter]
 refine Calls.mono h ?_
 rintro e w1 ⟨v,rfl,hb,first,cap,rfl,hc⟩
 refine⟨.inr fun _=>hb,?_⟩
 show wpA _ _ _ _ 1 _ (((((({ tmps:=l,defers:=D } : Act).put (some 15) (.func (.func 100) first cap)).put (some 16) y).put (some 17) x).put (some 18) v)) w1
 refine⟨fun hh=>(by rw [rd7e] at hh;cases hh),fun i hi=>?_⟩
 rw [rd7e] at hi
 simp only [List.mem_singleton] at hi
 subst hi
 have e1:(((((({ tmps:=l,defers:=D } : Act).put (some 15) (.func (.func 100) first cap)).put (some 16) y).put (some 17) x).put (some 18) v)).eval (.tmp 15) = .func (.func 100) first cap:=by rw [zBL (by decide)];exact s
 have e2:(((((({ tmps:=l,defers:=D } : Act).put (some 15) (.func (.func 100) first cap)).put (some 16) y).put (some 17) x).put (some 18) v)).eval (.tmp 18)=v:=by
  rw [zBT (by rw [put_size,put_size,put_size];show 18<l.size;omega)]
 refine wpOp_step (o:=o74) rfl rfl (ex74 e1 e2) ?_
 rw [Oper.upon_enter]
 refine Calls.mono hc ?_
 rintro e w2 he
 cases e with
 | returned u =>
  refine⟨.inr fun hh=>(by rw [ns74] at hh;cases hh),rd7f,he _ ?_ ?_⟩
  ·show ((((((({ tmps:=l,defers:=D } : Act).put (some 15) _).put (some 16) _).put (some 17) _).put (some 18) _).put (some 19) u)).tmps.size=24
   rw [put_size,put_size,put_size,put_size,put_size];exact hl
  ·intro t ht
   simp only [List.mem_cons,List.not_mem_nil,or_false,not_or] at ht
   obtain⟨t1,t2,t3,t4,t5⟩:=ht
   show (((((l.setIfInBounds 15 _).setIfInBounds 16 _).setIfInBounds 17 _).setIfInBounds 18 _).setIfInBounds 19 _)[t]? = _
   rw [Array.getElem?_setIfInBounds_ne (Ne.symm t5),Array.getElem?_setIfInBounds_ne (Ne.symm t4),Array.getElem?_setIfInBounds_ne (Ne.symm t3),Array.getElem?_setIfInBounds_ne (Ne.symm t2),Array.getElem?_setIfInBounds_ne (Ne.symm t1)]
 | panicked c =>
  refine he _ (by rw [Array.size_setIfInBounds,put_size,put_size,put_size];exact hl) fun t ht=>?_
  simp only [List.mem_cons,List.not_mem_nil,or_false,not_or] at ht
  obtain⟨t1,t2,t3,t4,t5⟩:=ht
  show ((((l.setIfInBounds 15 _).setIfInBounds 16 _).setIfInBounds 17 _).setIfInBounds 18 _)[t]? = _
  rw [Array.getElem?_setIfInBounds_ne (Ne.symm t4),Array.getElem?_setIfInBounds_ne (Ne.symm t3),Array.getElem?_setIfInBounds_ne (Ne.symm t2),Array.getElem?_setIfInBounds_ne (Ne.symm t1)]
 | outgrown=>exact he
def NodeR (b0:Nat) (acc:Option Nat) (w:World) (e:Ending) (w' : World):Prop :=
 But b0 w w'/\match acc with
  | some j=>e = .returned (.tuple #[])/\Box w' b0 3 [.int .i64 (j:Nat)]
  | none=>e = .panicked badC
theorem leaves_congr {P:Program} {fn:Func} {t t' : Array Value} {R:Ending->World->Prop} (h:results fn t=results fn t') : ∀ (ds:List Deferred) (u:FrameMode) (w:World),Leaves P fn t R ds u w->Leaves P fn t' R ds u w:=by
 intro ds
 induction ds with
 | nil =>
  intro u w hl
  cases u with
  | run=>exact hl
  | returning=>unfold Leaves at hl ⊢;rw [<- h];exact hl
  | panicking c=>exact hl
 | cons d ds ih =>
  intro u w hl
  obtain⟨hu,fv,cap,f,args,h1,h2,h3⟩:=hl
  refine⟨hu,fv,cap,f,args,h1,h2,CallsD.mono h3 fun e u' w' he=>?_⟩
  cases e with
  | returned v=>exact ih _ _ he
  | panicked c=>exact ih _ _ he
  | outgrown=>exact he
theorem res53_put {a:Act} {d:Nat} {v:Value} (hd:15<=d):results f53 (a.put (some d) v).tmps=results f53 a.tmps:=by
 have:(a.tmps.setIfInBounds d v)[6]? = a.tmps[6]?:=Array.getElem?_setIfInBounds_ne (by omega)
 simp [results,Tryz.results53,Act.put,this]
theorem res53 {tmps:Array Value} {w:World} {b:Nat} {v:Value} (h6:tmps[6]? = some (.pointer (some ⟨b,0,none⟩))) (hc:w.cell? ⟨b,0,none⟩=some v):(results f53 tmps).run prog w = .ok v w:=by
 simp [results,Tryz.results53,h6,asAddr,zCt u4 rfl hc]
theorem eval_of {a:Act} {t:Nat} {v:Value} (h:a.tmps[t]? = some v):a.eval (.tmp t)=v:=by
 simp [Act.eval,Array.getD_eq_getD_getElem?,h]
def o80 : Oper := { dst := some 20, op := Op.load 3 (Operand.tmp 7), type := 3, pos := "cuts.go:132", after := #[], guard := none }
def o81 : Oper := { dst := some 21, op := Op.load 63 (Operand.tmp 5), type := 63, pos := "cuts.go:132", after := #[], guard := none }
def o82 : Oper := { dst := some 22, op := Op.call { callee := Callee.builtin Builtin.len, args := #[Operand.tmp 21], argTypes := #[63] }, type := 3, pos := "cuts.go:132", after := #[{ on := 1, ground := Ground.data }], guard := none }
def o83 : Oper := { dst := some 23, op := Op.binOp BinOp.eql 3 (Operand.tmp 20) (Operand.tmp 22) 3, type := 4, pos := "cuts.go:132", after := #[{ on := 0, ground := Ground.data }, { on := 2, ground := Ground.data }], guard := none }
def o84 : Oper := { dst := none, op := Op.store 4 (Operand.tmp 6) (Operand.tmp 23), type := 0, pos := "cuts.go:132", after := #[{ on := 3, ground := Ground.data }, { on := 0, ground := Ground.phase }, { on := 1, ground := Ground.phase }, { on := 2, ground := Ground.phase }, { on := 3, ground := Ground.phase }], guard := none }
def ops8:Array Oper:=#[o80,o81,o82,o83,o84]
theorem ex82 {ρ:Operand->Value} {w:World} {a:OA} {n c:Nat} (h:ρ (.tmp 21) = .slice a n c):(execOp ρ o82).run prog w = .ok (.value (.int .i64 (n:Nat))) w:=by
 simp [o82,go_sem,h]
theorem ex83 {ρ:Operand->Value} {w:World} {a b:Int} (h:ρ (.tmp 20) = .int .i64 a) (h2:ρ (.tmp 22) = .int .i64 b):(execOp ρ o83).run prog w = .ok (.value (.bool (decide (a=b)))) w:=by
 simp [o83,go_sem,h,h2]
 rw [Bool.eq_iff_iff];simp
set_option maxHeartbeats 4000000 in
theorem c53 {X:TX} {A:TA} {Y:PX} {B:PA} {n:Int} {ra pa:OA} {rc pc:Nat} (acc:Option Nat) (hs:smallX X 12 60) (hX:Tame X) (w:World) (hR:RowsT w ra X A) (hY:CutsT w pa Y B) (hg:Gl w)
  (H:okRows X n->∀ (w2:World) (b0 rb:Nat) (Rl:RowL),Ext w w2->w.heap.size+2<b0->Box w2 b0 3 [.int .i64 0]->Box w2 (w.heap.size+1) 63 [.slice pa Y.m pc]->Box w2 w.heap.size 3 [.int .i64 n] ->
   Box w2 (b0+1) 124 [.func (.func 100) #[] #[.pointer (some ⟨b0,0,none⟩),.pointer (some ⟨w.heap.size+1,0,none⟩),.pointer (some ⟨w.heap.size,0,none⟩),.pointer (some ⟨b0+1,0,none⟩)]]->RowsO (b0+2) w2 rb (tSys X n.toNat) Rl ->
   Calls prog 100 #[.slice (some ⟨rb,0,none⟩) X.m X.m,.pointer (some ⟨b0,0,none⟩),.pointer (some ⟨w.heap.size+1,0,none⟩),.pointer (some ⟨w.heap.size,0,none⟩),.pointer (some ⟨b0+1,0,none⟩)] w2 (NodeR b0 acc w2)) :
  Ret prog 53 #[.int .i64 n,.slice ra X.m rc,.slice pa Y.m pc] w fun v w'=>(∃ b,v = .bool b/\(b=true↔okRows X n/\acc=some Y.m))/\Ext w w':=by
 show Calls _ _ _ _ _
 go_enter_defers func53,ntmps53
 go_wp2_with fail
 rename_i K2 h2 K1 h1 K0 h0
 have z1:=(((yE w).alloc (.cells #[.int .i64 n] 3)).alloc (.cells #[.slice pa Y.m pc] 63)).alloc (.cells #[.bool false] 4)
 have bN:Box (((w.alloc (.cells #[.int .i64 n] 3)).alloc (.cells #[.slice pa Y.m pc] 63)).alloc (.cells #[.bool false] 4)) w.heap.size 3 [.int .i64 n]:=((yN w [.int .i64 n] 3).ext ((yE _).alloc _)).ext ((yE _).alloc _)
 have bP:Box (((w.alloc (.cells #[.int .i64 n] 3)).alloc (.cells #[.slice pa Y.m pc] 63)).alloc (.cells #[.bool false] 4)) (w.heap.size+1) 63 [.slice pa Y.m pc]:=by
  have:=(yN (w.alloc (.cells #[.int .i64 n] 3)) [.slice pa Y.m pc] 63).ext ((yE _).alloc (.cells #[.bool false] 4))
  rw [size_alloc] at this;exact this
 have bO:Box (((w.alloc (.cells #[.int .i64 n] 3)).alloc (.cells #[.slice pa Y.m pc] 63)).alloc (.cells #[.bool false] 4)) (w.heap.size+1+1) 4 [.bool false]:=by
  have:=yN ((w.alloc (.cells #[.int .i64 n] 3)).alloc (.cells #[.slice pa Y.m pc] 63)) [.bool false] 4
  rw [size_alloc,size_alloc] at this;exact this
 generalize ((w.alloc (.cells #[.int .i64 n] 3)).alloc (.cells #[.slice pa Y.m pc] 63)).alloc (.cells #[.bool false] 4)=W1 at z1 bN bP bO ⊢
 refine Calls.mono (c92 hX W1 (hR.ext z1) (hg.ext z1)) ?_
 rintro e w1 ⟨v,rfl,⟨b,rfl,hb⟩,s⟩
 have a4:=bN.ext s
 have e2:=bP.ext s
 have i:=bO.ext s
 have b1:=z1.trans s
 clear z1 bN bP bO s
 have lO:=i.lt
 obtain⟨g5,d2,d4⟩:=i4
 obtain⟨f9,a8,a9⟩:=i124
 obtain⟨g4,e9,f7⟩:=i3
 obtain⟨g1,d0,b7⟩:=u63
 refine h0 _ _ (zA9 rfl (r := .ok (.value (.bool !b)) w1) (by simp [go_sem]) ?_)
 refine h1 _ _ ?_
 cases b with
 | false =>
  refine wp_cond_true rfl (wp_seq (wp_region_list (zA9 rfl (zE1 (v := .bool false) rfl d2 d4 rfl rfl rfl (i.blk.cell (j:=0) rfl) i.blk.free) ?_)))
  refine wp_ret ?_
  have e1:=i.set 0 (.bool false)
  refine⟨.bool false,res53 (b:=w.heap.size+1+1) rfl (e1.blk.cell (j:=0) rfl),_,rfl,⟨false,rfl,?_⟩,b1.setCell (by show w.heap.size<=w.heap.size+1+1;omega) _⟩
  simp only [Bool.false_eq_true,false_iff,not_and]
  intro h
  have:=hb.2 h
  cases this
 | true =>
  have u:=hb.1 rfl
  have g2:0<=n:=u.1
  obtain⟨nn,rfl⟩ : ∃ nn:Nat,n=nn:=⟨n.toNat,by omega⟩
  have H':=H u
  clear H
  refine wp_cond_false rfl (wp_skip ?_)
  refine h2 _ _ ?_
  clear h0 h1 h2
  refine wp_seq (wp_region_list (zA9 rfl (r := .ok (.value (.func (.func 99) #[] #[.pointer (some ⟨w.heap.size+1+1,0,none⟩)])) w1) (by simp [go_sem,mkf]) ?_))
  refine zA9 rfl (r := .ok (.defer ⟨.fn (.func 99) #[.pointer (some ⟨w.heap.size+1+1,0,none⟩)],#[]⟩) w1) (by simp [go_sem]) ?_
  have bA:=yN w1 [.int .i64 0] 3
  have zA:=(yE w1).alloc (.cells #[.int .i64 0] 3)
  have sA:(w1.alloc (.cells #[.int .i64 0] 3)).heap.size=w1.heap.size+1:=size_alloc ..
  refine wp_seq (wp_region_list (zA9 rfl (ex_alloc rfl (al3 w1)) ?_))
  rw [show (Obj.cells [Value.int .i64 0].toArray 3) = .cells #[.int .i64 0] 3 from rfl] at bA
  generalize w1.alloc (.cells #[.int .i64 0] 3)=W2 at bA zA sA ⊢
  refine zA9 rfl (zE1 (v := .int .i64 0) (ad:=⟨w1.heap.size,0,none⟩) rfl e9 f7 rfl rfl rfl (bA.blk.cell (j:=0) rfl) bA.blk.free) ?_
  have b4:Box (W2.setCell ⟨w1.heap.size,0,none⟩ (.int .i64 0)) w1.heap.size 3 [.int .i64 0]:=bA.set 0 (.int .i64 0)
  have d8:Ext w1 (W2.setCell ⟨w1.heap.size,0,none⟩ (.int .i64 0)):=zA.setCell yL _
  have a0:(W2.setCell ⟨w1.heap.size,0,none⟩ (.int .i64 0)).heap.size=w1.heap.size+1:=by rw [<- sA];simp [World.setCell]
  generalize W2.setCell ⟨w1.heap.size,0,none⟩ (.int .i64 0)=W3 at b4 d8 a0 ⊢
  clear bA zA sA
  have b8:(Instr.alloc 124 true (.tuple #[])).run prog W3 = .ok (.pointer (some ⟨w1.heap.size+1,0,none⟩)) (W3.alloc (.cells #[.nilFunc] 124)):=by rw [al124,a0]
  have bF:Box (W3.alloc (.cells #[.nilFunc] 124)) (w1.heap.size+1) 124 [.nilFunc]:=by
   have:=yN W3 [.nilFunc] 124
   rw [a0] at this;exact this
  have zF:=(yE W3).alloc (.cells #[.nilFunc] 124)
  have sF:(W3.alloc (.cells #[.nilFunc] 124)).heap.size=w1.heap.size+2:=by rw [size_alloc,a0]
  refine wp_seq (wp_region_list (zA9 rfl (ex_alloc rfl b8) ?_))
  generalize W3.alloc (.cells #[.nilFunc] 124)=W4 at bF zF sF ⊢
  clear b8
  refine wp_seq (wp_region_list (zA9 rfl (r := .ok (.value (.func (.func 100) #[] #[.pointer (some ⟨w1.heap.size,0,none⟩),.pointer (some ⟨w.heap.size+1,0,none⟩),.pointer (some ⟨w.heap.size,0,none⟩),.pointer (some ⟨w1.heap.size+1,0,none⟩)])) W4) (by simp [go_sem,mkf]) ?_))
  refine zA9 rfl (zE1 (v := .func (.func 100) #[] #[.pointer (some ⟨w1.heap.size,0,none⟩),.pointer (some ⟨w.heap.size+1,0,none⟩),.pointer (some ⟨w.heap.size,0,none⟩),.pointer (some ⟨w1.heap.size+1,0,none⟩)]) (ad:=⟨w1.heap.size+1,0,none⟩) rfl a8 a9 rfl rfl rfl (bF.blk.cell (j:=0) rfl) bF.blk.free) ?_
  have a1:=bF.set 0 (.func (.func 100) #[] #[.pointer (some ⟨w1.heap.size,0,none⟩),.pointer (some ⟨w.heap.size+1,0,none⟩),.pointer (some ⟨w.heap.size,0,none⟩),.pointer (some ⟨w1.heap.size+1,0,none⟩)])
  have b3:Ext W3 (W4.setCell ⟨w1.heap.size+1,0,none⟩ (.func (.func 100) #[] #[.pointer (some ⟨w1.heap.size,0,none⟩),.pointer (some ⟨w.heap.size+1,0,none⟩),.pointer (some ⟨w.heap.size,0,none⟩),.pointer (some ⟨w1.heap.size+1,0,none⟩)])):=zF.setCell (by rw [a0];exact yL) _
  have d7:(W4.setCell ⟨w1.heap.size+1,0,none⟩ (.func (.func 100) #[] #[.pointer (some ⟨w1.heap.size,0,none⟩),.pointer (some ⟨w.heap.size+1,0,none⟩),.pointer (some ⟨w.heap.size,0,none⟩),.pointer (some ⟨w1.heap.size+1,0,none⟩)])).heap.size=w1.heap.size+2:=by rw [<- sF];simp [World.setCell]
  generalize W4.setCell ⟨w1.heap.size+1,0,none⟩ (.func (.func 100) #[] #[.pointer (some ⟨w1.heap.size,0,none⟩),.pointer (some ⟨w.heap.size+1,0,none⟩),.pointer (some ⟨w.heap.size,0,none⟩),.pointer (some ⟨w1.heap.size+1,0,none⟩)])=W5 at a1 b3 d7 ⊢
  clear bF zF sF
  have a3:=d8.trans b3
  have f8:=b1.trans a3
  refine wp_seq (reg7 (pn:=⟨w.heap.size,0,none⟩) (pf:=⟨w1.heap.size+1,0,none⟩) (fun c a d v w hd h=>leaves_congr (res53_put hd) _ _ _ h) rfl rfl rfl rfl ((a4.ext a3).blk.cell (j:=0) rfl) (a1.blk.cell (j:=0) rfl) (a4.ext a3).lt a1.lt ?_)
  have b9:=(yE W5).drew
  have d5:=f8.trans b9
  refine Calls.mono (c94s (n:=nn) (c:=rc) hX u (zBS hs u) W5.drew (hR.ext d5) (hg.ext d5)) ?_
  rintro e w6 ⟨v,rfl,Rl,rfl,b6,d1⟩
  refine⟨_,rfl,d1,_,_,rfl,?_⟩
  have a7:=b9.trans d1
  have a2:=a3.trans a7
  have e4:=b3.trans a7
  have g0:W5.drew.heap.size=w1.heap.size+2:=d7
  have b2:=b1.trans a2
  have a6:=e2.ext a2
  have b5:=i.ext a2
  have d9:=b4.ext e4
  refine Calls.mono (H' w6 w1.heap.size W5.drew.heap.size Rl b2 (by omega) d9 a6 (a4.ext a2) (a1.ext a7) (by rw [g0] at b6 ⊢;exact b6)) ?_
  rintro e w7 ⟨p,hm⟩
  have e3:=a6.same (p.block _ (by omega) a6.lt)
  have g:=b5.same (p.block _ (by omega) b5.lt)
  have d6:Ext w w7:=Below.trans b2 (p.below (B:=w.heap.size) (by omega) b2.size)
  cases acc with
  | some j =>
   obtain⟨rfl,e0⟩:=hm
   intro l' d3 k
   have h5:l'[5]? = some (.pointer (some ⟨w.heap.size+1,0,none⟩)):=(k 5 (by decide)).trans rfl
   have h6:l'[6]? = some (.pointer (some ⟨w.heap.size+1+1,0,none⟩)):=(k 6 (by decide)).trans rfl
   have h7:l'[7]? = some (.pointer (some ⟨w1.heap.size,0,none⟩)):=(k 7 (by decide)).trans rfl
   have main : ∀ a:Act,a.tmps=l'->a.defers=[⟨.fn (.func 99) #[.pointer (some ⟨w.heap.size+1+1,0,none⟩)],#[]⟩]->(Code.seq (.region 8 ops8 false) .ret).wp prog (bodyPostD prog f53 fun e w'=>∃ v,e = .returned v/\(∃ b,v = .bool b/\(b=true↔okRows X (nn:Int)/\some j=some Y.m))/\Ext w w') a w7:=by
    intro a l e8
    have e5:a.eval (.tmp 5)=_:=eval_of (l▸h5)
    have e6:a.eval (.tmp 6)=_:=eval_of (l▸h6)
    have e7:a.eval (.tmp 7)=_:=eval_of (l▸h7)
    have g3:a.tmps.size=24:=l▸d3
    refine wp_seq (wp_region_list ?_)
    refine zA9 (o:=o80) rfl (zGh (o:=o80) rfl u3 rfl e7 (e0.blk.cell (j:=0) rfl)) ?_
    show wpList _ _ _ [o81,o82,o83,o84] (a.put (some 20) (.int .i64 (j:Nat))) w7
    refine zA9 (o:=o81) rfl (zGh (o:=o81) (x := .tmp 5) rfl d0 b7 (by rw [zBL (by decide)];exact e5) (e3.blk.cell (j:=0) rfl)) ?_
    show wpList _ _ _ [o82,o83,o84] ((a.put (some 20) (.int .i64 (j:Nat))).put (some 21) (.slice pa Y.m pc)) w7
    refine zA9 (o:=o82) rfl (ex82 (zBT (by rw [put_size];omega))) ?_
    show wpList _ _ _ [o83,o84] (((a.put (some 20) (.int .i64 (j:Nat))).put (some 21) (.slice pa Y.m pc)).put (some 22) (.int .i64 (Y.m:Nat))) w7
    refine zA9 (o:=o83) rfl (ex83 (a:=(j:Int)) (b:=(Y.m:Int)) (by rw [zBL (by decide),zBL (by decide),zBT (by omega)]) (zBT (by rw [put_size,put_size];omega))) ?_
    show wpList _ _ _ [o84] ((((a.put (some 20) (.int .i64 (j:Nat))).put (some 21) (.slice pa Y.m pc)).put (some 22) (.int .i64 (Y.m:Nat))).put (some 23) (.bool (decide ((j:Int)=(Y.m:Int))))) w7
    refine zA9 (o:=o84) rfl (zE1 (o:=o84) (x := .tmp 6) (y := .tmp 23) (ad:=⟨w.heap.size+1+1,0,none⟩) (v := .bool (decide ((j:Int)=(Y.m:Int)))) rfl d2 d4 (by rw [zBL (by decide),zBL (by decide),zBL (by decide),zBL (by decide)];exact e6) (zBT (by rw [put_size,put_size,put_size];omega)) rfl (g.blk.cell (j:=0) rfl) g.blk.free) ?_
    refine wp_ret ?_
    show Leaves _ _ _ _ a.defers _ _
    rw [e8]
    refine leaves_cons (f:=99) (args:=#[.pointer (some ⟨w.heap.size+1+1,0,none⟩)]) (by simp) (by simp [go_sem]) ?_
    refine (c99i _ _).mono ?_
    rintro e u' w8 ⟨rfl,rfl,rfl⟩
    have a5:=g.set 0 (.bool (decide ((j:Int)=(Y.m:Int))))
    refine⟨_,res53 (b:=w.heap.size+1+1) ?_ (a5.blk.cell (j:=0) rfl),_,rfl,⟨_,rfl,?_⟩,d6.setCell (by show w.heap.size<=w.heap.size+1+1;omega) _⟩
    ·show ((((a.tmps.setIfInBounds 20 _).setIfInBounds 21 _).setIfInBounds 22 _).setIfInBounds 23 _)[6]? = _
     rw [Array.getElem?_setIfInBounds_ne (by decide),Array.getElem?_setIfInBounds_ne (by decide),Array.getElem?_setIfInBounds_ne (by decide),Array.getElem?_setIfInBounds_ne (by decide),l,h6]
    ·simp only [decide_eq_true_eq,Option.some.injEq]
     exact⟨fun h=>⟨u,by omega⟩,fun h=>by omega⟩
   exact main _ rfl rfl
  | none =>
   obtain rfl:=hm
   intro l' d3 k
   have h6:l'[6]? = some (.pointer (some ⟨w.heap.size+1+1,0,none⟩)):=(k 6 (by decide)).trans rfl
   show Leaves _ _ l' _ [⟨.fn (.func 99) #[.pointer (some ⟨w.heap.size+1+1,0,none⟩)],#[]⟩] (.panicking badC) w7
   refine leaves_cons (f:=99) (args:=#[.pointer (some ⟨w.heap.size+1+1,0,none⟩)]) (by simp) (by simp [go_sem]) ?_
   refine (c99p _ false _ _ _ _ (g.blk.cell (j:=0) rfl) g.blk.free).mono ?_
   rintro e u' w8 ⟨rfl,rfl,rfl⟩
   have a5:=g.set 0 (.bool false)
   exact⟨_,res53 (b:=w.heap.size+1+1) h6 (a5.blk.cell (j:=0) rfl),_,rfl,⟨false,rfl,by simp⟩,d6.setCell (by show w.heap.size<=w.heap.size+1+1;omega) _⟩
def reg5 (pa:OA) (m pc b0 b1 b2 b3:Nat):List Value:=[.slice pa m pc,.pointer (some ⟨b0,0,none⟩),.pointer (some ⟨b1,0,none⟩),.pointer (some ⟨b2,0,none⟩),.pointer (some ⟨b3,0,none⟩)]
def reg7l (pa:OA) (m pc b0 b1 b2 b3 cb:Nat):List Value:=[.slice pa m pc,.pointer (some ⟨b0,0,none⟩),.pointer (some ⟨b1,0,none⟩),.pointer (some ⟨b2,0,none⟩),.pointer (some ⟨b3,0,none⟩),undef,.pointer (some ⟨cb,0,none⟩)]
noncomputable def tail100:Code := .seq (.seq q4 (.cond (.tmp 22) (.seq (.seq q5 (.cond (.tmp 43) q6 .skip)) .ret) .skip)) rest7
set_option maxHeartbeats 4000000 in
theorem head_wp {Y:PX} {B:PA} {pa pr:OA} {m pc prc i b0 b1 b2 b3:Nat} {Q:Exit->Act->World->Prop} (hm:Y.m<=60) (w:World) (h0:Box w b0 3 [.int .i64 i]) (h1:Box w b1 63 [.slice pr Y.m prc]) (h01:b0≠b1) (hYc:CutsT w pr Y B) {a:Act} (ha:Regs a (reg5 pa m pc b0 b1 b2 b3++[undef]))
  (hout : ¬ i<Y.m->∀ a',a'.defers=[]->Q (.panic badC) a' w)
  (hin:i<Y.m->∀ a' w' cb,Regs a' (reg7l pa m pc b0 b1 b2 b3 cb)->w.heap.size<=cb->Box w' cb 115 (cutc Y B i)->Box w' b0 3 [.int .i64 ((i+1:Nat):Int)]->But b0 w w'->tail100.wp prog Q a' w') :
  body100.wp prog Q a w:=by
 have f:f100.ntmps=98:=ntmps100
 have b7:=h0.lt
 rw [body_eq]
 refine wp_seq (wp_seq ?_)
 refine wp_mono (zC5 siE_ok (fn:=pc0) (args:=reg5 pa m pc b0 b1 b2 b3) (R:=fun v w'=>v = .bool (decide ¬ (i<Y.m))/\w' = w) SiPb0 ?_ ((ha.take 5).sat (by simp [reg5]) f)) ?_
 ·refine runP0 _ _ _ _ _ _ _ _ _ ⟨_,h0.blk.cell (j:=0) rfl,_,_,_,h1.blk.cell (j:=0) rfl,?_,rfl⟩
  congr 1
  by_cases h:i<Y.m
  ·rw [decide_eq_false (by omega),decide_eq_false (by omega)]
  ·rw [decide_eq_true (by omega),decide_eq_true (by omega)]
 rintro e a1 w1 ⟨rfl,⟨v,hr,rfl,rfl⟩,d,p,a8⟩
 have b:a1.tmps.size=98:=a8.trans (by rw [show pc0.ntmps=98 from f];rfl)
 have hv:a1.eval (.tmp 12)=_:=zFU (fn:=pc0) (t:=12) rfl hr
 have k:=ha.keep' wm0 d p b
 by_cases hi:i<Y.m
 ·rw [decide_eq_false (by omega)] at hv
  refine wp_cond_false hv (wp_skip ?_)
  clear hout d hr
  refine wp_seq ?_
  obtain⟨ad,b5,a4⟩:=hYc.get hi
  have bC:=yN w1 [.bool false,.slice none 0 0,.string { data:=#[] },.slice none 0 0] 115
  have z1:=(yE w1).alloc (.cells [Value.bool false,.slice none 0 0,.string { data:=#[] },.slice none 0 0].toArray 115)
  have u:=bC.put (cutc Y B i) rfl
  have z2:=z1.put (o:=0) yL (cutc Y B i) 0
  refine wp_mono (zC5 siE_ok (fn:=pc2) (args:=reg5 pa m pc b0 b1 b2 b3) (R:=fun v w'=>v = .pointer (some ⟨w1.heap.size,0,none⟩)/\Box w' w1.heap.size 115 (cutc Y B i)/\Ext w1 w') SiPb2 ?_ ((k.take 5).sat (by simp [reg5]) f)) ?_
  ·exact runP2 _ _ _ _ _ _ _ _ _ ⟨_,_,_,h1.blk.cell (j:=0) rfl,_,h0.blk.cell (j:=0) rfl,_,b5,⟨by omega,by omega⟩,_,_,_,_,_,_,_,_,a4,bC.blk.writable (by decide),rfl,u,z2⟩
  rintro e a2 w2 ⟨rfl,⟨v,hr,rfl,a0,s⟩,d,a6,a9⟩
  have b:a2.tmps.size=98:=a9.trans (by rw [show pc2.ntmps=98 from f];rfl)
  have b6:a2.eval (.tmp 6)=_:=zFU (fn:=pc2) (t:=6) rfl hr
  have l:=k.keep' wm2 d a6 b
  have n:Regs a2 (reg7l pa m pc b0 b1 b2 b3 w1.heap.size):=l.snoc (by show 6<98;decide) b6
  clear d hr l
  refine wp_seq ?_
  have g:=h0.ext s
  refine wp_mono (zC5 siE_ok (fn:=pc3) (args:=reg7l pa m pc b0 b1 b2 b3 w1.heap.size) (R:=fun v w'=>w' = w2.setCell ⟨b0,0,none⟩ (.int .i64 ((i+1:Nat):Int))) SiPb3 ?_ (n.sat (by simp [reg7l]) f)) ?_
  ·refine runP3 _ _ _ _ _ _ _ _ _ _ _ ⟨_,g.blk.cell (j:=0) rfl,⟨⟨_,g.blk.cell (j:=0) rfl⟩,g.blk.free⟩,?_⟩
   rw [zAf (by omega)]
  rintro e a3 w3 ⟨rfl,⟨v,hr,rfl⟩,d,a7,b4⟩
  have b:a3.tmps.size=98:=b4.trans (by rw [show pc3.ntmps=98 from f];rfl)
  have x:=n.keep' wm3 d a7 b
  refine hin hi a3 _ w1.heap.size x yL ?_ (g.set 0 _) ((But.ext s).trans (But.set w2 0 _))
  exact a0.same (Below.heap_setCell _ _ _ _ (by show w1.heap.size≠b0;omega))
 ·rw [decide_eq_true (by omega)] at hv
  rw [q1_eq]
  exact wp_cond_true hv (bad3_wp (by rw [b];decide) (by rw [b];decide) fun a' a5=>hout hi a' (a5.trans p))
theorem regs0 {pa:OA} {m pc b0 b1 b2 b3:Nat} : Regs { tmps:=#[.slice pa m pc,.pointer (some ⟨b0,0,none⟩),.pointer (some ⟨b1,0,none⟩),.pointer (some ⟨b2,0,none⟩),.pointer (some ⟨b3,0,none⟩)]++Array.replicate (f100.ntmps - #[Value.slice pa m pc,.pointer (some ⟨b0,0,none⟩),.pointer (some ⟨b1,0,none⟩),.pointer (some ⟨b2,0,none⟩),.pointer (some ⟨b3,0,none⟩)].size) undef,defers:=[] } (reg5 pa m pc b0 b1 b2 b3++[undef]):=by
 have b:f100.ntmps=98:=ntmps100
 refine⟨rfl,by rw [b];simp,fun t u hu=>?_⟩
 have d:t<6:=(List.getElem?_eq_some_iff.1 hu).1
 rw [b]
 match t,d with
 | 0,_ | 1,_ | 2,_ | 3,_ | 4,_ | 5,_=>simpa [reg5] using hu
open Classical in
theorem c100leaf {S:Tb.Sys} {Rl:RowL} {Y:PX} {B:PA} {pa pr:OA} {pc prc i b0 b1 b2 b3:Nat} (hS:SmP S) (hY:Y.m<=60) (hL:i<Y.m->lfSm S Y i) (hl:i<Y.m->Y.leaf i=true) (w:World) (h0:Box w b0 3 [.int .i64 i]) (h1:Box w b1 63 [.slice pr Y.m prc]) (h2:Box w b2 3 [.int .i64 S.n]) (h01:b0≠b1) (h02:b0≠b2)
  (hYc:Kpt b0 w fun w=>CutsT w pr Y B) (hR:Kpt b0 w fun w=>RowsR w pa S Rl) (hg:Kpt b0 w Gl) :
  Calls prog 100 #[.slice pa S.m pc,.pointer (some ⟨b0,0,none⟩),.pointer (some ⟨b1,0,none⟩),.pointer (some ⟨b2,0,none⟩),.pointer (some ⟨b3,0,none⟩)] w (NodeR b0 (if i<Y.m/\zCE S Y i then some (i+1) else none) w):=by
 refine calls_of_wp func100 f100b ?_
 have d:=regs0 (pa:=pa) (m:=S.m) (pc:=pc) (b0:=b0) (b1:=b1) (b2:=b2) (b3:=b3)
 refine head_wp hY w h0 h1 h01 hYc.now d (fun hi a' hd=>⟨hd,But.refl b0 w,?_⟩) fun hi a' w' cb ha x hc o b=>?_
 ·rw [if_neg (fun h=>hi h.1)]
 have u:a'.tmps.size=98:=ha.n
 unfold tail100
 refine wp_seq (wp_seq ?_)
 refine wp_mono (zC5 siE_ok (fn:=pc4) (args:=reg7l pa S.m pc b0 b1 b2 b3 cb) (R:=fun v w''=>v = .bool (Y.leaf i)/\w'' = w') SiPb4 ?_ (ha.sat (by simp [reg7l]) ntmps100)) ?_
 ·exact runP4 _ _ _ _ _ _ _ _ _ _ _ ⟨_,hc.blk.cell (j:=0) rfl,rfl,rfl⟩
 rintro e a1 w1 ⟨rfl,⟨v,hr,rfl,rfl⟩,l,p,s⟩
 have g:a1.tmps.size=98:=s.trans (by rw [show pc4.ntmps=98 from ntmps100];rfl)
 have hv:a1.eval (.tmp 22) = .bool (Y.leaf i):=zFU (fn:=pc4) (t:=22) rfl hr
 have k:=ha.keep' wm4 l p g
 rw [hl hi] at hv
 refine wp_cond_true hv (wp_mono (leaf_wp (Rl:=Rl) hS (hL hi) w1 k hc (h2.same (b.block _ (Ne.symm h02) h2.lt)) ((hYc w1 b).2 i hi).2 (hR w1 b) (hg w1 b)) ?_)
 rintro e a2 w2 ⟨he,f,hy,hn⟩
 by_cases hok:zCE S Y i
 ·obtain rfl:=hy hok
  refine⟨f,.tuple #[],by simp [results,Tryz.results100],b.trans (But.ext he),?_⟩
  rw [if_pos ⟨hi,hok⟩]
  exact⟨rfl,o.ext he⟩
 ·obtain rfl:=hn hok
  refine⟨f,b.trans (But.ext he),?_⟩
  rw [if_neg (fun h=>hok h.2)]
end Go.Proofs.Si
namespace Go.Proofs.Si
open Go Go.V Go.Proofs Go.RowKit Go.Num Go.Tb Go.Proofs.Tryz
open Go.IntKind (i64 u64 u32 u8)
set_option maxRecDepth 100000
def txS (S:Tb.Sys):TX:={ m:=S.m,n:=fun _=>S.n,C:=fun i j=>mk (txtQ (S.C i j)),rel:=fun i=>(S.rel i:Nat),K:=fun i=>mk (txtQ (S.K i)) }
theorem reads_txS {S:Tb.Sys} (h : ∀ i,i<S.m->1<=S.rel i/\S.rel i<=3):Reads (txS S) S where
 m:=rfl
 n:=fun _ _=>rfl
 C:=fun i hi j hj=>bs_mk _
 rel:=fun i hi=>⟨rfl,h i hi⟩
 K:=fun i hi=>bs_mk _
theorem dg_len {q:Rat} {k:Nat} (h:dg k q):(txtQ q).length<=2*k+2:=by
 have h1:=txtQ_len q
 have h2:dn q<=k:=h.1
 have h3:dd q<=k:=h.2
 omega
theorem tame_txS {S:Tb.Sys} (h:SmP S):Tame (txS S) where
 n:=fun i hi=>Nat.le_trans h.n (by decide)
 c:=fun i hi j hj=>by
  show (mk (txtQ (S.C i j))).size<=_
  rw [zAc,bs_mk]
  exact Nat.le_trans (dg_len (h.C i hi j hj)) (by decide)
 k:=fun i hi=>by
  show (mk (txtQ (S.K i))).size<=_
  rw [zAc,bs_mk]
  exact Nat.le_trans (dg_len (h.K i hi)) (by decide)
theorem text_m1:(⟨#[45,49]⟩:BA)=mk (txtQ ((-1:Int):Rat)):=by
 rw [zAP,zAv (by decide)]
 rfl
theorem text_0:(⟨#[48]⟩:BA)=mk (txtQ 0):=by rw [txtQ_zero];rfl
theorem tSys_smP {X:TX} {n:Nat} (h:smallX X 12 60) (hn:n<=5) (hok:okRows X n):SmP (tSys X n) where
 n:=hn
 m:=by show X.m<=100;have:=h.1;omega
 rel:=fun i hi=>by
  show 1<=uRel n (rC X i) (rR X i) (rK X i)/\uRel n (rC X i) (rR X i) (rK X i)<=3
  unfold uRel tRel
  split <;> (try split) <;> (try split) <;> omega
 C:=fun i hi j hj=>(uC_dg hn (zBS h hok i hi).1 (zBS h hok i hi).2).1 j hj
 K:=fun i hi=>(uC_dg hn (zBS h hok i hi).1 (zBS h hok i hi).2).2
set_option maxHeartbeats 4000000 in
theorem c106 {X:TX} {A:TA} {n:Nat} {a:OA} {c:Nat} (hX:smallX X 12 60) (hn:n<=40) (hok:okRows X n) (w:World) (hR:RowsT w a X A) :
  Ret prog 106 #[.int .i64 n,.slice a X.m c] w fun v w'=>∃ p c' A',v = .slice p X.m c'/\RowsT w' p (txS (tSys X n)) A'/\Ext w w':=by
 have hm:=hX.1
 refine run106 _ _ _ _ _ _ ⟨fun vals w1=>∃ (k:Nat) (p:OA) (c' : Nat) (A' : TA),vals=[.int .i64 k,.slice p k c']/\k<=X.m/\w1.ownsRow w.heap.size 49 3 (.slice p k c') k (GL (rtc (txS (tSys X n)) A') k)/\(∀ i,i<k->w1.ownsRow 0 9 1 (.slice (A'.cA i) n (A'.cC i)) n (SL ((txS (tSys X n)).C i) n))/\Ext w w1,fun vals w=>match vals with | (.int _ i)::_=>X.m - i.toNat | _=>0,⟨0,_,_,A,rfl,Nat.zero_le _,World.ownsRow_nil _ _ _ _,fun i hi=>by omega,yE w⟩,?_⟩
 rintro n1 p k c1 w1 ⟨k',p',c',A',hv,hk,hO,hC,he⟩
 cases hv
 refine zAe (fun b0=>?_) (fun b8=>?_)
 ·have b:k<X.m:=by omega
  obtain⟨ad,ha,hc⟩:=(hR.ext he).get b
  obtain⟨q1,q2,q3,q4,q5⟩:=hok.2.2.2 k b
  have f:X.n k=n:=by omega
  have b2:sm60 X k:=⟨(hX.2 k b).1,(hX.2 k b).2.1,(hX.2 k b).2.2⟩
  refine⟨ad,ha,⟨by omega,b0⟩,_,_,_,_,_,hc,yC (c48 (A:=A) b2 w1 ((hR.ext he).2 k b)) ?_⟩
  rintro v w2 ⟨hT,u⟩
  have a5:okT X k:=⟨by omega,by rw [f];exact⟨by omega,q2,q3,q4,q5⟩⟩
  have a2:=he.trans u
  have a3:=zAm hO u
  have a8:=fun i hi=>zAm (hC i hi) u
  have zB:=(yE w2).alloc (.cells zrow.toArray 49)
  have bB:=yN w2 zrow 49
  have sB:(w2.alloc (.cells zrow.toArray 49)).heap.size=w2.heap.size+1:=size_alloc ..
  have fin : ∀ (K:List Value->World->Prop) (w3:World) (p3:OA) (c3:Nat),Ext w2 w3->w2.heap.size<w3.heap.size->Box w3 w2.heap.size 49 [.slice p3 n c3,.int .i64 ((tSys X n).rel k:Nat),.string (mk (txtQ ((tSys X n).K k)))]->w3.ownsRow 0 9 1 (.slice p3 n c3) n (SL ((txS (tSys X n)).C k) n) ->
    (∀ (w3:World),(∃ (p3:OA) (k6 k7:Nat) (n5:Int) (s2:BA),vcells w3 { block:=w2.heap.size,off:=0:Addr } 0 [Value.slice p3 k6 k7,Value.int i64 n5,Value.string s2]/\∃ (k8:Nat) (vs vs1:List Value),AppOk (w3.alloc (Obj.cells #[Value.slice p3 k6 k7,Value.int i64 n5,Value.string s2] 49)) k8 49 3 48 p k c1 vs (some { block:=w3.heap.size,off:=0:Addr }) 1 vs1/\∀ (p4:OA) (k9:Nat) (w4:World),AppRes (w3.alloc (Obj.cells #[Value.slice p3 k6 k7,Value.int i64 n5,Value.string s2] 49)) w4 k8 49 3 p k c1 vs 1 vs1 p4 k9->(∃ (kk:Nat) (p:OA) (c' : Nat) (A' : TA),[Value.int i64 (i64.wrap ((k:Int)+1)),Value.slice p4 (k+1) k9]=[.int .i64 kk,.slice p kk c']/\kk<=X.m/\w4.ownsRow w.heap.size 49 3 (.slice p kk c') kk (GL (rtc (txS (tSys X n)) A') kk)/\(∀ i,i<kk->w4.ownsRow 0 9 1 (.slice (A'.cA i) n (A'.cC i)) n (SL ((txS (tSys X n)).C i) n))/\Ext w w4)/\X.m - (i64.wrap ((k:Int)+1)).toNat<X.m - ((k:Nat):Int).toNat)->K [] w3)->K [] w3:=by
   intro K w3 p3 c3 h3 s3 a7 g hK
   refine hK w3 ⟨_,_,_,_,_,a7.blk.all,_,_,_,AppOk.one (L:=[.slice p3 n c3,.int .i64 ((tSys X n).rel k:Nat),.string (mk (txtQ ((tSys X n).K k)))]) (zAm a3 h3) rfl rfl (by unfold maxLen;omega) (by omega) (a2.trans h3).size,?_⟩
   intro p5 b5 w4 r4
   have za:=(yE w3).alloc (.cells #[.slice p3 n c3,.int .i64 ((tSys X n).rel k:Nat),.string (mk (txtQ ((tSys X n).K k)))] 49)
   have a4:=zAm (zAm a3 h3) za
   have b3:Ext w w4:=r4.below a4 ((a2.trans h3).trans za) ((a2.trans h3).trans za).size yL
   have keep : ∀ {v:Value} {n' : Nat} {xs:List Value},w3.ownsRow 0 9 1 v n' xs->w4.ownsRow 0 9 1 v n' xs:=fun {v n' xs} h=>by
    have h':=zAm h za
    exact zAZ h' fun k hk=>r4.grown.block k ((World.ownsRow.lt h' k hk).2) (fun e=>zB7 a4 h' (by decide) k e.symm hk)
   rw [zAf (by omega)]
   refine⟨⟨k+1,p5,b5,⟨upd A'.cA k p3,upd A'.cC k c3⟩,rfl,b,?_,fun j hj=>?_,b3⟩,by simp only [yT];omega⟩
   ·have h:=r4.own
    have e:GL (rtc (txS (tSys X n)) ⟨upd A'.cA k p3,upd A'.cC k c3⟩) (k+1)=GL (rtc (txS (tSys X n)) A') k++[.slice p3 n c3,.int .i64 ((tSys X n).rel k:Nat),.string (mk (txtQ ((tSys X n).K k)))]:=by
     rw [GL]
     congr 1
     ·refine zBQ fun j hj=>?_
      unfold rtc
      simp only [zAs _ (show j≠k by omega)]
     ·unfold rtc
      simp only [zA1]
      rfl
    rw [e]
    exact h
   ·by_cases e:j=k
    ·rw [e]
     show w4.ownsRow 0 9 1 (.slice (upd A'.cA k p3 k) n (upd A'.cC k c3 k)) n _
     rw [zA1,zA1]
     exact keep g
    ·show w4.ownsRow 0 9 1 (.slice (upd A'.cA k p3 j) n (upd A'.cC k c3 j)) n _
     rw [zAs _ e,zAs _ e]
     exact keep (zAm (a8 j (by omega)) h3)
  rcases hT with ⟨h,_⟩ | ⟨_,⟨hno,rfl⟩ | ⟨hyes,p2,c2,sK,rfl,hsK,g⟩⟩
  ·exact absurd a5 h
  ·refine⟨_,_,_,_,_,_,_,rfl,bB.blk.writable (by decide),fun K hK=>?_⟩
   rw [Bool.not_false,cond_true]
   have bP:=bB.put zrow rfl
   have bQ:=bP.put [.slice none 0 0,.int .i64 1,.string { data:=#[45,49] }] rfl
   have zQ:Ext w2 (setCells (setCells (w2.alloc (.cells zrow.toArray 49)) ⟨w2.heap.size,0,none⟩ 0 zrow) ⟨w2.heap.size,0,none⟩ 0 [.slice none 0 0,.int .i64 1,.string { data:=#[45,49] }]):=(zB.put yL _ _).put yL _ _
   have sQ:(setCells (setCells (w2.alloc (.cells zrow.toArray 49)) ⟨w2.heap.size,0,none⟩ 0 zrow) ⟨w2.heap.size,0,none⟩ 0 [.slice none 0 0,.int .i64 1,.string { data:=#[45,49] }]).heap.size=w2.heap.size+1:=by rw [zBn,zBn,sB]
   refine⟨bP.blk.writable (by decide),?_⟩
   rw [show (setCells (setCells (w2.alloc (Obj.cells #[Value.slice none 0 0,Value.int i64 0,Value.string { data:=#[] }] 49)) { block:=w2.heap.size,off:=0 } 0 [Value.slice none 0 0,Value.int i64 0,Value.string { data:=#[] }]) { block:=w2.heap.size,off:=0 } 0 [Value.slice none 0 0,Value.int i64 1,Value.string { data:=#[45,49] }])=setCells (setCells (w2.alloc (.cells zrow.toArray 49)) ⟨w2.heap.size,0,none⟩ 0 zrow) ⟨w2.heap.size,0,none⟩ 0 [.slice none 0 0,.int .i64 1,.string { data:=#[45,49] }] from rfl]
   generalize setCells (setCells (w2.alloc (.cells zrow.toArray 49)) ⟨w2.heap.size,0,none⟩ 0 zrow) ⟨w2.heap.size,0,none⟩ 0 [.slice none 0 0,.int .i64 1,.string { data:=#[45,49] }]=W3 at bQ zQ sQ ⊢
   clear bP bB zB sB
   refine⟨fun vals w5=>∃ (j:Nat) (p5:OA) (c5:Nat),vals=[.int .i64 j]/\j<=n/\Box w5 w2.heap.size 49 [.slice p5 j c5,.int .i64 1,.string { data:=#[45,49] }]/\w5.ownsRow (w2.heap.size+1) 9 1 (.slice p5 j c5) j (SL (fun _=>{ data:=#[48] }) j)/\w2.heap.size+1<=w5.heap.size/\Ext w2 w5,mu1 n,⟨0,none,0,rfl,Nat.zero_le _,bQ,World.ownsRow_nil _ _ _ _,by omega,zQ⟩,?_⟩
   rintro n6 w5 ⟨j,p5,c5,hv,hj,d,s,b1,x⟩
   cases hv
   refine zAe (fun b7=>?_) (fun b6=>?_)
   ·have a9:j<n:=by omega
    refine⟨_,_,_,d.blk.cell (j:=0) rfl,_,_,_,AppOk.one (L:=[.string { data:=#[48] }]) s rfl rfl (by unfold maxLen;omega) (by omega) b1,?_⟩
    intro p6 a6 w6 r
    have za:=(yE w5).alloc (.cells #[.string { data:=#[48] }] 9)
    have sa:(w5.alloc (.cells #[.string { data:=#[48] }] 9)).heap.size=w5.heap.size+1:=size_alloc ..
    have g3 : ∀ k,k<w5.heap.size->(Value.slice p5 j c5).ownBlock≠some k->w6.heap[k]? = w5.heap[k]?:=fun k hk a0 =>
     (r.grown.block k (Nat.lt_of_lt_of_le hk za.size) (Ne.symm a0)).trans (za.block k hk)
    have l:Box w6 w2.heap.size 49 _:=d.same (g3 _ d.lt (zA2 s d (by decide)))
    have b4:Ext w2 w6:=r.below (zAm s za) (x.trans za) (Nat.le_trans x.size za.size) (by omega)
    have b9:=Nat.le_trans za.size r.grown.size
    have a1:=r.own
    rw [<- zGk (fun _=>({ data:=#[48] } : BA)) j] at a1
    have a0:(Value.slice p6 (j+1) a6).ownBlock≠some w2.heap.size:=zA2 a1 l (by decide)
    refine⟨⟨⟨_,l.blk.cell (j:=0) rfl⟩,l.blk.free⟩,?_⟩
    rw [zAf (by omega)]
    exact⟨⟨j+1,p6,a6,rfl,a9,l.set 0 _,zAK a1 a0 _,by rw [zB3];omega,b4.setCell yL _⟩,by simp only [mu1,yT];omega⟩
   ·have ej:j=n:=by omega
    subst ej
    have eR:(tSys X j).rel k=1:=if_neg (f▸hno)
    have eK:(tSys X j).K k=((-1:Int):Rat):=if_neg (f▸hno)
    have eC:(tSys X j).C k=fun _=>0:=if_neg (f▸hno)
    refine fin K w5 p5 c5 x (by omega) ?_ ?_ hK
    ·rw [eR,eK,<- text_m1];exact d
    ·have:(txS (tSys X j)).C k=fun _=>{ data:=#[48] }:=by
      show (fun i=>mk (txtQ ((tSys X j).C k i)))=_
      rw [eC];exact funext fun _=>text_0.symm
     rw [this]
     exact zBo s (Nat.zero_le _)
  ·refine⟨_,_,_,_,_,_,_,rfl,bB.blk.writable (by decide),fun K hK=>?_⟩
   rw [Bool.not_true,cond_false]
   subst f
   have eR:(tSys X (X.n k)).rel k=tRel (X.n k) (rC X k) (rR X k):=if_pos hyes
   have eK:(tSys X (X.n k)).K k=tK (X.n k) (rC X k) (rR X k) (rK X k):=if_pos hyes
   have eC:(tSys X (X.n k)).C k=tC (X.n k) (rC X k):=if_pos hyes
   have eS:sK=mk (txtQ (tK (X.n k) (rC X k) (rR X k) (rK X k))):=zDF (by rw [bs_mk,hsK])
   have bP:=bB.put [.slice p2 (X.n k) c2,.int .i64 (tRel (X.n k) (rC X k) (rR X k):Nat),.string sK] rfl
   have zP:=zB.put (o:=0) yL [.slice p2 (X.n k) c2,.int .i64 (tRel (X.n k) (rC X k) (rR X k):Nat),.string sK] 0
   refine fin K _ p2 c2 zP (by rw [zBn,sB];omega) ?_ ?_ hK
   ·rw [eR,eK,<- eS];exact bP
   ·have:(txS (tSys X (X.n k))).C k=fun j=>mk (txtQ (tC (X.n k) (rC X k) j)):=by
     show (fun i=>mk (txtQ ((tSys X (X.n k)).C k i)))=_
     rw [eC]
    rw [this]
    exact zAm g zP
 ·have ek:k=X.m:=by omega
  subst ek
  exact⟨_,_,A',rfl,⟨zAJ hO,fun i hi=>zAJ (hC i hi)⟩,he⟩
open Classical in
set_option maxHeartbeats 1000000 in
theorem c105leaf {S:Tb.Sys} {A:TA} {Y:PX} {B:PA} {ra pa:OA} {rc pc i:Nat} (hS:SmP S) (hY60:Y.m<=60) (hL:lfSm S Y i) (hi:i<Y.m) (hl:Y.leaf i=true) (w:World) (hR:RowsT w ra (txS S) A) (hYc:CutsT w pa Y B) :
  Ret prog 105 #[.int .i64 S.n,.slice ra S.m rc,.slice pa Y.m pc,.int .i64 i] w fun v w'=>v = .int .i64 (if zCE S Y i then ((i+1:Nat):Int) else -1)/\Ext w w':=by
 have hm:=hS.m
 obtain⟨a7,a0,a6⟩:=hL
 refine run105t _ _ _ _ _ _ _ _ _ _ fun K hK=>?_
 rw [decide_eq_false (by omega),cond_false,decide_eq_false (by omega)]
 refine hK false ?_
 rw [cond_false]
 obtain⟨ad,a5,a3⟩:=hYc.get hi
 have bC:=yN w [.bool false,.slice none 0 0,.string { data:=#[] },.slice none 0 0] 115
 have z1:=(yE w).alloc (.cells [Value.bool false,.slice none 0 0,.string { data:=#[] },.slice none 0 0].toArray 115)
 have g:=bC.put (cutc Y B i) rfl
 have z2:=z1.put (o:=0) yL (cutc Y B i) 0
 refine⟨ad,a5,⟨by omega,by omega⟩,_,_,_,_,_,_,_,_,a3,bC.blk.writable (by decide),?_⟩
 rw [show (setCells (w.alloc (Obj.cells #[Value.bool false,Value.slice none 0 0,Value.string { data:=#[] },Value.slice none 0 0] 115)) { block:=w.heap.size,off:=0 } 0 [Value.bool (Y.leaf i),Value.slice (B.cA i) (Y.cN i) (B.cC i),Value.string (Y.K i),Value.slice (B.fA i) (Y.fN i) (B.fC i)])=setCells (w.alloc (.cells [Value.bool false,.slice none 0 0,.string { data:=#[] },.slice none 0 0].toArray 115)) ⟨w.heap.size,0,none⟩ 0 (cutc Y B i) from rfl]
 generalize setCells (w.alloc (.cells [Value.bool false,.slice none 0 0,.string { data:=#[] },.slice none 0 0].toArray 115)) ⟨w.heap.size,0,none⟩ 0 (cutc Y B i)=W1 at g z2 ⊢
 refine⟨_,g.blk.cell (j:=0) rfl,?_⟩
 rw [hl,cond_true]
 intro K1 u
 have hF:=(hYc.ext z2).2 i hi |>.2
 have no : ∀ w',Ext w w'->¬ zCE S Y i->K1 [.bool true] w':=fun w' he h=>u true w' ⟨by rw [if_neg h],he⟩
 refine⟨_,_,_,g.blk.cell (j:=3) rfl,yC (c31 (by omega) W1 hF (fun j hj=>Nat.le_trans (a0 j hj) (by decide))) ?_⟩
 rintro v w2 ⟨⟨b,rfl,hb⟩,l⟩
 have p:=z2.trans l
 refine⟨b,rfl,?_⟩
 cases b with
 | false =>
  rw [Bool.not_false,cond_true]
  refine no _ p fun h=>?_
  have:=hb.2 ⟨by rw [h.1],h.2.1⟩
  cases this
 | true =>
  obtain⟨f,d⟩:=hb.1 rfl
  have f:Y.fN i=S.m:=by omega
  rw [Bool.not_true,cond_false]
  refine⟨_,_,_,(g.ext l).blk.cell (j:=3) rfl,?_⟩
  rw [f]
  have s:=hF.ext l
  rw [f] at s
  obtain⟨hy,a2⟩:=a6 d f
  refine yC (c41 (X:=txS S) (A:=A) (t:=Y.F i) (y:=fun k=>rd (Y.F i k)) hS.few (tame_txS hS) (reads_txS hS.rel) (fun k hk=>rd_ok (d k (by omega))) (fun k hk=>Nat.le_trans (a0 k (by omega)) (by decide)) a2 w2 (hR.ext p) s) ?_
  rintro v w3 ⟨⟨b5,rfl,x⟩,a4⟩
  refine⟨b5,rfl,?_⟩
  have a1:=p.trans a4
  cases b5 with
  | true =>
   refine u false w3 ⟨?_,a1⟩
   rw [if_pos ⟨f,d,x.1 rfl⟩,zAf (by omega)]
  | false=>exact no _ a1 fun h=>by have:=x.2 h.2.2;cases this
theorem c54 {X:TX} {A:TA} {Y:PX} {B:PA} {n:Int} {ra pa:OA} {rc pc:Nat} (acc:Option Nat) (hs:smallX X 12 60) (hX:Tame X) (w:World) (hR:RowsT w ra X A) (hY:CutsT w pa Y B)
  (H:okRows X n->0<Y.m->∀ (w2:World) (p:OA) (c' : Nat) (A' : TA),Ext w w2->RowsT w2 p (txS (tSys X n.toNat)) A' ->
   Ret prog 105 #[.int .i64 n,.slice p X.m c',.slice pa Y.m pc,.int .i64 0] w2 fun v w'=>v = .int .i64 (match acc with | some j=>(j:Int) | none => -1)/\Ext w2 w') :
  Ret prog 54 #[.int .i64 n,.slice ra X.m rc,.slice pa Y.m pc] w fun v w'=>(∃ b,v = .bool b/\(b=true↔okRows X n/\0<Y.m/\acc=some Y.m))/\Ext w w':=by
 refine run54 _ _ _ _ _ _ _ _ _ fun K hK=>yC (c29 hX w hR) ?_
 rintro v w1 ⟨⟨b,rfl,hb⟩,d⟩
 refine⟨b,rfl,?_⟩
 cases b with
 | false =>
  rw [cond_false]
  refine hK _ _ ⟨⟨false,rfl,?_⟩,d⟩
  simp only [Bool.false_eq_true,false_iff,not_and]
  intro h
  have:=hb.2 h
  cases this
 | true =>
  rw [cond_true]
  have f:=hb.1 rfl
  refine zAe (fun hp=>?_) (fun hp=>?_)
  ·have o:0<=n:=f.1
   have l:=f.2.1
   obtain⟨nn,rfl⟩ : ∃ nn:Nat,n=nn:=⟨n.toNat,by omega⟩
   refine yC (c106 (n:=nn) hs (by omega) f w1 (hR.ext d)) ?_
   rintro v w2 ⟨p,c',A',rfl,i,g⟩
   refine⟨_,_,_,rfl,yC (H f (by omega) w2 p c' A' (d.trans g) i) ?_⟩
   rintro v w3 ⟨rfl,k⟩
   refine⟨_,rfl,hK _ _ ⟨⟨_,rfl,?_⟩,(d.trans g).trans k⟩⟩
   cases acc with
   | none=>simp
   | some j =>
    simp only [beq_iff_eq,Option.some.injEq]
    exact⟨fun h=>⟨f,by omega,by omega⟩,fun h=>by omega⟩
  ·refine hK _ _ ⟨⟨false,rfl,?_⟩,d⟩
   simp only [Bool.false_eq_true,false_iff,not_and]
   intro _ h
   omega
end Go.Proofs.Si
namespace Go.Proofs.Si
open Go Go.V Go.Proofs Go.RowKit Go.Num Go.Tb
set_option maxRecDepth 100000
abbrev t0:BA:={ data:=#[48] }
abbrev t5:BA:={ data:=#[53] }
abbrev tm5:BA:={ data:=#[45,53] }
theorem bs_t0:bs t0=txtQ 0:=by rw [txtQ_zero];rfl
theorem bs_t5:bs t5=txtQ 5:=by
 have h:=zAP 5
 rw [show ((5:Int):Rat)=5 from rfl] at h
 rw [h,show (5:Int).natAbs=5 from rfl,zAv (by decide)];rfl
theorem bs_tm5:bs tm5=txtQ (-5):=by
 have h:=zAP (-5)
 rw [show ((-5:Int):Rat) = -5 from rfl] at h
 rw [h,show (-5:Int).natAbs=5 from rfl,zAv (by decide)];rfl
def gX (c k:BA):TX:={ m:=2,n:=fun _=>1,C:=fun i _=>if i=0 then t2 else c,rel:=fun _=>1,K:=fun i=>if i=0 then t5 else k }
theorem gX_ok {c k:BA} {x y:Rat} (hc:bs c=txtQ x) (hk:bs k=txtQ y):okRows (gX c k) 1:=by
 refine⟨by decide,by decide,by show 2<=200;omega,fun i hi=>⟨rfl,by show (1:Int)<=1;decide,by show (1:Int)<=3;decide,fun j _=>?_,?_⟩⟩
 ·show okQ (bs (if i=0 then t2 else c))=true
  split
  ·exact ok_of bs_t2
  ·exact ok_of hc
 ·show okQ (bs (if i=0 then t5 else k))=true
  split
  ·exact ok_of bs_t5
  ·exact ok_of hk
theorem gX_small {c k:BA} (hc:c.size<=60) (hk:k.size<=60):smallX (gX c k) 12 60:=by
 refine⟨by show 2<=12;omega,fun i hi=>⟨?_,by show 1<=60;decide,fun j _=>?_⟩⟩
 ·show (if i=0 then t5 else k).size<=60
  split
  ·decide
  ·exact hk
 ·show (if i=0 then t2 else c).size<=60
  split
  ·decide
  ·exact hc
theorem facT_one {C:Nat->Rat} {z:Int} (h:C 0=(z:Rat)):facT 1 C=(((z.natAbs:Nat):Rat))⁻¹:=by
 have h1:lcmD C 1=1:=by
  show Nat.lcm 1 (C 0).den=1
  rw [h,Rat.den_intCast];rfl
 unfold facT
 rw [h1]
 have h2:gcdD C 1 1=z.natAbs:=by
  show Nat.gcd 0 (C 0*((1:Nat):Rat)).num.natAbs=_
  rw [Nat.gcd_zero_left,show ((1:Nat):Rat)=1 from rfl,Rat.mul_one,h,Rat.num_intCast]
 rw [h2,show ((1:Nat):Rat)=1 from rfl,Rat.one_mul]
theorem zEU {C:Nat->Rat} {z:Int} {K:Rat} (h:C 0=(z:Rat)) (hz:C 0≠0):tOk 1 C 1 K/\tRel 1 C 1=1/\tC 1 C 0=C 0*(((z.natAbs:Nat):Rat))⁻¹/\tK 1 C 1 K=((flo (K*(((z.natAbs:Nat):Rat))⁻¹):Int):Rat):=by
 have hn : ¬ ∀ k,k<1->C k=0:=fun hh=>hz (hh 0 Nat.one_pos)
 refine⟨?_,?_,?_,?_⟩
 ·unfold tOk;rw [if_neg hn];intro h3;cases h3
 ·unfold tRel;rw [if_neg hn,if_neg (by decide)]
 ·unfold tC;rw [if_neg hn,facT_one h]
 ·unfold tK;rw [if_neg hn,if_neg (by decide),if_neg (by decide),facT_one h]
theorem zDq {c k:BA} : (tSys (gX c k) 1).C 0 0=1/\(tSys (gX c k) 1).rel 0=1/\(tSys (gX c k) 1).K 0=2:=by
 have h0:rC (gX c k) 0 0=((2:Int):Rat):=rd_of bs_t2
 have hK:rK (gX c k) 0=5:=rd_of bs_t5
 obtain⟨g1,g2,g3,g4⟩:=zEU (K:=rK (gX c k) 0) h0 (by rw [h0];decide)
 refine⟨?_,?_,?_⟩
 ·show uC 1 (rC (gX c k) 0) 1 (rK (gX c k) 0) 0=1
  unfold uC;rw [if_pos g1,g3,h0];kernel_rfl
 ·show uRel 1 (rC (gX c k) 0) 1 (rK (gX c k) 0)=1
  unfold uRel;rw [if_pos g1,g2]
 ·show uK 1 (rC (gX c k) 0) 1 (rK (gX c k) 0)=2
  unfold uK;rw [if_pos g1,g4,hK];kernel_rfl
theorem gX_row1 {c k:BA} {z:Int} {q:Rat} (hc:bs c=txtQ (z:Rat)) (hz:(z:Rat)≠0) (hk:bs k=txtQ q):(tSys (gX c k) 1).C 1 0=(z:Rat)*(((z.natAbs:Nat):Rat))⁻¹/\(tSys (gX c k) 1).rel 1=1/\(tSys (gX c k) 1).K 1=((flo (q*(((z.natAbs:Nat):Rat))⁻¹):Int):Rat):=by
 have h0:rC (gX c k) 1 0=(z:Rat):=rd_of hc
 have hK:rK (gX c k) 1=q:=rd_of hk
 obtain⟨g1,g2,g3,g4⟩:=zEU (K:=rK (gX c k) 1) h0 (by rw [h0];exact hz)
 refine⟨?_,?_,?_⟩
 ·show uC 1 (rC (gX c k) 1) 1 (rK (gX c k) 1) 0=_
  unfold uC;rw [if_pos g1,g3,h0]
 ·show uRel 1 (rC (gX c k) 1) 1 (rK (gX c k) 1)=1
  unfold uRel;rw [if_pos g1,g2]
 ·show uK 1 (rC (gX c k) 1) 1 (rK (gX c k) 1)=_
  unfold uK;rw [if_pos g1,g4,hK]
theorem lX1:(tSys (gX tm2 tm5) 1).C 1 0 = -1/\(tSys (gX tm2 tm5) 1).rel 1=1/\(tSys (gX tm2 tm5) 1).K 1 = -3:=by
 obtain⟨h1,h2,h3⟩:=gX_row1 (c:=tm2) (k:=tm5) (z := -2) (q := -5) bs_tm2 (by decide) bs_tm5
 exact⟨h1.trans (by kernel_rfl),h2,h3.trans (by kernel_rfl)⟩
theorem oX1:(tSys (gX tm1 t0) 1).C 1 0 = -1/\(tSys (gX tm1 t0) 1).rel 1=1/\(tSys (gX tm1 t0) 1).K 1=0:=by
 obtain⟨h1,h2,h3⟩:=gX_row1 (c:=tm1) (k:=t0) (z := -1) (q:=0) bs_tm1 (by decide) bs_t0
 exact⟨h1.trans (by kernel_rfl),h2,h3.trans (by kernel_rfl)⟩
theorem lhs_g0 {c k:BA} (x:Nat->Rat):Tb.lhs (tSys (gX c k) 1) x 0=x 0:=by
 show sumN 1 (fun j=>(tSys (gX c k) 1).C 0 j*x j)=x 0
 rw [zAp,zB2,zDq.1,Rat.one_mul,Rat.zero_add]
theorem l_unsat (x:Nat->Rat) : ¬ Sat (tSys (gX tm2 tm5) 1) x:=by
 intro h
 have h0:=(h 0 (by show 0<2;decide)).1
 have h1:=(h 1 (by show 1<2;decide)).1
 have e1:Tb.lhs (tSys (gX tm2 tm5) 1) x 1 = -(x 0):=by
  show sumN 1 (fun j=>(tSys (gX tm2 tm5) 1).C 1 j*x j)=_
  rw [zAp,zB2,lX1.1];grind
 rw [lhs_g0,zDq.2.2] at h0
 rw [e1,lX1.2.2] at h1
 grind
theorem zFp {S:Tb.Sys} {f:Nat} {s' : Dy} (h:zAS S f (init S)=some (s',none)):Sat S (zB4 s' (zBj S s')):=by
 obtain⟨hI,hv,_⟩:=zDN f (zE0 S) h
 exact point_sat hI (feas_of hI (hv rfl))
theorem solve_zero {S:Tb.Sys} (hr : ∀ i,i<S.m->S.rel i=1) (hK : ∀ i,i<S.m->0<=S.K i) {f:Nat} {s' : Dy} (h:zAS S f (init S)=some (s',none)):s' = init S:=by
 have hv:viol S (init S)=none:=by
  cases hc:viol S (init S) with
  | none=>rfl
  | some r =>
   obtain⟨i,b,up⟩:=r
   obtain⟨h1,h2,h3,h4,h5,_⟩:=zBF (zE0 S).dict.1 hc
   have e:(init S).basic i - S.n=i:=by show S.n+i - S.n=i;omega
   cases up with
   | true =>
    have:=(h5 rfl).1
    rw [e,hr i h1] at this
    cases this
   | false =>
    have h6:=h4 rfl
    unfold ub at h6
    rw [e,hr i h1,if_neg (by decide)] at h6
    have h7:=hK i h1
    exact absurd h6 (by show ¬ lt2 (S.K i,0) zero2;unfold lt2 zero2;grind)
 cases f with
 | zero=>cases h
 | succ f =>
  unfold zAS stepS at h
  rw [hv] at h
  simp only [Option.some.injEq,Prod.mk.injEq,and_true] at h
  exact h.symm
theorem o_H (f:Nat) (s' : Dy) (h:zAS (tSys (gX tm1 t0) 1) f (init (tSys (gX tm1 t0) 1))=some (s',none)) (j:Nat) (hj:j<1):(zB4 s' (zBj (tSys (gX tm1 t0) 1) s') j).den=1:=by
 have e:=solve_zero (S:=tSys (gX tm1 t0) 1) (fun i hi=>?_) (fun i hi=>?_) h
 ·subst e
  have:zB4 (init (tSys (gX tm1 t0) 1)) (zBj (tSys (gX tm1 t0) 1) (init (tSys (gX tm1 t0) 1))) j=0:=by
   show (0:Rat)+0*_=0
   rw [Rat.zero_mul,Rat.add_zero]
  rw [this];rfl
 ·rcases (show i=0\/i=1 by have:i<2:=hi;omega) with rfl | rfl
  ·exact zDq.2.1
  ·exact oX1.2.1
 ·rcases (show i=0\/i=1 by have:i<2:=hi;omega) with rfl | rfl
  ·rw [zDq.2.2];decide
  ·rw [oX1.2.2];decide
theorem o_sat:Sat (tSys (gX tm1 t0) 1) fun _=>0:=by
 intro i hi
 have e:Tb.lhs (tSys (gX tm1 t0) 1) (fun _=>0) i=0:=by
  show sumN 1 (fun j=>(tSys (gX tm1 t0) 1).C i j*0)=0
  exact zAY fun j _=>Rat.mul_zero _
 rcases (show i=0\/i=1 by have:i<2:=hi;omega) with rfl | rfl
 ·rw [e,zDq.2.2,zDq.2.1]
  exact⟨by decide,fun h=>(by cases h),fun h=>(by cases h)⟩
 ·rw [e,oX1.2.2,oX1.2.1]
  exact⟨by decide,fun h=>(by cases h),fun h=>(by cases h)⟩
end Go.Proofs.Si
