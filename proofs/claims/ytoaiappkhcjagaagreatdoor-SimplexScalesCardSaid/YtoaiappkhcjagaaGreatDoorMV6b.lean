/- Part of the proof: V6b, V7, V7s. -/
import Derived.Test.YtoaiappkhcjagaaGreatDoorMV5
set_option linter.unusedVariables false
set_option linter.unusedSimpArgs false
namespace Go.V
open Go Go.RowKit
def bindB (e:Edge):Bool :=
 match e.ground with
 | .textOnly _=>false
 | .gcOnly _=>false
 | _=>true
theorem zBF (m j:Nat):(Array.replicate m false).getD j false=false:=by
 rw [Array.getD_eq_getD_getElem?]
 by_cases h:j<m
 ·simp [h]
 ·simp [h]
theorem bindB_eq (e:Edge):Region.binds .any e=bindB e:=by
 unfold Region.binds bindB
 cases e.ground <;> first | rfl | decide
def memN (t:Nat):List Nat->Bool
 | []=>false
 | s::l=>cond (Nat.beq s t) true (memN t l)
theorem zG4 {t:Nat} : ∀ {l:List Nat},memN t l=true↔t∈l
 | []=>by simp [memN]
 | s::l=>by
  unfold memN
  cases h:Nat.beq s t with
  | true=>simp [Nat.eq_of_beq_eq_true h]
  | false =>
   have hne:s≠t:=fun he=>by subst he;simp at h
   simp only [cond_false,List.mem_cons]
   rw [zG4]
   constructor
   ·exact .inr
   ·rintro (h | h)
    ·exact absurd h.symm hne
    ·exact h
def zFy:List Edge->List Nat
 | []=>[]
 | e::es=>cond (bindB e) (e.on::zFy es) (zFy es)
theorem zCx {i:Nat} : ∀ {es:List Edge},i∈zFy es->∃ e∈es,Region.binds .any e=true/\e.on=i
 | e::es,h=>by
  unfold zFy at h
  cases h1:bindB e with
  | false =>
   rw [h1] at h
   obtain⟨e',he,hb⟩:=zCx h
   exact⟨e',List.mem_cons_of_mem _ he,hb⟩
  | true =>
   rw [h1] at h
   rcases List.mem_cons.1 h with rfl | h
   ·exact⟨e,List.mem_cons_self,by rw [bindB_eq,h1],rfl⟩
   ·obtain⟨e',he,hb⟩:=zCx h
    exact⟨e',List.mem_cons_of_mem _ he,hb⟩
def zEy (ops:Array Oper) (j:Nat):List Nat :=
 match ops[j]? with
 | some o=>zFy o.after.toList
 | none=>[]
def ancs (ops:Array Oper):Nat->List Nat->List Nat->List Nat
 | 0,_,seen=>seen
 | _+1,[],seen=>seen
 | fuel+1,i::todo,seen=>cond (memN i seen) (ancs ops fuel todo seen) (ancs ops fuel (zEy ops i++todo) (i::seen))
def zEE (ops:Array Oper) (listed:Array Bool):Prop :=
 ∀ k ok,ops[k]? = some ok->listed.getD k false=true->∀ e∈ok.after,Region.binds .any e=true->listed.getD e.on false=true
theorem zFA {ops:Array Oper} {listed:Array Bool} (hc:zEE ops listed) {i k:Nat} (hi:listed.getD i false=true) (hk:k∈zEy ops i):listed.getD k false=true:=by
 unfold zEy at hk
 split at hk
 ·rename_i o ho
  obtain⟨e,hm,hb,rfl⟩:=zCx hk
  exact hc i o ho hi e (by simpa using hm) hb
 ·cases hk
theorem zD7 {ops:Array Oper} {listed:Array Bool} (hc:zEE ops listed) : ∀ (fuel:Nat) (todo seen:List Nat),(∀ i∈todo,listed.getD i false=true)->(∀ i∈seen,listed.getD i false=true) ->
  ∀ i∈ancs ops fuel todo seen,listed.getD i false=true
 | 0,_,_,_,h2,i,hi=>h2 i hi
 | _+1,[],_,_,h2,i,hi=>h2 i hi
 | fuel+1,j::todo,seen,h1,h2,i,hi=>by
  unfold ancs at hi
  cases hm:memN j seen with
  | true =>
   rw [hm] at hi
   exact zD7 hc fuel todo seen (fun k hk=>h1 k (List.mem_cons_of_mem _ hk)) h2 i hi
  | false =>
   rw [hm] at hi
   have hj:=h1 j List.mem_cons_self
   refine zD7 hc fuel _ _ (fun k hk=>?_) (fun k hk=>?_) i hi
   ·rcases List.mem_append.1 hk with hk | hk
    ·exact zFA hc hj hk
    ·exact h1 k (List.mem_cons_of_mem _ hk)
   ·rcases List.mem_cons.1 hk with rfl | hk
    ·exact hj
    ·exact h2 k hk
def needL (aS:List Nat) (j:Nat):List Oper->Nat->Bool
 | [],_=>false
 | o::l,i=>cond (zBR o.op) (cond (Nat.beq i j) (needL aS j l (i+1)) (cond (memN i aS) (needL aS j l (i+1)) true)) (needL aS j l (i+1))
def needS (ops:Array Oper) (j:Nat):Bool:=needL (ancs ops 4000 (zEy ops j) []) j ops.toList 0
theorem needL_anc {aS:List Nat} {j:Nat} : ∀ (l:List Oper) (k:Nat),needL aS j l k=false->∀ (i:Nat) (o:Oper),l[i]? = some o->zBR o.op=true->k+i≠j->k+i∈aS
 | [],_,_,i,o,ho,_,_=>by simp at ho
 | p::l,k,h,i,o,ho,hl,hne=>by
  unfold needL at h
  cases i with
  | zero =>
   simp at ho
   subst ho
   rw [hl] at h
   have hb:Nat.beq k j=false:=by
    cases hb:Nat.beq k j with
    | false=>rfl
    | true=>exact absurd (Nat.eq_of_beq_eq_true hb) (by omega)
   rw [hb] at h
   cases he:memN k aS with
   | true=>exact zG4.1 he
   | false=>rw [he] at h;cases h
  | succ i =>
   have hrec:needL aS j l (k+1)=false:=by
    cases h1:zBR p.op with
    | false=>rw [h1] at h;exact h
    | true =>
     rw [h1] at h
     cases h2:Nat.beq k j with
     | true=>rw [h2] at h;exact h
     | false =>
      rw [h2] at h
      cases h3:memN k aS with
      | true=>rw [h3] at h;exact h
      | false=>rw [h3] at h;cases h
   have:=needL_anc l (k+1) hrec i o (by simpa using ho) hl (by omega)
   rwa [show k+1+i=k+(i+1) by omega] at this
theorem ready_edges {ops:Array Oper} {listed:Array Bool} {j:Nat} (hj:j∈Region.ready .any ops listed) : ∀ i∈zEy ops j,listed.getD i false=true:=by
 intro i hi
 obtain⟨_,oj,hoj,hall⟩:=mem_ready.1 hj
 unfold zEy at hi
 rw [hoj] at hi
 obtain⟨e,hm,hb,rfl⟩:=zCx hi
 exact hall e (by simpa using hm) hb
theorem zBi {ops:Array Oper} {listed:Array Bool} {j:Nat} (hc:zEE ops listed) (hj:j∈Region.ready .any ops listed):zEE ops (listed.setIfInBounds j true):=by
 intro k ok hk hl e he hb
 refine getD_set_true ?_
 by_cases hjk:j=k
 ·subst hjk
  obtain⟨_,oj,hoj,hall⟩:=mem_ready.1 hj
  rw [hk] at hoj
  cases hoj
  exact hall e he hb
 ·rw [getD_set_ne false hjk] at hl
  exact hc k ok hk hl e he hb
theorem zDr {listed:Array Bool} {i:Nat} (h:listed.getD i true=false):listed.getD i false=false:=by
 rw [Array.getD_eq_getD_getElem?] at *
 cases hl:listed[i]? with
 | none=>rw [hl] at h;cases h
 | some b=>rw [hl] at h;exact h
theorem needS_of {ops:Array Oper} {listed:Array Bool} {i j:Nat} {oi:Oper} (hc:zEE ops listed) (hj:j∈Region.ready .any ops listed) (hi:i∈Region.ready .any ops listed) (ho:ops[i]? = some oi) (hl:zBR oi.op=true) (hne:j≠i):needS ops j=true:=by
 cases h:needS ops j with
 | true=>rfl
 | false =>
  have he:=needL_anc ops.toList 0 h i oi (by simpa using ho) hl (by omega)
  rw [Nat.zero_add] at he
  have h1:=zD7 hc _ _ _ (ready_edges hj) (fun k hk=>by cases hk) i he
  have h2:=zDr (mem_ready.1 hi).1
  rw [h1] at h2
  cases h2
section
variable {P:Program} {ops:Array Oper} {Q:Exit->Act->World->Prop} {S:World->Prop}
def wpA (P:Program) (ops:Array Oper) (Q:Exit->Act->World->Prop) (S:World->Prop):Nat->Array Bool->Act->World->Prop
 | 0,listed,a,w=>Region.ready .any ops listed=[]/\Q .normal a w
 | m+1,listed,a,w=>(Region.ready .any ops listed=[]->Q .normal a w) /\
   ∀ i∈Region.ready .any ops listed,wpOp P ops Q i (fun a' w'=>(w' = w\/(needS ops i=true->S w'))/\wpA P ops Q S m (listed.setIfInBounds i true) a' w') a w
theorem wpA_any : ∀ (m:Nat) (listed:Array Bool) (a:Act) (w:World),wpA P ops Q S m listed a w->wpAny P .any ops Q m listed a w
 | 0,_,_,_,h=>h
 | m+1,_,_,_,h=>⟨h.1,fun i hi=>wpOp_mono (fun a' w' h'=>wpA_any m _ a' w' h'.2) (h.2 i hi)⟩
theorem zCf {i:Nat} {oi:Oper} {v:Value} {T:World->Prop} (hi:ops[i]? = some oi) (hsel : ∀ (j:Nat) (o:Oper) cs b,ops[j]? = some o->o.op ≠ .select cs b)
  (hQ : ∀ c a w,Q (.panic c) (a.put oi.dst v) w->Q (.panic c) a w) (hT:(∀ w,T w)\/(zBR oi.op=true/\∀ w,S w->T w)) :
  ∀ (m:Nat) (listed:Array Bool) (a:Act) (w:World),
   (∀ j oj,ops[j]? = some oj->j≠i->listed.getD j true=false->(∀ e∈oj.after,Region.binds .any e=true->e.on≠i)->oi.apart ops oj=true) ->
   i∈Region.ready .any ops listed->zEE ops listed->YieldsIf P ops T oi v a->T w ->
   wpA P ops Q S m (listed.setIfInBounds i true) (a.put oi.dst v) w->wpA P ops Q S (m+1) listed a w:=by
 intro m
 induction m with
 | zero =>
  intro listed a w _ hr hcl hy hTw H
  refine⟨fun h=>(by rw [h] at hr;cases hr),fun j hj=>?_⟩
  by_cases hji:j=i
  ·subst hji;exact hy.wpOp hi hTw ⟨.inl rfl,H⟩
  ·have:=ready_mono hj hji
   rw [H.1] at this
   cases this
 | succ m ih =>
  intro listed a w hfree hr hcl hy hTw H
  refine⟨fun h=>(by rw [h] at hr;cases hr),fun j hj=>?_⟩
  by_cases hji:j=i
  ·subst hji;exact hy.wpOp hi hTw ⟨.inl rfl,H⟩
  ·have h1:=H.2 j (ready_mono hj hji)
   obtain⟨hjun,oj,hoj,hall⟩:=mem_ready.1 hj
   have hnot : ∀ e∈oj.after,Region.binds .any e=true->e.on≠i:=fun e he hb heq=>by
    have h1:=hall e he hb
    have h0:=zDr (mem_ready.1 hr).1
    rw [heq,h0] at h1
    cases h1
   have h2:=wpOp_putIf hoj (hfree j oj hoj hji hjun hnot) (fun cs b=>hsel i oi cs b hi) (fun cs b=>hsel j oj cs b hoj) hQ hy h1
   have hfree' : ∀ k ok,ops[k]? = some ok->k≠i->(listed.setIfInBounds j true).getD k true=false ->
     (∀ e∈ok.after,Region.binds .any e=true->e.on≠i)->oi.apart ops ok=true:=fun k ok hk hki hun hno=>by
    refine hfree k ok hk hki ?_ hno
    by_cases hjk:j=k
    ·subst hjk;exact hjun
    ·rw [getD_set_ne true hjk] at hun;exact hun
   refine wpOp_mono (fun a' w' h3=>⟨h3.2.1,?_⟩) h2
   have hTw' : T w':=by
    rcases hT with hT | ⟨hl,hT⟩
    ·exact hT w'
    ·rcases h3.2.1 with rfl | h4
     ·exact hTw
     ·exact hT w' (h4 (needS_of hcl hj hr hi hl hji))
   refine ih (listed.setIfInBounds j true) a' w' hfree' (ready_mono hr (Ne.symm hji)) (zBi hcl hj) h3.1 hTw' ?_
   rw [Array.setIfInBounds_comm _ _ hji]
   exact h3.2.2
end
inductive Sel
 | take (i:Nat)
 | skip (i:Nat)
 | spec (i:Nat) (cs:Cs) (v:Value)
 | split (l:Cs)
def clash (kn:Cs):Cs->Bool
 | []=>false
 | (t,b)::l=>cond (csMem t (notB b) kn) true (clash kn l)
theorem zGg {kn:Cs} {a:Act} (hk:Holds kn a) : ∀ (cs:Cs),clash kn cs=true->¬ Holds cs a
 | (t,b)::l,h,hc=>by
  unfold clash at h
  cases h1:csMem t (notB b) kn with
  | true =>
   have h2:=hk _ (zAN h1)
   have h3:=hc (t,b) List.mem_cons_self
   rw [h2] at h3
   cases b <;> cases h3
  | false =>
   rw [h1] at h
   exact zGg hk l h fun p hp=>hc p (List.mem_cons_of_mem _ hp)
def gone (s:Nat) (kn:Cs) (f:Fr):Bool :=
 match look s f with
 | some ([],.tuple _)=>true
 | some (cs,_)=>clash kn cs
 | _=>false
theorem gone_spec {n s:Nat} {kn:Cs} {f:Fr} {a:Act} (hs:Sat n f a) (hk:Holds kn a) (h:gone s kn f=true) (b:Bool):a.tmps[s]?≠some (.bool b):=by
 unfold gone at h
 split at h
 ·rename_i xs hl
  have:=(hs.val s [] _ hl).1 (fun p hp=>by cases hp)
  rw [this]
  intro e
  cases e
 ·rename_i cs v _ hl
  have:=(hs.val s cs v hl).2 (zGg hk cs h)
  rw [this]
  intro e
  cases e
 ·cases h
def selAt (E:Env) (ops:Array Oper) (kn:Cs) (f:Fr) (i:Nat):Option Sel :=
 match ops[i]? with
 | none=>none
 | some o=>match o.guard with
  | none=>cond (qk E.P o.op) (some (.take i)) none
  | some (j,want)=>match dstOf ops j with
   | none=>none
   | some s=>cond (csMem s want kn) (cond (qk E.P o.op) (some (.take i)) none) (cond (cond (csMem s (notB want) kn) true (gone s kn f)) (some (.skip i))
     (match look s f with
      | some (cs,.bool _)=>match vspec f kn ((s,want)::cs) o with
       | some v=>some (.spec i ((s,want)::cs) v)
       | none=>some (.split (revC ((s,want)::cs) []))
      | _=>none))
def selOf (E:Env) (ops:Array Oper) (kn:Cs) (f:Fr):List Nat->Option Sel->Option Sel
 | [],acc=>acc
 | i::l,acc=>match selAt E ops kn f i with
  | some (.split c)=>selOf E ops kn f l (match acc with | none=>some (.split c) | a=>a)
  | some s=>some s
  | none=>selOf E ops kn f l acc
def allR (p:Nat->Prop):List Nat->Prop
 | []=>True
 | [i]=>p i
 | i::l=>p i/\allR p l
def zBp (ops:Array Oper) (kn:Cs) (o:Oper):Bool :=
 match o.guard with
 | none=>true
 | some (j,want)=>match dstOf ops j with
  | none=>false
  | some s=>csMem s want kn
def vqp (E:Env) (f:Fr) (kn:Cs) (o:Oper) (w:World) (K:Value->Prop):Prop :=
 match o.op with
 | .pick (.tmp _) _ _=>someV (vspec f kn [] o) K
 | op=>cond (zBv op) (cond (evAll f kn op.operands.toList) (vq E (rho f kn) o w K) False) False
def vany (E:Env) (n:Nat) (ops:Array Oper) (w0:World) (K:Fr->World->Prop):Nat->Array Bool->Bool->Cs->Fr->World->Prop
 | 0,_,_,_,_,_=>False
 | fuel+1,listed,ok,kn,f,w =>
  match Region.ready .any ops listed with
  | []=>K f w
  | i0::rs=>match selOf E ops kn f (i0::rs) none with
   | some (.take i)=>match ops[i]? with
    | some o=>cond (Region.free .any ops listed i) (cond (zAL n o kn f) (cond (cond (zBR o.op) ok true)
      (vqp E f kn o w0 fun v=>vany E n ops w0 K fuel (listed.setIfInBounds i true) ok kn (push o (some ([],v)) f) w) False) False) False
    | none=>False
   | some (.skip i)=>match ops[i]? with
    | some o=>cond (Region.free .any ops listed i) (cond (zAL n o kn f) (vany E n ops w0 K fuel (listed.setIfInBounds i true) ok kn (push o (some ([],undef)) f) w) False) False
    | none=>False
   | some (.spec i cs v)=>match ops[i]? with
    | some o=>cond (Region.free .any ops listed i) (cond (zAL n o (cs++kn) f) (vany E n ops w0 K fuel (listed.setIfInBounds i true) ok kn (push o (some (cs,v)) f) w) False) False
    | none=>False
   | some (.split l)=>zE3 (fun kn f=>vany E n ops w0 K fuel listed ok kn f w) (fun kn f=>vany E n ops w0 K fuel listed ok kn f w) l kn f
   | none=>allR (fun i=>match ops[i]? with
    | some o=>cond (zBp ops kn o) (cond (zAL n o kn f) (zFG E f kn o w fun v w' =>
      cond (needS ops i) (Below w0.heap.size w0 w'/\vany E n ops w0 K fuel (listed.setIfInBounds i true) ok kn (push o (some ([],v)) f) w')
       (vany E n ops w0 K fuel (listed.setIfInBounds i true) false kn (push o (some ([],v)) f) w')) False) False
    | none=>False) (i0::rs)
theorem zBB {E:Env} {ops:Array Oper} {kn:Cs} {f:Fr} {s:Sel} : ∀ (l:List Nat) (acc:Option Sel),selOf E ops kn f l acc=some s->acc=some s\/∃ i∈l,selAt E ops kn f i=some s
 | [],acc,h => .inl h
 | i::l,acc,h=>by
  unfold selOf at h
  cases hs:selAt E ops kn f i with
  | none =>
   rw [hs] at h
   rcases zBB l acc h with h | ⟨j,hj,h⟩
   ·exact .inl h
   ·exact .inr ⟨j,List.mem_cons_of_mem _ hj,h⟩
  | some x =>
   rw [hs] at h
   cases x with
   | split c =>
    simp only at h
    rcases zBB l _ h with h | ⟨j,hj,h⟩
    ·cases acc with
     | none=>simp only at h;exact .inr ⟨i,List.mem_cons_self,by rw [hs];exact h⟩
     | some a=>exact .inl h
    ·exact .inr ⟨j,List.mem_cons_of_mem _ hj,h⟩
   | take j=>exact .inr ⟨i,List.mem_cons_self,by rw [hs];exact h⟩
   | skip j=>exact .inr ⟨i,List.mem_cons_self,by rw [hs];exact h⟩
   | spec j c v=>exact .inr ⟨i,List.mem_cons_self,by rw [hs];exact h⟩
def cntF:List Bool->Nat
 | []=>0
 | true::l=>cntF l
 | false::l=>cntF l+1
theorem cntF_set : ∀ (l:List Bool) (i:Nat),l[i]? = some false->cntF (l.set i true)+1=cntF l
 | b::l,0,h=>by simp at h;subst h;rfl
 | b::l,i+1,h=>by
  have:=cntF_set l i (by simpa using h)
  cases b <;> simp only [List.set_cons_succ,cntF] <;> omega
theorem zAX {ops:Array Oper} {listed:Array Bool} {i m:Nat} (hi:i∈Region.ready .any ops listed) (hm:cntF listed.toList=m) :
  ∃ m',m=m' + 1/\cntF (listed.setIfInBounds i true).toList=m':=by
 have h:=(mem_ready.1 hi).1
 have h2:listed.toList[i]? = some false:=by
  rw [Array.getD_eq_getD_getElem?] at h
  rw [Array.getElem?_toList]
  cases hl:listed[i]? with
  | none=>rw [hl] at h;cases h
  | some b=>rw [hl] at h;simp at h;rw [h]
 have h3:=cntF_set _ _ h2
 rw [Array.toList_setIfInBounds]
 exact⟨cntF (listed.toList.set i true),by omega,rfl⟩
theorem zGC {p:Nat->Prop} : ∀ {l:List Nat},allR p l->∀ i∈l,p i
 | [i],h,j,hj=>by
  rcases List.mem_cons.1 hj with rfl | hj
  ·exact h
  ·cases hj
 | i::k::l,h,j,hj=>by
  rcases List.mem_cons.1 hj with rfl | hj
  ·exact h.1
  ·exact zGC h.2 j hj
theorem zBx {ops:Array Oper} {kn:Cs} {o:Oper} {a:Act} (hk:Holds kn a) (h:zBp ops kn o=true):Region.wanted o (yielded ops a.tmps)=true:=by
 unfold zBp at h
 split at h
 ·rename_i hg;exact zEY hg
 ·rename_i j want hg
  split at h
  ·cases h
  ·rename_i s hd
   exact (zB2 hg hd).2 (hk _ (zAN h))
theorem zBZ {ops:Array Oper} {i:Nat} {o:Oper} (hi:ops[i]? = some o) {d:Nat} (hd:o.dst=some d):d∈dsts ops.toList:=by
 have hm:o∈ops.toList:=by
  have:=Array.mem_of_getElem? hi
  simpa using this
 have : ∀ (l:List Oper),o∈l->d∈dsts l:=by
  intro l
  induction l with
  | nil=>intro h;cases h
  | cons p l ih =>
   intro h
   rcases List.mem_cons.1 h with rfl | h
   ·exact dsts_head hd
   ·exact dsts_tail (ih h)
 exact this _ hm
theorem zB4 {E:Env} (hE:E.Ok) {n:Nat} {ops:Array Oper} {w0:World} {K:Fr->World->Prop} {Q:Exit->Act->World->Prop} {a0:Act} (hsel:Region.noSelect ops=true)
  (hQ : ∀ c a d v w,Q (.panic c) (a.put d v) w->Q (.panic c) a w) (hn : ∀ f' a' w',K f' w'->Sat n f' a'->Agree (dsts ops.toList) a0 a'->Q .normal a' w') :
  ∀ (fuel:Nat) (listed:Array Bool) (ok:Bool) (kn:Cs) (f:Fr) (w:World) (a:Act) (m:Nat),vany E n ops w0 K fuel listed ok kn f w->Sat n f a->Holds kn a ->
   (ok=true->Below w0.heap.size w0 w)->zEE ops listed->cntF listed.toList=m->Agree (dsts ops.toList) a0 a->wpA E.P ops Q (Below w0.heap.size w0) m listed a w
 | 0,_,_,_,_,_,_,_,h,_,_,_,_,_,_=>h.elim
 | fuel+1,listed,ok,kn,f,w,a,m,h,hs,hk,hok,hcl,hm,hag=>by
  have hsp:=Region.noSelect_spec (ops:=ops) hsel
  unfold vany at h
  split at h
  ·rename_i hr
   cases m with
   | zero=>exact⟨hr,hn f a w h hs hag⟩
   | succ m=>exact⟨fun _=>hn f a w h hs hag,by rw [hr];simp⟩
  ·rename_i i0 rs hr
   split at h
   ·
    rename_i i hsl
    split at h <;> try exact h.elim
    rename_i o ho
    obtain⟨i',hi',hat⟩:=(zBB _ _ hsl).resolve_left (by simp)
    have hii:i' = i/\zBp ops kn o=true:=by
     unfold selAt at hat
     split at hat
     ·cases hat
     ·rename_i p hp
      split at hat
      ·rename_i hg
       cases hq:qk E.P p.op with
       | false=>rw [hq] at hat;cases hat
       | true =>
        rw [hq] at hat
        cases hat
        rw [ho] at hp;cases hp
        exact⟨rfl,by unfold zBp;rw [hg]⟩
      ·rename_i j want hg
       split at hat
       ·cases hat
       ·rename_i s hd
        cases h1:csMem s want kn with
        | true =>
         rw [h1] at hat
         cases hq:qk E.P p.op with
         | false=>rw [hq] at hat;cases hat
         | true =>
          rw [hq] at hat
          cases hat
          rw [ho] at hp;cases hp
          exact⟨rfl,by unfold zBp;rw [hg];simp only [hd];exact h1⟩
        | false =>
         cases h2:(cond (csMem s (notB want) kn) true (gone s kn f)) with
         | true=>rw [h1,h2] at hat;cases hat
         | false =>
          rw [h1,h2] at hat
          simp only [cond_false] at hat
          split at hat
          ·split at hat <;> cases hat
          ·cases hat
    obtain⟨rfl,hgy⟩:=hii
    have hir:i'∈Region.ready .any ops listed:=by rw [hr];exact hi'
    obtain⟨m',rfl,hm'⟩:=zAX hir hm
    cases hf:Region.free .any ops listed i' with
    | false=>rw [hf] at h;exact h.elim
    | true =>
     cases hmp:zAL n o kn f with
     | false=>rw [hf,hmp] at h;exact h.elim
     | true =>
      cases hol:cond (zBR o.op) ok true with
      | false=>rw [hf,hmp,hol] at h;exact h.elim
      | true =>
       rw [hf,hmp,hol] at h
       simp only [cond_true] at h
       have fin : ∀ (T:World->Prop) (v:Value),((∀ w,T w)\/(zBR o.op=true/\∀ w',Below w0.heap.size w0 w'->T w'))->T w->(∀ w',T w'->(execOp a.eval o).run E.P w' = .ok (.value v) w') ->
         vany E n ops w0 K fuel (listed.setIfInBounds i' true) ok kn (push o (some ([],v)) f) w->wpA E.P ops Q (Below w0.heap.size w0) (m' + 1) listed a w:=fun T v hT hTw hrun hv =>
        zCf ho hsp (fun c a w=>hQ c a _ _ w) hT m' listed a w (Region.free_spec ho hf) hir hcl (.inl ⟨zBx hk hgy,hrun⟩) hTw
         (zB4 hE hsel hQ hn fuel _ ok kn _ w _ m' hv (hs.put hmp) ((Holds.put fun d hd=>(zAD hmp hd).2.1).2 hk) hok (zBi hcl hir) hm' (hag.trans (Agree.put fun d hd=>zBZ ho hd)))
       unfold vqp at h
       split at h
       ·unfold someV at h
        split at h <;> try exact h.elim
        rename_i v hv
        exact fin (fun _=>True) v (.inl fun _=>trivial) trivial (fun w' _=>zB3 hs hk (zAB a) hv) h
       ·cases h1:zBv o.op with
        | false=>rw [h1] at h;exact h.elim
        | true =>
         cases h2:evAll f kn o.op.operands.toList with
         | false=>rw [h1,h2] at h;exact h.elim
         | true =>
          rw [h1,h2] at h
          simp only [cond_true] at h
          obtain⟨v,hv,hrun⟩:=zEF h
          rw [zCk hs hk h1 h2] at hrun
          rcases hrun with hrun | ⟨hl,hrun⟩
          ·exact fin (fun _=>True) v (.inl fun _=>trivial) trivial (fun w' _=>hrun w') hv
          ·rw [hl] at hol
           exact fin (Below w0.heap.size w0) v (.inr ⟨hl,fun w' h=>h⟩) (hok hol) hrun hv
   ·
    rename_i i hsl
    split at h <;> try exact h.elim
    rename_i o ho
    obtain⟨i',hi',hat⟩:=(zBB _ _ hsl).resolve_left (by simp)
    have hii:i' = i/\¬ Region.wanted o (yielded ops a.tmps)=true:=by
     unfold selAt at hat
     split at hat
     ·cases hat
     ·rename_i p hp
      split at hat
      ·cases hq:qk E.P p.op with
       | false=>rw [hq] at hat;cases hat
       | true=>rw [hq] at hat;cases hat
      ·rename_i j want hg
       split at hat
       ·cases hat
       ·rename_i s hd
        cases h1:csMem s want kn with
        | true =>
         rw [h1] at hat
         cases hq:qk E.P p.op with
         | false=>rw [hq] at hat;cases hat
         | true=>rw [hq] at hat;cases hat
        | false =>
         cases h2:(cond (csMem s (notB want) kn) true (gone s kn f)) with
         | true =>
          rw [h1,h2] at hat
          cases hat
          rw [ho] at hp;cases hp
          refine⟨rfl,fun hw=>?_⟩
          have:=(zB2 hg hd).1 hw
          cases h3:csMem s (notB want) kn with
          | true =>
           rw [hk _ (zAN h3)] at this
           cases want <;> cases this
          | false =>
           rw [h3] at h2
           exact gone_spec hs hk h2 _ this
         | false =>
          rw [h1,h2] at hat
          simp only [cond_false] at hat
          split at hat
          ·split at hat <;> cases hat
          ·cases hat
    obtain⟨rfl,hnw⟩:=hii
    have hir:i'∈Region.ready .any ops listed:=by rw [hr];exact hi'
    obtain⟨m',rfl,hm'⟩:=zAX hir hm
    cases hf:Region.free .any ops listed i' with
    | false=>rw [hf] at h;exact h.elim
    | true =>
     cases hmp:zAL n o kn f with
     | false=>rw [hf,hmp] at h;exact h.elim
     | true =>
      rw [hf,hmp] at h
      exact zCf (T:=fun _=>True) ho hsp (fun c a w=>hQ c a _ _ w) (.inl fun _=>trivial) m' listed a w (Region.free_spec ho hf) hir hcl (.inr ⟨by simpa using hnw,rfl⟩) trivial
       (zB4 hE hsel hQ hn fuel _ ok kn _ w _ m' h (hs.put hmp) ((Holds.put fun d hd=>(zAD hmp hd).2.1).2 hk) hok (zBi hcl hir) hm' (hag.trans (Agree.put fun d hd=>zBZ ho hd)))
   ·
    rename_i i cs v hsl
    split at h <;> try exact h.elim
    rename_i o ho
    obtain⟨i',hi',hat⟩:=(zBB _ _ hsl).resolve_left (by simp)
    have hii:i' = i/\vspec f kn cs o=some v/\(Region.wanted o (yielded ops a.tmps)=true↔Holds cs a):=by
     unfold selAt at hat
     split at hat
     ·cases hat
     ·rename_i p hp
      split at hat
      ·cases hq:qk E.P p.op with
       | false=>rw [hq] at hat;cases hat
       | true=>rw [hq] at hat;cases hat
      ·rename_i j want hg
       split at hat
       ·cases hat
       ·rename_i s hd
        cases h1:csMem s want kn with
        | true =>
         rw [h1] at hat
         cases hq:qk E.P p.op with
         | false=>rw [hq] at hat;cases hat
         | true=>rw [hq] at hat;cases hat
        | false =>
         cases h2:(cond (csMem s (notB want) kn) true (gone s kn f)) with
         | true=>rw [h1,h2] at hat;cases hat
         | false =>
          rw [h1,h2] at hat
          simp only [cond_false] at hat
          split at hat
          ·rename_i c0 b hl
           split at hat
           ·rename_i u hu
            cases hat
            rw [ho] at hp;cases hp
            refine⟨rfl,hu,?_⟩
            have hv:=hs.val s c0 _ hl
            have hwt:=zB2 (ops:=ops) (a:=a) hg hd
            constructor
            ·intro hw
             have h3:=hwt.1 hw
             by_cases hc:Holds c0 a
             ·exact hc.cons h3
             ·have:=hv.2 hc
              rw [h3] at this
              exact absurd (Option.some.inj this).symm (zBJ _)
            ·intro hc
             exact hwt.2 (hc _ List.mem_cons_self)
           ·cases hat
          ·cases hat
    obtain⟨rfl,hsp',hiff⟩:=hii
    have hir:i'∈Region.ready .any ops listed:=by rw [hr];exact hi'
    obtain⟨m',rfl,hm'⟩:=zAX hir hm
    cases hf:Region.free .any ops listed i' with
    | false=>rw [hf] at h;exact h.elim
    | true =>
     cases hmp:zAL n o (cs++kn) f with
     | false=>rw [hf,hmp] at h;exact h.elim
     | true =>
      rw [hf,hmp] at h
      have hkn : ∀ d,o.dst=some d->mentC d kn=false:=fun d hd=>by
       have h3:=(zAD hmp hd).2.1
       have : ∀ (c:Cs),mentC d (c++kn)=false->mentC d kn=false:=by
        intro c
        induction c with
        | nil=>exact id
        | cons p l ih =>
         obtain⟨t,b⟩:=p
         intro h
         have h' : cond (Nat.beq t d) true (mentC d (l++kn))=false:=h
         cases h1:Nat.beq t d with
         | true=>rw [h1] at h';cases h'
         | false=>rw [h1] at h';exact ih h'
       exact this _ h3
      have main : ∀ (b:Bool),(b=true↔Holds cs a)->wpA E.P ops Q (Below w0.heap.size w0) (m' + 1) listed a w:=fun b hb=>by
       have hsat:=hs.putIf (v:=v) (b:=b) hmp hb
       refine zCf (T:=fun _=>True) (v:=if b then v else undef) ho hsp (fun c a w=>hQ c a _ _ w) (.inl fun _=>trivial) m' listed a w (Region.free_spec ho hf) hir hcl ?_ trivial
        (zB4 hE hsel hQ hn fuel _ ok kn _ w _ m' h hsat ((Holds.put hkn).2 hk) hok (zBi hcl hir) hm' (hag.trans (Agree.put fun d hd=>zBZ ho hd)))
       cases b with
       | true=>exact .inl ⟨hiff.2 (hb.1 rfl),fun w' _=>zB3 hs hk (hb.1 rfl) hsp'⟩
       | false =>
        have hnw:Region.wanted o (yielded ops a.tmps)=false:=by
         cases hw:Region.wanted o (yielded ops a.tmps) with
         | false=>rfl
         | true=>have:=hb.2 (hiff.1 hw);cases this
        exact .inr ⟨hnw,rfl⟩
      by_cases hc:Holds cs a
      ·exact main true ⟨fun _=>hc,fun _=>rfl⟩
      ·exact main false ⟨fun h=>(by cases h),fun h=>absurd h hc⟩
   ·
    rename_i l hsl
    rcases zBs l kn f hs hk h with ⟨kn',f',p,q,_,s'⟩ | ⟨kn',f',p,q,_,s'⟩
    ·exact zB4 hE hsel hQ hn fuel listed ok kn' f' w a m s' p q hok hcl hm hag
    ·exact zB4 hE hsel hQ hn fuel listed ok kn' f' w a m s' p q hok hcl hm hag
   ·
    have hi0:i0∈Region.ready .any ops listed:=by rw [hr];exact List.mem_cons_self
    obtain⟨m',rfl,_⟩:=zAX hi0 hm
    refine⟨fun h0=>(by rw [hr] at h0;cases h0),fun i hi=>?_⟩
    have hi' : i∈i0::rs:=by rw [<- hr];exact hi
    have h1:=zGC h i hi'
    split at h1 <;> try exact h1.elim
    rename_i o ho
    cases hgy:zBp ops kn o with
    | false=>rw [hgy] at h1;exact h1.elim
    | true =>
     cases hmp:zAL n o kn f with
     | false=>rw [hgy,hmp] at h1;exact h1.elim
     | true =>
      rw [hgy,hmp] at h1
      simp only [cond_true] at h1
      obtain⟨m2,he,hm2⟩:=zAX hi hm
      have:m2=m':=by omega
      subst this
      unfold wpOp
      simp only [ho]
      rw [if_pos (zBx hk hgy)]
      refine .inl (zC7 hE hs hk (fun v w' hv=>?_) h1)
      have go : ∀ ok',(ok' = true->Below w0.heap.size w0 w')->vany E n ops w0 K fuel (listed.setIfInBounds i true) ok' kn (push o (some ([],v)) f) w' ->
        wpA E.P ops Q (Below w0.heap.size w0) m2 (listed.setIfInBounds i true) (a.put o.dst v) w':=fun ok' hok' hv =>
       zB4 hE hsel hQ hn fuel _ ok' kn _ w' _ m2 hv (hs.put hmp) ((Holds.put fun d hd=>(zAD hmp hd).2.1).2 hk) hok' (zBi hcl hi) hm2 (hag.trans (Agree.put fun d hd=>zBZ ho hd))
      cases hne:needS ops i with
      | true =>
       rw [hne] at hv
       exact⟨.inr fun _=>hv.1,go ok (fun _=>hv.1) hv.2⟩
      | false =>
       rw [hne] at hv
       exact⟨.inr fun h=>(by cases h),go false (fun h=>by cases h) hv⟩
theorem zFa {E:Env} (hE:E.Ok) {n:Nat} {id:Nat} {ops:Array Oper} {K:Fr->World->Prop} {Q:Exit->Act->World->Prop} {a:Act} {f:Fr} {w:World} {fuel:Nat} (hsel:Region.noSelect ops=true)
  (hQ : ∀ c a d v w,Q (.panic c) (a.put d v) w->Q (.panic c) a w) (hn : ∀ f' a' w',K f' w'->Sat n f' a'->Agree (dsts ops.toList) a a'->Q .normal a' w')
  (h:vany E n ops w.drew K fuel (Array.replicate ops.size false) true [] f w.drew) (hs:Sat n f a):(Code.region id ops true).wp E.P Q a w:=by
 refine wp_region_any hE.mixed (wpA_any (S:=Below w.drew.heap.size w.drew) _ _ _ _ ?_)
 refine zB4 hE hsel hQ hn fuel _ true [] f w.drew a ops.size h hs (zAB a) (fun _=>Below.refl _ _) (fun k ok hk hl=>(by rw [zBF] at hl;cases hl)) ?_ (Agree.refl _ _)
 have : ∀ k,cntF (List.replicate k false)=k:=by
  intro k
  induction k with
  | zero=>rfl
  | succ k ih=>rw [List.replicate_succ];show cntF _+1=_;rw [ih]
 simpa using this ops.size
def vqL (E:Env) (S:World->Prop) (f:Fr) (kn:Cs) (o:Oper) (w:World) (K:Value->Prop):Prop :=
 cond (zBR o.op) (vqp E f kn o w fun v=>(∀ w',S w'->vqp E f kn o w' fun v'=>v' = v)/\K v) (vqp E f kn o w K)
def vanyL (E:Env) (n:Nat) (ops:Array Oper) (S:World->Prop) (w0:World) (K:Fr->World->Prop):Nat->Array Bool->Bool->Cs->Fr->World->Prop
 | 0,_,_,_,_,_=>False
 | fuel+1,listed,ok,kn,f,w =>
  match Region.ready .any ops listed with
  | []=>K f w
  | i0::rs=>match selOf E ops kn f (i0::rs) none with
   | some (.take i)=>match ops[i]? with
    | some o=>cond (Region.free .any ops listed i) (cond (zAL n o kn f) (cond (cond (zBR o.op) ok true)
      (vqL E S f kn o w0 fun v=>vanyL E n ops S w0 K fuel (listed.setIfInBounds i true) ok kn (push o (some ([],v)) f) w) False) False) False
    | none=>False
   | some (.skip i)=>match ops[i]? with
    | some o=>cond (Region.free .any ops listed i) (cond (zAL n o kn f) (vanyL E n ops S w0 K fuel (listed.setIfInBounds i true) ok kn (push o (some ([],undef)) f) w) False) False
    | none=>False
   | some (.spec i cs v)=>match ops[i]? with
    | some o=>cond (Region.free .any ops listed i) (cond (zAL n o (cs++kn) f) (vanyL E n ops S w0 K fuel (listed.setIfInBounds i true) ok kn (push o (some (cs,v)) f) w) False) False
    | none=>False
   | some (.split l)=>zE3 (fun kn f=>vanyL E n ops S w0 K fuel listed ok kn f w) (fun kn f=>vanyL E n ops S w0 K fuel listed ok kn f w) l kn f
   | none=>allR (fun i=>match ops[i]? with
    | some o=>cond (zBp ops kn o) (cond (zAL n o kn f) (zFG E f kn o w fun v w' =>
      cond (needS ops i) (S w'/\vanyL E n ops S w0 K fuel (listed.setIfInBounds i true) ok kn (push o (some ([],v)) f) w')
       (vanyL E n ops S w0 K fuel (listed.setIfInBounds i true) false kn (push o (some ([],v)) f) w')) False) False
    | none=>False) (i0::rs)
theorem zBq {S:World->Prop} {E:Env} (hE:E.Ok) {n:Nat} {ops:Array Oper} {w0:World} {K:Fr->World->Prop} {Q:Exit->Act->World->Prop} {a0:Act} (hsel:Region.noSelect ops=true)
  (hQ : ∀ c a d v w,Q (.panic c) (a.put d v) w->Q (.panic c) a w) (hn : ∀ f' a' w',K f' w'->Sat n f' a'->Agree (dsts ops.toList) a0 a'->Q .normal a' w') :
  ∀ (fuel:Nat) (listed:Array Bool) (ok:Bool) (kn:Cs) (f:Fr) (w:World) (a:Act) (m:Nat),vanyL E n ops S w0 K fuel listed ok kn f w->Sat n f a->Holds kn a ->
   (ok=true->S w)->zEE ops listed->cntF listed.toList=m->Agree (dsts ops.toList) a0 a->wpA E.P ops Q S m listed a w
 | 0,_,_,_,_,_,_,_,h,_,_,_,_,_,_=>h.elim
 | fuel+1,listed,ok,kn,f,w,a,m,h,hs,hk,hok,hcl,hm,hag=>by
  have hsp:=Region.noSelect_spec (ops:=ops) hsel
  unfold vanyL at h
  split at h
  ·rename_i hr
   cases m with
   | zero=>exact⟨hr,hn f a w h hs hag⟩
   | succ m=>exact⟨fun _=>hn f a w h hs hag,by rw [hr];simp⟩
  ·rename_i i0 rs hr
   split at h
   ·
    rename_i i hsl
    split at h <;> try exact h.elim
    rename_i o ho
    obtain⟨i',hi',hat⟩:=(zBB _ _ hsl).resolve_left (by simp)
    have hii:i' = i/\zBp ops kn o=true:=by
     unfold selAt at hat
     split at hat
     ·cases hat
     ·rename_i p hp
      split at hat
      ·rename_i hg
       cases hq:qk E.P p.op with
       | false=>rw [hq] at hat;cases hat
       | true =>
        rw [hq] at hat
        cases hat
        rw [ho] at hp;cases hp
        exact⟨rfl,by unfold zBp;rw [hg]⟩
      ·rename_i j want hg
       split at hat
       ·cases hat
       ·rename_i s hd
        cases h1:csMem s want kn with
        | true =>
         rw [h1] at hat
         cases hq:qk E.P p.op with
         | false=>rw [hq] at hat;cases hat
         | true =>
          rw [hq] at hat
          cases hat
          rw [ho] at hp;cases hp
          exact⟨rfl,by unfold zBp;rw [hg];simp only [hd];exact h1⟩
        | false =>
         cases h2:(cond (csMem s (notB want) kn) true (gone s kn f)) with
         | true=>rw [h1,h2] at hat;cases hat
         | false =>
          rw [h1,h2] at hat
          simp only [cond_false] at hat
          split at hat
          ·split at hat <;> cases hat
          ·cases hat
    obtain⟨rfl,hgy⟩:=hii
    have hir:i'∈Region.ready .any ops listed:=by rw [hr];exact hi'
    obtain⟨m',rfl,hm'⟩:=zAX hir hm
    cases hf:Region.free .any ops listed i' with
    | false=>rw [hf] at h;exact h.elim
    | true =>
     cases hmp:zAL n o kn f with
     | false=>rw [hf,hmp] at h;exact h.elim
     | true =>
      cases hol:cond (zBR o.op) ok true with
      | false=>rw [hf,hmp,hol] at h;exact h.elim
      | true =>
       rw [hf,hmp,hol] at h
       simp only [cond_true] at h
       have fin : ∀ (T:World->Prop) (v:Value),((∀ w,T w)\/(zBR o.op=true/\∀ w',S w'->T w'))->T w->(∀ w',T w'->(execOp a.eval o).run E.P w' = .ok (.value v) w') ->
         vanyL E n ops S w0 K fuel (listed.setIfInBounds i' true) ok kn (push o (some ([],v)) f) w->wpA E.P ops Q S (m' + 1) listed a w:=fun T v hT hTw hrun hv =>
        zCf ho hsp (fun c a w=>hQ c a _ _ w) hT m' listed a w (Region.free_spec ho hf) hir hcl (.inl ⟨zBx hk hgy,hrun⟩) hTw
         (zBq hE hsel hQ hn fuel _ ok kn _ w _ m' hv (hs.put hmp) ((Holds.put fun d hd=>(zAD hmp hd).2.1).2 hk) hok (zBi hcl hir) hm' (hag.trans (Agree.put fun d hd=>zBZ ho hd)))
       unfold vqL at h
       cases hil:zBR o.op with
       | false =>
        rw [hil,cond_false] at h
        unfold vqp at h
        split at h
        ·unfold someV at h
         split at h <;> try exact h.elim
         rename_i v hv
         exact fin (fun _=>True) v (.inl fun _=>trivial) trivial (fun w' _=>zB3 hs hk (zAB a) hv) h
        ·cases h1:zBv o.op with
         | false=>rw [h1] at h;exact h.elim
         | true =>
          cases h2:evAll f kn o.op.operands.toList with
          | false=>rw [h1,h2] at h;exact h.elim
          | true =>
           rw [h1,h2] at h
           simp only [cond_true] at h
           obtain⟨v,hv,hrun⟩:=zEF h
           rw [zCk hs hk h1 h2] at hrun
           rcases hrun with hrun | ⟨hl,hrun⟩
           ·exact fin (fun _=>True) v (.inl fun _=>trivial) trivial (fun w' _=>hrun w') hv
           ·rw [hil] at hl;cases hl
       | true =>
        rw [hil,cond_true] at h
        have hnp : ∀ t x y,o.op ≠ .pick (.tmp t) x y:=fun t x y e=>by rw [e] at hil;cases hil
        unfold vqp at h
        split at h
        ·rename_i t x y e;exact absurd e (hnp _ _ _)
        ·cases h1:zBv o.op with
         | false=>rw [h1] at h;exact h.elim
         | true =>
          cases h2:evAll f kn o.op.operands.toList with
          | false=>rw [h1,h2] at h;exact h.elim
          | true =>
           rw [h1,h2] at h
           simp only [cond_true] at h
           obtain⟨v,⟨hall,hv⟩,_⟩:=zEF h
           rw [hil] at hol
           refine fin S v (.inr ⟨hil,fun w' h=>h⟩) (hok hol) (fun w' hw'=>?_) hv
           have h3:=hall w' hw'
           simp only [h1,h2,cond_true] at h3
           obtain⟨v',rfl,hrun⟩:=zEF h3
           rw [zCk hs hk h1 h2] at hrun
           rcases hrun with hrun | ⟨_,hrun⟩
           ·exact hrun w'
           ·exact hrun w' (Below.refl _ _)
   ·
    rename_i i hsl
    split at h <;> try exact h.elim
    rename_i o ho
    obtain⟨i',hi',hat⟩:=(zBB _ _ hsl).resolve_left (by simp)
    have hii:i' = i/\¬ Region.wanted o (yielded ops a.tmps)=true:=by
     unfold selAt at hat
     split at hat
     ·cases hat
     ·rename_i p hp
      split at hat
      ·cases hq:qk E.P p.op with
       | false=>rw [hq] at hat;cases hat
       | true=>rw [hq] at hat;cases hat
      ·rename_i j want hg
       split at hat
       ·cases hat
       ·rename_i s hd
        cases h1:csMem s want kn with
        | true =>
         rw [h1] at hat
         cases hq:qk E.P p.op with
         | false=>rw [hq] at hat;cases hat
         | true=>rw [hq] at hat;cases hat
        | false =>
         cases h2:(cond (csMem s (notB want) kn) true (gone s kn f)) with
         | true =>
          rw [h1,h2] at hat
          cases hat
          rw [ho] at hp;cases hp
          refine⟨rfl,fun hw=>?_⟩
          have:=(zB2 hg hd).1 hw
          cases h3:csMem s (notB want) kn with
          | true =>
           rw [hk _ (zAN h3)] at this
           cases want <;> cases this
          | false =>
           rw [h3] at h2
           exact gone_spec hs hk h2 _ this
         | false =>
          rw [h1,h2] at hat
          simp only [cond_false] at hat
          split at hat
          ·split at hat <;> cases hat
          ·cases hat
    obtain⟨rfl,hnw⟩:=hii
    have hir:i'∈Region.ready .any ops listed:=by rw [hr];exact hi'
    obtain⟨m',rfl,hm'⟩:=zAX hir hm
    cases hf:Region.free .any ops listed i' with
    | false=>rw [hf] at h;exact h.elim
    | true =>
     cases hmp:zAL n o kn f with
     | false=>rw [hf,hmp] at h;exact h.elim
     | true =>
      rw [hf,hmp] at h
      exact zCf (T:=fun _=>True) ho hsp (fun c a w=>hQ c a _ _ w) (.inl fun _=>trivial) m' listed a w (Region.free_spec ho hf) hir hcl (.inr ⟨by simpa using hnw,rfl⟩) trivial
       (zBq hE hsel hQ hn fuel _ ok kn _ w _ m' h (hs.put hmp) ((Holds.put fun d hd=>(zAD hmp hd).2.1).2 hk) hok (zBi hcl hir) hm' (hag.trans (Agree.put fun d hd=>zBZ ho hd)))
   ·
    rename_i i cs v hsl
    split at h <;> try exact h.elim
    rename_i o ho
    obtain⟨i',hi',hat⟩:=(zBB _ _ hsl).resolve_left (by simp)
    have hii:i' = i/\vspec f kn cs o=some v/\(Region.wanted o (yielded ops a.tmps)=true↔Holds cs a):=by
     unfold selAt at hat
     split at hat
     ·cases hat
     ·rename_i p hp
      split at hat
      ·cases hq:qk E.P p.op with
       | false=>rw [hq] at hat;cases hat
       | true=>rw [hq] at hat;cases hat
      ·rename_i j want hg
       split at hat
       ·cases hat
       ·rename_i s hd
        cases h1:csMem s want kn with
        | true =>
         rw [h1] at hat
         cases hq:qk E.P p.op with
         | false=>rw [hq] at hat;cases hat
         | true=>rw [hq] at hat;cases hat
        | false =>
         cases h2:(cond (csMem s (notB want) kn) true (gone s kn f)) with
         | true=>rw [h1,h2] at hat;cases hat
         | false =>
          rw [h1,h2] at hat
          simp only [cond_false] at hat
          split at hat
          ·rename_i c0 b hl
           split at hat
           ·rename_i u hu
            cases hat
            rw [ho] at hp;cases hp
            refine⟨rfl,hu,?_⟩
            have hv:=hs.val s c0 _ hl
            have hwt:=zB2 (ops:=ops) (a:=a) hg hd
            constructor
            ·intro hw
             have h3:=hwt.1 hw
             by_cases hc:Holds c0 a
             ·exact hc.cons h3
             ·have:=hv.2 hc
              rw [h3] at this
              exact absurd (Option.some.inj this).symm (zBJ _)
            ·intro hc
             exact hwt.2 (hc _ List.mem_cons_self)
           ·cases hat
          ·cases hat
    obtain⟨rfl,hsp',hiff⟩:=hii
    have hir:i'∈Region.ready .any ops listed:=by rw [hr];exact hi'
    obtain⟨m',rfl,hm'⟩:=zAX hir hm
    cases hf:Region.free .any ops listed i' with
    | false=>rw [hf] at h;exact h.elim
    | true =>
     cases hmp:zAL n o (cs++kn) f with
     | false=>rw [hf,hmp] at h;exact h.elim
     | true =>
      rw [hf,hmp] at h
      have hkn : ∀ d,o.dst=some d->mentC d kn=false:=fun d hd=>by
       have h3:=(zAD hmp hd).2.1
       have : ∀ (c:Cs),mentC d (c++kn)=false->mentC d kn=false:=by
        intro c
        induction c with
        | nil=>exact id
        | cons p l ih =>
         obtain⟨t,b⟩:=p
         intro h
         have h' : cond (Nat.beq t d) true (mentC d (l++kn))=false:=h
         cases h1:Nat.beq t d with
         | true=>rw [h1] at h';cases h'
         | false=>rw [h1] at h';exact ih h'
       exact this _ h3
      have main : ∀ (b:Bool),(b=true↔Holds cs a)->wpA E.P ops Q S (m' + 1) listed a w:=fun b hb=>by
       have hsat:=hs.putIf (v:=v) (b:=b) hmp hb
       refine zCf (T:=fun _=>True) (v:=if b then v else undef) ho hsp (fun c a w=>hQ c a _ _ w) (.inl fun _=>trivial) m' listed a w (Region.free_spec ho hf) hir hcl ?_ trivial
        (zBq hE hsel hQ hn fuel _ ok kn _ w _ m' h hsat ((Holds.put hkn).2 hk) hok (zBi hcl hir) hm' (hag.trans (Agree.put fun d hd=>zBZ ho hd)))
       cases b with
       | true=>exact .inl ⟨hiff.2 (hb.1 rfl),fun w' _=>zB3 hs hk (hb.1 rfl) hsp'⟩
       | false =>
        have hnw:Region.wanted o (yielded ops a.tmps)=false:=by
         cases hw:Region.wanted o (yielded ops a.tmps) with
         | false=>rfl
         | true=>have:=hb.2 (hiff.1 hw);cases this
        exact .inr ⟨hnw,rfl⟩
      by_cases hc:Holds cs a
      ·exact main true ⟨fun _=>hc,fun _=>rfl⟩
      ·exact main false ⟨fun h=>(by cases h),fun h=>absurd h hc⟩
   ·
    rename_i l hsl
    rcases zBs l kn f hs hk h with ⟨kn',f',p,q,_,s'⟩ | ⟨kn',f',p,q,_,s'⟩
    ·exact zBq hE hsel hQ hn fuel listed ok kn' f' w a m s' p q hok hcl hm hag
    ·exact zBq hE hsel hQ hn fuel listed ok kn' f' w a m s' p q hok hcl hm hag
   ·
    have hi0:i0∈Region.ready .any ops listed:=by rw [hr];exact List.mem_cons_self
    obtain⟨m',rfl,_⟩:=zAX hi0 hm
    refine⟨fun h0=>(by rw [hr] at h0;cases h0),fun i hi=>?_⟩
    have hi' : i∈i0::rs:=by rw [<- hr];exact hi
    have h1:=zGC h i hi'
    split at h1 <;> try exact h1.elim
    rename_i o ho
    cases hgy:zBp ops kn o with
    | false=>rw [hgy] at h1;exact h1.elim
    | true =>
     cases hmp:zAL n o kn f with
     | false=>rw [hgy,hmp] at h1;exact h1.elim
     | true =>
      rw [hgy,hmp] at h1
      simp only [cond_true] at h1
      obtain⟨m2,he,hm2⟩:=zAX hi hm
      have:m2=m':=by omega
      subst this
      unfold wpOp
      simp only [ho]
      rw [if_pos (zBx hk hgy)]
      refine .inl (zC7 hE hs hk (fun v w' hv=>?_) h1)
      have go : ∀ ok',(ok' = true->S w')->vanyL E n ops S w0 K fuel (listed.setIfInBounds i true) ok' kn (push o (some ([],v)) f) w' ->
        wpA E.P ops Q S m2 (listed.setIfInBounds i true) (a.put o.dst v) w':=fun ok' hok' hv =>
       zBq hE hsel hQ hn fuel _ ok' kn _ w' _ m2 hv (hs.put hmp) ((Holds.put fun d hd=>(zAD hmp hd).2.1).2 hk) hok' (zBi hcl hi) hm2 (hag.trans (Agree.put fun d hd=>zBZ ho hd))
      cases hne:needS ops i with
      | true =>
       rw [hne] at hv
       exact⟨.inr fun _=>hv.1,go ok (fun _=>hv.1) hv.2⟩
      | false =>
       rw [hne] at hv
       exact⟨.inr fun h=>(by cases h),go false (fun h=>by cases h) hv⟩
theorem zE5 {E:Env} (hE:E.Ok) {n:Nat} {id:Nat} {ops:Array Oper} {K:Fr->World->Prop} {Q:Exit->Act->World->Prop} {a:Act} {f:Fr} {w:World} {fuel:Nat} (hsel:Region.noSelect ops=true)
  (hQ : ∀ c a d v w,Q (.panic c) (a.put d v) w->Q (.panic c) a w) (hn : ∀ f' a' w',K f' w'->Sat n f' a'->Agree (dsts ops.toList) a a'->Q .normal a' w')
  {S:World->Prop} (h:S w.drew/\vanyL E n ops S w.drew K fuel (Array.replicate ops.size false) true [] f w.drew) (hs:Sat n f a):(Code.region id ops true).wp E.P Q a w:=by
 refine wp_region_any hE.mixed (wpA_any (S:=S) _ _ _ _ ?_)
 refine zBq hE hsel hQ hn fuel _ true [] f w.drew a ops.size h.2 hs (zAB a) (fun _=>h.1) (fun k ok hk hl=>(by rw [zBF] at hl;cases hl)) ?_ (Agree.refl _ _)
 have : ∀ k,cntF (List.replicate k false)=k:=by
  intro k
  induction k with
  | zero=>rfl
  | succ k ih=>rw [List.replicate_succ];show cntF _+1=_;rw [ih]
 simpa using this ops.size
def lateL (ops:Array Oper) (D:List Nat):List Oper->Nat->Bool
 | [],_=>false
 | o::l,j=>match o.op with
  | .store _ (.tmp t) _=>cond (needS ops j) (cond (memN t D) (lateL ops D l (j+1)) true) (lateL ops D l (j+1))
  | _=>lateL ops D l (j+1)
def lateS (ops:Array Oper):Bool:=lateL ops (dsts ops.toList) ops.toList 0
def tmpsOf:List Operand->List Nat
 | []=>[]
 | .tmp t::l=>t::tmpsOf l
 | _::l=>tmpsOf l
def minus:List Nat->List Nat->List Nat
 | [],_=>[]
 | t::l,D=>cond (memN t D) (minus l D) (t::minus l D)
def rdOps:List Oper->List Nat->List Nat
 | [],_=>[]
 | o::l,D=>minus (tmpsOf o.op.operands.toList) D++rdOps l (match o.dst with | some d=>d::D | none=>D)
def df:Code->List Nat
 | .region _ ops _=>dsts ops.toList
 | .seq a b=>df a++df b
 | _=>[]
def rd:Code->List Nat
 | .region _ ops _=>rdOps ops.toList []
 | .seq a b=>rd a++minus (rd b) (df a)
 | .cond c a b=>tmpsOf [c]++(rd a++rd b)
 | .block _ b=>rd b
 | .loop b=>rd b
 | .scope b=>rd b
 | _=>[]
structure Wr where
 nrm:Option (List Nat)
 ex:List (Nat × List Nat)
def addW (l:List Nat):List (Nat × List Nat)->List (Nat × List Nat)
 | []=>[]
 | (i,m)::r=>(i,l++m)::addW l r
def exAt (id:Nat):List (Nat × List Nat)->Option (List Nat)
 | []=>none
 | (i,m)::r=>cond (Nat.beq i id) (match exAt id r with | some l=>some (m++l) | none=>some m) (exAt id r)
def exNot (id:Nat):List (Nat × List Nat)->List (Nat × List Nat)
 | []=>[]
 | (i,m)::r=>cond (Nat.beq i id) (exNot id r) ((i,m)::exNot id r)
def orW:Option (List Nat)->Option (List Nat)->Option (List Nat)
 | some a,some b=>some (a++b)
 | some a,none=>some a
 | none,b=>b
def wr:Code->Wr
 | .skip=>⟨some [],[]⟩
 | .region _ ops _=>⟨some (dsts ops.toList),[]⟩
 | .seq a b=>match (wr a).nrm with
  | some l=>⟨match (wr b).nrm with | some m=>some (l++m) | none=>none,(wr a).ex++addW l (wr b).ex⟩
  | none=>⟨none,(wr a).ex⟩
 | .cond _ a b=>⟨orW (wr a).nrm (wr b).nrm,(wr a).ex++(wr b).ex⟩
 | .block id b=>⟨orW (wr b).nrm (exAt id (wr b).ex),exNot id (wr b).ex⟩
 | .loop b=>⟨none,addW (match (wr b).nrm with | some l=>l | none=>[]) (wr b).ex⟩
 | .exit id=>⟨none,[(id,[])]⟩
 | _=>⟨none,[]⟩
structure Cn where
 nrm:Nat
 ex:List Nat
def cntI (id:Nat):List Nat->Nat
 | []=>0
 | i::l=>cond (Nat.beq i id) (cntI id l+1) (cntI id l)
def outI (id:Nat):List Nat->List Nat
 | []=>[]
 | i::l=>cond (Nat.beq i id) (outI id l) (i::outI id l)
def nx:Code->Cn
 | .skip=>⟨1,[]⟩
 | .region _ _ _=>⟨1,[]⟩
 | .seq a b=>match (nx a).nrm with
  | 0=>nx a
  | k+1=>⟨(k+1)*(nx b).nrm,(nx a).ex++(nx b).ex⟩
 | .cond _ a b=>⟨(nx a).nrm+(nx b).nrm,(nx a).ex++(nx b).ex⟩
 | .block id b=>⟨(nx b).nrm+cntI id (nx b).ex,outI id (nx b).ex⟩
 | .loop b=>⟨0,(nx b).ex⟩
 | .exit id=>⟨0,[id]⟩
 | _=>⟨0,[]⟩
def wt:Code->Nat
 | .region _ ops _=>ops.size
 | .seq a b=>wt a+wt b
 | .cond _ a b=>wt a+wt b+2
 | .block _ b=>wt b
 | .loop b=>wt b+5
 | .scope b=>wt b
 | _=>0
def joins (x y:Code):Bool:=cond (Nat.ble 2 (nx x).nrm) (Nat.ble 4 (wt y)) false
def killE (W:List Nat) (t:Nat):Option (Cs × Value)->Option (Cs × Value)
 | some ([],v)=>cond (memN t W) none (some ([],v))
 | _=>none
def kill (W:List Nat):Fr->Fr
 | []=>[]
 | (t,x)::f=>(t,killE W t x)::kill W f
def jOf (W L:List Nat):Fr->List Nat->List (Nat × Sh)
 | [],_=>[]
 | (t,x)::f,seen=>cond (memN t seen) (jOf W L f seen) (match x with
  | some ([],v)=>cond (cond (memN t W) (memN t L) false) ((t,Sh.of v)::jOf W L f (t::seen)) (jOf W L f (t::seen))
  | _=>jOf W L f (t::seen))
def shsOf:List (Nat × Sh)->List Sh
 | []=>[]
 | (_,s)::l=>s::shsOf l
def getAll (f:Fr):List (Nat × Sh)->Option (List Value)
 | []=>some []
 | (t,_)::l=>match get f [] t,getAll f l with
  | some v,some vs=>some (v::vs)
  | _,_=>none
def zFi:List (Nat × Sh)->List Value->Fr->Fr
 | (t,_)::l,v::vs,f=>(t,some ([],v))::zFi l vs f
 | _,_,f=>f
def zEX (f:Fr) (J:List (Nat × Sh)) (K:List Value->Prop):Prop :=
 match getAll f J with
 | some vs=>cond (Sh.fitsL (shsOf J) vs) (K vs) False
 | none=>False
def vjoin (same:Bool) (J:List (Nat × Sh)) (W:List Nat) (f:Fr) (w:World) (cont:Fr->World->Prop) (body:(Fr->World->Prop)->Prop):Prop :=
 ∀ K:List Value->World->Prop,cond same (Sh.allL (shsOf J) fun vs=>cont (zFi J vs (kill W f)) w->K vs w)
  (Sh.allL (shsOf J) fun vs=>∀ w',cont (zFi J vs (kill W f)) w'->K vs w')->body fun f' w'=>zEX f' J fun vs=>K vs w'
def vloop (J:List (Nat × Sh)) (W:List Nat) (f:Fr) (w:World) (body:(Fr->World->Prop)->Fr->World->Prop):Prop :=
 ∃ (I:List Value->World->Prop) (μ:List Value->World->Nat),zEX f J (fun vs=>I vs w) /\
  Sh.allL (shsOf J) fun vs=>∀ w',I vs w'->body (fun f' w''=>zEX f' J fun vs'=>I vs' w''/\μ vs' w'' < μ vs w') (zFi J vs (kill W f)) w'
def typeSh (P:Program) (t:TypeId):Option Sh :=
 match P.info? t with
 | some i=>match i.zero with
  | some z=>some (Sh.of z)
  | none=>none
 | none=>none
def opSh (P:Program) (o:Oper):Option Sh :=
 match o.op with
 | .box _ _=>some (.one .ptr)
 | .alloc _=>some (.one .ptr)
 | .fieldAddr _ _ _=>some (.one .ptr)
 | .indexAddr _ _ _=>some (.one .ptr)
 | _=>typeSh P o.type
def jReg (P:Program) (L:List Nat):List Oper->List Nat->List (Nat × Sh)
 | [],_=>[]
 | o::l,seen=>match o.dst,o.guard with
  | none,_=>jReg P L l seen
  | some d,some _=>jReg P L l (d::seen)
  | some d,none=>cond (memN d seen) (jReg P L l seen) (cond (memN d L) (match opSh P o with
   | some s=>(d,s)::jReg P L l (d::seen)
   | none=>jReg P L l (d::seen)) (jReg P L l (d::seen)))
def zDx (P:Program):List Oper->Nat
 | []=>0
 | o::l=>cond (qk P o.op) (zDx P l) (zDx P l+1)
def qkC (P:Program):Code->Bool
 | .region _ ops d=>cond d false (Nat.beq (zDx P ops.toList) 0)
 | .seq a b=>cond (qkC P a) (qkC P b) false
 | .cond _ a b=>cond (qkC P a) (qkC P b) false
 | .block _ b=>qkC P b
 | .loop _=>false
 | .skip=>true
 | .exit _=>true
 | .ret=>true
 | _=>false
def gEff (P:Program):List Oper->Bool
 | []=>false
 | o::l=>match o.guard with
  | none=>gEff P l
  | some _=>match o.op with
   | .move _ | .assign _ | .pick .. | .binOp .. | .unOp .. | .extract .. => gEff P l
   | _=>true
def shOps (P:Program):List Oper->List (Nat × Sh)
 | []=>[]
 | o::l=>match o.dst,o.guard with
  | some d,none=>(match opSh P o with
   | some s=>(d,s)::shOps P l
   | none=>shOps P l)
  | _,_=>shOps P l
def shDf (P:Program):Code->List (Nat × Sh)
 | .region _ ops _=>shOps P ops.toList
 | .seq a b=>shDf P a++shDf P b
 | _=>[]
def hasF (t:Nat) (f:Fr):Bool:=match look t f with
 | some ([],_)=>true
 | _=>false
def jNew (L:List Nat) (f:Fr):List (Nat × Sh)->List Nat->List (Nat × Sh)
 | [],_=>[]
 | (t,s)::l,seen=>cond (memN t seen) (jNew L f l seen) (cond (memN t L) (cond (hasF t f) (jNew L f l seen) ((t,s)::jNew L f l (t::seen))) (jNew L f l seen))
def appJ:List (Nat × Sh)->List (Nat × Sh)->List (Nat × Sh)
 | [],m=>m
 | x::l,m=>x::appJ l m
def vret (P:Program) (f:Fr) (w:World) (K:List Value->Prop):List ResultVar->Prop
 | []=>K []
 | .tmp t::l=>match get f [] t with
  | some v=>vret P f w (fun vs=>K (v::vs)) l
  | none=>False
 | .cell p t::l=>match get f [] p with
  | some (.pointer (some a))=>vload P t a w fun v=>vret P f w (fun vs=>K (v::vs)) l
  | _=>False
def vresult (R:Value->Prop):List Value->Prop
 | [v]=>R v
 | vs=>R (.tuple vs.toArray)
def resTmps:List ResultVar->List Nat
 | []=>[]
 | .tmp t::l=>t::resTmps l
 | .cell p _::l=>p::resTmps l
def knowC (c:Operand) (b:Bool) (f:Fr):Fr :=
 match c with
 | .tmp t=>(t,some ([],.bool b))::f
 | _=>f
def vcode (E:Env) (n:Nat):Code->List Nat->(Fr->World->Prop)->(Nat->Fr->World->Prop)->(Fr->World->Prop)->Fr->World->Prop
 | .skip,_,kn,_,_,f,w=>kn f w
 | .region _ ops false,L,kn,_,_,f,w =>
  cond (gEff E.P ops.toList)
   (vjoin (Nat.beq (zDx E.P ops.toList) 0) (jReg E.P L ops.toList []) (dsts ops.toList) f w kn fun k=>vreg E n ops k ops.toList [] f w)
   (vreg E n ops (fun f' w'=>kn (kill [] f') w') ops.toList [] f w)
 | .region _ ops true,L,kn,_,_,f,w =>
  cond (Region.noSelect ops) (cond (lateS ops) (cond (cond (gEff E.P ops.toList) true (Nat.ble 2 (zDx E.P ops.toList)))
   (vjoin (Nat.beq (zDx E.P ops.toList) 0) (jReg E.P L ops.toList []) (dsts ops.toList) f w.drew kn fun k=>∃ S:World->Prop,S w.drew/\vanyL E n ops S w.drew k (2*ops.size+8) (Array.replicate ops.size false) true [] f w.drew)
   (∃ S:World->Prop,S w.drew/\vanyL E n ops S w.drew (fun f' w'=>kn (kill [] f') w') (2*ops.size+8) (Array.replicate ops.size false) true [] f w.drew))
   (cond (cond (gEff E.P ops.toList) true (Nat.ble 2 (zDx E.P ops.toList)))
   (vjoin (Nat.beq (zDx E.P ops.toList) 0) (jReg E.P L ops.toList []) (dsts ops.toList) f w.drew kn fun k=>vany E n ops w.drew k (2*ops.size+8) (Array.replicate ops.size false) true [] f w.drew)
   (vany E n ops w.drew (fun f' w'=>kn (kill [] f') w') (2*ops.size+8) (Array.replicate ops.size false) true [] f w.drew))) False
 | .seq x y,L,kn,kx,kr,f,w=>match (wr x).nrm with
  | some W=>cond (joins x y)
   (vjoin (qkC E.P x) (appJ (jOf W (rd y++L) f []) (jNew (rd y++L) f (shDf E.P x) [])) W f w (vcode E n y L kn kx kr) fun k=>vcode E n x (rd y++L) k kx kr f w)
   (vcode E n x (rd y++L) (vcode E n y L kn kx kr) kx kr f w)
  | none=>vcode E n x L (fun _ _=>False) kx kr f w
 | .cond c x y,L,kn,kx,kr,f,w=>match ev f [] c with
  | some (.bool b)=>cond b (vcode E n x L kn kx kr (knowC c true f) w) (vcode E n y L kn kx kr (knowC c false f) w)
  | _=>False
 | .block id x,L,kn,kx,kr,f,w=>vcode E n x L kn (fun i f w=>cond (Nat.beq i id) (kn f w) (kx i f w)) kr f w
 | .loop x,L,_,kx,kr,f,w=>match (wr x).nrm with
  | some W=>vloop (jOf W (rd x++L) f []) W f w fun k f' w'=>vcode E n x (rd x++L) k kx kr f' w'
  | none=>vcode E n x L (fun _ _=>False) kx kr f w
 | .exit id,_,_,kx,_,f,w=>kx id f w
 | .ret,_,_,_,kr,f,w=>kr f w
 | _,_,_,_,_,_,_=>False
def argFr:List Value->Nat->Fr
 | [],_=>[]
 | v::l,k=>(k,some ([],v))::argFr l (k+1)
def vfn (E:Env) (fn:Func) (args:List Value) (w:World) (R:Value->World->Prop):Prop :=
 match fn.body with
 | some c=>vcode E (args.length+(fn.ntmps - args.length)) c (resTmps fn.results.toList)
   (fun f w=>vret E.P f w (vresult fun v=>R v w) fn.results.toList) (fun _ _ _=>False) (fun f w=>vret E.P f w (vresult fun v=>R v w) fn.results.toList) (argFr args 0) w
 | none=>False
theorem look_kill {W:List Nat} {t:Nat} : ∀ (f:Fr),look t (kill W f)=killE W t (look t f)
 | []=>rfl
 | (s,x)::f=>by
  show look t ((s,killE W s x)::kill W f)=killE W t (look t ((s,x)::f))
  rw [zDU,zDU]
  by_cases h:s=t
  ·subst h;simp
  ·rw [if_neg h,if_neg h];exact look_kill f
theorem killE_some {W:List Nat} {t:Nat} {x:Option (Cs × Value)} {cs:Cs} {v:Value} (h:killE W t x=some (cs,v)):x=some ([],v)/\cs=[]/\t∉W:=by
 unfold killE at h
 split at h
 ·rename_i u
  cases hm:memN t W with
  | true=>rw [hm] at h;cases h
  | false =>
   rw [hm] at h
   cases h
   exact⟨rfl,rfl,fun hw=>by rw [zG4.2 hw] at hm;cases hm⟩
 ·cases h
theorem Sat.kill {n:Nat} {f f' : Fr} {a a' : Act} {W:List Nat} (hs:Sat n f a) (hs' : Sat n f' a') (hag:Agree W a a'):Sat n (kill W f) a':=by
 refine⟨hs'.defers,hs'.size,fun t cs v hl=>?_⟩
 rw [look_kill] at hl
 obtain⟨h1,rfl,h3⟩:=killE_some hl
 exact⟨fun _=>by rw [hag t h3];exact (hs.val t [] v h1).1 (zAB a),fun hn=>absurd (zAB a') hn⟩
def zFb (a:Act):List (Nat × Sh)->List Value
 | []=>[]
 | (t,_)::l=>a.tmps.getD t undef::zFb a l
theorem zCw {n:Nat} {f:Fr} {a:Act} (hs:Sat n f a) : ∀ {J:List (Nat × Sh)} {vs:List Value},getAll f J=some vs->vs=zFb a J/\∀ g:Fr,Sat n g a->Sat n (zFi J vs g) a
 | [],vs,h=>by cases h;exact⟨rfl,fun g hg=>hg⟩
 | (t,s)::J,vs,h=>by
  unfold getAll at h
  split at h
  ·rename_i v us hv hu
   cases h
   obtain⟨h1,h2⟩:=zCw hs hu
   have h3:=zCL hs (zAB a) hv
   refine⟨?_,fun g hg=>(h2 g hg).know h3⟩
   show v::us=_::_
   rw [zEw h3,<- h1]
  ·cases h
theorem Sh.all_intro : ∀ (s:Sh) {p:Value->Prop},(∀ v,p v)->s.all p
 | .one b,p,h=>by
  show b.all p
  cases b
  ·intro n;exact h _
  ·intro n;exact h _
  ·intro n;exact h _
  ·intro n;exact h _
  ·intro a n c;exact h _
  ·intro v;exact h _
 | .agg l,p,h=>by
  have : ∀ (l:List B) (q:List Value->Prop),(∀ vs,q vs)->B.allL l q:=by
   intro l
   induction l with
   | nil=>intro q h;exact h _
   | cons b l ih =>
    intro q h
    have key : ∀ v,B.allL l fun vs=>q (v::vs):=fun v=>ih _ fun vs=>h _
    show b.all _
    cases b
    ·intro n;exact key _
    ·intro n;exact key _
    ·intro n;exact key _
    ·intro n;exact key _
    ·intro a n c;exact key _
    ·intro v;exact key _
  exact this l _ fun vs=>h _
theorem Sh.allL_intro : ∀ (l:List Sh) {p:List Value->Prop},(∀ vs,p vs)->Sh.allL l p
 | [],_,h=>h _
 | s::l,_,h=>Sh.all_intro s fun _=>Sh.allL_intro l fun _=>h _
theorem zC6 {f:Fr} {J:List (Nat × Sh)} {K:List Value->Prop} (h:zEX f J K) : ∃ vs,getAll f J=some vs/\Sh.fitsL (shsOf J) vs=true/\K vs:=by
 unfold zEX at h
 split at h
 ·rename_i vs hv
  cases hf:Sh.fitsL (shsOf J) vs with
  | false=>rw [hf] at h;exact h.elim
  | true=>rw [hf] at h;exact⟨vs,hv,hf,h⟩
 ·exact h.elim
theorem zCo {n:Nat} {same:Bool} {J:List (Nat × Sh)} {W:List Nat} {f:Fr} {w:World} {a:Act} {cont:Fr->World->Prop} {body:(Fr->World->Prop)->Prop} (hs:Sat n f a) (h:vjoin same J W f w cont body) :
  ∃ k:Fr->World->Prop,body k/\∀ f' a' w',k f' w'->Sat n f' a'->Agree W a a'->∃ f'',cont f'' w'/\Sat n f'' a':=by
 refine⟨_,h (fun vs w'=>cont (zFi J vs (kill W f)) w') (by cases same;exact Sh.allL_intro _ fun vs w' hc=>hc;exact Sh.allL_intro _ fun vs hc=>hc),?_⟩
 intro f' a' w' hk hs' hag
 obtain⟨vs,hv,_,hc⟩:=zC6 hk
 exact⟨_,hc,(zCw hs' hv).2 _ (hs.kill hs' hag)⟩
theorem Agree.app {A B:List Nat} {a b c:Act} (h:Agree A a b) (k:Agree B b c):Agree (A++B) a c :=
 (h.mono fun _ ht=>List.mem_append.2 (.inl ht)).trans (k.mono fun _ ht=>List.mem_append.2 (.inr ht))
theorem zER {l:List Nat} : ∀ {r:List (Nat × List Nat)} {i:Nat} {m:List Nat},(i,m)∈r->(i,l++m)∈addW l r
 | (j,k)::r,i,m,h=>by
  rcases List.mem_cons.1 h with h | h
  ·cases h;exact List.mem_cons_self
  ·exact List.mem_cons_of_mem _ (zER h)
theorem exAt_mem {id:Nat} : ∀ {r:List (Nat × List Nat)} {m:List Nat},(id,m)∈r->∃ l,exAt id r=some l/\∀ t,t∈m->t∈l
 | (j,k)::r,m,h=>by
  rcases List.mem_cons.1 h with h | h
  ·cases h
   unfold exAt
   simp only [Nat.beq_refl,cond_true]
   split
   ·exact⟨_,rfl,fun t ht=>List.mem_append.2 (.inl ht)⟩
   ·exact⟨_,rfl,fun t ht=>ht⟩
  ·obtain⟨l,hl,hm⟩:=exAt_mem h
   unfold exAt
   cases hb:Nat.beq j id with
   | true=>simp only [cond_true,hl];exact⟨_,rfl,fun t ht=>List.mem_append.2 (.inr (hm t ht))⟩
   | false=>simp only [cond_false];exact⟨l,hl,hm⟩
theorem zFx {id i:Nat} {m:List Nat} (hne:i≠id) : ∀ {r:List (Nat × List Nat)},(i,m)∈r->(i,m)∈exNot id r
 | (j,k)::r,h=>by
  unfold exNot
  rcases List.mem_cons.1 h with h | h
  ·cases h
   have:Nat.beq i id=false:=by
    cases hb:Nat.beq i id with
    | false=>rfl
    | true=>exact absurd (Nat.eq_of_beq_eq_true hb) hne
   rw [this]
   exact List.mem_cons_self
  ·cases hb:Nat.beq j id with
   | true=>exact zFx hne h
   | false=>exact List.mem_cons_of_mem _ (zFx hne h)
theorem Sat.knowC {n:Nat} {f:Fr} {a:Act} {c:Operand} {b:Bool} (hs:Sat n f a) (h:ev f [] c=some (.bool b)):Sat n (knowC c b f) a:=by
 cases c with
 | tmp t=>exact hs.know (zCL hs (zAB a) h)
 | _=>exact hs
theorem vcode_sound {E:Env} (hE:E.Ok) {n:Nat} : ∀ (c:Code) (L:List Nat) (kn:Fr->World->Prop) (kx:Nat->Fr->World->Prop) (kr:Fr->World->Prop) (f:Fr) (w:World) (a:Act) (Q:Exit->Act->World->Prop),
  (∀ c a d v w,Q (.panic c) (a.put d v) w->Q (.panic c) a w)->vcode E n c L kn kx kr f w->Sat n f a ->
  (∀ f' a' w',kn f' w'->Sat n f' a'->(∃ W,(wr c).nrm=some W/\Agree W a a')->Q .normal a' w') ->
  (∀ i f' a' w',kx i f' w'->Sat n f' a'->(∃ W,(i,W)∈(wr c).ex/\Agree W a a')->Q (.exit i) a' w') ->
  (∀ f' a' w',kr f' w'->Sat n f' a'->Q .ret a' w')->c.wp E.P Q a w:=by
 intro c
 induction c with
 | skip=>intro L kn kx kr f w a Q hQ h hs hn hx hr;exact wp_skip (hn f a w h hs ⟨[],rfl,Agree.refl _ _⟩)
 | region id ops draw =>
  intro L kn kx kr f w a Q hQ h hs hn hx hr
  have hn' : ∀ f' a' w',kn f' w'->Sat n f' a'->Agree (dsts ops.toList) a a'->Q .normal a' w':=fun f' a' w' h1 h2 h3=>hn f' a' w' h1 h2 ⟨_,rfl,h3⟩
  cases draw with
  | false =>
   refine wp_region_list ?_
   unfold vcode at h
   cases hg:gEff E.P ops.toList with
   | true =>
    rw [hg] at h
    simp only [cond_true] at h
    obtain⟨k,hb,hk⟩:=zCo hs h
    exact zEh hE _ [] f w a hb hs (zAB a) fun f' a' w' h1 h2 h3=>let ⟨f'',h4,h5⟩:=hk f' a' w' h1 h2 h3;hn' f'' a' w' h4 h5 h3
   | false =>
    rw [hg] at h
    exact zEh hE _ [] f w a h hs (zAB a) fun f' a' w' h1 h2 h3=>hn' _ a' w' h1 (h2.kill h2 (Agree.refl _ _)) h3
  | true =>
   unfold vcode at h
   cases hns:Region.noSelect ops with
   | false=>rw [hns] at h;exact h.elim
   | true =>
    rw [hns] at h
    simp only [cond_true] at h
    cases hlt:lateS ops with
    | true =>
     rw [hlt] at h
     simp only [cond_true] at h
     cases hg:cond (gEff E.P ops.toList) true (Nat.ble 2 (zDx E.P ops.toList)) with
     | true =>
      rw [hg] at h
      simp only [cond_true] at h
      obtain⟨k,hb,hk⟩:=zCo hs h
      obtain⟨S,hb⟩:=hb
      exact zE5 hE hns hQ (fun f' a' w' h1 h2 h3=>let ⟨f'',h4,h5⟩:=hk f' a' w' h1 h2 h3;hn' f'' a' w' h4 h5 h3) hb hs
     | false =>
      rw [hg] at h
      obtain⟨S,h⟩:=h
      exact zE5 hE hns hQ (fun f' a' w' h1 h2 h3=>hn' _ a' w' h1 (h2.kill h2 (Agree.refl _ _)) h3) h hs
    | false =>
     rw [hlt] at h
     simp only [cond_false] at h
     cases hg:cond (gEff E.P ops.toList) true (Nat.ble 2 (zDx E.P ops.toList)) with
     | true =>
      rw [hg] at h
      simp only [cond_true] at h
      obtain⟨k,hb,hk⟩:=zCo hs h
      exact zFa hE hns hQ (fun f' a' w' h1 h2 h3=>let ⟨f'',h4,h5⟩:=hk f' a' w' h1 h2 h3;hn' f'' a' w' h4 h5 h3) hb hs
     | false =>
      rw [hg] at h
      exact zFa hE hns hQ (fun f' a' w' h1 h2 h3=>hn' _ a' w' h1 (h2.kill h2 (Agree.refl _ _)) h3) h hs
 | seq x y ihx ihy =>
  intro L kn kx kr f w a Q hQ h hs hn hx hr
  refine wp_seq ?_
  unfold vcode at h
  have hwr:wr (.seq x y)=(match (wr x).nrm with
   | some l=>⟨match (wr y).nrm with | some m=>some (l++m) | none=>none,(wr x).ex++addW l (wr y).ex⟩
   | none=>⟨none,(wr x).ex⟩):=rfl
  cases hw:(wr x).nrm with
  | none =>
   rw [hw] at h
   rw [hw] at hwr
   refine ihx L _ kx kr f w a _ hQ h hs (fun f' a' w' h1=>h1.elim) (fun i f' a' w' h1 h2 ⟨W,h3,h4⟩=>hx i f' a' w' h1 h2 ⟨W,by rw [hwr];exact h3,h4⟩) hr
  | some W =>
   rw [hw] at h
   rw [hw] at hwr
   have stepY : ∀ f' a' w',vcode E n y L kn kx kr f' w'->Sat n f' a'->Agree W a a'->y.wp E.P Q a' w':=fun f' a' w' h1 h2 h3 =>
    ihy L kn kx kr f' w' a' Q hQ h1 h2
     (fun f'' a'' w'' k1 k2 ⟨V,k3,k4⟩=>hn f'' a'' w'' k1 k2 ⟨W++V,by rw [hwr];simp only [k3],h3.app k4⟩)
     (fun i f'' a'' w'' k1 k2 ⟨V,k3,k4⟩=>hx i f'' a'' w'' k1 k2 ⟨W++V,by rw [hwr];exact List.mem_append.2 (.inr (zER k3)),h3.app k4⟩) hr
   have exX : ∀ i f' a' w',kx i f' w'->Sat n f' a'->(∃ V,(i,V)∈(wr x).ex/\Agree V a a')->Q (.exit i) a' w':=fun i f' a' w' h1 h2 ⟨V,h3,h4⟩ =>
    hx i f' a' w' h1 h2 ⟨V,by rw [hwr];exact List.mem_append.2 (.inl h3),h4⟩
   have un : ∀ {a' : Act},(∃ V,(wr x).nrm=some V/\Agree V a a')->Agree W a a':=fun ⟨V,h3,h4⟩=>by rw [hw] at h3;cases h3;exact h4
   simp only at h
   cases hj:joins x y with
   | true =>
    rw [hj] at h
    simp only [cond_true] at h
    obtain⟨k,hb,hk⟩:=zCo hs h
    exact ihx _ k kx kr f w a _ hQ hb hs (fun f' a' w' h1 h2 h3=>let ⟨f'',h4,h5⟩:=hk f' a' w' h1 h2 (un h3);stepY f'' a' w' h4 h5 (un h3)) exX hr
   | false =>
    rw [hj] at h
    exact ihx _ _ kx kr f w a _ hQ h hs (fun f' a' w' h1 h2 h3=>stepY f' a' w' h1 h2 (un h3)) exX hr
 | cond c x y ihx ihy =>
  intro L kn kx kr f w a Q hQ h hs hn hx hr
  unfold vcode at h
  split at h <;> try exact h.elim
  rename_i b hb
  have he:=zDw hs (zAB a) hb
  have orL : ∀ {u v:Option (List Nat)} {W:List Nat},u=some W->∃ W',orW u v=some W'/\∀ t,t∈W->t∈W':=by
   intro u v W h
   subst h
   cases v with
   | none=>exact⟨W,rfl,fun _ h=>h⟩
   | some V=>exact⟨W++V,rfl,fun _ h=>List.mem_append.2 (.inl h)⟩
  have orR : ∀ {u v:Option (List Nat)} {W:List Nat},v=some W->∃ W',orW u v=some W'/\∀ t,t∈W->t∈W':=by
   intro u v W h
   subst h
   cases u with
   | none=>exact⟨W,rfl,fun _ h=>h⟩
   | some V=>exact⟨V++W,rfl,fun _ h=>List.mem_append.2 (.inr h)⟩
  cases b with
  | true =>
   refine wp_cond he (t:=true) ?_
   exact ihx L kn kx kr _ w a Q hQ h (hs.knowC hb) (fun f' a' w' h1 h2 ⟨V,h3,h4⟩=>let ⟨W',h5,h6⟩:=orL (v:=(wr y).nrm) h3;hn f' a' w' h1 h2 ⟨W',h5,h4.mono h6⟩)
    (fun i f' a' w' h1 h2 ⟨V,h3,h4⟩=>hx i f' a' w' h1 h2 ⟨V,List.mem_append.2 (.inl h3),h4⟩) hr
  | false =>
   refine wp_cond he (t:=false) ?_
   exact ihy L kn kx kr _ w a Q hQ h (hs.knowC hb) (fun f' a' w' h1 h2 ⟨V,h3,h4⟩=>let ⟨W',h5,h6⟩:=orR (u:=(wr x).nrm) h3;hn f' a' w' h1 h2 ⟨W',h5,h4.mono h6⟩)
    (fun i f' a' w' h1 h2 ⟨V,h3,h4⟩=>hx i f' a' w' h1 h2 ⟨V,List.mem_append.2 (.inr h3),h4⟩) hr
 | block id x ih =>
  intro L kn kx kr f w a Q hQ h hs hn hx hr
  have orL : ∀ {u v:Option (List Nat)} {W:List Nat},u=some W->∃ W',orW u v=some W'/\∀ t,t∈W->t∈W':=by
   intro u v W h
   subst h
   cases v with
   | none=>exact⟨W,rfl,fun _ h=>h⟩
   | some V=>exact⟨W++V,rfl,fun _ h=>List.mem_append.2 (.inl h)⟩
  have orR : ∀ {u v:Option (List Nat)} {W:List Nat},v=some W->∃ W',orW u v=some W'/\∀ t,t∈W->t∈W':=by
   intro u v W h
   subst h
   cases u with
   | none=>exact⟨W,rfl,fun _ h=>h⟩
   | some V=>exact⟨V++W,rfl,fun _ h=>List.mem_append.2 (.inr h)⟩
  refine wp_block (ih L kn _ kr f w a _ hQ h hs ?_ ?_ hr)
  ·exact fun f' a' w' h1 h2 ⟨V,h3,h4⟩=>let ⟨W',h5,h6⟩:=orL (v:=exAt id (wr x).ex) h3;hn f' a' w' h1 h2 ⟨W',h5,h4.mono h6⟩
  ·intro i f' a' w' h1 h2 ⟨V,h3,h4⟩
   show if i=id then Q .normal a' w' else Q (.exit i) a' w'
   by_cases hi:i=id
   ·rw [if_pos hi]
    subst hi
    simp only [Nat.beq_refl,cond_true] at h1
    obtain⟨l,h7,h8⟩:=exAt_mem h3
    obtain⟨W',h5,h6⟩:=orR (u:=(wr x).nrm) h7
    exact hn f' a' w' h1 h2 ⟨W',h5,h4.mono fun t ht=>h6 t (h8 t ht)⟩
   ·rw [if_neg hi]
    have hb:Nat.beq i id=false:=by
     cases hb:Nat.beq i id with
     | false=>rfl
     | true=>exact absurd (Nat.eq_of_beq_eq_true hb) hi
    rw [hb] at h1
    exact hx i f' a' w' h1 h2 ⟨V,zFx hi h3,h4⟩
 | loop x ih =>
  intro L kn kx kr f w a Q hQ h hs hn hx hr
  have hwr:wr (.loop x)=⟨none,addW (match (wr x).nrm with | some l=>l | none=>[]) (wr x).ex⟩:=rfl
  unfold vcode at h
  split at h
  ·rename_i W hw
   rw [hw] at hwr
   obtain⟨I,μ,h0,hround⟩:=h
   obtain⟨vs0,hv0,hf0,hI0⟩:=zC6 h0
   obtain⟨e0,s0⟩:=zCw hs hv0
   let J:=jOf W (rd x++L) f []
   refine wp_loop (fun a' w'=>I (zFb a' J) w'/\Sh.fitsL (shsOf J) (zFb a' J)=true/\Sat n (zFi J (zFb a' J) (kill W f)) a'/\Agree W a a') (fun a' w'=>μ (zFb a' J) w')
    ⟨by rw [<- e0];exact hI0,by rw [<- e0];exact hf0,by rw [<- e0];exact s0 _ (hs.kill hs (Agree.refl _ _)),Agree.refl _ _⟩ ?_
   intro a1 w1 ⟨hI,hfit,hsat,hag⟩
   have hb:=Sh.allL_elim _ (zFb a1 J) hfit hround w1 hI
   refine ih _ _ kx kr _ w1 a1 _ hQ hb hsat ?_ ?_ hr
   ·intro f' a' w' h1 h2 ⟨V,h3,h4⟩
    rw [hw] at h3
    cases h3
    obtain⟨vs,hv,hf,hI',hμ⟩:=zC6 h1
    obtain⟨e1,s1⟩:=zCw h2 hv
    have hag' : Agree W a a':=hag.trans h4
    refine⟨⟨by rw [<- e1];exact hI',by rw [<- e1];exact hf,by rw [<- e1];exact s1 _ (hs.kill h2 hag'),hag'⟩,by rw [<- e1];exact hμ⟩
   ·exact fun i f' a' w' h1 h2 ⟨V,h3,h4⟩=>hx i f' a' w' h1 h2 ⟨W++V,by rw [hwr];exact zER h3,hag.app h4⟩
  ·rename_i hw
   rw [hw] at hwr
   refine wp_loop (fun a' w'=>a' = a/\w' = w) (fun _ _=>0) ⟨rfl,rfl⟩ ?_
   rintro a1 w1 ⟨rfl,rfl⟩
   exact ih L _ kx kr f w1 a1 _ hQ h hs (fun f' a' w' h1=>h1.elim) (fun i f' a' w' h1 h2 ⟨V,h3,h4⟩=>hx i f' a' w' h1 h2 ⟨[]++V,by rw [hwr];exact zER h3,by simpa using h4⟩) hr
 | rangeFunc=>intro L kn kx kr f w a Q hQ h;exact h.elim
 | exit id=>intro L kn kx kr f w a Q hQ h hs hn hx hr;exact wp_exit (hx id f a w h hs ⟨[],List.mem_cons_self,Agree.refl _ _⟩)
 | scope=>intro L kn kx kr f w a Q hQ h;exact h.elim
 | label=>intro L kn kx kr f w a Q hQ h;exact h.elim
 | goto=>intro L kn kx kr f w a Q hQ h;exact h.elim
 | ret=>intro L kn kx kr f w a Q hQ h hs hn hx hr;exact wp_ret (hr f a w h hs)
 | refuse=>intro L kn kx kr f w a Q hQ h;exact h.elim
end Go.V
