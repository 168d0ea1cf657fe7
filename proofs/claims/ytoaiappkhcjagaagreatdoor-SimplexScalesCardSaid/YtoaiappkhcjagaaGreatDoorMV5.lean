/- Part of the proof: V5, V6. -/
import Derived.Test.YtoaiappkhcjagaaGreatDoorMV1
import Derived.OrdersHeld
set_option linter.unusedVariables false
set_option linter.unusedSimpArgs false
namespace Go.V
open Go
def someV (x:Option Value) (K:Value->Prop):Prop :=
 match x with
 | some v=>K v
 | none=>False
def zFG (E:Env) (f:Fr) (kn:Cs) (o:Oper) (w:World) (K:Value->World->Prop):Prop :=
 match o.op with
 | .pick (.tmp t) x y =>
  match vspec f kn [] o with
  | some v=>K v w
  | none=>match ev f kn (.tmp t) with
   | some (.bool b)=>cond b (someV (ev f ((t,true)::kn) x) fun v=>K v w) (someV (ev f ((t,false)::kn) y) fun v=>K v w)
   | _=>False
 | .move x=>someV (ev f kn x) fun v=>K v w
 | .assign x=>someV (ev f kn x) fun v=>K v w
 | op=>cond (zBv op) (cond (evAll f kn op.operands.toList) (vop E (rho f kn) o w K) False) False
def zE3 (yes no:Cs->Fr->Prop):Cs->Cs->Fr->Prop
 | [],kn,f=>yes kn f
 | (t,b)::l,kn,f=>cond (csMem t b kn) (zE3 yes no l kn f) (cond (csMem t (notB b) kn) (no kn f)
   (match ev f kn (.tmp t) with
    | some (.bool x)=>match b with
     | true=>cond x (zE3 yes no l ((t,true)::kn) ((t,some ([],.bool true))::f)) (no ((t,false)::kn) ((t,some ([],.bool false))::f))
     | false=>cond x (no ((t,true)::kn) ((t,some ([],.bool true))::f)) (zE3 yes no l ((t,false)::kn) ((t,some ([],.bool false))::f))
    | _=>False))
def revC:Cs->Cs->Cs
 | [],acc=>acc
 | x::l,acc=>revC l (x::acc)
def vreg (E:Env) (n:Nat) (ops:Array Oper) (K:Fr->World->Prop):List Oper->Cs->Fr->World->Prop
 | [],_,f,w=>K f w
 | o::rest,kn,f,w =>
  let go (kn:Cs) (f:Fr):Prop:=cond (zAL n o kn f) (zFG E f kn o w fun v w'=>vreg E n ops K rest kn (push o (some ([],v)) f) w') False
  let skip (kn:Cs) (f:Fr):Prop:=cond (zAL n o kn f) (vreg E n ops K rest kn (push o (some ([],undef)) f) w) False
  match o.guard with
  | none=>go kn f
  | some (j,want)=>match dstOf ops j with
   | none=>False
   | some s=>cond (csMem s want kn) (go kn f) (cond (csMem s (notB want) kn) (skip kn f)
     (match look s f with
      | some (cs,.bool _)=>match vspec f kn ((s,want)::cs) o with
       | some v=>cond (zAL n o (((s,want)::cs)++kn) f) (vreg E n ops K rest kn (push o (some ((s,want)::cs,v)) f) w) False
       | none=>zE3 go skip (revC ((s,want)::cs) []) kn f
      | some (_,.tuple _)=>skip kn f
      | _=>False))
theorem look_push {o:Oper} {x:Option (Cs × Value)} {f:Fr} {t:Nat} : look t (push o x f)=if o.dst=some t then x else look t f:=by
 unfold push
 cases hd:o.dst with
 | none=>simp
 | some d =>
  show (match (d,x)::f with | []=>none | (s,x)::f=>cond (Nat.beq s t) x (look t f))=_
  by_cases h:d=t
  ·subst h;simp
  ·have:Nat.beq d t=false:=by
    cases hb:Nat.beq d t with
    | false=>rfl
    | true=>exact absurd (Nat.eq_of_beq_eq_true hb) h
   simp [this,h]
theorem mentC_not {d:Nat} : ∀ {c:Cs},mentC d c=false->∀ p∈c,p.1≠d
 | (t,b)::l,h,p,hp=>by
  unfold mentC at h
  cases h1:Nat.beq t d with
  | true=>rw [h1] at h;cases h
  | false =>
   rw [h1] at h
   rcases List.mem_cons.1 hp with rfl | hp
   ·intro he;simp only at he;subst he;simp at h1
   ·exact mentC_not h p hp
theorem zEQ {d:Nat} : ∀ {f:Fr},ment d f=false->∀ t c v,look t f=some (c,v)->mentC d c=false
 | (s,none)::f,h,t,c,v,hl=>by
  unfold look at hl
  cases h1:Nat.beq s t with
  | true=>rw [h1] at hl;cases hl
  | false=>rw [h1] at hl;exact zEQ (by simpa [ment] using h) t c v hl
 | (s,some (c',v'))::f,h,t,c,v,hl=>by
  unfold ment at h
  cases h2:mentC d c' with
  | true=>rw [h2] at h;cases h
  | false =>
   rw [h2] at h
   unfold look at hl
   cases h1:Nat.beq s t with
   | true=>rw [h1] at hl;cases hl;exact h2
   | false=>rw [h1] at hl;exact zEQ h t c v hl
theorem zDc {a:Act} {o:Oper} {v:Value} (t:Nat):(a.put o.dst v).tmps[t]? = if o.dst=some t/\t<a.tmps.size then some v else a.tmps[t]?:=by
 unfold Act.put
 cases hd:o.dst with
 | none=>simp
 | some d =>
  simp only [Array.getElem?_setIfInBounds,Option.some.injEq]
  by_cases h:d=t
  ·subst h
   by_cases h2:d<a.tmps.size
   ·simp [h2]
   ·simp [h2]
  ·simp [h]
theorem put_size {a:Act} {d:Option Nat} {v:Value} : (a.put d v).tmps.size=a.tmps.size:=by
 unfold Act.put;cases d <;> simp
theorem zFP {a:Act} {d:Option Nat} {v:Value} : (a.put d v).defers=a.defers:=by
 unfold Act.put;cases d <;> simp
theorem zAD {n:Nat} {o:Oper} {kn:Cs} {f:Fr} (h:zAL n o kn f=true) {d:Nat} (hd:o.dst=some d):d<n/\mentC d kn=false/\ment d f=false:=by
 unfold zAL at h
 rw [hd] at h
 cases h1:Nat.blt d n with
 | false=>simp only [h1,cond_false] at h;cases h
 | true =>
  cases h2:mentC d kn with
  | true=>simp only [h1,h2,cond_true] at h;cases h
  | false =>
   cases h3:ment d f with
   | true=>simp only [h1,h2,h3,cond_true,cond_false,notB] at h;cases h
   | false=>exact⟨Nat.le_of_ble_eq_true h1,rfl,rfl⟩
theorem Holds.put {c:Cs} {a:Act} {o:Oper} {v:Value} (h : ∀ d,o.dst=some d->mentC d c=false):Holds c (a.put o.dst v)↔Holds c a:=by
 have key : ∀ p∈c,(a.put o.dst v).tmps[p.1]? = a.tmps[p.1]?:=fun p hp=>by
  rw [zDc]
  split
  ·rename_i hd
   exact absurd rfl (mentC_not (h _ hd.1) p hp)
  ·rfl
 exact⟨fun hh p hp=>by rw [<- key p hp];exact hh p hp,fun hh p hp=>by rw [key p hp];exact hh p hp⟩
theorem Sat.put {n:Nat} {f:Fr} {a:Act} {o:Oper} {kn:Cs} {v:Value} (hs:Sat n f a) (hm:zAL n o kn f=true):Sat n (push o (some ([],v)) f) (a.put o.dst v):=by
 refine⟨by rw [zFP];exact hs.defers,by rw [put_size];exact hs.size,fun t cs u hl=>?_⟩
 rw [look_push] at hl
 by_cases hd:o.dst=some t
 ·rw [if_pos hd] at hl
  cases hl
  have hlt:=(zAD hm hd).1
  rw [zDc,if_pos ⟨hd,by rw [hs.size];exact hlt⟩]
  exact⟨fun _=>rfl,fun hn=>absurd (fun p hp=>by cases hp) hn⟩
 ·rw [if_neg hd] at hl
  rw [zDc,if_neg (fun h=>hd h.1),Holds.put (fun d h=>zEQ (zAD hm h).2.2 t cs u hl)]
  exact hs.val t cs u hl
theorem Sat.putIf {n:Nat} {f:Fr} {a:Act} {o:Oper} {kn c:Cs} {v:Value} {b:Bool} (hs:Sat n f a) (hm:zAL n o (c++kn) f=true) (hb:b=true↔Holds c a):Sat n (push o (some (c,v)) f) (a.put o.dst (if b then v else undef)):=by
 obtain⟨x,hx⟩ : ∃ x,x=(if b then v else undef):=⟨_,rfl⟩
 rw [<- hx]
 refine⟨by rw [zFP];exact hs.defers,by rw [put_size];exact hs.size,fun t cs u hl=>?_⟩
 rw [look_push] at hl
 have hc : ∀ d,o.dst=some d->mentC d c=false:=fun d hd=>by
  have h:=(zAD hm hd).2.1
  have : ∀ (c:Cs),mentC d (c++kn)=false->mentC d c=false:=by
   intro c
   induction c with
   | nil=>intro _;rfl
   | cons p l ih =>
    obtain⟨t,b⟩:=p
    intro h
    show cond (Nat.beq t d) true (mentC d l)=false
    have h' : cond (Nat.beq t d) true (mentC d (l++kn))=false:=h
    cases h1:Nat.beq t d with
    | true=>rw [h1] at h';cases h'
    | false=>rw [h1] at h';exact ih h'
  exact this c h
 by_cases hd:o.dst=some t
 ·rw [if_pos hd] at hl
  cases hl
  have hlt:=(zAD hm hd).1
  rw [zDc,if_pos ⟨hd,by rw [hs.size];exact hlt⟩,Holds.put hc]
  refine⟨fun h=>by rw [hx,if_pos (hb.2 h)],fun h=>by rw [hx,if_neg (fun hb'=>h (hb.1 hb'))]⟩
 ·rw [if_neg hd] at hl
  rw [zDc,if_neg (fun h=>hd h.1),Holds.put (fun d h=>zEQ (zAD hm h).2.2 t cs u hl)]
  exact hs.val t cs u hl
theorem Agree.refl (W:List Nat) (a:Act):Agree W a a:=fun _ _=>rfl
theorem Agree.trans {W:List Nat} {a b c:Act} (h:Agree W a b) (k:Agree W b c):Agree W a c:=fun t ht=>(k t ht).trans (h t ht)
theorem Agree.mono {W W' : List Nat} {a b:Act} (h:Agree W a b) (hw : ∀ t,t∈W->t∈W'):Agree W' a b:=fun t ht=>h t (fun h'=>ht (hw t h'))
theorem Agree.put {W:List Nat} {a:Act} {o:Oper} {v:Value} (h : ∀ d,o.dst=some d->d∈W):Agree W a (a.put o.dst v):=fun t ht=>by
 rw [zDc,if_neg (fun hd=>ht (h t hd.1))]
def dsts:List Oper->List Nat
 | []=>[]
 | o::l=>match o.dst with
  | some d=>d::dsts l
  | none=>dsts l
theorem dsts_head {o:Oper} {l:List Oper} {d:Nat} (h:o.dst=some d):d∈dsts (o::l):=by
 unfold dsts;rw [h];exact List.mem_cons_self
theorem dsts_tail {o:Oper} {l:List Oper} {d:Nat} (h:d∈dsts l):d∈dsts (o::l):=by
 unfold dsts
 cases o.dst with
 | none=>exact h
 | some e=>exact List.mem_cons_of_mem _ h
theorem zAB (a:Act):Holds [] a:=fun p hp=>by cases hp
theorem zC7 {E:Env} (hE:E.Ok) {n:Nat} {f:Fr} {kn:Cs} {o:Oper} {w:World} {K:Value->World->Prop} {a:Act} {next:Act->World->Prop} {Q:Exit->Act->World->Prop}
  (hs:Sat n f a) (hk:Holds kn a) (hn : ∀ v w',K v w'->next (a.put o.dst v) w') (h:zFG E f kn o w K):o.wp E.P a w next Q:=by
 unfold Oper.wp
 unfold zFG at h
 split at h
 ·rename_i t x y ho
  split at h
  ·rename_i v hv
   rw [zB3 hs hk (zAB a) hv]
   exact hn _ _ h
  ·split at h <;> try exact h.elim
   rename_i b hb
   have hb' : a.tmps[t]? = some (.bool b):=zCL hs hk hb
   have he:a.eval (.tmp t) = .bool b:=zEw hb'
   have hr:(execOp a.eval o).run E.P w = .ok (.value (if b then a.eval x else a.eval y)) w:=by
    unfold execOp
    simp [ho,he,asBool]
   rw [hr]
   cases b with
   | true =>
    unfold someV at h
    simp only [cond_true] at h
    split at h <;> try exact h.elim
    rename_i v hv
    have:=zDw hs (hk.cons hb') hv
    simp only [if_true,this]
    exact hn _ _ h
   | false =>
    unfold someV at h
    simp only [cond_false] at h
    split at h <;> try exact h.elim
    rename_i v hv
    have:=zDw hs (hk.cons hb') hv
    simp only [Bool.false_eq_true,if_false,this]
    exact hn _ _ h
 ·rename_i x ho
  unfold someV at h
  split at h <;> try exact h.elim
  rename_i v hv
  have:(execOp a.eval o).run E.P w = .ok (.value v) w:=by
   unfold execOp
   simp [ho,zDw hs hk hv]
  rw [this]
  exact hn _ _ h
 ·rename_i x ho
  unfold someV at h
  split at h <;> try exact h.elim
  rename_i v hv
  have:(execOp a.eval o).run E.P w = .ok (.value v) w:=by
   unfold execOp
   simp [ho,zDw hs hk hv]
  rw [this]
  exact hn _ _ h
 ·cases h1:zBv o.op with
  | false=>rw [h1] at h;exact h.elim
  | true =>
   cases h2:evAll f kn o.op.operands.toList with
   | false=>rw [h1,h2] at h;exact h.elim
   | true =>
    rw [h1,h2] at h
    have:=vop_sound hE (Q:=Q) hn h
    rw [zCk hs hk h1 h2] at this
    exact this
theorem zDU {s t:Nat} {x:Option (Cs × Value)} {f:Fr} : look t ((s,x)::f)=if s=t then x else look t f:=by
 show cond (Nat.beq s t) x (look t f)=_
 by_cases h:s=t
 ·subst h;simp
 ·have:Nat.beq s t=false:=by
   cases hb:Nat.beq s t with
   | false=>rfl
   | true=>exact absurd (Nat.eq_of_beq_eq_true hb) h
  simp [this,h]
theorem Sat.know {n:Nat} {f:Fr} {a:Act} {t:Nat} {v:Value} (hs:Sat n f a) (h:a.tmps[t]? = some v):Sat n ((t,some ([],v))::f) a:=by
 refine⟨hs.defers,hs.size,fun s cs u hl=>?_⟩
 rw [zDU] at hl
 by_cases hd:t=s
 ·subst hd
  rw [if_pos rfl] at hl
  cases hl
  exact⟨fun _=>h,fun hn=>absurd (zAB a) hn⟩
 ·rw [if_neg hd] at hl
  exact hs.val s cs u hl
theorem zBs {n:Nat} {a:Act} {yes no:Cs->Fr->Prop} : ∀ (l:Cs) (kn:Cs) (f:Fr),Sat n f a->Holds kn a->zE3 yes no l kn f ->
  (∃ kn' f',Sat n f' a/\Holds kn' a/\Holds l a/\yes kn' f')\/(∃ kn' f',Sat n f' a/\Holds kn' a/\¬ Holds l a/\no kn' f')
 | [],kn,f,hs,hk,h => .inl ⟨kn,f,hs,hk,zAB a,h⟩
 | (t,b)::l,kn,f,hs,hk,h=>by
  have ex : ∀ {c:Bool},a.tmps[t]? = some (.bool c)->c≠b->¬ Holds ((t,b)::l) a:=fun {c} h1 h2 h3=>by
   have:=h3 _ (List.mem_cons_self)
   rw [h1] at this
   cases this
   exact h2 rfl
  have up:a.tmps[t]? = some (.bool b)->((∃ kn' f',Sat n f' a/\Holds kn' a/\Holds l a/\yes kn' f')\/(∃ kn' f',Sat n f' a/\Holds kn' a/\¬ Holds l a/\no kn' f')) ->
    (∃ kn' f',Sat n f' a/\Holds kn' a/\Holds ((t,b)::l) a/\yes kn' f')\/(∃ kn' f',Sat n f' a/\Holds kn' a/\¬ Holds ((t,b)::l) a/\no kn' f'):=fun h1 h2=>by
   rcases h2 with ⟨k',f',p,q,r,s⟩ | ⟨k',f',p,q,r,s⟩
   ·exact .inl ⟨k',f',p,q,r.cons h1,s⟩
   ·exact .inr ⟨k',f',p,q,fun h3=>r (fun p hp=>h3 p (List.mem_cons_of_mem _ hp)),s⟩
  unfold zE3 at h
  cases h1:csMem t b kn with
  | true =>
   rw [h1] at h
   exact up (hk _ (zAN h1)) (zBs l kn f hs hk h)
  | false =>
   cases h2:csMem t (notB b) kn with
   | true =>
    rw [h1,h2] at h
    exact .inr ⟨kn,f,hs,hk,ex (hk _ (zAN h2)) (by cases b <;> simp [notB]),h⟩
   | false =>
    rw [h1,h2] at h
    simp only [cond_false] at h
    split at h <;> try exact h.elim
    rename_i x hx
    have hx' : a.tmps[t]? = some (.bool x):=zCL hs hk hx
    cases b with
    | true =>
     cases x with
     | true=>exact up hx' (zBs l _ _ (hs.know hx') (hk.cons hx') h)
     | false=>exact .inr ⟨_,_,hs.know hx',hk.cons hx',ex hx' (by simp),h⟩
    | false =>
     cases x with
     | true=>exact .inr ⟨_,_,hs.know hx',hk.cons hx',ex hx' (by simp),h⟩
     | false=>exact up hx' (zBs l _ _ (hs.know hx') (hk.cons hx') h)
theorem zGx : ∀ (l acc:Cs) (p:Nat × Bool),p∈revC l acc↔p∈l\/p∈acc
 | [],acc,p=>by simp [revC]
 | x::l,acc,p=>by
  rw [revC,zGx l (x::acc) p]
  simp only [List.mem_cons]
  constructor
  ·rintro (h | h | h)
   ·exact .inl (.inr h)
   ·exact .inl (.inl h)
   ·exact .inr h
  ·rintro ((h | h) | h)
   ·exact .inr (.inl h)
   ·exact .inl h
   ·exact .inr (.inr h)
theorem zFY {l:Cs} {a:Act} : Holds (revC l []) a↔Holds l a:=by
 constructor
 ·exact fun h p hp=>h p ((zGx l [] p).2 (.inl hp))
 ·intro h p hp
  rcases (zGx l [] p).1 hp with h' | h'
  ·exact h p h'
  ·cases h'
theorem zEY {ops:Array Oper} {o:Oper} {a:Act} (h:o.guard=none):Region.wanted o (yielded ops a.tmps)=true:=by
 unfold Region.wanted;rw [h]
theorem zB2 {ops:Array Oper} {o:Oper} {a:Act} {j s:Nat} {want:Bool} (h:o.guard=some (j,want)) (hd:dstOf ops j=some s) :
  Region.wanted o (yielded ops a.tmps)=true↔a.tmps[s]? = some (.bool want):=by
 unfold Region.wanted
 rw [h]
 have hb:(ops[j]?).bind (·.dst)=some s:=by
  unfold dstOf at hd
  cases ho:ops[j]? with
  | none=>rw [ho] at hd;cases hd
  | some p=>rw [ho] at hd;exact hd
 have hy:yielded ops a.tmps j=(match a.tmps[s]? with | some (.bool b)=>some b | _=>none):=by
  unfold yielded;rw [hb];rfl
 show (yielded ops a.tmps j==some want)=true↔_
 rw [hy]
 show ((match a.tmps[s]? with | some (.bool b)=>some b | _=>none)==some want)=true↔_
 cases hv:a.tmps[s]? with
 | none=>simp
 | some v=>cases v <;> simp
theorem zBJ (b:Bool):undef ≠ .bool b:=by intro h;cases h
theorem zEh {E:Env} (hE:E.Ok) {n:Nat} {ops:Array Oper} {K:Fr->World->Prop} {Q:Exit->Act->World->Prop} : ∀ (l:List Oper) (kn:Cs) (f:Fr) (w:World) (a:Act),
  vreg E n ops K l kn f w->Sat n f a->Holds kn a->(∀ f' a' w',K f' w'->Sat n f' a'->Agree (dsts l) a a'->Q .normal a' w')->wpList E.P ops Q l a w
 | [],kn,f,w,a,h,hs,hk,hn=>hn f a w h hs (Agree.refl _ _)
 | o::rest,kn,f,w,a,h,hs,hk,hn=>by
  have step : ∀ (kn' : Cs) (x:Option (Cs × Value)) (f' : Fr) (w' : World) (v:Value),vreg E n ops K rest kn' (push o x f') w'->Sat n (push o x f') (a.put o.dst v)->Holds kn' (a.put o.dst v)->wpList E.P ops Q rest (a.put o.dst v) w' :=
   fun kn' x f' w' v hv hs' hk'=>zEh hE rest kn' _ w' _ hv hs' hk' fun f'' a'' w'' hK hs'' hag =>
    hn f'' a'' w'' hK hs'' ((Agree.put fun d hd=>dsts_head hd).trans (hag.mono fun t ht=>dsts_tail ht))
  have go : ∀ (kn' : Cs) (f' : Fr),Sat n f' a->Holds kn' a->Region.wanted o (yielded ops a.tmps)=true ->
    cond (zAL n o kn' f') (zFG E f' kn' o w fun v w'=>vreg E n ops K rest kn' (push o (some ([],v)) f') w') False->wpList E.P ops Q (o::rest) a w:=fun kn' f' hs' hk' hwt h'=>by
   cases hm:zAL n o kn' f' with
   | false=>rw [hm] at h';exact h'.elim
   | true =>
    rw [hm] at h'
    show if Region.wanted o (yielded ops a.tmps) then _ else _
    rw [if_pos hwt]
    exact .inl (zC7 hE hs' hk' (fun v w' hv=>step kn' _ f' w' v hv (hs'.put hm) ((Holds.put fun d hd=>(zAD hm hd).2.1).2 hk')) h')
  have skip : ∀ (kn' : Cs) (f' : Fr),Sat n f' a->Holds kn' a->¬ Region.wanted o (yielded ops a.tmps)=true ->
    cond (zAL n o kn' f') (vreg E n ops K rest kn' (push o (some ([],undef)) f') w) False->wpList E.P ops Q (o::rest) a w:=fun kn' f' hs' hk' hwt h'=>by
   cases hm:zAL n o kn' f' with
   | false=>rw [hm] at h';exact h'.elim
   | true =>
    rw [hm] at h'
    show if Region.wanted o (yielded ops a.tmps) then _ else _
    rw [if_neg hwt]
    exact step kn' _ f' w undef h' (hs'.put hm) ((Holds.put fun d hd=>(zAD hm hd).2.1).2 hk')
  unfold vreg at h
  simp only at h
  split at h
  ·rename_i hg
   exact go kn f hs hk (zEY hg) h
  ·rename_i j want hg
   split at h <;> try exact h.elim
   rename_i s hd
   have hwt:=zB2 (ops:=ops) (a:=a) hg hd
   cases h1:csMem s want kn with
   | true =>
    rw [h1] at h
    exact go kn f hs hk (hwt.2 (hk _ (zAN h1))) h
   | false =>
    cases h2:csMem s (notB want) kn with
    | true =>
     rw [h1,h2] at h
     refine skip kn f hs hk (fun hw=>?_) h
     have:=hwt.1 hw
     rw [hk _ (zAN h2)] at this
     cases want <;> cases this
    | false =>
     rw [h1,h2] at h
     simp only [cond_false] at h
     split at h <;> try exact h.elim
     case h_2 cs l hl =>
      have hv:=hs.val s cs _ hl
      refine skip kn f hs hk (fun hw=>?_) h
      have h3:=hwt.1 hw
      by_cases hc:Holds cs a
      ·have:=hv.1 hc
       rw [h3] at this
       cases this
      ·have:=hv.2 hc
       rw [h3] at this
       exact zBJ _ (Option.some.inj this).symm
     rename_i cs b hl
     have hv:=hs.val s cs _ hl
     have iff:Region.wanted o (yielded ops a.tmps)=true↔Holds ((s,want)::cs) a:=by
      constructor
      ·intro hw
       have h3:=hwt.1 hw
       by_cases hc:Holds cs a
       ·exact hc.cons h3
       ·have:=hv.2 hc
        rw [h3] at this
        exact absurd (Option.some.inj this).symm (zBJ _)
      ·intro hc
       exact hwt.2 (hc _ List.mem_cons_self)
     split at h
     ·rename_i v hsp
      cases hm:zAL n o (((s,want)::cs)++kn) f with
      | false=>rw [hm] at h;exact h.elim
      | true =>
       rw [hm] at h
       have hkn : ∀ d,o.dst=some d->mentC d kn=false:=fun d hd=>by
        have h3:=(zAD hm hd).2.1
        have : ∀ (c:Cs),mentC d (c++kn)=false->mentC d kn=false:=by
         intro c
         induction c with
         | nil=>exact id
         | cons p l ih =>
          obtain⟨t,b⟩:=p
          intro h
          have h' : cond (Nat.beq t d) true (mentC d (l++kn))=false:=h
          cases h1:Nat.beq t d with
          | true=>rw [h1] at h';cases h'
          | false=>rw [h1] at h';exact ih h'
        exact this _ h3
       show if Region.wanted o (yielded ops a.tmps) then _ else _
       by_cases hw:Region.wanted o (yielded ops a.tmps)=true
       ·rw [if_pos hw]
        left
        unfold Oper.wp
        rw [zB3 hs hk (iff.1 hw) hsp]
        have:=hs.putIf (v:=v) (b:=true) hm (by simpa using iff.1 hw)
        exact step kn _ f w v h (by simpa using this) ((Holds.put hkn).2 hk)
       ·rw [if_neg hw]
        have:=hs.putIf (v:=v) (b:=false) hm (by simpa using fun h=>hw (iff.2 h))
        exact step kn _ f w undef h (by simpa using this) ((Holds.put hkn).2 hk)
     ·rcases zBs _ kn f hs hk h with ⟨kn',f',p,q,r,s'⟩ | ⟨kn',f',p,q,r,s'⟩
      ·exact go kn' f' p q (iff.2 (zFY.1 r)) s'
      ·exact skip kn' f' p q (fun hw=>r (zFY.2 (iff.1 hw))) s'
end Go.V
namespace Go.V
open Go Go.RowKit
def qwp {α:Type} (P:Program):Sem α->(α->Prop)->Prop
 | .pure a,K=>K a
 | .program k,K=>qwp P (k P) K
 | _,_=>False
theorem qwp_sound {α:Type} (P:Program) : ∀ (s:Sem α) (K:α->Prop),qwp P s K->∃ a,K a/\∀ w,s.run P w = .ok a w:=by
 intro s
 induction s with
 | pure a=>intro K h;exact⟨a,h,fun _=>rfl⟩
 | program k ih=>intro K h;exact ih _ K h
 | load m a k ih=>intro K h;exact h.elim
 | store m a v k ih=>intro K h;exact h.elim
 | new o k ih=>intro K h;exact h.elim
 | shape r k ih=>intro K h;exact h.elim
 | freeze a n k ih=>intro K h;exact h.elim
 | frozen a k ih=>intro K h;exact h.elim
 | getObj r k ih=>intro K h;exact h.elim
 | setObj r o k ih=>intro K h;exact h.elim
 | choose q k ih=>intro K h;exact h.elim
 | sys c k ih=>intro K h;exact h.elim
 | mark m k ih=>intro K h;exact h.elim
 | halt h'=>intro K h;exact h.elim
def vqres (K:Value->Prop):Next->Prop
 | .value v=>K v
 | _=>False
def vqgen (E:Env) (ρ:Operand->Value) (o:Oper) (K:Value->Prop):Prop:=qwp E.P (execOp ρ o) (vqres K)
def qk (P:Program):Op->Bool
 | .move _ | .assign _ | .pick .. | .load .. | .nilCheck _ | .binOp .. | .unOp .. | .fieldAddr .. | .field .. | .indexAddr .. | .index .. | .slice .. | .extract .. | .makeInterface .. | .makeFunc .. | .build .. => true
 | .convert _ d _=>match P.underlying d with
  | some (.int _)=>true
  | _=>false
 | .call c=>match c.callee with
  | .builtin .len | .builtin .cap | .builtin .min | .builtin .max=>true
  | _=>false
 | _=>false
def zBR:Op->Bool
 | .load _ _=>true
 | _=>false
def vq (E:Env) (ρ:Operand->Value) (o:Oper) (w:World) (K:Value->Prop):Prop :=
 match o.op with
 | .load t a=>match ρ a with
  | .pointer (some ad)=>vload E.P t ad w K
  | _=>False
 | .index t x i=>match ρ x,ρ i with
  | .string s,.int _ n=>match E.P.underlying t with
   | some .string=>(0<=n/\n<s.size)/\K (.int .u8 (bt s n))
   | _=>False
  | _,_=>vqgen E ρ o K
 | .indexAddr t x i=>match ρ x,ρ i with
  | .slice a len _,.int _ n=>match E.P.underlying t with
   | some (.slice e)=>match E.P.info? e with
    | some i=>∃ ad,a=some ad/\(0<=n/\n<len)/\K (.pointer (some (ad.add (n.toNat*i.size))))
    | none=>False
   | _=>False
  | _,_=>vqgen E ρ o K
 | .slice t x lo hi mx=>match E.P.underlying t with
  | some .string=>match ρ x with
   | .string s=>zC3 1 K (.string s) (lo.map ρ) (hi.map ρ) (mx.map ρ)
   | _=>False
  | some (.slice e)=>match ρ x,E.P.info? e with
   | .slice a n c,some i=>zC3 i.size K (.slice a n c) (lo.map ρ) (hi.map ρ) (mx.map ρ)
   | _,_=>False
  | _=>vqgen E ρ o K
 | .binOp op t x y _=>match ρ x,ρ y with
  | .int k a,.int j b=>cond (intOp op) (cond (kindB k j) (cond (decide (b=0)) False
    (match op with
     | .quo=>K (.int k (k.wrap (a.tdiv b)))
     | .rem=>K (.int k (a.tmod b))
     | _=>False)) False) (vqgen E ρ o K)
  | .string a,.string b=>match op with
   | .add=>a.size+b.size<=9223372036854775807/\K (.string (a++b))
   | _=>vqgen E ρ o K
  | .agg xs,.agg ys=>match op with
   | .eql=>veq E.P t xs ys fun b=>K (.bool b)
   | .neq=>veq E.P t xs ys fun b=>K (.bool (!b))
   | _=>False
  | _,_=>vqgen E ρ o K
 | _=>vqgen E ρ o K
theorem zE6 {w w' : World} {a:Addr} (hb:Below w.heap.size w w') : ∀ {vs:List Value} {i:Nat},vcells w a i vs->vcells w' a i vs
 | [],_,_=>trivial
 | v::vs,i,h=>⟨by rw [hb.cell (World.block_lt_of_cell? w _ h.1)];exact h.1,zE6 hb h.2⟩
theorem vload_held {P:Program} {t:TypeId} {a:Addr} {w:World} {K:Value->Prop} (h:vload P t a w K) : ∃ v,K v/\∀ w',Below w.heap.size w w'->(loadVar t a).run P w' = .ok v w':=by
 unfold vload at h
 cases hd:P.underlying t with
 | none=>simp [hd] at h
 | some d =>
  cases hi:P.info? t with
  | none=>rw [hd,hi] at h;cases d <;> exact h.elim
  | some i =>
   rw [hd,hi] at h
   by_cases hag:aggD d=true
   ·have h' : (match i.zero with
      | some (.agg z)=>cond (Nat.beq (B.ofL z.toList).length i.size) (B.exL (B.ofL z.toList) fun vs=>vcells w a 0 vs/\K (.agg vs.toArray)) False
      | _=>False):=by
     revert hag h;cases d <;> intro h hag <;> first | exact h | cases hag
    cases hz:i.zero with
    | none=>rw [hz] at h';exact h'.elim
    | some z =>
     rw [hz] at h'
     cases z with
     | agg z =>
      cases hb:Nat.beq (B.ofL z.toList).length i.size with
      | false=>simp only [hb,cond_false] at h'
      | true =>
       simp only [hb,cond_true] at h'
       obtain⟨vs,hl,hc,hk⟩:=B.exL_elim _ h'
       exact⟨_,hk,fun w' hw'=>zFu hd hag hi (hl.trans (Nat.eq_of_beq_eq_true hb)) (zE6 hw' hc)⟩
     | _=>exact h'.elim
   ·have hag' : aggD d=false:=by simpa using hag
    clear hag
    have h' : (match i.zero with
      | some (.agg _)=>False
      | some z=>(B.of z).ex fun v=>w.cell? a=some v/\K v
      | none=>False):=by
     revert hag' h;cases d <;> intro h hag' <;> first | exact h | cases hag'
    cases hz:i.zero with
    | none=>rw [hz] at h';exact h'.elim
    | some z =>
     rw [hz] at h'
     have h'' : (B.of z).ex fun v=>w.cell? a=some v/\K v:=by
      cases z <;> first | exact h' | exact h'.elim
     obtain⟨v,hc,hk⟩:=B.ex_elim _ h''
     exact⟨v,hk,fun w' hw'=>zFt hd hag' (by rw [hw'.cell (World.block_lt_of_cell? w _ hc)];exact hc)⟩
theorem zBM {E:Env} {ρ:Operand->Value} {o:Oper} {K:Value->Prop} (h:vqgen E ρ o K) : ∃ v,K v/\∀ w',(execOp ρ o).run E.P w' = .ok (.value v) w':=by
 obtain⟨r,hr,he⟩:=qwp_sound E.P _ _ h
 cases r with
 | value v=>exact⟨v,hr,he⟩
 | _=>exact hr.elim
theorem zFF {P:Program} {t:TypeId} {x:Value} {lo hi mx:Option Value} {K:Value->Prop} {z:Nat}
  (hr : ∀ (w:World) (K' : Value->Prop),zC3 z K' x lo hi mx->∃ v,(Instr.slice t x lo hi mx).run P w = .ok v w/\K' v) (h:zC3 z K x lo hi mx) :
  ∃ v,K v/\∀ w,(Instr.slice t x lo hi mx).run P w = .ok v w:=by
 have key : ∃ v,K v/\zC3 z (fun u=>u=v) x lo hi mx:=by
  unfold zC3 at *
  split at h <;> first | exact h.elim | exact⟨_,h,rfl⟩ | exact⟨_,h.2,h.1,rfl⟩
 obtain⟨v,hv,hs⟩:=key
 exact⟨v,hv,fun w=>let ⟨u,hu,he⟩:=hr w _ hs;by rw [hu,he]⟩
theorem zEF {E:Env} {ρ:Operand->Value} {o:Oper} {w:World} {K:Value->Prop} (h:vq E ρ o w K) :
  ∃ v,K v/\((∀ w',(execOp ρ o).run E.P w' = .ok (.value v) w')\/(zBR o.op=true/\∀ w',Below w.heap.size w w'->(execOp ρ o).run E.P w' = .ok (.value v) w')):=by
 unfold vq at h
 split at h
 ·rename_i t x ho
  split at h <;> try exact h.elim
  rename_i ad hx
  obtain⟨v,hv,hr⟩:=vload_held h
  refine⟨v,hv,.inr ⟨by rw [ho];rfl,fun w' hw'=>?_⟩⟩
  unfold execOp
  simp [ho,Instr.loadAt,Instr.sureAddr,hx,hr w' hw']
 ·rename_i t x y ho
  split at h
  ·rename_i s k n hx hy
   split at h <;> try exact h.elim
   rename_i ht
   refine⟨_,h.2,.inl fun w'=>?_⟩
   unfold execOp
   simp [ho,hx,hy,zEB ht h.1.1 h.1.2]
  ·obtain⟨v,hv,hr⟩:=zBM h;exact⟨v,hv,.inl hr⟩
 ·rename_i t x y ho
  split at h
  ·rename_i b len c k n hx hy
   split at h <;> try exact h.elim
   rename_i e ht
   split at h <;> try exact h.elim
   rename_i i hi
   obtain⟨ad,rfl,hb,hK⟩:=h
   refine⟨_,hK,.inl fun w'=>?_⟩
   unfold execOp
   simp [ho,hx,hy,zCK ht hi hb.1 hb.2]
  ·obtain⟨v,hv,hr⟩:=zBM h;exact⟨v,hv,.inl hr⟩
 ·rename_i t x lo hi mx ho
  split at h
  ·rename_i ht
   split at h <;> try exact h.elim
   rename_i s hx
   obtain⟨v,hv,hr⟩:=zFF (P:=E.P) (t:=t) (fun w K' hk=>zDA (w:=w) ht hk) h
   refine⟨v,hv,.inl fun w'=>?_⟩
   unfold execOp
   simp only [ho,Sem.run_bind,hx,zBo ht (by simp),hr,Result.andThen_ok]
   rfl
  ·rename_i e ht
   split at h <;> try exact h.elim
   rename_i b n c i hx hi'
   obtain⟨v,hv,hr⟩:=zFF (P:=E.P) (t:=t) (fun w K' hk=>zE4 (w:=w) ht hi' hk) h
   refine⟨v,hv,.inl fun w'=>?_⟩
   unfold execOp
   simp only [ho,Sem.run_bind,hx,zBo ht (by simp),hr,Result.andThen_ok]
   rfl
  ·obtain⟨v,hv,hr⟩:=zBM h;exact⟨v,hv,.inl hr⟩
 ·rename_i op t x y u ho
  have gen:vqgen E ρ o K->∃ v,K v/\((∀ w',(execOp ρ o).run E.P w' = .ok (.value v) w')\/(zBR o.op=true/\∀ w',Below w.heap.size w w'->(execOp ρ o).run E.P w' = .ok (.value v) w')) :=
   fun h=>by obtain⟨v,hv,hr⟩:=zBM h;exact⟨v,hv,.inl hr⟩
  split at h
  ·rename_i k m j b hx hy
   cases hop:intOp op with
   | false=>rw [hop] at h;exact gen h
   | true =>
    rw [hop] at h
    cases hkb:kindB k j with
    | false=>rw [hkb] at h;exact h.elim
    | true =>
     rw [hkb] at h
     have:=zDV hkb
     subst this
     by_cases hb:b=0
     ·simp only [hb,decide_true,cond_true] at h
     ·simp only [hb,decide_false,cond_true,cond_false] at h
      cases op <;> simp only [intOp,Bool.false_eq_true] at hop <;> try cases hop
      ·refine⟨_,h,.inl fun w'=>?_⟩
       unfold execOp
       simp [ho,hx,hy,eqGuard,binOp,Op.intDiv,hb]
      ·refine⟨_,h,.inl fun w'=>?_⟩
       unfold execOp
       simp [ho,hx,hy,eqGuard,binOp,Op.intDiv,hb]
  ·rename_i b c hx hy
   split at h
   ·refine⟨_,h.2,.inl fun w'=>?_⟩
    unfold execOp
    simp only [ho,hx,hy,Sem.run_bind]
    simp [eqGuard,binOp,Op.stringOp]
    have h1:=h.1
    simp at *
    omega
   ·exact gen h
  ·rename_i xs ys hx hy
   split at h
   ·obtain⟨b,hb,hr⟩:=zDB (x:=x) (y:=y) h
    refine⟨_,hb,.inl fun w'=>?_⟩
    unfold execOp
    simp only [ho,hx,hy,Sem.run_bind,(hr w').1,Result.andThen_ok,binOp,(hr w').2.2,Sem.run_pure]
   ·obtain⟨b,hb,hr⟩:=zDB (x:=x) (y:=y) h
    refine⟨_,hb,.inl fun w'=>?_⟩
    unfold execOp
    simp only [ho,hx,hy,Sem.run_bind,(hr w').2.1,Result.andThen_ok,binOp,(hr w').2.2,Sem.run_pure]
   ·exact h.elim
  ·exact gen h
 ·obtain⟨v,hv,hr⟩:=zBM h;exact⟨v,hv,.inl hr⟩
end Go.V
