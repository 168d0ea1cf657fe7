/- Part of the proof: V5, V6, V6b, V7. -/
import Derived.Test.YtoaiappkhcjagaaGreatDoorMV1
import Derived.OrdersHeld
set_option linter.unusedVariables false
set_option linter.unusedSimpArgs false
namespace Go.V
open Go
def someV (x:Option Value) (K:Value->Prop):Prop :=
 match x with
 | some v=>K v
 | none=>False
def vplain (E:Env) (f:Fr) (kn:Cs) (o:Oper) (w:World) (K:Value->World->Prop):Prop :=
 match o.op with
 | .pick (.tmp t) x y =>
  match vspec f kn [] o with
  | some v=>K v w
  | none=>match ev f kn (.tmp t) with
   | some (.bool b)=>cond b (someV (ev f ((t,true)::kn) x) fun v=>K v w) (someV (ev f ((t,false)::kn) y) fun v=>K v w)
   | _=>False
 | .move x=>someV (ev f kn x) fun v=>K v w
 | .assign x=>someV (ev f kn x) fun v=>K v w
 | op=>cond (zBJ op) (cond (evAll f kn op.operands.toList) (vop E (rho f kn) o w K) False) False
def zEA (yes no:Cs->Fr->Prop):Cs->Cs->Fr->Prop
 | [],kn,f=>yes kn f
 | (t,b)::l,kn,f=>cond (csMem t b kn) (zEA yes no l kn f) (cond (csMem t (notB b) kn) (no kn f)
   (match ev f kn (.tmp t) with
    | some (.bool x)=>match b with
     | true=>cond x (zEA yes no l ((t,true)::kn) ((t,some ([],.bool true))::f)) (no ((t,false)::kn) ((t,some ([],.bool false))::f))
     | false=>cond x (no ((t,true)::kn) ((t,some ([],.bool true))::f)) (zEA yes no l ((t,false)::kn) ((t,some ([],.bool false))::f))
    | _=>False))
def revC:Cs->Cs->Cs
 | [],acc=>acc
 | x::l,acc=>revC l (x::acc)
def vreg (E:Env) (n:Nat) (ops:Array Oper) (K:Fr->World->Prop):List Oper->Cs->Fr->World->Prop
 | [],_,f,w=>K f w
 | o::rest,kn,f,w =>
  let go (kn:Cs) (f:Fr):Prop:=cond (zBm n o kn f) (vplain E f kn o w fun v w'=>vreg E n ops K rest kn (push o (some ([],v)) f) w') False
  let skip (kn:Cs) (f:Fr):Prop:=cond (zBm n o kn f) (vreg E n ops K rest kn (push o (some ([],undef)) f) w) False
  match o.guard with
  | none=>go kn f
  | some (j,want)=>match dstOf ops j with
   | none=>False
   | some s=>cond (csMem s want kn) (go kn f) (cond (csMem s (notB want) kn) (skip kn f)
     (match look s f with
      | some (cs,.bool _)=>match vspec f kn ((s,want)::cs) o with
       | some v=>cond (zBm n o (((s,want)::cs)++kn) f) (vreg E n ops K rest kn (push o (some ((s,want)::cs,v)) f) w) False
       | none=>zEA go skip (revC ((s,want)::cs) []) kn f
      | some (_,.tuple _)=>skip kn f
      | _=>False))
theorem look_push {o:Oper} {x:Option (Cs × Value)} {f:Fr} {t:Nat} : look t (push o x f)=if o.dst=some t then x else look t f:=by
 unfold push
 cases hd:o.dst with
 | none=>simp
 | some d =>
  show (match (d,x)::f with | []=>none | (s,x)::f=>cond (Nat.beq s t) x (look t f))=_
  by_cases h:d=t
  ·subst h;simp
  ·have:Nat.beq d t=false:=by
    cases hb:Nat.beq d t with
    | false=>rfl
    | true=>exact absurd (Nat.eq_of_beq_eq_true hb) h
   simp [this,h]
theorem mentC_not {d:Nat} : ∀ {c:Cs},mentC d c=false->∀ p∈c,p.1≠d
 | (t,b)::l,h,p,hp=>by
  unfold mentC at h
  cases h1:Nat.beq t d with
  | true=>rw [h1] at h;cases h
  | false =>
   rw [h1] at h
   rcases List.mem_cons.1 hp with rfl | hp
   ·intro he;simp only at he;subst he;simp at h1
   ·exact mentC_not h p hp
theorem zEw {d:Nat} : ∀ {f:Fr},ment d f=false->∀ t c v,look t f=some (c,v)->mentC d c=false
 | (s,none)::f,h,t,c,v,hl=>by
  unfold look at hl
  cases h1:Nat.beq s t with
  | true=>rw [h1] at hl;cases hl
  | false=>rw [h1] at hl;exact zEw (by simpa [ment] using h) t c v hl
 | (s,some (c',v'))::f,h,t,c,v,hl=>by
  unfold ment at h
  cases h2:mentC d c' with
  | true=>rw [h2] at h;cases h
  | false =>
   rw [h2] at h
   unfold look at hl
   cases h1:Nat.beq s t with
   | true=>rw [h1] at hl;cases hl;exact h2
   | false=>rw [h1] at hl;exact zEw h t c v hl
theorem zCY {a:Act} {o:Oper} {v:Value} (t:Nat):(a.put o.dst v).tmps[t]? = if o.dst=some t/\t<a.tmps.size then some v else a.tmps[t]?:=by
 unfold Act.put
 cases hd:o.dst with
 | none=>simp
 | some d =>
  simp only [Array.getElem?_setIfInBounds,Option.some.injEq]
  by_cases h:d=t
  ·subst h
   by_cases h2:d<a.tmps.size
   ·simp [h2]
   ·simp [h2]
  ·simp [h]
theorem put_size {a:Act} {d:Option Nat} {v:Value} : (a.put d v).tmps.size=a.tmps.size:=by
 unfold Act.put;cases d <;> simp
theorem put_defers {a:Act} {d:Option Nat} {v:Value} : (a.put d v).defers=a.defers:=by
 unfold Act.put;cases d <;> simp
theorem zAT {n:Nat} {o:Oper} {kn:Cs} {f:Fr} (h:zBm n o kn f=true) {d:Nat} (hd:o.dst=some d):d<n/\mentC d kn=false/\ment d f=false:=by
 unfold zBm at h
 rw [hd] at h
 cases h1:Nat.blt d n with
 | false=>simp only [h1,cond_false] at h;cases h
 | true =>
  cases h2:mentC d kn with
  | true=>simp only [h1,h2,cond_true] at h;cases h
  | false =>
   cases h3:ment d f with
   | true=>simp only [h1,h2,h3,cond_true,cond_false,notB] at h;cases h
   | false=>exact⟨Nat.le_of_ble_eq_true h1,rfl,rfl⟩
theorem Holds.put {c:Cs} {a:Act} {o:Oper} {v:Value} (h : ∀ d,o.dst=some d->mentC d c=false):Holds c (a.put o.dst v)↔Holds c a:=by
 have key : ∀ p∈c,(a.put o.dst v).tmps[p.1]? = a.tmps[p.1]?:=fun p hp=>by
  rw [zCY]
  split
  ·rename_i hd
   exact absurd rfl (mentC_not (h _ hd.1) p hp)
  ·rfl
 exact⟨fun hh p hp=>by rw [<- key p hp];exact hh p hp,fun hh p hp=>by rw [key p hp];exact hh p hp⟩
theorem Sat.put {n:Nat} {f:Fr} {a:Act} {o:Oper} {kn:Cs} {v:Value} (hs:Sat n f a) (hm:zBm n o kn f=true):Sat n (push o (some ([],v)) f) (a.put o.dst v):=by
 refine⟨by rw [put_defers];exact hs.defers,by rw [put_size];exact hs.size,fun t cs u hl=>?_⟩
 rw [look_push] at hl
 by_cases hd:o.dst=some t
 ·rw [if_pos hd] at hl
  cases hl
  have b:=(zAT hm hd).1
  rw [zCY,if_pos ⟨hd,by rw [hs.size];exact b⟩]
  exact⟨fun _=>rfl,fun hn=>absurd (fun p hp=>by cases hp) hn⟩
 ·rw [if_neg hd] at hl
  rw [zCY,if_neg (fun h=>hd h.1),Holds.put (fun d h=>zEw (zAT hm h).2.2 t cs u hl)]
  exact hs.val t cs u hl
theorem Sat.putIf {n:Nat} {f:Fr} {a:Act} {o:Oper} {kn c:Cs} {v:Value} {b:Bool} (hs:Sat n f a) (hm:zBm n o (c++kn) f=true) (hb:b=true↔Holds c a):Sat n (push o (some (c,v)) f) (a.put o.dst (if b then v else undef)):=by
 obtain⟨x,hx⟩ : ∃ x,x=(if b then v else undef):=⟨_,rfl⟩
 rw [<- hx]
 refine⟨by rw [put_defers];exact hs.defers,by rw [put_size];exact hs.size,fun t cs u hl=>?_⟩
 rw [look_push] at hl
 have hc : ∀ d,o.dst=some d->mentC d c=false:=fun d hd=>by
  have h:=(zAT hm hd).2.1
  have : ∀ (c:Cs),mentC d (c++kn)=false->mentC d c=false:=by
   intro c
   induction c with
   | nil=>intro _;rfl
   | cons p l ih =>
    obtain⟨t,b⟩:=p
    intro h
    show cond (Nat.beq t d) true (mentC d l)=false
    have h' : cond (Nat.beq t d) true (mentC d (l++kn))=false:=h
    cases h1:Nat.beq t d with
    | true=>rw [h1] at h';cases h'
    | false=>rw [h1] at h';exact ih h'
  exact this c h
 by_cases hd:o.dst=some t
 ·rw [if_pos hd] at hl
  cases hl
  have i:=(zAT hm hd).1
  rw [zCY,if_pos ⟨hd,by rw [hs.size];exact i⟩,Holds.put hc]
  refine⟨fun h=>by rw [hx,if_pos (hb.2 h)],fun h=>by rw [hx,if_neg (fun g=>h (hb.1 g))]⟩
 ·rw [if_neg hd] at hl
  rw [zCY,if_neg (fun h=>hd h.1),Holds.put (fun d h=>zEw (zAT hm h).2.2 t cs u hl)]
  exact hs.val t cs u hl
theorem Agree.refl (W:List Nat) (a:Act):Agree W a a:=fun _ _=>rfl
theorem Agree.trans {W:List Nat} {a b c:Act} (h:Agree W a b) (k:Agree W b c):Agree W a c:=fun t ht=>(k t ht).trans (h t ht)
theorem Agree.mono {W W' : List Nat} {a b:Act} (h:Agree W a b) (hw : ∀ t,t∈W->t∈W'):Agree W' a b:=fun t ht=>h t (fun h'=>ht (hw t h'))
theorem Agree.put {W:List Nat} {a:Act} {o:Oper} {v:Value} (h : ∀ d,o.dst=some d->d∈W):Agree W a (a.put o.dst v):=fun t ht=>by
 rw [zCY,if_neg (fun hd=>ht (h t hd.1))]
def dsts:List Oper->List Nat
 | []=>[]
 | o::l=>match o.dst with
  | some d=>d::dsts l
  | none=>dsts l
theorem dsts_head {o:Oper} {l:List Oper} {d:Nat} (h:o.dst=some d):d∈dsts (o::l):=by
 unfold dsts;rw [h];exact List.mem_cons_self
theorem dsts_tail {o:Oper} {l:List Oper} {d:Nat} (h:d∈dsts l):d∈dsts (o::l):=by
 unfold dsts
 cases o.dst with
 | none=>exact h
 | some e=>exact List.mem_cons_of_mem _ h
theorem zAE (a:Act):Holds [] a:=fun p hp=>by cases hp
theorem zEg {E:Env} (hE:E.Ok) {n:Nat} {f:Fr} {kn:Cs} {o:Oper} {w:World} {K:Value->World->Prop} {a:Act} {next:Act->World->Prop} {Q:Exit->Act->World->Prop}
  (hs:Sat n f a) (hk:Holds kn a) (hn : ∀ v w',K v w'->next (a.put o.dst v) w') (h:vplain E f kn o w K):o.wp E.P a w next Q:=by
 unfold Oper.wp
 unfold vplain at h
 split at h
 ·rename_i t x y ho
  split at h
  ·rename_i v hv
   rw [zCj hs hk (zAE a) hv]
   exact hn _ _ h
  ·split at h <;> try exact h.elim
   rename_i b hb
   have d:a.tmps[t]? = some (.bool b):=zCM hs hk hb
   have he:a.eval (.tmp t) = .bool b:=zDZ d
   have hr:(execOp a.eval o).run E.P w = .ok (.value (if b then a.eval x else a.eval y)) w:=by
    unfold execOp
    simp [ho,he,asBool]
   rw [hr]
   cases b with
   | true =>
    unfold someV at h
    simp only [cond_true] at h
    split at h <;> try exact h.elim
    rename_i v hv
    have:=zDj hs (hk.cons d) hv
    simp only [if_true,this]
    exact hn _ _ h
   | false =>
    unfold someV at h
    simp only [cond_false] at h
    split at h <;> try exact h.elim
    rename_i v hv
    have:=zDj hs (hk.cons d) hv
    simp only [Bool.false_eq_true,if_false,this]
    exact hn _ _ h
 ·rename_i x ho
  unfold someV at h
  split at h <;> try exact h.elim
  rename_i v hv
  have:(execOp a.eval o).run E.P w = .ok (.value v) w:=by
   unfold execOp
   simp [ho,zDj hs hk hv]
  rw [this]
  exact hn _ _ h
 ·rename_i x ho
  unfold someV at h
  split at h <;> try exact h.elim
  rename_i v hv
  have:(execOp a.eval o).run E.P w = .ok (.value v) w:=by
   unfold execOp
   simp [ho,zDj hs hk hv]
  rw [this]
  exact hn _ _ h
 ·cases h1:zBJ o.op with
  | false=>rw [h1] at h;exact h.elim
  | true =>
   cases h2:evAll f kn o.op.operands.toList with
   | false=>rw [h1,h2] at h;exact h.elim
   | true =>
    rw [h1,h2] at h
    have:=vop_sound hE (Q:=Q) hn h
    rw [zEb hs hk h1 h2] at this
    exact this
theorem zD9 {s t:Nat} {x:Option (Cs × Value)} {f:Fr} : look t ((s,x)::f)=if s=t then x else look t f:=by
 show cond (Nat.beq s t) x (look t f)=_
 by_cases h:s=t
 ·subst h;simp
 ·have:Nat.beq s t=false:=by
   cases hb:Nat.beq s t with
   | false=>rfl
   | true=>exact absurd (Nat.eq_of_beq_eq_true hb) h
  simp [this,h]
theorem Sat.know {n:Nat} {f:Fr} {a:Act} {t:Nat} {v:Value} (hs:Sat n f a) (h:a.tmps[t]? = some v):Sat n ((t,some ([],v))::f) a:=by
 refine⟨hs.defers,hs.size,fun s cs u hl=>?_⟩
 rw [zD9] at hl
 by_cases hd:t=s
 ·subst hd
  rw [if_pos rfl] at hl
  cases hl
  exact⟨fun _=>h,fun hn=>absurd (zAE a) hn⟩
 ·rw [if_neg hd] at hl
  exact hs.val s cs u hl
theorem zB1 {n:Nat} {a:Act} {yes no:Cs->Fr->Prop} : ∀ (l:Cs) (kn:Cs) (f:Fr),Sat n f a->Holds kn a->zEA yes no l kn f ->
  (∃ kn' f',Sat n f' a/\Holds kn' a/\Holds l a/\yes kn' f')\/(∃ kn' f',Sat n f' a/\Holds kn' a/\¬ Holds l a/\no kn' f')
 | [],kn,f,hs,hk,h => .inl ⟨kn,f,hs,hk,zAE a,h⟩
 | (t,b)::l,kn,f,hs,hk,h=>by
  have ex : ∀ {c:Bool},a.tmps[t]? = some (.bool c)->c≠b->¬ Holds ((t,b)::l) a:=fun {c} h1 h2 h3=>by
   have:=h3 _ (List.mem_cons_self)
   rw [h1] at this
   cases this
   exact h2 rfl
  have up:a.tmps[t]? = some (.bool b)->((∃ kn' f',Sat n f' a/\Holds kn' a/\Holds l a/\yes kn' f')\/(∃ kn' f',Sat n f' a/\Holds kn' a/\¬ Holds l a/\no kn' f')) ->
    (∃ kn' f',Sat n f' a/\Holds kn' a/\Holds ((t,b)::l) a/\yes kn' f')\/(∃ kn' f',Sat n f' a/\Holds kn' a/\¬ Holds ((t,b)::l) a/\no kn' f'):=fun h1 h2=>by
   rcases h2 with ⟨k',f',p,q,r,s⟩ | ⟨k',f',p,q,r,s⟩
   ·exact .inl ⟨k',f',p,q,r.cons h1,s⟩
   ·exact .inr ⟨k',f',p,q,fun h3=>r (fun p hp=>h3 p (List.mem_cons_of_mem _ hp)),s⟩
  unfold zEA at h
  cases h1:csMem t b kn with
  | true =>
   rw [h1] at h
   exact up (hk _ (zAU h1)) (zB1 l kn f hs hk h)
  | false =>
   cases h2:csMem t (notB b) kn with
   | true =>
    rw [h1,h2] at h
    exact .inr ⟨kn,f,hs,hk,ex (hk _ (zAU h2)) (by cases b <;> simp [notB]),h⟩
   | false =>
    rw [h1,h2] at h
    simp only [cond_false] at h
    split at h <;> try exact h.elim
    rename_i x hx
    have hx' : a.tmps[t]? = some (.bool x):=zCM hs hk hx
    cases b with
    | true =>
     cases x with
     | true=>exact up hx' (zB1 l _ _ (hs.know hx') (hk.cons hx') h)
     | false=>exact .inr ⟨_,_,hs.know hx',hk.cons hx',ex hx' (by simp),h⟩
    | false =>
     cases x with
     | true=>exact .inr ⟨_,_,hs.know hx',hk.cons hx',ex hx' (by simp),h⟩
     | false=>exact up hx' (zB1 l _ _ (hs.know hx') (hk.cons hx') h)
theorem zFT : ∀ (l acc:Cs) (p:Nat × Bool),p∈revC l acc↔p∈l\/p∈acc
 | [],acc,p=>by simp [revC]
 | x::l,acc,p=>by
  rw [revC,zFT l (x::acc) p]
  simp only [List.mem_cons]
  constructor
  ·rintro (h | h | h)
   ·exact .inl (.inr h)
   ·exact .inl (.inl h)
   ·exact .inr h
  ·rintro ((h | h) | h)
   ·exact .inr (.inl h)
   ·exact .inl h
   ·exact .inr (.inr h)
theorem zF8 {l:Cs} {a:Act} : Holds (revC l []) a↔Holds l a:=by
 constructor
 ·exact fun h p hp=>h p ((zFT l [] p).2 (.inl hp))
 ·intro h p hp
  rcases (zFT l [] p).1 hp with h' | h'
  ·exact h p h'
  ·cases h'
theorem zE9 {ops:Array Oper} {o:Oper} {a:Act} (h:o.guard=none):Region.wanted o (yielded ops a.tmps)=true:=by
 unfold Region.wanted;rw [h]
theorem zCi {ops:Array Oper} {o:Oper} {a:Act} {j s:Nat} {want:Bool} (h:o.guard=some (j,want)) (hd:dstOf ops j=some s) :
  Region.wanted o (yielded ops a.tmps)=true↔a.tmps[s]? = some (.bool want):=by
 unfold Region.wanted
 rw [h]
 have hb:(ops[j]?).bind (·.dst)=some s:=by
  unfold dstOf at hd
  cases ho:ops[j]? with
  | none=>rw [ho] at hd;cases hd
  | some p=>rw [ho] at hd;exact hd
 have hy:yielded ops a.tmps j=(match a.tmps[s]? with | some (.bool b)=>some b | _=>none):=by
  unfold yielded;rw [hb];rfl
 show (yielded ops a.tmps j==some want)=true↔_
 rw [hy]
 show ((match a.tmps[s]? with | some (.bool b)=>some b | _=>none)==some want)=true↔_
 cases hv:a.tmps[s]? with
 | none=>simp
 | some v=>cases v <;> simp
theorem zCn (b:Bool):undef ≠ .bool b:=by intro h;cases h
theorem zDL {E:Env} (hE:E.Ok) {n:Nat} {ops:Array Oper} {K:Fr->World->Prop} {Q:Exit->Act->World->Prop} : ∀ (l:List Oper) (kn:Cs) (f:Fr) (w:World) (a:Act),
  vreg E n ops K l kn f w->Sat n f a->Holds kn a->(∀ f' a' w',K f' w'->Sat n f' a'->Agree (dsts l) a a'->Q .normal a' w')->wpList E.P ops Q l a w
 | [],kn,f,w,a,h,hs,hk,hn=>hn f a w h hs (Agree.refl _ _)
 | o::rest,kn,f,w,a,h,hs,hk,hn=>by
  have step : ∀ (kn' : Cs) (x:Option (Cs × Value)) (f' : Fr) (w' : World) (v:Value),vreg E n ops K rest kn' (push o x f') w'->Sat n (push o x f') (a.put o.dst v)->Holds kn' (a.put o.dst v)->wpList E.P ops Q rest (a.put o.dst v) w' :=
   fun kn' x f' w' v hv hs' hk'=>zDL hE rest kn' _ w' _ hv hs' hk' fun f'' a'' w'' hK hs'' hag =>
    hn f'' a'' w'' hK hs'' ((Agree.put fun d hd=>dsts_head hd).trans (hag.mono fun t ht=>dsts_tail ht))
  have go : ∀ (kn' : Cs) (f' : Fr),Sat n f' a->Holds kn' a->Region.wanted o (yielded ops a.tmps)=true ->
    cond (zBm n o kn' f') (vplain E f' kn' o w fun v w'=>vreg E n ops K rest kn' (push o (some ([],v)) f') w') False->wpList E.P ops Q (o::rest) a w:=fun kn' f' hs' hk' hwt h'=>by
   cases hm:zBm n o kn' f' with
   | false=>rw [hm] at h';exact h'.elim
   | true =>
    rw [hm] at h'
    show if Region.wanted o (yielded ops a.tmps) then _ else _
    rw [if_pos hwt]
    exact .inl (zEg hE hs' hk' (fun v w' hv=>step kn' _ f' w' v hv (hs'.put hm) ((Holds.put fun d hd=>(zAT hm hd).2.1).2 hk')) h')
  have skip : ∀ (kn' : Cs) (f' : Fr),Sat n f' a->Holds kn' a->¬ Region.wanted o (yielded ops a.tmps)=true ->
    cond (zBm n o kn' f') (vreg E n ops K rest kn' (push o (some ([],undef)) f') w) False->wpList E.P ops Q (o::rest) a w:=fun kn' f' hs' hk' hwt h'=>by
   cases hm:zBm n o kn' f' with
   | false=>rw [hm] at h';exact h'.elim
   | true =>
    rw [hm] at h'
    show if Region.wanted o (yielded ops a.tmps) then _ else _
    rw [if_neg hwt]
    exact step kn' _ f' w undef h' (hs'.put hm) ((Holds.put fun d hd=>(zAT hm hd).2.1).2 hk')
  unfold vreg at h
  simp only at h
  split at h
  ·rename_i hg
   exact go kn f hs hk (zE9 hg) h
  ·rename_i j want hg
   split at h <;> try exact h.elim
   rename_i s hd
   have hwt:=zCi (ops:=ops) (a:=a) hg hd
   cases h1:csMem s want kn with
   | true =>
    rw [h1] at h
    exact go kn f hs hk (hwt.2 (hk _ (zAU h1))) h
   | false =>
    cases h2:csMem s (notB want) kn with
    | true =>
     rw [h1,h2] at h
     refine skip kn f hs hk (fun hw=>?_) h
     have:=hwt.1 hw
     rw [hk _ (zAU h2)] at this
     cases want <;> cases this
    | false =>
     rw [h1,h2] at h
     simp only [cond_false] at h
     split at h <;> try exact h.elim
     case h_2 cs l hl =>
      have hv:=hs.val s cs _ hl
      refine skip kn f hs hk (fun hw=>?_) h
      have h3:=hwt.1 hw
      by_cases hc:Holds cs a
      ·have:=hv.1 hc
       rw [h3] at this
       cases this
      ·have:=hv.2 hc
       rw [h3] at this
       exact zCn _ (Option.some.inj this).symm
     rename_i cs b hl
     have hv:=hs.val s cs _ hl
     have iff:Region.wanted o (yielded ops a.tmps)=true↔Holds ((s,want)::cs) a:=by
      constructor
      ·intro hw
       have h3:=hwt.1 hw
       by_cases hc:Holds cs a
       ·exact hc.cons h3
       ·have:=hv.2 hc
        rw [h3] at this
        exact absurd (Option.some.inj this).symm (zCn _)
      ·intro hc
       exact hwt.2 (hc _ List.mem_cons_self)
     split at h
     ·rename_i v hsp
      cases hm:zBm n o (((s,want)::cs)++kn) f with
      | false=>rw [hm] at h;exact h.elim
      | true =>
       rw [hm] at h
       have g : ∀ d,o.dst=some d->mentC d kn=false:=fun d hd=>by
        have h3:=(zAT hm hd).2.1
        have : ∀ (c:Cs),mentC d (c++kn)=false->mentC d kn=false:=by
         intro c
         induction c with
         | nil=>exact id
         | cons p l ih =>
          obtain⟨t,b⟩:=p
          intro h
          have h' : cond (Nat.beq t d) true (mentC d (l++kn))=false:=h
          cases h1:Nat.beq t d with
          | true=>rw [h1] at h';cases h'
          | false=>rw [h1] at h';exact ih h'
        exact this _ h3
       show if Region.wanted o (yielded ops a.tmps) then _ else _
       by_cases hw:Region.wanted o (yielded ops a.tmps)=true
       ·rw [if_pos hw]
        left
        unfold Oper.wp
        rw [zCj hs hk (iff.1 hw) hsp]
        have:=hs.putIf (v:=v) (b:=true) hm (by simpa using iff.1 hw)
        exact step kn _ f w v h (by simpa using this) ((Holds.put g).2 hk)
       ·rw [if_neg hw]
        have:=hs.putIf (v:=v) (b:=false) hm (by simpa using fun h=>hw (iff.2 h))
        exact step kn _ f w undef h (by simpa using this) ((Holds.put g).2 hk)
     ·rcases zB1 _ kn f hs hk h with ⟨kn',f',p,q,r,s'⟩ | ⟨kn',f',p,q,r,s'⟩
      ·exact go kn' f' p q (iff.2 (zF8.1 r)) s'
      ·exact skip kn' f' p q (fun hw=>r (zF8.2 (iff.1 hw))) s'
end Go.V
namespace Go.V
open Go Go.RowKit
def qwp {α:Type} (P:Program):Sem α->(α->Prop)->Prop
 | .pure a,K=>K a
 | .program k,K=>qwp P (k P) K
 | _,_=>False
theorem qwp_sound {α:Type} (P:Program) : ∀ (s:Sem α) (K:α->Prop),qwp P s K->∃ a,K a/\∀ w,s.run P w = .ok a w:=by
 intro s
 induction s with
 | pure a=>intro K h;exact⟨a,h,fun _=>rfl⟩
 | program k ih=>intro K h;exact ih _ K h
 | load m a k ih=>intro K h;exact h.elim
 | store m a v k ih=>intro K h;exact h.elim
 | new o k ih=>intro K h;exact h.elim
 | shape r k ih=>intro K h;exact h.elim
 | freeze a n k ih=>intro K h;exact h.elim
 | frozen a k ih=>intro K h;exact h.elim
 | getObj r k ih=>intro K h;exact h.elim
 | setObj r o k ih=>intro K h;exact h.elim
 | choose q k ih=>intro K h;exact h.elim
 | sys c k ih=>intro K h;exact h.elim
 | mark m k ih=>intro K h;exact h.elim
 | halt h'=>intro K h;exact h.elim
def vqres (K:Value->Prop):Next->Prop
 | .value v=>K v
 | _=>False
def vqgen (E:Env) (ρ:Operand->Value) (o:Oper) (K:Value->Prop):Prop:=qwp E.P (execOp ρ o) (vqres K)
def qk (P:Program):Op->Bool
 | .move _ | .assign _ | .pick .. | .load .. | .nilCheck _ | .binOp .. | .unOp .. | .fieldAddr .. | .field .. | .indexAddr .. | .index .. | .slice .. | .extract .. | .makeInterface .. | .makeFunc .. | .build .. => true
 | .convert _ d _=>match P.underlying d with
  | some (.int _)=>true
  | _=>false
 | .call c=>match c.callee with
  | .builtin .len | .builtin .cap | .builtin .min | .builtin .max=>true
  | _=>false
 | _=>false
def zDi:Op->Bool
 | .load _ _=>true
 | _=>false
def vq (E:Env) (ρ:Operand->Value) (o:Oper) (w:World) (K:Value->Prop):Prop :=
 match o.op with
 | .load t a=>match ρ a with
  | .pointer (some ad)=>vload E.P t ad w K
  | _=>False
 | .index t x i=>match ρ x,ρ i with
  | .string s,.int _ n=>match E.P.underlying t with
   | some .string=>(0<=n/\n<s.size)/\K (.int .u8 (bt s n))
   | _=>False
  | _,_=>vqgen E ρ o K
 | .indexAddr t x i=>match ρ x,ρ i with
  | .slice a len _,.int _ n=>match E.P.underlying t with
   | some (.slice e)=>match E.P.info? e with
    | some i=>∃ ad,a=some ad/\(0<=n/\n<len)/\K (.pointer (some (ad.add (n.toNat*i.size))))
    | none=>False
   | _=>False
  | _,_=>vqgen E ρ o K
 | .slice t x lo hi mx=>match E.P.underlying t with
  | some .string=>match ρ x with
   | .string s=>zC1 1 K (.string s) (lo.map ρ) (hi.map ρ) (mx.map ρ)
   | _=>False
  | some (.slice e)=>match ρ x,E.P.info? e with
   | .slice a n c,some i=>zC1 i.size K (.slice a n c) (lo.map ρ) (hi.map ρ) (mx.map ρ)
   | _,_=>False
  | _=>vqgen E ρ o K
 | .binOp op t x y _=>match ρ x,ρ y with
  | .int k a,.int j b=>cond (intOp op) (cond (kindB k j) (cond (decide (b=0)) False
    (match op with
     | .quo=>K (.int k (k.wrap (a.tdiv b)))
     | .rem=>K (.int k (a.tmod b))
     | _=>False)) False) (vqgen E ρ o K)
  | .string a,.string b=>match op with
   | .add=>a.size+b.size<=9223372036854775807/\K (.string (a++b))
   | _=>vqgen E ρ o K
  | .agg xs,.agg ys=>match op with
   | .eql=>veq E.P t xs ys fun b=>K (.bool b)
   | .neq=>veq E.P t xs ys fun b=>K (.bool (!b))
   | _=>False
  | _,_=>vqgen E ρ o K
 | _=>vqgen E ρ o K
theorem zEh {w w' : World} {a:Addr} (hb:Below w.heap.size w w') : ∀ {vs:List Value} {i:Nat},vcells w a i vs->vcells w' a i vs
 | [],_,_=>trivial
 | v::vs,i,h=>⟨by rw [hb.cell (World.block_lt_of_cell? w _ h.1)];exact h.1,zEh hb h.2⟩
theorem vload_held {P:Program} {t:TypeId} {a:Addr} {w:World} {K:Value->Prop} (h:vload P t a w K) : ∃ v,K v/\∀ w',Below w.heap.size w w'->(loadVar t a).run P w' = .ok v w':=by
 unfold vload at h
 cases hd:P.underlying t with
 | none=>simp [hd] at h
 | some d =>
  cases hi:P.info? t with
  | none=>rw [hd,hi] at h;cases d <;> exact h.elim
  | some i =>
   rw [hd,hi] at h
   by_cases f:aggD d=true
   ·have h' : (match i.zero with
      | some (.agg z)=>cond (Nat.beq (B.ofL z.toList).length i.size) (B.exL (B.ofL z.toList) fun vs=>vcells w a 0 vs/\K (.agg vs.toArray)) False
      | _=>False):=by
     revert f h;cases d <;> intro h f <;> first | exact h | cases f
    cases hz:i.zero with
    | none=>rw [hz] at h';exact h'.elim
    | some z =>
     rw [hz] at h'
     cases z with
     | agg z =>
      cases hb:Nat.beq (B.ofL z.toList).length i.size with
      | false=>simp only [hb,cond_false] at h'
      | true =>
       simp only [hb,cond_true] at h'
       obtain⟨vs,hl,hc,hk⟩:=B.exL_elim _ h'
       exact⟨_,hk,fun w' g=>zEY hd f hi (hl.trans (Nat.eq_of_beq_eq_true hb)) (zEh g hc)⟩
     | _=>exact h'.elim
   ·have b:aggD d=false:=by simpa using f
    clear f
    have h' : (match i.zero with
      | some (.agg _)=>False
      | some z=>(B.of z).ex fun v=>w.cell? a=some v/\K v
      | none=>False):=by
     revert b h;cases d <;> intro h b <;> first | exact h | cases b
    cases hz:i.zero with
    | none=>rw [hz] at h';exact h'.elim
    | some z =>
     rw [hz] at h'
     have h'' : (B.of z).ex fun v=>w.cell? a=some v/\K v:=by
      cases z <;> first | exact h' | exact h'.elim
     obtain⟨v,hc,hk⟩:=B.ex_elim _ h''
     exact⟨v,hk,fun w' g=>zCt hd b (by rw [g.cell (World.block_lt_of_cell? w _ hc)];exact hc)⟩
theorem zBE {E:Env} {ρ:Operand->Value} {o:Oper} {K:Value->Prop} (h:vqgen E ρ o K) : ∃ v,K v/\∀ w',(execOp ρ o).run E.P w' = .ok (.value v) w':=by
 obtain⟨r,hr,he⟩:=qwp_sound E.P _ _ h
 cases r with
 | value v=>exact⟨v,hr,he⟩
 | _=>exact hr.elim
theorem zFu {P:Program} {t:TypeId} {x:Value} {lo hi mx:Option Value} {K:Value->Prop} {z:Nat}
  (hr : ∀ (w:World) (K' : Value->Prop),zC1 z K' x lo hi mx->∃ v,(Instr.slice t x lo hi mx).run P w = .ok v w/\K' v) (h:zC1 z K x lo hi mx) :
  ∃ v,K v/\∀ w,(Instr.slice t x lo hi mx).run P w = .ok v w:=by
 have key : ∃ v,K v/\zC1 z (fun u=>u=v) x lo hi mx:=by
  unfold zC1 at *
  split at h <;> first | exact h.elim | exact⟨_,h,rfl⟩ | exact⟨_,h.2,h.1,rfl⟩
 obtain⟨v,hv,hs⟩:=key
 exact⟨v,hv,fun w=>let ⟨u,hu,he⟩:=hr w _ hs;by rw [hu,he]⟩
theorem vq_sound {E:Env} {ρ:Operand->Value} {o:Oper} {w:World} {K:Value->Prop} (h:vq E ρ o w K) :
  ∃ v,K v/\((∀ w',(execOp ρ o).run E.P w' = .ok (.value v) w')\/(zDi o.op=true/\∀ w',Below w.heap.size w w'->(execOp ρ o).run E.P w' = .ok (.value v) w')):=by
 unfold vq at h
 split at h
 ·rename_i t x ho
  split at h <;> try exact h.elim
  rename_i ad hx
  obtain⟨v,hv,hr⟩:=vload_held h
  refine⟨v,hv,.inr ⟨by rw [ho];rfl,fun w' d=>?_⟩⟩
  unfold execOp
  simp [ho,Instr.loadAt,Instr.sureAddr,hx,hr w' d]
 ·rename_i t x y ho
  split at h
  ·rename_i s k n hx hy
   split at h <;> try exact h.elim
   rename_i ht
   refine⟨_,h.2,.inl fun w'=>?_⟩
   unfold execOp
   simp [ho,hx,hy,zEm ht h.1.1 h.1.2]
  ·obtain⟨v,hv,hr⟩:=zBE h;exact⟨v,hv,.inl hr⟩
 ·rename_i t x y ho
  split at h
  ·rename_i b len c k n hx hy
   split at h <;> try exact h.elim
   rename_i e ht
   split at h <;> try exact h.elim
   rename_i i hi
   obtain⟨ad,rfl,hb,hK⟩:=h
   refine⟨_,hK,.inl fun w'=>?_⟩
   unfold execOp
   simp [ho,hx,hy,zCK ht hi hb.1 hb.2]
  ·obtain⟨v,hv,hr⟩:=zBE h;exact⟨v,hv,.inl hr⟩
 ·rename_i t x lo hi mx ho
  split at h
  ·rename_i ht
   split at h <;> try exact h.elim
   rename_i s hx
   obtain⟨v,hv,hr⟩:=zFu (P:=E.P) (t:=t) (fun w K' hk=>zDw (w:=w) ht hk) h
   refine⟨v,hv,.inl fun w'=>?_⟩
   unfold execOp
   simp only [ho,Sem.run_bind,hx,zBi ht (by simp),hr,Result.andThen_ok]
   rfl
  ·rename_i e ht
   split at h <;> try exact h.elim
   rename_i b n c i hx hi'
   obtain⟨v,hv,hr⟩:=zFu (P:=E.P) (t:=t) (fun w K' hk=>zEf (w:=w) ht hi' hk) h
   refine⟨v,hv,.inl fun w'=>?_⟩
   unfold execOp
   simp only [ho,Sem.run_bind,hx,zBi ht (by simp),hr,Result.andThen_ok]
   rfl
  ·obtain⟨v,hv,hr⟩:=zBE h;exact⟨v,hv,.inl hr⟩
 ·rename_i op t x y u ho
  have gen:vqgen E ρ o K->∃ v,K v/\((∀ w',(execOp ρ o).run E.P w' = .ok (.value v) w')\/(zDi o.op=true/\∀ w',Below w.heap.size w w'->(execOp ρ o).run E.P w' = .ok (.value v) w')) :=
   fun h=>by obtain⟨v,hv,hr⟩:=zBE h;exact⟨v,hv,.inl hr⟩
  split at h
  ·rename_i k m j b hx hy
   cases hop:intOp op with
   | false=>rw [hop] at h;exact gen h
   | true =>
    rw [hop] at h
    cases hkb:kindB k j with
    | false=>rw [hkb] at h;exact h.elim
    | true =>
     rw [hkb] at h
     have:=zDB hkb
     subst this
     by_cases hb:b=0
     ·simp only [hb,decide_true,cond_true] at h
     ·simp only [hb,decide_false,cond_true,cond_false] at h
      cases op <;> simp only [intOp,Bool.false_eq_true] at hop <;> try cases hop
      ·refine⟨_,h,.inl fun w'=>?_⟩
       unfold execOp
       simp [ho,hx,hy,eqGuard,binOp,Op.intDiv,hb]
      ·refine⟨_,h,.inl fun w'=>?_⟩
       unfold execOp
       simp [ho,hx,hy,eqGuard,binOp,Op.intDiv,hb]
  ·rename_i b c hx hy
   split at h
   ·refine⟨_,h.2,.inl fun w'=>?_⟩
    unfold execOp
    simp only [ho,hx,hy,Sem.run_bind]
    simp [eqGuard,binOp,Op.stringOp]
    have h1:=h.1
    simp at *
    omega
   ·exact gen h
  ·rename_i xs ys hx hy
   split at h
   ·obtain⟨b,hb,hr⟩:=zDx (x:=x) (y:=y) h
    refine⟨_,hb,.inl fun w'=>?_⟩
    unfold execOp
    simp only [ho,hx,hy,Sem.run_bind,(hr w').1,Result.andThen_ok,binOp,(hr w').2.2,Sem.run_pure]
   ·obtain⟨b,hb,hr⟩:=zDx (x:=x) (y:=y) h
    refine⟨_,hb,.inl fun w'=>?_⟩
    unfold execOp
    simp only [ho,hx,hy,Sem.run_bind,(hr w').2.1,Result.andThen_ok,binOp,(hr w').2.2,Sem.run_pure]
   ·exact h.elim
  ·exact gen h
 ·obtain⟨v,hv,hr⟩:=zBE h;exact⟨v,hv,.inl hr⟩
def bindB (e:Edge):Bool :=
 match e.ground with
 | .textOnly _=>false
 | .gcOnly _=>false
 | _=>true
theorem zB9 (m j:Nat):(Array.replicate m false).getD j false=false:=by
 rw [Array.getD_eq_getD_getElem?]
 by_cases h:j<m
 ·simp [h]
 ·simp [h]
theorem bindB_eq (e:Edge):Region.binds .any e=bindB e:=by
 unfold Region.binds bindB
 cases e.ground <;> first | rfl | decide
def memN (t:Nat):List Nat->Bool
 | []=>false
 | s::l=>cond (Nat.beq s t) true (memN t l)
theorem zGc {t:Nat} : ∀ {l:List Nat},memN t l=true↔t∈l
 | []=>by simp [memN]
 | s::l=>by
  unfold memN
  cases h:Nat.beq s t with
  | true=>simp [Nat.eq_of_beq_eq_true h]
  | false =>
   have hne:s≠t:=fun he=>by subst he;simp at h
   simp only [cond_false,List.mem_cons]
   rw [zGc]
   constructor
   ·exact .inr
   ·rintro (h | h)
    ·exact absurd h.symm hne
    ·exact h
def zFf:List Edge->List Nat
 | []=>[]
 | e::es=>cond (bindB e) (e.on::zFf es) (zFf es)
theorem zCx {i:Nat} : ∀ {es:List Edge},i∈zFf es->∃ e∈es,Region.binds .any e=true/\e.on=i
 | e::es,h=>by
  unfold zFf at h
  cases h1:bindB e with
  | false =>
   rw [h1] at h
   obtain⟨e',he,hb⟩:=zCx h
   exact⟨e',List.mem_cons_of_mem _ he,hb⟩
  | true =>
   rw [h1] at h
   rcases List.mem_cons.1 h with rfl | h
   ·exact⟨e,List.mem_cons_self,by rw [bindB_eq,h1],rfl⟩
   ·obtain⟨e',he,hb⟩:=zCx h
    exact⟨e',List.mem_cons_of_mem _ he,hb⟩
def zEc (ops:Array Oper) (j:Nat):List Nat :=
 match ops[j]? with
 | some o=>zFf o.after.toList
 | none=>[]
def ancs (ops:Array Oper):Nat->List Nat->List Nat->List Nat
 | 0,_,seen=>seen
 | _+1,[],seen=>seen
 | fuel+1,i::todo,seen=>cond (memN i seen) (ancs ops fuel todo seen) (ancs ops fuel (zEc ops i++todo) (i::seen))
def zEp (ops:Array Oper) (listed:Array Bool):Prop :=
 ∀ k ok,ops[k]? = some ok->listed.getD k false=true->∀ e∈ok.after,Region.binds .any e=true->listed.getD e.on false=true
theorem zFr {ops:Array Oper} {listed:Array Bool} (hc:zEp ops listed) {i k:Nat} (hi:listed.getD i false=true) (hk:k∈zEc ops i):listed.getD k false=true:=by
 unfold zEc at hk
 split at hk
 ·rename_i o ho
  obtain⟨e,hm,hb,rfl⟩:=zCx hk
  exact hc i o ho hi e (by simpa using hm) hb
 ·cases hk
theorem zDu {ops:Array Oper} {listed:Array Bool} (hc:zEp ops listed) : ∀ (fuel:Nat) (todo seen:List Nat),(∀ i∈todo,listed.getD i false=true)->(∀ i∈seen,listed.getD i false=true) ->
  ∀ i∈ancs ops fuel todo seen,listed.getD i false=true
 | 0,_,_,_,h2,i,hi=>h2 i hi
 | _+1,[],_,_,h2,i,hi=>h2 i hi
 | fuel+1,j::todo,seen,h1,h2,i,hi=>by
  unfold ancs at hi
  cases hm:memN j seen with
  | true =>
   rw [hm] at hi
   exact zDu hc fuel todo seen (fun k hk=>h1 k (List.mem_cons_of_mem _ hk)) h2 i hi
  | false =>
   rw [hm] at hi
   have hj:=h1 j List.mem_cons_self
   refine zDu hc fuel _ _ (fun k hk=>?_) (fun k hk=>?_) i hi
   ·rcases List.mem_append.1 hk with hk | hk
    ·exact zFr hc hj hk
    ·exact h1 k (List.mem_cons_of_mem _ hk)
   ·rcases List.mem_cons.1 hk with rfl | hk
    ·exact hj
    ·exact h2 k hk
def needL (aS:List Nat) (j:Nat):List Oper->Nat->Bool
 | [],_=>false
 | o::l,i=>cond (zDi o.op) (cond (Nat.beq i j) (needL aS j l (i+1)) (cond (memN i aS) (needL aS j l (i+1)) true)) (needL aS j l (i+1))
def needS (ops:Array Oper) (j:Nat):Bool:=needL (ancs ops 4000 (zEc ops j) []) j ops.toList 0
theorem needL_anc {aS:List Nat} {j:Nat} : ∀ (l:List Oper) (k:Nat),needL aS j l k=false->∀ (i:Nat) (o:Oper),l[i]? = some o->zDi o.op=true->k+i≠j->k+i∈aS
 | [],_,_,i,o,ho,_,_=>by simp at ho
 | p::l,k,h,i,o,ho,hl,hne=>by
  unfold needL at h
  cases i with
  | zero =>
   simp at ho
   subst ho
   rw [hl] at h
   have hb:Nat.beq k j=false:=by
    cases hb:Nat.beq k j with
    | false=>rfl
    | true=>exact absurd (Nat.eq_of_beq_eq_true hb) (by omega)
   rw [hb] at h
   cases he:memN k aS with
   | true=>exact zGc.1 he
   | false=>rw [he] at h;cases h
  | succ i =>
   have b:needL aS j l (k+1)=false:=by
    cases h1:zDi p.op with
    | false=>rw [h1] at h;exact h
    | true =>
     rw [h1] at h
     cases h2:Nat.beq k j with
     | true=>rw [h2] at h;exact h
     | false =>
      rw [h2] at h
      cases h3:memN k aS with
      | true=>rw [h3] at h;exact h
      | false=>rw [h3] at h;cases h
   have:=needL_anc l (k+1) b i o (by simpa using ho) hl (by omega)
   rwa [show k+1+i=k+(i+1) by omega] at this
theorem ready_edges {ops:Array Oper} {listed:Array Bool} {j:Nat} (hj:j∈Region.ready .any ops listed) : ∀ i∈zEc ops j,listed.getD i false=true:=by
 intro i hi
 obtain⟨_,oj,d,b⟩:=mem_ready.1 hj
 unfold zEc at hi
 rw [d] at hi
 obtain⟨e,hm,hb,rfl⟩:=zCx hi
 exact b e (by simpa using hm) hb
theorem zBz {ops:Array Oper} {listed:Array Bool} {j:Nat} (hc:zEp ops listed) (hj:j∈Region.ready .any ops listed):zEp ops (listed.setIfInBounds j true):=by
 intro k ok hk hl e he hb
 refine getD_set_true ?_
 by_cases hjk:j=k
 ·subst hjk
  obtain⟨_,oj,d,b⟩:=mem_ready.1 hj
  rw [hk] at d
  cases d
  exact b e he hb
 ·rw [getD_set_ne false hjk] at hl
  exact hc k ok hk hl e he hb
theorem zDe {listed:Array Bool} {i:Nat} (h:listed.getD i true=false):listed.getD i false=false:=by
 rw [Array.getD_eq_getD_getElem?] at *
 cases hl:listed[i]? with
 | none=>rw [hl] at h;cases h
 | some b=>rw [hl] at h;exact h
theorem needS_of {ops:Array Oper} {listed:Array Bool} {i j:Nat} {oi:Oper} (hc:zEp ops listed) (hj:j∈Region.ready .any ops listed) (hi:i∈Region.ready .any ops listed) (ho:ops[i]? = some oi) (hl:zDi oi.op=true) (hne:j≠i):needS ops j=true:=by
 cases h:needS ops j with
 | true=>rfl
 | false =>
  have he:=needL_anc ops.toList 0 h i oi (by simpa using ho) hl (by omega)
  rw [Nat.zero_add] at he
  have h1:=zDu hc _ _ _ (ready_edges hj) (fun k hk=>by cases hk) i he
  have h2:=zDe (mem_ready.1 hi).1
  rw [h1] at h2
  cases h2
section
variable {P:Program} {ops:Array Oper} {Q:Exit->Act->World->Prop} {S:World->Prop}
def wpA (P:Program) (ops:Array Oper) (Q:Exit->Act->World->Prop) (S:World->Prop):Nat->Array Bool->Act->World->Prop
 | 0,listed,a,w=>Region.ready .any ops listed=[]/\Q .normal a w
 | m+1,listed,a,w=>(Region.ready .any ops listed=[]->Q .normal a w) /\
   ∀ i∈Region.ready .any ops listed,wpOp P ops Q i (fun a' w'=>(w' = w\/(needS ops i=true->S w'))/\wpA P ops Q S m (listed.setIfInBounds i true) a' w') a w
theorem wpA_any : ∀ (m:Nat) (listed:Array Bool) (a:Act) (w:World),wpA P ops Q S m listed a w->wpAny P .any ops Q m listed a w
 | 0,_,_,_,h=>h
 | m+1,_,_,_,h=>⟨h.1,fun i hi=>wpOp_mono (fun a' w' h'=>wpA_any m _ a' w' h'.2) (h.2 i hi)⟩
theorem zBW {i:Nat} {oi:Oper} {v:Value} {T:World->Prop} (hi:ops[i]? = some oi) (hsel : ∀ (j:Nat) (o:Oper) cs b,ops[j]? = some o->o.op ≠ .select cs b)
  (hQ : ∀ c a w,Q (.panic c) (a.put oi.dst v) w->Q (.panic c) a w) (hT:(∀ w,T w)\/(zDi oi.op=true/\∀ w,S w->T w)) :
  ∀ (m:Nat) (listed:Array Bool) (a:Act) (w:World),
   (∀ j oj,ops[j]? = some oj->j≠i->listed.getD j true=false->(∀ e∈oj.after,Region.binds .any e=true->e.on≠i)->oi.apart ops oj=true) ->
   i∈Region.ready .any ops listed->zEp ops listed->YieldsIf P ops T oi v a->T w ->
   wpA P ops Q S m (listed.setIfInBounds i true) (a.put oi.dst v) w->wpA P ops Q S (m+1) listed a w:=by
 intro m
 induction m with
 | zero =>
  intro listed a w _ hr n hy f H
  refine⟨fun h=>(by rw [h] at hr;cases hr),fun j hj=>?_⟩
  by_cases hji:j=i
  ·subst hji;exact hy.wpOp hi f ⟨.inl rfl,H⟩
  ·have:=ready_mono hj hji
   rw [H.1] at this
   cases this
 | succ m ih =>
  intro listed a w d hr n hy f H
  refine⟨fun h=>(by rw [h] at hr;cases hr),fun j hj=>?_⟩
  by_cases hji:j=i
  ·subst hji;exact hy.wpOp hi f ⟨.inl rfl,H⟩
  ·have h1:=H.2 j (ready_mono hj hji)
   obtain⟨l,oj,p,u⟩:=mem_ready.1 hj
   have x : ∀ e∈oj.after,Region.binds .any e=true->e.on≠i:=fun e he hb a1=>by
    have h1:=u e he hb
    have h0:=zDe (mem_ready.1 hr).1
    rw [a1,h0] at h1
    cases h1
   have h2:=wpOp_putIf p (d j oj p hji l x) (fun cs b=>hsel i oi cs b hi) (fun cs b=>hsel j oj cs b p) hQ hy h1
   have g : ∀ k ok,ops[k]? = some ok->k≠i->(listed.setIfInBounds j true).getD k true=false ->
     (∀ e∈ok.after,Region.binds .any e=true->e.on≠i)->oi.apart ops ok=true:=fun k ok hk a2 a0 a3=>by
    refine d k ok hk a2 ?_ a3
    by_cases hjk:j=k
    ·subst hjk;exact l
    ·rw [getD_set_ne true hjk] at a0;exact a0
   refine wpOp_mono (fun a' w' h3=>⟨h3.2.1,?_⟩) h2
   have s:T w':=by
    rcases hT with hT | ⟨hl,hT⟩
    ·exact hT w'
    ·rcases h3.2.1 with rfl | h4
     ·exact f
     ·exact hT w' (h4 (needS_of n hj hr hi hl hji))
   refine ih (listed.setIfInBounds j true) a' w' g (ready_mono hr (Ne.symm hji)) (zBz n hj) h3.1 s ?_
   rw [Array.setIfInBounds_comm _ _ hji]
   exact h3.2.2
end
inductive Sel
 | take (i:Nat)
 | skip (i:Nat)
 | spec (i:Nat) (cs:Cs) (v:Value)
 | split (l:Cs)
def clash (kn:Cs):Cs->Bool
 | []=>false
 | (t,b)::l=>cond (csMem t (notB b) kn) true (clash kn l)
theorem zFE {kn:Cs} {a:Act} (hk:Holds kn a) : ∀ (cs:Cs),clash kn cs=true->¬ Holds cs a
 | (t,b)::l,h,hc=>by
  unfold clash at h
  cases h1:csMem t (notB b) kn with
  | true =>
   have h2:=hk _ (zAU h1)
   have h3:=hc (t,b) List.mem_cons_self
   rw [h2] at h3
   cases b <;> cases h3
  | false =>
   rw [h1] at h
   exact zFE hk l h fun p hp=>hc p (List.mem_cons_of_mem _ hp)
def gone (s:Nat) (kn:Cs) (f:Fr):Bool :=
 match look s f with
 | some ([],.tuple _)=>true
 | some (cs,_)=>clash kn cs
 | _=>false
theorem gone_spec {n s:Nat} {kn:Cs} {f:Fr} {a:Act} (hs:Sat n f a) (hk:Holds kn a) (h:gone s kn f=true) (b:Bool):a.tmps[s]?≠some (.bool b):=by
 unfold gone at h
 split at h
 ·rename_i xs hl
  have:=(hs.val s [] _ hl).1 (fun p hp=>by cases hp)
  rw [this]
  intro e
  cases e
 ·rename_i cs v _ hl
  have:=(hs.val s cs v hl).2 (zFE hk cs h)
  rw [this]
  intro e
  cases e
 ·cases h
def selAt (E:Env) (ops:Array Oper) (kn:Cs) (f:Fr) (i:Nat):Option Sel :=
 match ops[i]? with
 | none=>none
 | some o=>match o.guard with
  | none=>cond (qk E.P o.op) (some (.take i)) none
  | some (j,want)=>match dstOf ops j with
   | none=>none
   | some s=>cond (csMem s want kn) (cond (qk E.P o.op) (some (.take i)) none) (cond (cond (csMem s (notB want) kn) true (gone s kn f)) (some (.skip i))
     (match look s f with
      | some (cs,.bool _)=>match vspec f kn ((s,want)::cs) o with
       | some v=>some (.spec i ((s,want)::cs) v)
       | none=>some (.split (revC ((s,want)::cs) []))
      | _=>none))
def selOf (E:Env) (ops:Array Oper) (kn:Cs) (f:Fr):List Nat->Option Sel->Option Sel
 | [],acc=>acc
 | i::l,acc=>match selAt E ops kn f i with
  | some (.split c)=>selOf E ops kn f l (match acc with | none=>some (.split c) | a=>a)
  | some s=>some s
  | none=>selOf E ops kn f l acc
def allR (p:Nat->Prop):List Nat->Prop
 | []=>True
 | [i]=>p i
 | i::l=>p i/\allR p l
def zCv (ops:Array Oper) (kn:Cs) (o:Oper):Bool :=
 match o.guard with
 | none=>true
 | some (j,want)=>match dstOf ops j with
  | none=>false
  | some s=>csMem s want kn
def vqp (E:Env) (f:Fr) (kn:Cs) (o:Oper) (w:World) (K:Value->Prop):Prop :=
 match o.op with
 | .pick (.tmp _) _ _=>someV (vspec f kn [] o) K
 | op=>cond (zBJ op) (cond (evAll f kn op.operands.toList) (vq E (rho f kn) o w K) False) False
def vany (E:Env) (n:Nat) (ops:Array Oper) (w0:World) (K:Fr->World->Prop):Nat->Array Bool->Bool->Cs->Fr->World->Prop
 | 0,_,_,_,_,_=>False
 | fuel+1,listed,ok,kn,f,w =>
  match Region.ready .any ops listed with
  | []=>K f w
  | i0::rs=>match selOf E ops kn f (i0::rs) none with
   | some (.take i)=>match ops[i]? with
    | some o=>cond (Region.free .any ops listed i) (cond (zBm n o kn f) (cond (cond (zDi o.op) ok true)
      (vqp E f kn o w0 fun v=>vany E n ops w0 K fuel (listed.setIfInBounds i true) ok kn (push o (some ([],v)) f) w) False) False) False
    | none=>False
   | some (.skip i)=>match ops[i]? with
    | some o=>cond (Region.free .any ops listed i) (cond (zBm n o kn f) (vany E n ops w0 K fuel (listed.setIfInBounds i true) ok kn (push o (some ([],undef)) f) w) False) False
    | none=>False
   | some (.spec i cs v)=>match ops[i]? with
    | some o=>cond (Region.free .any ops listed i) (cond (zBm n o (cs++kn) f) (vany E n ops w0 K fuel (listed.setIfInBounds i true) ok kn (push o (some (cs,v)) f) w) False) False
    | none=>False
   | some (.split l)=>zEA (fun kn f=>vany E n ops w0 K fuel listed ok kn f w) (fun kn f=>vany E n ops w0 K fuel listed ok kn f w) l kn f
   | none=>allR (fun i=>match ops[i]? with
    | some o=>cond (zCv ops kn o) (cond (zBm n o kn f) (vplain E f kn o w fun v w' =>
      cond (needS ops i) (Below w0.heap.size w0 w'/\vany E n ops w0 K fuel (listed.setIfInBounds i true) ok kn (push o (some ([],v)) f) w')
       (vany E n ops w0 K fuel (listed.setIfInBounds i true) false kn (push o (some ([],v)) f) w')) False) False
    | none=>False) (i0::rs)
theorem zCA {E:Env} {ops:Array Oper} {kn:Cs} {f:Fr} {s:Sel} : ∀ (l:List Nat) (acc:Option Sel),selOf E ops kn f l acc=some s->acc=some s\/∃ i∈l,selAt E ops kn f i=some s
 | [],acc,h => .inl h
 | i::l,acc,h=>by
  unfold selOf at h
  cases hs:selAt E ops kn f i with
  | none =>
   rw [hs] at h
   rcases zCA l acc h with h | ⟨j,hj,h⟩
   ·exact .inl h
   ·exact .inr ⟨j,List.mem_cons_of_mem _ hj,h⟩
  | some x =>
   rw [hs] at h
   cases x with
   | split c =>
    simp only at h
    rcases zCA l _ h with h | ⟨j,hj,h⟩
    ·cases acc with
     | none=>simp only at h;exact .inr ⟨i,List.mem_cons_self,by rw [hs];exact h⟩
     | some a=>exact .inl h
    ·exact .inr ⟨j,List.mem_cons_of_mem _ hj,h⟩
   | take j=>exact .inr ⟨i,List.mem_cons_self,by rw [hs];exact h⟩
   | skip j=>exact .inr ⟨i,List.mem_cons_self,by rw [hs];exact h⟩
   | spec j c v=>exact .inr ⟨i,List.mem_cons_self,by rw [hs];exact h⟩
def cntF:List Bool->Nat
 | []=>0
 | true::l=>cntF l
 | false::l=>cntF l+1
theorem cntF_set : ∀ (l:List Bool) (i:Nat),l[i]? = some false->cntF (l.set i true)+1=cntF l
 | b::l,0,h=>by simp at h;subst h;rfl
 | b::l,i+1,h=>by
  have:=cntF_set l i (by simpa using h)
  cases b <;> simp only [List.set_cons_succ,cntF] <;> omega
theorem zCf {ops:Array Oper} {listed:Array Bool} {i m:Nat} (hi:i∈Region.ready .any ops listed) (hm:cntF listed.toList=m) :
  ∃ m',m=m' + 1/\cntF (listed.setIfInBounds i true).toList=m':=by
 have h:=(mem_ready.1 hi).1
 have h2:listed.toList[i]? = some false:=by
  rw [Array.getD_eq_getD_getElem?] at h
  rw [Array.getElem?_toList]
  cases hl:listed[i]? with
  | none=>rw [hl] at h;cases h
  | some b=>rw [hl] at h;simp at h;rw [h]
 have h3:=cntF_set _ _ h2
 rw [Array.toList_setIfInBounds]
 exact⟨cntF (listed.toList.set i true),by omega,rfl⟩
theorem allR_mem {p:Nat->Prop} : ∀ {l:List Nat},allR p l->∀ i∈l,p i
 | [i],h,j,hj=>by
  rcases List.mem_cons.1 hj with rfl | hj
  ·exact h
  ·cases hj
 | i::k::l,h,j,hj=>by
  rcases List.mem_cons.1 hj with rfl | hj
  ·exact h.1
  ·exact allR_mem h.2 j hj
theorem zCL {ops:Array Oper} {kn:Cs} {o:Oper} {a:Act} (hk:Holds kn a) (h:zCv ops kn o=true):Region.wanted o (yielded ops a.tmps)=true:=by
 unfold zCv at h
 split at h
 ·rename_i hg;exact zE9 hg
 ·rename_i j want hg
  split at h
  ·cases h
  ·rename_i s hd
   exact (zCi hg hd).2 (hk _ (zAU h))
theorem zE3 {ops:Array Oper} {i:Nat} {o:Oper} (hi:ops[i]? = some o) {d:Nat} (hd:o.dst=some d):d∈dsts ops.toList:=by
 have hm:o∈ops.toList:=by
  have:=Array.mem_of_getElem? hi
  simpa using this
 have : ∀ (l:List Oper),o∈l->d∈dsts l:=by
  intro l
  induction l with
  | nil=>intro h;cases h
  | cons p l ih =>
   intro h
   rcases List.mem_cons.1 h with rfl | h
   ·exact dsts_head hd
   ·exact dsts_tail (ih h)
 exact this _ hm
theorem zBu {E:Env} (hE:E.Ok) {n:Nat} {ops:Array Oper} {w0:World} {K:Fr->World->Prop} {Q:Exit->Act->World->Prop} {a0:Act} (hsel:Region.noSelect ops=true)
  (hQ : ∀ c a d v w,Q (.panic c) (a.put d v) w->Q (.panic c) a w) (hn : ∀ f' a' w',K f' w'->Sat n f' a'->Agree (dsts ops.toList) a0 a'->Q .normal a' w') :
  ∀ (fuel:Nat) (listed:Array Bool) (ok:Bool) (kn:Cs) (f:Fr) (w:World) (a:Act) (m:Nat),vany E n ops w0 K fuel listed ok kn f w->Sat n f a->Holds kn a ->
   (ok=true->Below w0.heap.size w0 w)->zEp ops listed->cntF listed.toList=m->Agree (dsts ops.toList) a0 a->wpA E.P ops Q (Below w0.heap.size w0) m listed a w
 | 0,_,_,_,_,_,_,_,h,_,_,_,_,_,_=>h.elim
 | fuel+1,listed,ok,kn,f,w,a,m,h,hs,hk,hok,hcl,hm,hag=>by
  have hsp:=Region.noSelect_spec (ops:=ops) hsel
  unfold vany at h
  split at h
  ·rename_i hr
   cases m with
   | zero=>exact⟨hr,hn f a w h hs hag⟩
   | succ m=>exact⟨fun _=>hn f a w h hs hag,by rw [hr];simp⟩
  ·rename_i i0 rs hr
   split at h
   ·
    rename_i i hsl
    split at h <;> try exact h.elim
    rename_i o ho
    obtain⟨i',hi',hat⟩:=(zCA _ _ hsl).resolve_left (by simp)
    have hii:i' = i/\zCv ops kn o=true:=by
     unfold selAt at hat
     split at hat
     ·cases hat
     ·rename_i p hp
      split at hat
      ·rename_i hg
       cases hq:qk E.P p.op with
       | false=>rw [hq] at hat;cases hat
       | true =>
        rw [hq] at hat
        cases hat
        rw [ho] at hp;cases hp
        exact⟨rfl,by unfold zCv;rw [hg]⟩
      ·rename_i j want hg
       split at hat
       ·cases hat
       ·rename_i s hd
        cases h1:csMem s want kn with
        | true =>
         rw [h1] at hat
         cases hq:qk E.P p.op with
         | false=>rw [hq] at hat;cases hat
         | true =>
          rw [hq] at hat
          cases hat
          rw [ho] at hp;cases hp
          exact⟨rfl,by unfold zCv;rw [hg];simp only [hd];exact h1⟩
        | false =>
         cases h2:(cond (csMem s (notB want) kn) true (gone s kn f)) with
         | true=>rw [h1,h2] at hat;cases hat
         | false =>
          rw [h1,h2] at hat
          simp only [cond_false] at hat
          split at hat
          ·split at hat <;> cases hat
          ·cases hat
    obtain⟨rfl,x⟩:=hii
    have k:i'∈Region.ready .any ops listed:=by rw [hr];exact hi'
    obtain⟨m',rfl,a1⟩:=zCf k hm
    cases hf:Region.free .any ops listed i' with
    | false=>rw [hf] at h;exact h.elim
    | true =>
     cases hmp:zBm n o kn f with
     | false=>rw [hf,hmp] at h;exact h.elim
     | true =>
      cases hol:cond (zDi o.op) ok true with
      | false=>rw [hf,hmp,hol] at h;exact h.elim
      | true =>
       rw [hf,hmp,hol] at h
       simp only [cond_true] at h
       have fin : ∀ (T:World->Prop) (v:Value),((∀ w,T w)\/(zDi o.op=true/\∀ w',Below w0.heap.size w0 w'->T w'))->T w->(∀ w',T w'->(execOp a.eval o).run E.P w' = .ok (.value v) w') ->
         vany E n ops w0 K fuel (listed.setIfInBounds i' true) ok kn (push o (some ([],v)) f) w->wpA E.P ops Q (Below w0.heap.size w0) (m' + 1) listed a w:=fun T v hT a8 g hv =>
        zBW ho hsp (fun c a w=>hQ c a _ _ w) hT m' listed a w (Region.free_spec ho hf) k hcl (.inl ⟨zCL hk x,g⟩) a8
         (zBu hE hsel hQ hn fuel _ ok kn _ w _ m' hv (hs.put hmp) ((Holds.put fun d hd=>(zAT hmp hd).2.1).2 hk) hok (zBz hcl k) a1 (hag.trans (Agree.put fun d hd=>zE3 ho hd)))
       unfold vqp at h
       split at h
       ·unfold someV at h
        split at h <;> try exact h.elim
        rename_i v hv
        exact fin (fun _=>True) v (.inl fun _=>trivial) trivial (fun w' _=>zCj hs hk (zAE a) hv) h
       ·cases h1:zBJ o.op with
        | false=>rw [h1] at h;exact h.elim
        | true =>
         cases h2:evAll f kn o.op.operands.toList with
         | false=>rw [h1,h2] at h;exact h.elim
         | true =>
          rw [h1,h2] at h
          simp only [cond_true] at h
          obtain⟨v,hv,g⟩:=vq_sound h
          rw [zEb hs hk h1 h2] at g
          rcases g with g | ⟨hl,g⟩
          ·exact fin (fun _=>True) v (.inl fun _=>trivial) trivial (fun w' _=>g w') hv
          ·rw [hl] at hol
           exact fin (Below w0.heap.size w0) v (.inr ⟨hl,fun w' h=>h⟩) (hok hol) g hv
   ·
    rename_i i hsl
    split at h <;> try exact h.elim
    rename_i o ho
    obtain⟨i',hi',hat⟩:=(zCA _ _ hsl).resolve_left (by simp)
    have hii:i' = i/\¬ Region.wanted o (yielded ops a.tmps)=true:=by
     unfold selAt at hat
     split at hat
     ·cases hat
     ·rename_i p hp
      split at hat
      ·cases hq:qk E.P p.op with
       | false=>rw [hq] at hat;cases hat
       | true=>rw [hq] at hat;cases hat
      ·rename_i j want hg
       split at hat
       ·cases hat
       ·rename_i s hd
        cases h1:csMem s want kn with
        | true =>
         rw [h1] at hat
         cases hq:qk E.P p.op with
         | false=>rw [hq] at hat;cases hat
         | true=>rw [hq] at hat;cases hat
        | false =>
         cases h2:(cond (csMem s (notB want) kn) true (gone s kn f)) with
         | true =>
          rw [h1,h2] at hat
          cases hat
          rw [ho] at hp;cases hp
          refine⟨rfl,fun hw=>?_⟩
          have:=(zCi hg hd).1 hw
          cases h3:csMem s (notB want) kn with
          | true =>
           rw [hk _ (zAU h3)] at this
           cases want <;> cases this
          | false =>
           rw [h3] at h2
           exact gone_spec hs hk h2 _ this
         | false =>
          rw [h1,h2] at hat
          simp only [cond_false] at hat
          split at hat
          ·split at hat <;> cases hat
          ·cases hat
    obtain⟨rfl,a3⟩:=hii
    have k:i'∈Region.ready .any ops listed:=by rw [hr];exact hi'
    obtain⟨m',rfl,a1⟩:=zCf k hm
    cases hf:Region.free .any ops listed i' with
    | false=>rw [hf] at h;exact h.elim
    | true =>
     cases hmp:zBm n o kn f with
     | false=>rw [hf,hmp] at h;exact h.elim
     | true =>
      rw [hf,hmp] at h
      exact zBW (T:=fun _=>True) ho hsp (fun c a w=>hQ c a _ _ w) (.inl fun _=>trivial) m' listed a w (Region.free_spec ho hf) k hcl (.inr ⟨by simpa using a3,rfl⟩) trivial
       (zBu hE hsel hQ hn fuel _ ok kn _ w _ m' h (hs.put hmp) ((Holds.put fun d hd=>(zAT hmp hd).2.1).2 hk) hok (zBz hcl k) a1 (hag.trans (Agree.put fun d hd=>zE3 ho hd)))
   ·
    rename_i i cs v hsl
    split at h <;> try exact h.elim
    rename_i o ho
    obtain⟨i',hi',hat⟩:=(zCA _ _ hsl).resolve_left (by simp)
    have hii:i' = i/\vspec f kn cs o=some v/\(Region.wanted o (yielded ops a.tmps)=true↔Holds cs a):=by
     unfold selAt at hat
     split at hat
     ·cases hat
     ·rename_i p hp
      split at hat
      ·cases hq:qk E.P p.op with
       | false=>rw [hq] at hat;cases hat
       | true=>rw [hq] at hat;cases hat
      ·rename_i j want hg
       split at hat
       ·cases hat
       ·rename_i s hd
        cases h1:csMem s want kn with
        | true =>
         rw [h1] at hat
         cases hq:qk E.P p.op with
         | false=>rw [hq] at hat;cases hat
         | true=>rw [hq] at hat;cases hat
        | false =>
         cases h2:(cond (csMem s (notB want) kn) true (gone s kn f)) with
         | true=>rw [h1,h2] at hat;cases hat
         | false =>
          rw [h1,h2] at hat
          simp only [cond_false] at hat
          split at hat
          ·rename_i c0 b hl
           split at hat
           ·rename_i u hu
            cases hat
            rw [ho] at hp;cases hp
            refine⟨rfl,hu,?_⟩
            have hv:=hs.val s c0 _ hl
            have a7:=zCi (ops:=ops) (a:=a) hg hd
            constructor
            ·intro hw
             have h3:=a7.1 hw
             by_cases hc:Holds c0 a
             ·exact hc.cons h3
             ·have:=hv.2 hc
              rw [h3] at this
              exact absurd (Option.some.inj this).symm (zCn _)
            ·intro hc
             exact a7.2 (hc _ List.mem_cons_self)
           ·cases hat
          ·cases hat
    obtain⟨rfl,a6,a2⟩:=hii
    have k:i'∈Region.ready .any ops listed:=by rw [hr];exact hi'
    obtain⟨m',rfl,a1⟩:=zCf k hm
    cases hf:Region.free .any ops listed i' with
    | false=>rw [hf] at h;exact h.elim
    | true =>
     cases hmp:zBm n o (cs++kn) f with
     | false=>rw [hf,hmp] at h;exact h.elim
     | true =>
      rw [hf,hmp] at h
      have b0 : ∀ d,o.dst=some d->mentC d kn=false:=fun d hd=>by
       have h3:=(zAT hmp hd).2.1
       have : ∀ (c:Cs),mentC d (c++kn)=false->mentC d kn=false:=by
        intro c
        induction c with
        | nil=>exact id
        | cons p l ih =>
         obtain⟨t,b⟩:=p
         intro h
         have h' : cond (Nat.beq t d) true (mentC d (l++kn))=false:=h
         cases h1:Nat.beq t d with
         | true=>rw [h1] at h';cases h'
         | false=>rw [h1] at h';exact ih h'
       exact this _ h3
      have main : ∀ (b:Bool),(b=true↔Holds cs a)->wpA E.P ops Q (Below w0.heap.size w0) (m' + 1) listed a w:=fun b hb=>by
       have a5:=hs.putIf (v:=v) (b:=b) hmp hb
       refine zBW (T:=fun _=>True) (v:=if b then v else undef) ho hsp (fun c a w=>hQ c a _ _ w) (.inl fun _=>trivial) m' listed a w (Region.free_spec ho hf) k hcl ?_ trivial
        (zBu hE hsel hQ hn fuel _ ok kn _ w _ m' h a5 ((Holds.put b0).2 hk) hok (zBz hcl k) a1 (hag.trans (Agree.put fun d hd=>zE3 ho hd)))
       cases b with
       | true=>exact .inl ⟨a2.2 (hb.1 rfl),fun w' _=>zCj hs hk (hb.1 rfl) a6⟩
       | false =>
        have a3:Region.wanted o (yielded ops a.tmps)=false:=by
         cases hw:Region.wanted o (yielded ops a.tmps) with
         | false=>rfl
         | true=>have:=hb.2 (a2.1 hw);cases this
        exact .inr ⟨a3,rfl⟩
      by_cases hc:Holds cs a
      ·exact main true ⟨fun _=>hc,fun _=>rfl⟩
      ·exact main false ⟨fun h=>(by cases h),fun h=>absurd h hc⟩
   ·
    rename_i l hsl
    rcases zB1 l kn f hs hk h with ⟨kn',f',p,q,_,s'⟩ | ⟨kn',f',p,q,_,s'⟩
    ·exact zBu hE hsel hQ hn fuel listed ok kn' f' w a m s' p q hok hcl hm hag
    ·exact zBu hE hsel hQ hn fuel listed ok kn' f' w a m s' p q hok hcl hm hag
   ·
    have a9:i0∈Region.ready .any ops listed:=by rw [hr];exact List.mem_cons_self
    obtain⟨m',rfl,_⟩:=zCf a9 hm
    refine⟨fun h0=>(by rw [hr] at h0;cases h0),fun i hi=>?_⟩
    have hi' : i∈i0::rs:=by rw [<- hr];exact hi
    have h1:=allR_mem h i hi'
    split at h1 <;> try exact h1.elim
    rename_i o ho
    cases x:zCv ops kn o with
    | false=>rw [x] at h1;exact h1.elim
    | true =>
     cases hmp:zBm n o kn f with
     | false=>rw [x,hmp] at h1;exact h1.elim
     | true =>
      rw [x,hmp] at h1
      simp only [cond_true] at h1
      obtain⟨m2,he,b1⟩:=zCf hi hm
      have:m2=m':=by omega
      subst this
      unfold wpOp
      simp only [ho]
      rw [if_pos (zCL hk x)]
      refine .inl (zEg hE hs hk (fun v w' hv=>?_) h1)
      have go : ∀ ok',(ok' = true->Below w0.heap.size w0 w')->vany E n ops w0 K fuel (listed.setIfInBounds i true) ok' kn (push o (some ([],v)) f) w' ->
        wpA E.P ops Q (Below w0.heap.size w0) m2 (listed.setIfInBounds i true) (a.put o.dst v) w':=fun ok' a4 hv =>
       zBu hE hsel hQ hn fuel _ ok' kn _ w' _ m2 hv (hs.put hmp) ((Holds.put fun d hd=>(zAT hmp hd).2.1).2 hk) a4 (zBz hcl hi) b1 (hag.trans (Agree.put fun d hd=>zE3 ho hd))
      cases hne:needS ops i with
      | true =>
       rw [hne] at hv
       exact⟨.inr fun _=>hv.1,go ok (fun _=>hv.1) hv.2⟩
      | false =>
       rw [hne] at hv
       exact⟨.inr fun h=>(by cases h),go false (fun h=>by cases h) hv⟩
theorem zED {E:Env} (hE:E.Ok) {n:Nat} {id:Nat} {ops:Array Oper} {K:Fr->World->Prop} {Q:Exit->Act->World->Prop} {a:Act} {f:Fr} {w:World} {fuel:Nat} (hsel:Region.noSelect ops=true)
  (hQ : ∀ c a d v w,Q (.panic c) (a.put d v) w->Q (.panic c) a w) (hn : ∀ f' a' w',K f' w'->Sat n f' a'->Agree (dsts ops.toList) a a'->Q .normal a' w')
  (h:vany E n ops w.drew K fuel (Array.replicate ops.size false) true [] f w.drew) (hs:Sat n f a):(Code.region id ops true).wp E.P Q a w:=by
 refine wp_region_any hE.mixed (wpA_any (S:=Below w.drew.heap.size w.drew) _ _ _ _ ?_)
 refine zBu hE hsel hQ hn fuel _ true [] f w.drew a ops.size h hs (zAE a) (fun _=>Below.refl _ _) (fun k ok hk hl=>(by rw [zB9] at hl;cases hl)) ?_ (Agree.refl _ _)
 have : ∀ k,cntF (List.replicate k false)=k:=by
  intro k
  induction k with
  | zero=>rfl
  | succ k ih=>rw [List.replicate_succ];show cntF _+1=_;rw [ih]
 simpa using this ops.size
def lateL (ops:Array Oper) (D:List Nat):List Oper->Nat->Bool
 | [],_=>false
 | o::l,j=>match o.op with
  | .store _ (.tmp t) _=>cond (needS ops j) (cond (memN t D) (lateL ops D l (j+1)) true) (lateL ops D l (j+1))
  | _=>lateL ops D l (j+1)
def lateS (ops:Array Oper):Bool:=lateL ops (dsts ops.toList) ops.toList 0
def tmpsOf:List Operand->List Nat
 | []=>[]
 | .tmp t::l=>t::tmpsOf l
 | _::l=>tmpsOf l
def minus:List Nat->List Nat->List Nat
 | [],_=>[]
 | t::l,D=>cond (memN t D) (minus l D) (t::minus l D)
def rdOps:List Oper->List Nat->List Nat
 | [],_=>[]
 | o::l,D=>minus (tmpsOf o.op.operands.toList) D++rdOps l (match o.dst with | some d=>d::D | none=>D)
def df:Code->List Nat
 | .region _ ops _=>dsts ops.toList
 | .seq a b=>df a++df b
 | _=>[]
def rd:Code->List Nat
 | .region _ ops _=>rdOps ops.toList []
 | .seq a b=>rd a++minus (rd b) (df a)
 | .cond c a b=>tmpsOf [c]++(rd a++rd b)
 | .block _ b=>rd b
 | .loop b=>rd b
 | .scope b=>rd b
 | _=>[]
structure Wr where
 nrm:Option (List Nat)
 ex:List (Nat × List Nat)
def addW (l:List Nat):List (Nat × List Nat)->List (Nat × List Nat)
 | []=>[]
 | (i,m)::r=>(i,l++m)::addW l r
def exAt (id:Nat):List (Nat × List Nat)->Option (List Nat)
 | []=>none
 | (i,m)::r=>cond (Nat.beq i id) (match exAt id r with | some l=>some (m++l) | none=>some m) (exAt id r)
def exNot (id:Nat):List (Nat × List Nat)->List (Nat × List Nat)
 | []=>[]
 | (i,m)::r=>cond (Nat.beq i id) (exNot id r) ((i,m)::exNot id r)
def orW:Option (List Nat)->Option (List Nat)->Option (List Nat)
 | some a,some b=>some (a++b)
 | some a,none=>some a
 | none,b=>b
def wr:Code->Wr
 | .skip=>⟨some [],[]⟩
 | .region _ ops _=>⟨some (dsts ops.toList),[]⟩
 | .seq a b=>match (wr a).nrm with
  | some l=>⟨match (wr b).nrm with | some m=>some (l++m) | none=>none,(wr a).ex++addW l (wr b).ex⟩
  | none=>⟨none,(wr a).ex⟩
 | .cond _ a b=>⟨orW (wr a).nrm (wr b).nrm,(wr a).ex++(wr b).ex⟩
 | .block id b=>⟨orW (wr b).nrm (exAt id (wr b).ex),exNot id (wr b).ex⟩
 | .loop b=>⟨none,addW (match (wr b).nrm with | some l=>l | none=>[]) (wr b).ex⟩
 | .exit id=>⟨none,[(id,[])]⟩
 | _=>⟨none,[]⟩
structure Cn where
 nrm:Nat
 ex:List Nat
def cntI (id:Nat):List Nat->Nat
 | []=>0
 | i::l=>cond (Nat.beq i id) (cntI id l+1) (cntI id l)
def outI (id:Nat):List Nat->List Nat
 | []=>[]
 | i::l=>cond (Nat.beq i id) (outI id l) (i::outI id l)
def nx:Code->Cn
 | .skip=>⟨1,[]⟩
 | .region _ _ _=>⟨1,[]⟩
 | .seq a b=>match (nx a).nrm with
  | 0=>nx a
  | k+1=>⟨(k+1)*(nx b).nrm,(nx a).ex++(nx b).ex⟩
 | .cond _ a b=>⟨(nx a).nrm+(nx b).nrm,(nx a).ex++(nx b).ex⟩
 | .block id b=>⟨(nx b).nrm+cntI id (nx b).ex,outI id (nx b).ex⟩
 | .loop b=>⟨0,(nx b).ex⟩
 | .exit id=>⟨0,[id]⟩
 | _=>⟨0,[]⟩
def wt:Code->Nat
 | .region _ ops _=>ops.size
 | .seq a b=>wt a+wt b
 | .cond _ a b=>wt a+wt b+2
 | .block _ b=>wt b
 | .loop b=>wt b+5
 | .scope b=>wt b
 | _=>0
def joins (x y:Code):Bool:=cond (Nat.ble 2 (nx x).nrm) (Nat.ble 4 (wt y)) false
def killE (W:List Nat) (t:Nat):Option (Cs × Value)->Option (Cs × Value)
 | some ([],v)=>cond (memN t W) none (some ([],v))
 | _=>none
def kill (W:List Nat):Fr->Fr
 | []=>[]
 | (t,x)::f=>(t,killE W t x)::kill W f
def jOf (W L:List Nat):Fr->List Nat->List (Nat × Sh)
 | [],_=>[]
 | (t,x)::f,seen=>cond (memN t seen) (jOf W L f seen) (match x with
  | some ([],v)=>cond (cond (memN t W) (memN t L) false) ((t,Sh.of v)::jOf W L f (t::seen)) (jOf W L f (t::seen))
  | _=>jOf W L f (t::seen))
def shsOf:List (Nat × Sh)->List Sh
 | []=>[]
 | (_,s)::l=>s::shsOf l
def getAll (f:Fr):List (Nat × Sh)->Option (List Value)
 | []=>some []
 | (t,_)::l=>match get f [] t,getAll f l with
  | some v,some vs=>some (v::vs)
  | _,_=>none
def zEM:List (Nat × Sh)->List Value->Fr->Fr
 | (t,_)::l,v::vs,f=>(t,some ([],v))::zEM l vs f
 | _,_,f=>f
def zE8 (f:Fr) (J:List (Nat × Sh)) (K:List Value->Prop):Prop :=
 match getAll f J with
 | some vs=>cond (Sh.fitsL (shsOf J) vs) (K vs) False
 | none=>False
def vjoin (same:Bool) (J:List (Nat × Sh)) (W:List Nat) (f:Fr) (w:World) (cont:Fr->World->Prop) (body:(Fr->World->Prop)->Prop):Prop :=
 ∀ K:List Value->World->Prop,cond same (Sh.allL (shsOf J) fun vs=>cont (zEM J vs (kill W f)) w->K vs w)
  (Sh.allL (shsOf J) fun vs=>∀ w',cont (zEM J vs (kill W f)) w'->K vs w')->body fun f' w'=>zE8 f' J fun vs=>K vs w'
def vloop (J:List (Nat × Sh)) (W:List Nat) (f:Fr) (w:World) (body:(Fr->World->Prop)->Fr->World->Prop):Prop :=
 ∃ (I:List Value->World->Prop) (μ:List Value->World->Nat),zE8 f J (fun vs=>I vs w) /\
  Sh.allL (shsOf J) fun vs=>∀ w',I vs w'->body (fun f' w''=>zE8 f' J fun vs'=>I vs' w''/\μ vs' w'' < μ vs w') (zEM J vs (kill W f)) w'
def typeSh (P:Program) (t:TypeId):Option Sh :=
 match P.info? t with
 | some i=>match i.zero with
  | some z=>some (Sh.of z)
  | none=>none
 | none=>none
def opSh (P:Program) (o:Oper):Option Sh :=
 match o.op with
 | .box _ _=>some (.one .ptr)
 | .alloc _=>some (.one .ptr)
 | .fieldAddr _ _ _=>some (.one .ptr)
 | .indexAddr _ _ _=>some (.one .ptr)
 | _=>typeSh P o.type
def jReg (P:Program) (L:List Nat):List Oper->List Nat->List (Nat × Sh)
 | [],_=>[]
 | o::l,seen=>match o.dst,o.guard with
  | none,_=>jReg P L l seen
  | some d,some _=>jReg P L l (d::seen)
  | some d,none=>cond (memN d seen) (jReg P L l seen) (cond (memN d L) (match opSh P o with
   | some s=>(d,s)::jReg P L l (d::seen)
   | none=>jReg P L l (d::seen)) (jReg P L l (d::seen)))
def zFe (P:Program):List Oper->Nat
 | []=>0
 | o::l=>cond (qk P o.op) (zFe P l) (zFe P l+1)
def qkC (P:Program):Code->Bool
 | .region _ ops d=>cond d false (Nat.beq (zFe P ops.toList) 0)
 | .seq a b=>cond (qkC P a) (qkC P b) false
 | .cond _ a b=>cond (qkC P a) (qkC P b) false
 | .block _ b=>qkC P b
 | .loop _=>false
 | .skip=>true
 | .exit _=>true
 | .ret=>true
 | _=>false
def gEff (P:Program):List Oper->Bool
 | []=>false
 | o::l=>match o.guard with
  | none=>gEff P l
  | some _=>match o.op with
   | .move _ | .assign _ | .pick .. | .binOp .. | .unOp .. | .extract .. => gEff P l
   | _=>true
def shOps (P:Program):List Oper->List (Nat × Sh)
 | []=>[]
 | o::l=>match o.dst,o.guard with
  | some d,none=>(match opSh P o with
   | some s=>(d,s)::shOps P l
   | none=>shOps P l)
  | _,_=>shOps P l
def shDf (P:Program):Code->List (Nat × Sh)
 | .region _ ops _=>shOps P ops.toList
 | .seq a b=>shDf P a++shDf P b
 | _=>[]
def hasF (t:Nat) (f:Fr):Bool:=match look t f with
 | some ([],_)=>true
 | _=>false
def jNew (L:List Nat) (f:Fr):List (Nat × Sh)->List Nat->List (Nat × Sh)
 | [],_=>[]
 | (t,s)::l,seen=>cond (memN t seen) (jNew L f l seen) (cond (memN t L) (cond (hasF t f) (jNew L f l seen) ((t,s)::jNew L f l (t::seen))) (jNew L f l seen))
def appJ:List (Nat × Sh)->List (Nat × Sh)->List (Nat × Sh)
 | [],m=>m
 | x::l,m=>x::appJ l m
def vret (P:Program) (f:Fr) (w:World) (K:List Value->Prop):List ResultVar->Prop
 | []=>K []
 | .tmp t::l=>match get f [] t with
  | some v=>vret P f w (fun vs=>K (v::vs)) l
  | none=>False
 | .cell p t::l=>match get f [] p with
  | some (.pointer (some a))=>vload P t a w fun v=>vret P f w (fun vs=>K (v::vs)) l
  | _=>False
def zEB (R:Value->Prop):List Value->Prop
 | [v]=>R v
 | vs=>R (.tuple vs.toArray)
def zFV:List ResultVar->List Nat
 | []=>[]
 | .tmp t::l=>t::zFV l
 | .cell p _::l=>p::zFV l
def knowC (c:Operand) (b:Bool) (f:Fr):Fr :=
 match c with
 | .tmp t=>(t,some ([],.bool b))::f
 | _=>f
def vcode (E:Env) (n:Nat):Code->List Nat->(Fr->World->Prop)->(Nat->Fr->World->Prop)->(Fr->World->Prop)->Fr->World->Prop
 | .skip,_,kn,_,_,f,w=>kn f w
 | .region _ ops false,L,kn,_,_,f,w =>
  cond (gEff E.P ops.toList)
   (vjoin (Nat.beq (zFe E.P ops.toList) 0) (jReg E.P L ops.toList []) (dsts ops.toList) f w kn fun k=>vreg E n ops k ops.toList [] f w)
   (vreg E n ops (fun f' w'=>kn (kill [] f') w') ops.toList [] f w)
 | .region _ ops true,L,kn,_,_,f,w =>
  cond (Region.noSelect ops) (cond (lateS ops) False
   (cond (cond (gEff E.P ops.toList) true (Nat.ble 2 (zFe E.P ops.toList)))
   (vjoin (Nat.beq (zFe E.P ops.toList) 0) (jReg E.P L ops.toList []) (dsts ops.toList) f w.drew kn fun k=>vany E n ops w.drew k (2*ops.size+8) (Array.replicate ops.size false) true [] f w.drew)
   (vany E n ops w.drew (fun f' w'=>kn (kill [] f') w') (2*ops.size+8) (Array.replicate ops.size false) true [] f w.drew))) False
 | .seq x y,L,kn,kx,kr,f,w=>match (wr x).nrm with
  | some W=>cond (joins x y)
   (vjoin (qkC E.P x) (appJ (jOf W (rd y++L) f []) (jNew (rd y++L) f (shDf E.P x) [])) W f w (vcode E n y L kn kx kr) fun k=>vcode E n x (rd y++L) k kx kr f w)
   (vcode E n x (rd y++L) (vcode E n y L kn kx kr) kx kr f w)
  | none=>vcode E n x L (fun _ _=>False) kx kr f w
 | .cond c x y,L,kn,kx,kr,f,w=>match ev f [] c with
  | some (.bool b)=>cond b (vcode E n x L kn kx kr (knowC c true f) w) (vcode E n y L kn kx kr (knowC c false f) w)
  | _=>False
 | .block id x,L,kn,kx,kr,f,w=>vcode E n x L kn (fun i f w=>cond (Nat.beq i id) (kn f w) (kx i f w)) kr f w
 | .loop x,L,_,kx,kr,f,w=>match (wr x).nrm with
  | some W=>vloop (jOf W (rd x++L) f []) W f w fun k f' w'=>vcode E n x (rd x++L) k kx kr f' w'
  | none=>vcode E n x L (fun _ _=>False) kx kr f w
 | .exit id,_,_,kx,_,f,w=>kx id f w
 | .ret,_,_,_,kr,f,w=>kr f w
 | _,_,_,_,_,_,_=>False
def argFr:List Value->Nat->Fr
 | [],_=>[]
 | v::l,k=>(k,some ([],v))::argFr l (k+1)
def vfn (E:Env) (fn:Func) (args:List Value) (w:World) (R:Value->World->Prop):Prop :=
 match fn.body with
 | some c=>vcode E (args.length+(fn.ntmps - args.length)) c (zFV fn.results.toList)
   (fun f w=>vret E.P f w (zEB fun v=>R v w) fn.results.toList) (fun _ _ _=>False) (fun f w=>vret E.P f w (zEB fun v=>R v w) fn.results.toList) (argFr args 0) w
 | none=>False
end Go.V
