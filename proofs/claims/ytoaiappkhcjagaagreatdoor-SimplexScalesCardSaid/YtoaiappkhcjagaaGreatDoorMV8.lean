/- Part of the proof: V8, V9, V10, SiN, SiU, SiQ, SiL, V11, TbA, TbB. -/
import Derived.Test.YtoaiappkhcjagaaGreatDoorMV6b
import Derived.OneCell
import Derived.Lib.Strings
set_option linter.unusedVariables false
set_option linter.unusedSimpArgs false
namespace Go.V
open Go Go.RowKit
def resOne (tmps:Array Value):ResultVar->Sem Value
 | .tmp t=>pure (tmps.getD t undef)
 | .cell p t=>asAddr (tmps.getD p undef) >>= fun a=>loadVar t a
theorem results_eq (fn:Func) (tmps:Array Value):results fn tmps=(fn.results.mapM (resOne tmps) >>= fun vs=>pure (if h:vs.size=1 then vs[0] else .tuple vs)):=by
 unfold results
 congr 1
theorem zEg {P:Program} {n:Nat} {f:Fr} {w:World} {a:Act} (hs:Sat n f a) : ∀ (rs:List ResultVar) (K:List Value->Prop),vret P f w K rs ->
  ∃ vs,(rs.mapM (resOne a.tmps)).run P w = .ok vs w/\K vs
 | [],K,h=>⟨[],rfl,h⟩
 | .tmp t::l,K,h=>by
  unfold vret at h
  split at h <;> try exact h.elim
  rename_i v hv
  obtain⟨vs,hr,hk⟩:=zEg hs l _ h
  refine⟨v::vs,?_,hk⟩
  simp only [List.mapM_cons,Sem.run_bind,resOne,Sem.run_pure,Result.andThen_ok,zEw (zCL hs (zAB a) hv),hr]
 | .cell p t::l,K,h=>by
  unfold vret at h
  split at h <;> try exact h.elim
  rename_i ad hv
  obtain⟨v,hl,h⟩:=zEZ h
  obtain⟨vs,hr,hk⟩:=zEg hs l _ h
  refine⟨v::vs,?_,hk⟩
  have hp:=zEw (zCL hs (zAB a) hv)
  have hp' : asAddr (a.tmps.getD p undef)=pure ad:=by rw [hp];rfl
  simp only [List.mapM_cons,Sem.run_bind,resOne,Sem.run_pure,Result.andThen_ok,hp',hl,hr]
def allOk (P:Program):List (Nat × Rs)->Prop
 | []=>True
 | (f,_)::l=>fnOk P f/\allOk P l
theorem zGk {P:Program} : ∀ {l:List (Nat × Rs)},allOk P l->∀ f rs,lookR f l=some rs->fnOk P f
 | (g,r)::l,h,f,rs,hl=>by
  unfold lookR at hl
  cases hb:Nat.beq g f with
  | true=>rw [<- Nat.eq_of_beq_eq_true hb];exact h.1
  | false=>rw [hb] at hl;exact zGk h.2 f rs hl
theorem Called.of {P:Program} {f:Nat} {args:Array Value} {w:World} {R K:Value->World->Prop} (h:Ret P f args w R) (hk : ∀ v w',R v w'->K v w'):Called P f args w K :=
 ⟨Calls.mono h fun _ _ ⟨v,he,hr⟩=>⟨v,he,hk _ _ hr⟩⟩
theorem Ret.mono {P:Program} {f:Nat} {args:Array Value} {w:World} {R K:Value->World->Prop} (h:Ret P f args w R) (hk : ∀ v w',R v w'->K v w'):Ret P f args w K :=
 Calls.mono h fun _ _ ⟨v,he,hr⟩=>⟨v,he,hk _ _ hr⟩
theorem zAa {b:Bool} {p q:Prop} (hp:b=true->p) (hq:b=false->q):cond b p q:=by cases b;exact hq rfl;exact hp rfl
theorem zAd {c:Prop} [Decidable c] {p q:Prop} (hp:c->p) (hq : ¬ c->q):cond (decide c) p q:=by
 by_cases h:c
 ·simp only [h,decide_true,cond_true];exact hp h
 ·simp only [h,decide_false,cond_false];exact hq h
theorem zFW : ∀ (l:List Value) (k t:Nat) (cs:Cs) (v:Value),look t (argFr l k)=some (cs,v)->cs=[]/\k<=t/\l[t - k]? = some v
 | [],k,t,cs,v,h=>by cases h
 | u::l,k,t,cs,v,h=>by
  rw [argFr,zDU] at h
  by_cases hk:k=t
  ·rw [if_pos hk] at h
   cases h
   subst hk
   exact⟨rfl,Nat.le_refl _,by simp⟩
  ·rw [if_neg hk] at h
   obtain⟨h1,h2,h3⟩:=zFW l (k+1) t cs v h
   refine⟨h1,by omega,?_⟩
   rw [show t - k=(t - (k+1))+1 by omega]
   simpa using h3
theorem zAc {E:Env} (hE:E.Ok) {fid:Nat} {fn:Func} {args:List Value} {w:World} {R:Value->World->Prop} (hf:E.P.funcs[fid]? = some fn) (h:vfn E fn args w R):Ret E.P fid args.toArray w R:=by
 unfold vfn at h
 split at h <;> try exact h.elim
 rename_i c hb
 refine calls_of_wp hf hb ?_
 have fin : ∀ (f' : Fr) (a' : Act) (w' : World),vret E.P f' w' (vresult fun v=>R v w') fn.results.toList->Sat (args.length+(fn.ntmps - args.length)) f' a' ->
   a'.defers=[]/\∃ v,(results fn a'.tmps).run E.P w' = .ok v w'/\∃ v',Ending.returned v = .returned v'/\R v' w':=by
  intro f' a' w' hv hs
  obtain⟨vs,hr,hk⟩:=zEg hs _ _ hv
  have e:fn.results=fn.results.toList.toArray:=by simp
  refine⟨hs.defers,if h:vs.toArray.size=1 then vs.toArray[0] else .tuple vs.toArray,?_,?_⟩
  ·rw [results_eq,e,List.mapM_toArray,Sem.run_bind]
   have h2:Sem.run E.P (List.toArray <$> fn.results.toList.mapM (resOne a'.tmps)) w' = .ok vs.toArray w':=by
    rw [map_eq_pure_bind,Sem.run_bind,hr]
    rfl
   rw [h2]
   rfl
  ·refine⟨_,rfl,?_⟩
   match vs,hk with
   | [v],hk=>exact hk
   | [],hk=>exact hk
   | v::u::l,hk =>
    have : ¬ ((v::u::l).toArray.size=1):=by simp
    rw [dif_neg this]
    exact hk
 refine vcode_sound hE c _ _ _ _ (argFr args 0) w _ _ (fun c a d v w' hp=>?_) h ?_ (fun f' a' w' h1 h2 _=>fin f' a' w' h1 h2) (fun i f' a' w' h1=>h1.elim) fin
 ·obtain⟨_,v',h2,_⟩:=hp
  cases h2
 ·refine⟨rfl,by simp,fun t cs v hl=>?_⟩
  obtain⟨rfl,_,h3⟩:=zFW args 0 t cs v hl
  refine⟨fun _=>?_,fun hn=>absurd (zAB _) hn⟩
  have hlt:t<args.length:=(List.getElem?_eq_some_iff.1 h3).1
  show (args.toArray++_)[t]? = some v
  rw [Array.getElem?_append_left (by simpa using hlt)]
  simpa using h3
theorem zAf {n:Int} (h0 : -9223372036854775808<=n) (h1:n<=9223372036854775807):IntKind.i64.wrap n=n:=by
 rw [IntKind.wrap_i64];omega
abbrev Ext (w w' : World):Prop:=Below w.heap.size w w'
theorem Ext.refl (w:World):Ext w w:=Below.refl _ _
theorem Ext.trans {a b c:World} (h:Ext a b) (k:Ext b c):Ext a c:=Below.trans h (Below.mono k h.size)
theorem Ext.drew {a b:World} (h:Ext a b):Ext a b.drew:=Below.drew h
theorem Ext.alloc {a b:World} (h:Ext a b) (o:Obj):Ext a (b.alloc o):=Below.alloc h h.size o
theorem Ext.cell {w w' : World} (h:Ext w w') {p:Addr} {v:Value} (hc:w.cell? p=some v):w'.cell? p=some v:=by
 rw [Below.cell h (World.block_lt_of_cell? w _ hc)];exact hc
theorem Ext.blk {w w' : World} (h:Ext w w') {k:Nat} {o:Obj} (hc:w.heap[k]? = some o):w'.heap[k]? = some o:=by
 rw [h.block k ((Array.getElem?_eq_some_iff.1 hc).1)];exact hc
def RowAt (w:World) (a:Addr) (L:List Value):Prop:=∀ j v,L[j]? = some v->w.cell? (a.add j)=some v
theorem RowAt.ext {w w' : World} {a:Addr} {L:List Value} (h:RowAt w a L) (he:Ext w w'):RowAt w' a L:=fun j v hj=>he.cell (h j v hj)
theorem zAC {w:World} {a:Addr} : ∀ {L:List Value} {i:Nat},vcells w a i L↔∀ j v,L[j]? = some v->w.cell? (a.add (i+j))=some v
 | [],i=>by simp [vcells]
 | v::L,i=>by
  constructor
  ·rintro⟨h1,h2⟩ j u hj
   cases j with
   | zero=>simp at hj;subst hj;exact h1
   | succ j=>have:=zAC.1 h2 j u (by simpa using hj);rwa [show i+1+j=i+(j+1) by omega] at this
  ·intro h
   refine⟨by simpa using h 0 v rfl,zAC.2 fun j u hj=>?_⟩
   have:=h (j+1) u (by simpa using hj)
   rwa [show i+(j+1)=i+1+j by omega] at this
theorem zCY {w:World} {a:Addr} {L:List Value} : vcells w a 0 L↔RowAt w a L:=by
 rw [zAC];simp [RowAt]
theorem add_add (a:Addr) (hs:a.spot=none) (i j:Nat):(a.add i).add j=a.add (i+j):=by
 obtain⟨b,o,s⟩:=a
 simp only at hs
 subst hs
 unfold Addr.add
 by_cases h1:i=0
 ·subst h1;simp
 ·by_cases h2:j=0
  ·subst h2;simp
  ·simp [h1,h2,Nat.add_assoc]
theorem zAk (b o i:Nat):(⟨b,o,none⟩:Addr).add i=⟨b,o+i,none⟩:=by
 unfold Addr.add;split <;> simp_all
def SlAt (w:World) (a:Option Addr) (L:List Value):Prop:=L=[]\/∃ ad,a=some ad/\ad.spot=none/\RowAt w ad L
theorem SlAt.ext {w w' : World} {a:Option Addr} {L:List Value} (h:SlAt w a L) (he:Ext w w'):SlAt w' a L :=
 h.imp id fun ⟨ad,h1,h2,h3⟩=>⟨ad,h1,h2,h3.ext he⟩
theorem SlAt.at {w:World} {a:Option Addr} {L:List Value} (h:SlAt w a L) {j:Nat} (hj:j<L.length) : ∃ ad,a=some ad/\ad.spot=none/\RowAt w ad L:=by
 rcases h with rfl | h
 ·simp at hj
 ·exact h
theorem zBr {w:World} {B e size n:Nat} {a:Option Addr} {c:Nat} {xs:List Value} (h:w.ownsRow B e size (.slice a n c) n xs):SlAt w a xs:=by
 rcases h.2 with ⟨hv,hn⟩ | ⟨g,cap,cur,hv,_⟩
 ·left
  have:=h.1
  rw [hn] at this
  exact List.eq_nil_of_length_eq_zero (by simpa using this)
 ·right
  cases hv
  exact⟨_,rfl,rfl,fun j v hj=>h.cells (g:=g) rfl j v hj⟩
theorem own_lt {w:World} {B e size n:Nat} {a:Option Addr} {c:Nat} {xs:List Value} (h:w.ownsRow B e size (.slice a n c) n xs) : ∀ k,(Value.slice a n c).ownBlock=some k->B<=k/\k<w.heap.size:=World.ownsRow.lt h
theorem zA8 {w w' : World} {B e size n:Nat} {v:Value} {xs:List Value} (h:w.ownsRow B e size v n xs) (he:Ext w w'):w'.ownsRow B e size v n xs:=by
 refine⟨h.1,?_⟩
 rcases h.2 with h2 | ⟨g,cap,cur,hv,hb,hg,r⟩
 ·exact .inl h2
 ·exact .inr ⟨g,cap,cur,hv,hb,he.blk hg,r⟩
theorem own_base {w:World} {B B' e size n:Nat} {v:Value} {xs:List Value} (h:w.ownsRow B e size v n xs) (hb:B'<=B):w.ownsRow B' e size v n xs:=by
 refine⟨h.1,?_⟩
 rcases h.2 with h2 | ⟨g,cap,cur,hv,hg,r⟩
 ·exact .inl h2
 ·exact .inr ⟨g,cap,cur,hv,Nat.le_trans hb hg,r⟩
theorem zFC (w:World) (L:List Value) (e:Nat) (j:Nat):(w.alloc (.cells L.toArray e)).cell? ⟨w.heap.size,j,none⟩=L[j]?:=by
 rw [cell_of_row _ _ _ _ _ _ (heap_alloc_new w _)];simp
theorem zEd (w:World) (L:List Value) (e:Nat):RowAt (w.alloc (.cells L.toArray e)) ⟨w.heap.size,0,none⟩ L:=fun j v hj=>by
 rw [zAk,Nat.zero_add,zFC];exact hj
theorem size_alloc (w:World) (o:Obj):(w.alloc o).heap.size=w.heap.size+1:=World.size_alloc w o
theorem size_drew (w:World):w.drew.heap.size=w.heap.size:=rfl
theorem zCA (w:World) (a:Addr) (v:Value):(w.setCell a v).heap.size=w.heap.size:=by simp [World.setCell]
theorem zAs {w:World} {a:Addr} {v:Value} {k:Nat} (h:k≠a.block):(w.setCell a v).heap[k]? = w.heap[k]?:=Below.heap_setCell w a v k h
theorem AppRes.below {w0 w w' : World} {B base e size n c m:Nat} {a a' : Option Addr} {c' : Nat} {xs news:List Value} (r:AppRes w w' base e size a n c xs m news a' c')
  (hown:w.ownsRow base e size (.slice a n c) n xs) (h0:Below B w0 w) (hB:B<=w.heap.size) (hb:B<=base):Below B w0 w' :=
 Below.grown h0 r.grown hB fun k hk=>Nat.le_trans hb (own_lt hown k hk).1
theorem AppOk.one {w:World} {base e size bytes n c:Nat} {a:Option Addr} {xs L:List Value} (hown:w.ownsRow base e size (.slice a n c) n xs) (hl:L.length=size) (hp:zAq L=true)
  (hm:n+1<=maxLen) (hby:(n+1)*bytes<=140737488355328) (hb:base<=w.heap.size) :
  AppOk (w.alloc (.cells L.toArray e)) base e size bytes a n c xs (some ⟨w.heap.size,0,none⟩) 1 L where
 own := .inl (zA8 hown ((Ext.refl w).alloc _))
 len:=by simpa using hl
 src := .inr ⟨_,rfl,zCY.2 (zEd w L e)⟩
 plain:=hp
 max:=hm
 bytes:=hby
 base:=by rw [size_alloc];omega
theorem zAA {w:World} {B e e' size n rb:Nat} {v:Value} {xs:List Value} {c:Array Value} {f:Nat × Nat} (h:w.ownsRow B e size v n xs) (hr:w.heap[rb]? = some (.cells c e' f)) (he:e≠e') :
  v.ownBlock≠some rb:=by
 intro hk
 rcases h.2 with ⟨rfl,_⟩ | ⟨g,cap,cur,rfl,_,hg,_⟩
 ·cases hk
 ·cases hk
  rw [hg] at hr
  cases hr
  exact he rfl
theorem zCu {w:World} {B B' e e' size size' n n' : Nat} {v v' : Value} {xs xs' : List Value} (h:w.ownsRow B e size v n xs) (h' : w.ownsRow B' e' size' v' n' xs') (he:e≠e') :
  ∀ k,v.ownBlock=some k->v'.ownBlock≠some k:=by
 intro k hk
 rcases h.2 with ⟨rfl,_⟩ | ⟨g,cap,cur,rfl,_,hg,_⟩
 ·cases hk
 ·cases hk
  exact zAA h' hg (Ne.symm he)
theorem zDf {w w' : World} {B e size n:Nat} {v:Value} {xs:List Value} (h:w.ownsRow B e size v n xs) (hk : ∀ k,v.ownBlock=some k->w'.heap[k]? = w.heap[k]?):w'.ownsRow B e size v n xs:=by
 refine⟨h.1,?_⟩
 rcases h.2 with h2 | ⟨g,cap,cur,rfl,hb,hg,r⟩
 ·exact .inl h2
 ·exact .inr ⟨g,cap,cur,rfl,hb,by rw [hk g rfl];exact hg,r⟩
theorem zBC {w:World} {B e size n:Nat} {v:Value} {xs:List Value} (h:w.ownsRow B e size v n xs) {a:Addr} (ha:v.ownBlock≠some a.block) (u:Value):(w.setCell a u).ownsRow B e size v n xs :=
 zDf h fun k hk=>zAs fun e=>ha (by rw [hk,e])
theorem zAY {w:World} {b j:Nat} {c:Array Value} {e:Nat} {f:Nat × Nat} (h:w.heap[b]? = some (.cells c e f)) (v:Value) :
  (w.setCell ⟨b,j,none⟩ v).heap[b]? = some (.cells (c.setIfInBounds j v) e f):=by
 simp only [World.setCell,Array.getElem?_modify,if_true]
 rw [h]
 simp
theorem zAm {w:World} {b j:Nat} {c:Array Value} {e:Nat} {f:Nat × Nat} (h:w.heap[b]? = some (.cells c e f)):w.cell? ⟨b,j,none⟩=c[j]?:=cell_of_row _ _ _ _ _ _ h
theorem zBd {w:World} {b j:Nat} {c:Array Value} {e:Nat} (h:w.heap[b]? = some (.cells c e (0,0))):w.frozen? ⟨b,j,none⟩=false:=frozen_of_row _ _ _ _ _ h
theorem own_cut {w:World} {B e size n m c:Nat} {a:Option Addr} {xs:List Value} (h:w.ownsRow B e size (.slice a n c) n xs) (hm:m<=n):w.ownsRow B e size (.slice a m c) m (xs.take (m*size)):=by
 have hle:m*size<=n*size:=Nat.mul_le_mul_right _ hm
 refine⟨by rw [List.length_take,h.1];omega,?_⟩
 rcases h.2 with ⟨hv,hn⟩ | ⟨g,cap,cur,hv,hb,hg,hnc,hx,hs,ht⟩
 ·cases hv
  left
  have:m=0:=by omega
  subst this
  exact⟨rfl,rfl⟩
 ·cases hv
  refine .inr ⟨g,c,cur,rfl,hb,hg,by omega,hx,hs,?_⟩
  rw [<- ht,List.take_take]
  congr 1
  omega
theorem zFp {w:World} {B e size n n' c:Nat} {a:Option Addr} {xs:List Value} (h:w.ownsRow B e size (.slice a n' c) n xs):n'<=c:=by
 rcases h.2 with ⟨hv,h0⟩ | ⟨g,cap,cur,hv,_,_,hnc,_⟩
 ·cases hv;exact Nat.le_refl _
 ·cases hv;exact hnc
theorem own_grown {w w' : World} {row:Option Nat} (h:w.grownBy w' row) {B e size n:Nat} {v:Value} {xs:List Value} (ho:w.ownsRow B e size v n xs) (hr : ∀ k,v.ownBlock=some k->row≠some k):w'.ownsRow B e size v n xs :=
 zDf ho fun k hk=>h.block k (World.ownsRow.lt ho k hk).2 (Ne.symm (hr k hk))
end Go.V
namespace Go.Num
set_option maxRecDepth 100000
def dv (c:UInt8):Nat:=c.toNat - 48
def isDig (c:UInt8):Bool:=decide (48<=c.toNat)&&decide (c.toNat<=57)
def val:List UInt8->Nat:=fun l=>l.foldl (fun a c=>10*a+dv c) 0
def digOf (d:Nat):UInt8:=UInt8.ofNat (48+d)
def dec (n:Nat):List UInt8:=if n<10 then [digOf n] else dec (n / 10)++[digOf (n % 10)]
theorem zA5 {n:Nat} (h:n<10):dec n=[digOf n]:=by rw [dec,if_pos h]
theorem zBL {n:Nat} (h : ¬ n<10):dec n=dec (n / 10)++[digOf (n % 10)]:=by rw [dec,if_neg h]
theorem zCn {d:Nat} (h:d<10):(digOf d).toNat=48+d:=by rw [digOf,UInt8.toNat_ofNat'];omega
theorem zDm {d:Nat} (h:d<10):dv (digOf d)=d:=by rw [dv,zCn h];omega
theorem zB6 {d:Nat} (h:d<10):isDig (digOf d)=true:=by
 unfold isDig
 rw [zCn h,Bool.and_eq_true,decide_eq_true_eq,decide_eq_true_eq];omega
theorem zBw {c:UInt8} (h:isDig c=true):48<=c.toNat/\c.toNat<=57:=by
 unfold isDig at h
 rw [Bool.and_eq_true,decide_eq_true_eq,decide_eq_true_eq] at h
 exact h
theorem digOf_dv {c:UInt8} (h:isDig c=true):digOf (dv c)=c:=by
 obtain⟨h1,h2⟩:=zBw h
 apply UInt8.toNat_inj.1
 rw [zCn (by unfold dv;omega)]
 unfold dv;omega
theorem dv_lt {c:UInt8} (h:isDig c=true):dv c<10:=by
 obtain⟨h1,h2⟩:=zBw h
 unfold dv;omega
theorem zC8:val []=0:=rfl
theorem zCZ (l:List UInt8) (c:UInt8):val (l++[c])=10*val l+dv c:=by
 unfold val
 rw [List.foldl_append];rfl
theorem zFw : ∀ (l:List UInt8) (n:Nat),l.foldl (fun a c=>10*a+dv c) n=n*10 ^ l.length+val l
 | [],n=>by simp [zC8]
 | c::l,n=>by
  have h1:=zFw l (10*n+dv c)
  have h2:=zFw l (10*0+dv c)
  unfold val
  rw [List.foldl_cons,List.foldl_cons,h1,h2,List.length_cons,Nat.pow_succ,Nat.add_mul,Nat.mul_zero,Nat.zero_add,Nat.mul_comm 10 n,Nat.mul_assoc,Nat.mul_comm 10,Nat.add_assoc]
theorem val_app (a b:List UInt8):val (a++b)=val a*10 ^ b.length+val b:=by
 show (a++b).foldl _ 0=_
 rw [List.foldl_append,zFw b]
 rfl
theorem val_one (c:UInt8):val [c]=dv c:=by
 have:=zCZ [] c
 rw [zC8] at this
 simpa using this
theorem zCp (c:UInt8) (l:List UInt8):val (c::l)=dv c*10 ^ l.length+val l:=by
 rw [show c::l=[c]++l from rfl,val_app,val_one]
theorem zDq : ∀ {l:List UInt8},l.all isDig=true->val l<10 ^ l.length
 | [],_=>by simp [zC8]
 | c::l,h=>by
  rw [List.all_cons,Bool.and_eq_true] at h
  have h1:=dv_lt h.1
  have h2:=zDq h.2
  rw [zCp,List.length_cons,Nat.pow_succ]
  have:dv c*10 ^ l.length<=9*10 ^ l.length:=Nat.mul_le_mul_right _ (by omega)
  omega
theorem zBm (n:Nat):dec n≠[]:=by
 rw [dec]
 split <;> simp
theorem zAH (n:Nat):(dec n).all isDig=true:=by
 induction n using Nat.strongRecOn with
 | ind n ih =>
  by_cases h:n<10
  ·rw [zA5 h];simp [zB6 h]
  ·rw [zBL h,List.all_append,ih _ (by omega)]
   simp [zB6 (Nat.mod_lt n (by omega:10>0))]
theorem zAF (n:Nat):val (dec n)=n:=by
 induction n using Nat.strongRecOn with
 | ind n ih =>
  by_cases h:n<10
  ·rw [zA5 h,val_one,zDm h]
  ·rw [zBL h,zCZ,ih _ (by omega),zDm (Nat.mod_lt n (by omega:10>0))]
   omega
theorem zC0 {m n:Nat} (h:dec m=dec n):m=n:=by rw [<- zAF m,h,zAF]
def canon (l:List UInt8):Bool:=!l.isEmpty&&l.all isDig&&(match l with
 | 48::_::_=>false
 | _=>true)
theorem dec_head {n:Nat} (h0:0<n) : ∃ c l,dec n=c::l/\c≠48:=by
 induction n using Nat.strongRecOn with
 | ind n ih =>
  by_cases h:n<10
  ·rw [zA5 h]
   refine⟨_,_,rfl,fun e=>?_⟩
   have:=zCn h
   rw [e] at this
   have h48:(48:UInt8).toNat=48:=rfl
   omega
  ·obtain⟨c,l,e,hc⟩:=ih (n / 10) (by omega) (by omega)
   rw [zBL h,e]
   exact⟨c,_,rfl,hc⟩
theorem zBc:dec 0=[48]:=by rw [zA5 (by omega)];rfl
theorem canon_dec (n:Nat):canon (dec n)=true:=by
 unfold canon
 rw [Bool.and_eq_true,Bool.and_eq_true]
 refine⟨⟨?_,zAH n⟩,?_⟩
 ·cases h:dec n with
  | nil=>exact absurd h (zBm n)
  | cons c l=>rfl
 ·by_cases h0:n=0
  ·subst h0;rw [zBc];rfl
  ·obtain⟨c,l,e,hc⟩:=dec_head (Nat.pos_of_ne_zero h0)
   rw [e]
   split
   ·rename_i h;cases h;exact absurd rfl hc
   ·rfl
theorem zE7 {c:UInt8} {l:List UInt8} (h:isDig c=true) (hc:c≠48):10 ^ l.length<=val (c::l):=by
 have:1<=dv c:=by
  obtain⟨h1,h2⟩:=zBw h
  have:c.toNat≠48:=fun e=>hc (UInt8.toNat_inj.1 e)
  unfold dv;omega
 rw [zCp]
 have:1*10 ^ l.length<=dv c*10 ^ l.length:=Nat.mul_le_mul_right _ this
 omega
theorem dec_val_snoc : ∀ (n:Nat) {l:List UInt8},l.length=n->canon l=true->dec (val l)=l:=by
 intro n
 induction n with
 | zero=>intro l hl h;rw [List.eq_nil_of_length_eq_zero hl] at h;cases h
 | succ n ih =>
  intro l hl h
  unfold canon at h
  rw [Bool.and_eq_true,Bool.and_eq_true] at h
  obtain⟨⟨hne,hd⟩,hz⟩:=h
  have hne' : l≠[]:=fun e=>by rw [e] at hl;cases hl
  obtain⟨a,c,rfl⟩ : ∃ a c,l=a++[c]:=⟨l.dropLast,l.getLast hne',(List.dropLast_concat_getLast hne').symm⟩
  rw [List.all_append,Bool.and_eq_true] at hd
  have hc:isDig c=true:=by simpa using hd.2
  have hcl:=dv_lt hc
  cases a with
  | nil =>
   rw [List.nil_append,val_one,zA5 hcl,digOf_dv hc]
  | cons x a =>
   have hx:x≠48:=by
    rintro rfl
    cases a with
    | nil=>simp at hz
    | cons y a=>simp at hz
   have hxd:isDig x=true:=by
    have:=hd.1
    rw [List.all_cons,Bool.and_eq_true] at this
    exact this.1
   have hpos:=zE7 (l:=a) hxd hx
   have h1:1<=10 ^ a.length:=Nat.one_le_pow _ _ (by omega)
   have hcan:canon (x::a)=true:=by
    unfold canon
    rw [Bool.and_eq_true,Bool.and_eq_true]
    refine⟨⟨rfl,hd.1⟩,?_⟩
    split
    ·rename_i h;cases h;exact absurd rfl hx
    ·rfl
   have hi:=ih (l:=x::a) (by simpa using hl) hcan
   rw [zCZ,zBL (by omega)]
   rw [show (10*val (x::a)+dv c) / 10=val (x::a) by omega,show (10*val (x::a)+dv c) % 10=dv c by omega,hi,digOf_dv hc]
theorem zF1 {l:List UInt8} (h:canon l=true):dec (val l)=l:=dec_val_snoc _ rfl h
theorem zA9 {n k:Nat} (hk:0<k):(dec n).length<=k↔n<10 ^ k:=by
 constructor
 ·intro h
  have h1:=zDq (zAH n)
  rw [zAF] at h1
  exact Nat.lt_of_lt_of_le h1 (Nat.pow_le_pow_right (by omega) h)
 ·intro h
  by_cases h0:n=0
  ·subst h0;rw [zBc];exact hk
  ·obtain⟨c,l,e,hc⟩:=dec_head (Nat.pos_of_ne_zero h0)
   have hd:=zAH n
   rw [e,List.all_cons,Bool.and_eq_true] at hd
   have h1:=zE7 (l:=l) hd.1 hc
   rw [<- e,zAF] at h1
   rw [e,List.length_cons]
   have:l.length<k:=(Nat.pow_lt_pow_iff_right (by omega:1<10)).1 (Nat.lt_of_le_of_lt h1 h)
   omega
def trimL:List UInt8->List UInt8
 | 48::c::l=>trimL (c::l)
 | l=>l
theorem trimL_nil:trimL []=[]:=by simp [trimL]
theorem trimL_one (c:UInt8):trimL [c]=[c]:=by unfold trimL;split <;> simp_all
theorem zFJ (c:UInt8) (l:List UInt8):trimL (48::c::l)=trimL (c::l):=by rw [trimL]
theorem zFd {c:UInt8} (h:c≠48) (l:List UInt8):trimL (c::l)=c::l:=by
 unfold trimL
 split
 ·rename_i h2;cases h2;exact absurd rfl h
 ·rfl
theorem zBt : ∀ {l:List UInt8},l≠[]->l.all isDig=true->trimL l=dec (val l)
 | [],h,_=>absurd rfl h
 | [c],_,hd=>by
  rw [trimL_one]
  symm
  apply zF1
  unfold canon
  rw [Bool.and_eq_true,Bool.and_eq_true]
  refine⟨⟨rfl,hd⟩,?_⟩
  split
  ·rename_i h;cases h
  ·rfl
 | c::d::l,_,hd=>by
  by_cases hc:c=48
  ·subst hc
   rw [List.all_cons,Bool.and_eq_true] at hd
   rw [zFJ,zBt (by simp) hd.2,zCp 48]
   have:dv 48=0:=rfl
   rw [this];simp
  ·rw [zFd hc]
   symm
   apply zF1
   unfold canon
   rw [Bool.and_eq_true,Bool.and_eq_true]
   refine⟨⟨rfl,hd⟩,?_⟩
   split
   ·rename_i h;cases h;exact absurd rfl hc
   ·rfl
end Go.Num
namespace Go.Proofs.Si
open Go Go.V Go.RowKit Go.Num
open Go.IntKind (i64 u64 u32 u8)
set_option maxRecDepth 100000
def bs (s:ByteArray):List UInt8:=s.data.toList
def mk (l:List UInt8):ByteArray:=⟨l.toArray⟩
def rest (s:ByteArray) (i:Nat):List UInt8:=(bs s).drop i
theorem zAg (s:ByteArray):s.size=(bs s).length:=Array.length_toList.symm
theorem zEN (s:ByteArray) (i:Nat):(rest s i).length=s.size - i:=by rw [rest,List.length_drop,zAg]
theorem zEM {s:ByteArray} {i:Nat} (h:s.size<=i):rest s i=[]:=List.drop_eq_nil_of_le (by rw [<- zAg];exact h)
theorem zDP {s:ByteArray} {i:Nat} (h:i<s.size):rest s i=(bs s).getD i 0::rest s (i+1):=by
 have hl:i<(bs s).length:=by rw [<- zAg];exact h
 rw [rest,List.drop_eq_getElem_cons hl,rest]
 congr 1
 simp [List.getD,List.getElem?_eq_getElem hl]
theorem bt_eq (s:ByteArray) (i:Nat):bt s (i:Int)=(((bs s).getD i 0).toNat:Int):=rfl
theorem zAw (a b:ByteArray):(a.toList==b.toList)=decide (bs a=bs b):=by
 rw [Lib.toList_data,Lib.toList_data,Bool.eq_iff_iff,beq_iff_eq,decide_eq_true_eq]
 rfl
theorem zAW (s:ByteArray) (i j:Nat):bs (s.extract i j)=(rest s i).take (j - i):=by
 simp [bs,rest,ByteArray.data_extract]
theorem bs_mk (l:List UInt8):bs (mk l)=l:=by simp [bs,mk]
theorem mk_bs (s:ByteArray):mk (bs s)=s:=by cases s;simp [mk,bs]
theorem zGi {a b:ByteArray} (h:bs a=bs b):a=b:=by rw [<- mk_bs a,<- mk_bs b,h]
theorem zAP (a b:ByteArray):bs (a++b)=bs a++bs b:=by simp [bs]
theorem zDo (s t:ByteArray):(s++t).size=s.size+t.size:=by rw [zAg,zAP,List.length_append,<- zAg,<- zAg]
theorem zAh {i:Nat} (h:i<9223372036854775807):i64.wrap ((i:Int)+1)=((i+1:Nat):Int):=by
 rw [zAf] <;> omega
theorem wrap_pred {i:Nat} (h:i<9223372036854775807) (h0:0<i):i64.wrap ((i:Int) - 1)=((i - 1:Nat):Int):=by
 rw [zAf] <;> omega
def mu1 (N:Nat):List Value->World->Nat
 | .int _ n::_,_=>N - n.toNat
 | _,_=>0
def muD:List Value->World->Nat
 | .int _ n::_,_=>(n+1).toNat
 | _,_=>0
def mu2:List Value->World->Nat
 | .string s::_,_=>s.size
 | _,_=>0
theorem u8_beq (c:UInt8) (n:Nat) (hn:n<256):((c.toNat:Int)==(n:Int))=(c==UInt8.ofNat n):=by
 rw [Bool.eq_iff_iff,beq_iff_eq,beq_iff_eq]
 constructor
 ·intro h
  apply UInt8.toNat_inj.1
  rw [UInt8.toNat_ofNat']
  omega
 ·intro h
  rw [h,UInt8.toNat_ofNat']
  omega
def u8v (c:UInt8):Value := .int .u8 (c.toNat:Int)
theorem zDg (n:Nat):madeCells (Value.int .u8 0).cells n=((List.replicate n (0:UInt8)).map u8v).toArray:=by
 apply Array.ext
 ·simp [madeCells]
 ·intro i h1 h2
  simp [madeCells,Value.cells,Nat.mod_one,u8v]
def BytesIn (w:World) (b:Nat) (l:List UInt8):Prop:=w.heap[b]? = some (.cells (l.map u8v).toArray 5 (0,0))
theorem BytesIn.cell {w:World} {b:Nat} {l:List UInt8} (h:BytesIn w b l) {i:Nat} {c:UInt8} (hi:l[i]? = some c):w.cell? ⟨b,i,none⟩=some (u8v c):=by
 rw [zAm h];simp [hi]
theorem BytesIn.set {w:World} {b:Nat} {l:List UInt8} (h:BytesIn w b l) (i:Nat) (c:UInt8):BytesIn (w.setCell ⟨b,i,none⟩ (u8v c)) b (l.set i c):=by
 unfold BytesIn
 rw [zAY h]
 simp [List.map_set]
theorem BytesIn.at {w:World} {b:Nat} {l:List UInt8} (h:BytesIn w b l):zD9 w (some ⟨b,0,none⟩) l.length l:=by
 refine⟨rfl,.inr ⟨_,rfl,rfl,fun i hi=>?_⟩⟩
 rw [Nat.zero_add,h.cell (List.getElem?_eq_getElem hi)]
 simp [u8v,List.getD,List.getElem?_eq_getElem hi]
theorem BytesIn.ext {w w' : World} {b:Nat} {l:List UInt8} (h:BytesIn w b l) (he:Ext w w'):BytesIn w' b l:=he.blk h
theorem dec_digit : ∀ (k n:Nat),k<(dec n).length->dv ((dec n).getD ((dec n).length - 1 - k) 0)=n / 10 ^ k % 10:=by
 intro k
 induction k with
 | zero =>
  intro n _
  by_cases h:n<10
  ·rw [zA5 h]
   simp [zDm h,Nat.mod_eq_of_lt h]
  ·rw [zBL h]
   simp only [List.length_append,List.length_singleton,Nat.add_sub_cancel,Nat.sub_zero,Nat.pow_zero,Nat.div_one]
   rw [List.getD,List.getElem?_append_right (Nat.le_refl _),Nat.sub_self]
   exact zDm (Nat.mod_lt n (by omega))
 | succ k ih =>
  intro n hk
  by_cases h:n<10
  ·rw [zA5 h] at hk;simp at hk
  ·rw [zBL h] at hk ⊢
   simp only [List.length_append,List.length_singleton,Nat.add_sub_cancel] at hk ⊢
   rw [List.getD,List.getElem?_append_left (by omega),<- List.getD]
   have:=ih (n / 10) (by omega)
   rw [show (dec (n / 10)).length - (k+1)=(dec (n / 10)).length - 1 - k by omega,this,Nat.div_div_eq_div_mul,Nat.pow_succ,Nat.mul_comm]
theorem zCR {k n:Nat} (h:(dec n).length<=k):n / 10 ^ k=0:=by
 have h1:=zDq (zAH n)
 rw [zAF] at h1
 exact Nat.div_eq_of_lt (Nat.lt_of_lt_of_le h1 (Nat.pow_le_pow_right (by omega) h))
theorem zBD {k n:Nat} (h:k<(dec n).length):isDig ((dec n).getD k 0)=true:=by
 rw [List.getD,List.getElem?_eq_getElem h]
 exact List.all_eq_true.1 (zAH n) _ (List.getElem_mem h)
theorem zB1 (n:Nat):n<10 ^ (dec n).length:=by
 have h1:=zDq (zAH n)
 rw [zAF] at h1
 exact h1
end Go.Proofs.Si
namespace Go.Num
set_option maxRecDepth 100000
def sgn (neg:Bool) (a:Nat):Int:=if neg then -(a:Int) else a
theorem zCd (neg:Bool) (a:Nat):(sgn neg a).natAbs=a:=by cases neg <;> simp [sgn]
def red (neg:Bool) (a b:Nat):Rat:=mkRat (sgn neg a) b
theorem zD0 (neg:Bool) (a:Nat) {b:Nat} (hb:b≠0):(red neg a b).num=sgn neg (a / Nat.gcd a b):=by
 unfold red
 rw [Rat.num_mkRat,if_neg hb,zCd,Nat.gcd_comm]
 cases neg with
 | false=>simp [sgn]
 | true =>
  have hd:((Nat.gcd a b:Nat):Int) ∣ (a:Int):=Int.natCast_dvd_natCast.2 (Nat.gcd_dvd_left a b)
  simp only [sgn,if_true]
  rw [Int.neg_ediv_of_dvd hd]
  simp
theorem zEo (neg:Bool) (a:Nat) {b:Nat} (hb:b≠0):(red neg a b).den=b / Nat.gcd a b:=by
 unfold red
 rw [Rat.den_mkRat,if_neg hb,zCd,Nat.gcd_comm]
theorem zGy (q:Rat):red (decide (q.num<0)) q.num.natAbs q.den=q:=by
 unfold red sgn
 conv=>rhs;rw [<- Rat.mkRat_self q]
 congr 1
 by_cases h:q.num<0
 ·rw [decide_eq_true h,if_pos rfl];omega
 ·rw [decide_eq_false h,if_neg (by decide)];omega
theorem sgn_neg {neg:Bool} {a:Nat} : sgn neg a<0↔neg=true/\a≠0:=by
 cases neg
 ·simp [sgn]
 ·simp [sgn];omega
def txt3 (neg:Bool) (a b:Nat):List UInt8:=(if neg then [45] else [])++dec a++(if b=1 then [] else 47::dec b)
def txtQ (q:Rat):List UInt8:=txt3 (decide (q.num<0)) q.num.natAbs q.den
def zAv:List UInt8->Bool × List UInt8
 | 45::l=>(true,l)
 | l=>(false,l)
def dqCut (l:List UInt8):List UInt8 × List UInt8 :=
 if (l.takeWhile (· != 47)).length<l.length then (l.takeWhile (· != 47),l.drop ((l.takeWhile (· != 47)).length+1)) else (l,[49])
theorem dig_ne {c:UInt8} (h:isDig c=true):c≠45/\c≠47:=by
 obtain⟨h1,h2⟩:=zBw h
 constructor <;> (rintro rfl;revert h1 h2;decide)
theorem zEC (n:Nat) : ∃ c l,dec n=c::l/\isDig c=true:=by
 cases h:dec n with
 | nil=>exact absurd h (zBm n)
 | cons c l =>
  have:=zAH n
  rw [h,List.all_cons,Bool.and_eq_true] at this
  exact⟨c,l,rfl,this.1⟩
theorem zEL {l:List UInt8} (h:l.all isDig=true) (r:List UInt8):(l++47::r).takeWhile (· != 47)=l:=by
 induction l with
 | nil=>simp
 | cons c l ih =>
  rw [List.all_cons,Bool.and_eq_true] at h
  have:(c != 47)=true:=by rw [bne_iff_ne];exact (dig_ne h.1).2
  rw [List.cons_append,List.takeWhile_cons,this,if_pos rfl,ih h.2]
theorem zDF {l:List UInt8} (h:l.all isDig=true):l.takeWhile (· != 47)=l:=by
 induction l with
 | nil=>rfl
 | cons c l ih =>
  rw [List.all_cons,Bool.and_eq_true] at h
  have:(c != 47)=true:=by rw [bne_iff_ne];exact (dig_ne h.1).2
  rw [List.takeWhile_cons,this,if_pos rfl,ih h.2]
theorem zCm (neg:Bool) (a b:Nat):zAv (txt3 neg a b)=(neg,dec a++(if b=1 then [] else 47::dec b)):=by
 unfold txt3
 cases neg with
 | true=>rfl
 | false =>
  obtain⟨c,l,e,hc⟩:=zEC a
  rw [if_neg (by decide),List.nil_append,e,List.cons_append]
  unfold zAv
  split
  ·rename_i h;cases h;exact absurd rfl (dig_ne hc).1
  ·rfl
theorem zCP (a b:Nat):dqCut (dec a++(if b=1 then [] else 47::dec b))=(dec a,dec b):=by
 unfold dqCut
 by_cases hb:b=1
 ·subst hb
  rw [if_pos rfl,List.append_nil,zDF (zAH a),if_neg (Nat.lt_irrefl _),zA5 (n:=1) (by omega)];rfl
 ·rw [if_neg hb,zEL (zAH a),if_pos (by simp)]
  congr 1
  rw [<- List.drop_drop,List.drop_left];rfl
def okQ (l:List UInt8):Bool :=
 let num:=(dqCut (zAv l).2).1
 let den:=(dqCut (zAv l).2).2
 (!decide (num=[])&&num.all isDig)&&(!decide (den=[])&&den.all isDig)&&!decide (den=[48])&&decide (trimL num=num)&&decide (trimL den=den)&&decide (txtQ (red (zAv l).1 (val num) (val den))=l)
theorem trim_dec (n:Nat):trimL (dec n)=dec n:=by rw [zBt (zBm n) (zAH n),zAF]
theorem okQ_txt (q:Rat):okQ (txtQ q)=true:=by
 have h1:zAv (txtQ q)=_:=zCm _ _ _
 have h2:=zCP q.num.natAbs q.den
 unfold okQ
 simp only [h1,h2,zAF,zGy,trim_dec,zAH,decide_true,Bool.and_true,Bool.and_eq_true,Bool.not_eq_true',decide_eq_false_iff_not]
 refine⟨⟨zBm _,zBm _⟩,fun h=>?_⟩
 rw [<- zBc] at h
 exact q.den_nz (zC0 h)
theorem zB5 {l:List UInt8} : okQ l=true↔∃ q,l=txtQ q:=by
 constructor
 ·intro h
  unfold okQ at h
  rw [Bool.and_eq_true,decide_eq_true_eq] at h
  exact⟨_,h.2.symm⟩
 ·rintro⟨q,rfl⟩
  exact okQ_txt q
theorem zA1 {p q:Rat} (h:txtQ p=txtQ q):p=q:=by
 have h1:zAv (txtQ p)=_:=zCm _ _ _
 have h2:zAv (txtQ q)=_:=zCm _ _ _
 rw [h,h2] at h1
 obtain⟨e1,e2⟩:=Prod.mk.inj h1
 have h3:=zCP p.num.natAbs p.den
 have h4:=zCP q.num.natAbs q.den
 rw [<- e2,h4] at h3
 obtain⟨e3,e4⟩:=Prod.mk.inj h3
 rw [<- zGy p,<- zGy q,<- e1,zC0 e3,zC0 e4]
theorem zGh {l:List UInt8} (hne:l≠[]) (hd:l.all isDig=true) (ht:trimL l=l):l=dec (val l):=by rw [<- zBt hne hd,ht]
theorem txt_len (neg:Bool) (a b:Nat):(txt3 neg a b).length<=(dec a).length+(dec b).length+2:=by
 unfold txt3
 rw [List.length_append,List.length_append]
 split <;> split <;> simp only [List.length_cons,List.length_nil] <;> omega
def lv:List Nat->Nat
 | []=>0
 | x::l=>x+1000000000*lv l
def okL (l:List Nat):Prop:=∀ x∈l,x<1000000000
theorem zCH:lv []=0:=rfl
theorem zCJ (x:Nat) (l:List Nat):lv (x::l)=x+1000000000*lv l:=rfl
theorem zBX {x:Nat} {l:List Nat} : okL (x::l)↔x<1000000000/\okL l:=by simp [okL]
theorem zBQ:okL []:=by simp [okL]
theorem zFq {a b:List Nat} : okL (a++b)↔okL a/\okL b:=by
 simp only [okL,List.mem_append]
 constructor
 ·exact fun h=>⟨fun x hx=>h x (.inl hx),fun x hx=>h x (.inr hx)⟩
 ·rintro⟨h1,h2⟩ x (hx | hx)
  ·exact h1 x hx
  ·exact h2 x hx
theorem zBK {a:List Nat} (h:okL a) (i:Nat):okL (a.take i):=fun x hx=>h x (List.mem_of_mem_take hx)
theorem okL_get {a:List Nat} (h:okL a) {i x:Nat} (hi:a[i]? = some x):x<1000000000:=h x (List.mem_of_getElem? hi)
theorem zAz {a:List Nat} (h:okL a) (i:Nat):a.getD i 0<1000000000:=by
 rw [List.getD_eq_getElem?_getD]
 cases hi:a[i]? with
 | none=>simp
 | some x=>exact okL_get h hi
theorem zEr {a:List Nat} (h:okL a) (i:Nat) {x:Nat} (hx:x<1000000000):okL (a.set i x):=by
 intro y hy
 rcases List.mem_or_eq_of_mem_set hy with h1 | h1
 ·exact h y h1
 ·rw [h1];exact hx
theorem lv_app : ∀ (a b:List Nat),lv (a++b)=lv a+1000000000 ^ a.length*lv b
 | [],b=>by simp [zCH]
 | x::a,b=>by
  have:1000000000 ^ a.length*1000000000*lv b=1000000000*(1000000000 ^ a.length*lv b):=by rw [Nat.mul_comm (1000000000 ^ a.length) 1000000000,Nat.mul_assoc]
  rw [List.cons_append,zCJ,zCJ,lv_app a b,List.length_cons,Nat.pow_succ,Nat.mul_add,this]
  omega
theorem lv_one (x:Nat):lv [x]=x:=by simp [lv]
theorem zD4 (a:List Nat) (x:Nat):lv (a++[x])=lv a+1000000000 ^ a.length*x:=by rw [lv_app,lv_one]
theorem lv_lt : ∀ {a:List Nat},okL a->lv a<1000000000 ^ a.length
 | [],_=>by simp [zCH]
 | x::a,h=>by
  rw [zBX] at h
  have:=lv_lt h.2
  rw [zCJ,List.length_cons,Nat.pow_succ]
  omega
theorem zBY (a:List Nat) (i:Nat) (hi:i<=a.length):lv a=lv (a.take i)+1000000000 ^ i*lv (a.drop i):=by
 conv=>lhs;rw [<- List.take_append_drop i a]
 rw [lv_app,List.length_take,Nat.min_eq_left hi]
theorem zCM {a:List Nat} {i:Nat} (h:i<a.length):a.getD i 0=a[i]:=by simp [List.getD,List.getElem?_eq_getElem h]
theorem zCG {a:List Nat} {i:Nat} (h:i<a.length):lv (a.take (i+1))=lv (a.take i)+1000000000 ^ i*a.getD i 0:=by
 rw [List.take_add_one,List.getElem?_eq_getElem h,Option.toList_some,zD4,List.length_take,Nat.min_eq_left (Nat.le_of_lt h),zCM h]
theorem zF9 {a:List Nat} {i:Nat} (h:a.length<=i):lv (a.take (i+1))=lv (a.take i)+1000000000 ^ i*a.getD i 0:=by
 rw [List.take_of_length_le h,List.take_of_length_le (Nat.le_succ_of_le h)]
 simp [List.getD,List.getElem?_eq_none h]
theorem zA4 (a:List Nat) (i:Nat):lv (a.take (i+1))=lv (a.take i)+1000000000 ^ i*a.getD i 0:=by
 by_cases h:i<a.length
 ·exact zCG h
 ·exact zF9 (by omega)
theorem zAE {a:List Nat} {i:Nat} (h:i<a.length):lv (a.drop i)=a.getD i 0+1000000000*lv (a.drop (i+1)):=by
 rw [List.drop_eq_getElem_cons h,zCJ,zCM h]
theorem lv_set : ∀ {a:List Nat} {i:Nat} (x:Nat),i<a.length->lv (a.set i x)+1000000000 ^ i*a.getD i 0=lv a+1000000000 ^ i*x
 | [],i,x,h=>by simp at h
 | y::a,0,x,_=>by simp [zCJ];omega
 | y::a,i+1,x,h=>by
  have:=lv_set (a:=a) (i:=i) x (by simpa using h)
  have h1 : ∀ z,1000000000 ^ i*1000000000*z=1000000000*(1000000000 ^ i*z):=fun z=>by rw [Nat.mul_comm (1000000000 ^ i) 1000000000,Nat.mul_assoc]
  rw [List.set_cons_succ,zCJ,zCJ,List.getD_cons_succ,Nat.pow_succ,h1,h1]
  omega
theorem lv_zero (n:Nat):lv (List.replicate n 0)=0:=by
 induction n with
 | zero=>rfl
 | succ n ih=>rw [List.replicate_succ,zCJ,ih]
theorem zG2 (n:Nat):okL (List.replicate n 0):=fun x hx=>by rw [List.eq_of_mem_replicate hx];omega
def normL (a:List Nat):Prop:=a.getLast?≠some 0
def trimN (a:List Nat):Nat->Nat
 | 0=>0
 | n+1=>if a.getD n 0=0 then trimN a n else n+1
theorem zDE (a:List Nat) : ∀ n,trimN a n<=n
 | 0=>Nat.le_refl _
 | n+1=>by
  rw [trimN]
  split
  ·exact Nat.le_succ_of_le (zDE a n)
  ·exact Nat.le_refl _
theorem zGu (a:List Nat) : ∀ n,lv (a.take (trimN a n))=lv (a.take n)
 | 0=>rfl
 | n+1=>by
  rw [trimN]
  split
  ·rename_i h
   rw [zGu a n,zA4,h];simp
  ·rfl
theorem zFH (a:List Nat) : ∀ n,n<=a.length->normL (a.take (trimN a n))
 | 0,_=>by simp [trimN,normL]
 | n+1,h=>by
  rw [trimN]
  split
  ·exact zFH a n (by omega)
  ·rename_i h0
   unfold normL
   rw [List.getLast?_eq_getElem?,List.length_take,Nat.min_eq_left h,Nat.add_sub_cancel,List.getElem?_take_of_lt (by omega),List.getElem?_eq_getElem (by omega)]
   intro e
   rw [zCM (by omega)] at h0
   exact h0 (Option.some.inj e)
theorem zEs {a:List Nat} (hn:normL a) (h:0<a.length):1000000000 ^ (a.length - 1)<=lv a:=by
 obtain⟨b,x,rfl⟩ : ∃ b x,a=b++[x]:=⟨a.dropLast,a.getLast (List.ne_nil_of_length_pos h),(List.dropLast_concat_getLast _).symm⟩
 rw [zD4,List.length_append,List.length_singleton,Nat.add_sub_cancel]
 have:x≠0:=by
  intro e
  unfold normL at hn
  rw [e] at hn
  simp at hn
 have h1:=Nat.mul_le_mul_left (1000000000 ^ b.length) (show 1<=x by omega)
 omega
theorem zFr {a:List Nat} (hn:normL a) (h:0<a.length):a.getD (a.length - 1) 0≠0:=by
 intro e
 apply hn
 rw [List.getLast?_eq_getElem?,List.getElem?_eq_getElem (by omega)]
 rw [zCM (by omega)] at e
 rw [e]
theorem zCv {a b:List Nat} (ha:okL a) (hb:normL b) (h:lv b<=lv a):b.length<=a.length:=by
 by_cases h0:0<b.length
 ·have h1:=zEs hb h0
  have h2:=lv_lt ha
  have h3:1000000000 ^ (b.length - 1)<1000000000 ^ a.length:=by omega
  have:=(Nat.pow_lt_pow_iff_right (by omega:1<1000000000)).1 h3
  omega
 ·omega
theorem lv_cmp {a b:List Nat} {j:Nat} (ha:okL a) (hb:okL b) (hja:j<a.length) (hjb:j<b.length) (h:lv (a.drop (j+1))=lv (b.drop (j+1))) (hd:a.getD j 0<b.getD j 0):lv a<lv b:=by
 rw [zBY a j (by omega),zBY b j (by omega),zAE hja,zAE hjb,h]
 have h1:=lv_lt (zBK ha j)
 rw [List.length_take,Nat.min_eq_left (by omega)] at h1
 generalize 1000000000*lv (b.drop (j+1))=D
 have h2:1000000000 ^ j*(a.getD j 0+D)+1000000000 ^ j<=1000000000 ^ j*(b.getD j 0+D):=by
  rw [<- Nat.mul_succ]
  exact Nat.mul_le_mul_left _ (by omega)
 omega
end Go.Num
namespace Go.V
open Go Go.RowKit
theorem zG6 {p:Nat->Prop} (h : ∃ n,p n) : ∃ n,p n/\∀ m,p m->n<=m:=by
 obtain⟨n,hn⟩:=h
 induction n using Nat.strongRecOn with
 | ind n ih =>
  by_cases hm : ∃ m,m<n/\p m
  ·obtain⟨m,h1,h2⟩:=hm
   exact ih m h1 h2
  ·exact⟨n,hn,fun m h=>Nat.le_of_not_lt fun hlt=>hm ⟨m,hlt,h⟩⟩
theorem ghost {G:Type} (I:G->List Value->World->Prop) (μ:G->Nat) : ∃ (I' : List Value->World->Prop) (μ' : List Value->World->Nat),
  (∀ g vs w,I g vs w->I' vs w)/\∀ vs w,I' vs w->∃ g,I g vs w/\∀ g' vs' w',I g' vs' w'->μ g' < μ g->I' vs' w'/\μ' vs' w' < μ' vs w:=by
 classical
 let q:List Value->World->Nat->Prop:=fun vs w n=>∃ g,I g vs w/\μ g=n
 refine⟨fun vs w=>∃ g,I g vs w,fun vs w=>if h : ∃ n,q vs w n then Classical.choose (zG6 h) else 0,fun g vs w h=>⟨g,h⟩,fun vs w hI=>?_⟩
 obtain⟨g0,hg0⟩:=hI
 have hq : ∃ n,q vs w n:=⟨_,g0,hg0,rfl⟩
 obtain⟨⟨g,hg,hge⟩,hmin⟩:=Classical.choose_spec (zG6 hq)
 refine⟨g,hg,fun g' vs' w' h' hlt=>⟨⟨g',h'⟩,?_⟩⟩
 have hq' : ∃ n,q vs' w' n:=⟨_,g',h',rfl⟩
 obtain⟨_,hmin'⟩:=Classical.choose_spec (zG6 hq')
 have h1:=hmin' (μ g') ⟨g',h',rfl⟩
 show dite _ _ _<dite _ _ _
 rw [dif_pos hq,dif_pos hq',<- hge]
 exact Nat.lt_of_le_of_lt h1 hlt
def Blk (w:World) (b ty:Nat) (L:List Value):Prop:=∃ tl:List Value,w.heap[b]? = some (.cells (L++tl).toArray ty (0,0))
theorem Blk.of {w:World} {b ty:Nat} {L:List Value} (h:w.heap[b]? = some (.cells L.toArray ty (0,0))):Blk w b ty L:=⟨[],by rw [List.append_nil];exact h⟩
theorem Blk.lt {w:World} {b ty:Nat} {L:List Value} (h:Blk w b ty L):b<w.heap.size:=by
 obtain⟨tl,h⟩:=h
 exact (Array.getElem?_eq_some_iff.1 h).1
theorem Blk.cell {w:World} {b ty:Nat} {L:List Value} (h:Blk w b ty L) {j:Nat} {v:Value} (hj:L[j]? = some v):w.cell? ⟨b,j,none⟩=some v:=by
 obtain⟨tl,h⟩:=h
 rw [cell_of_row _ _ _ _ _ _ h]
 have hl:=(List.getElem?_eq_some_iff.1 hj).1
 rw [List.getElem?_toArray,List.getElem?_append_left hl]
 exact hj
theorem Blk.free {w:World} {b ty j:Nat} {L:List Value} (h:Blk w b ty L):w.frozen? ⟨b,j,none⟩=false:=by
 obtain⟨tl,h⟩:=h
 exact frozen_of_row _ _ _ _ _ h
theorem Blk.same {w w' : World} {b ty:Nat} {L:List Value} (h:Blk w b ty L) (he:w'.heap[b]? = w.heap[b]?):Blk w' b ty L:=by
 obtain⟨tl,h⟩:=h
 exact⟨tl,he.trans h⟩
theorem Blk.ext {w w' : World} {b ty:Nat} {L:List Value} (h:Blk w b ty L) (he:Ext w w'):Blk w' b ty L:=h.same (he.block _ h.lt)
theorem Blk.below {w w' : World} {b ty B:Nat} {L:List Value} (h:Blk w b ty L) (hB:b<B) (he:Below B w w'):Blk w' b ty L:=h.same (he.block _ hB)
theorem Blk.set {w:World} {b ty:Nat} {L:List Value} (h:Blk w b ty L) (j:Nat) (v:Value) (hj:j<L.length):Blk (w.setCell ⟨b,j,none⟩ v) b ty (L.set j v):=by
 obtain⟨tl,h⟩:=h
 refine⟨tl,?_⟩
 simp only [World.setCell,Array.getElem?_modify,if_true,h,Option.map_some]
 simp [List.set_append,hj]
theorem Blk.row {w:World} {b ty:Nat} {L:List Value} (h:Blk w b ty L):RowAt w ⟨b,0,none⟩ L:=fun j v hj=>by
 rw [zAk,Nat.zero_add]
 exact h.cell hj
theorem Blk.sl {w:World} {b ty:Nat} {L:List Value} (h:Blk w b ty L):SlAt w (some ⟨b,0,none⟩) L := .inr ⟨_,rfl,rfl,h.row⟩
theorem Blk.new (w:World) (L:List Value) (e:Nat):Blk (w.alloc (.cells L.toArray e)) w.heap.size e L:=Blk.of (heap_alloc_new w _)
theorem Blk.writable {w:World} {b ty o n:Nat} {L:List Value} (h:Blk w b ty L) (hn:o+n<=L.length):writable w ⟨b,o,none⟩ n:=by
 intro i hi
 rw [zAk]
 exact⟨⟨_,h.cell (List.getElem?_eq_getElem (show o+i<L.length by omega))⟩,h.free⟩
def setL:List Value->Nat->List Value->List Value
 | A,_,[]=>A
 | A,k,v::vs=>setL (A.set k v) (k+1) vs
theorem zBP : ∀ (A:List Value) (k:Nat) (L:List Value),(setL A k L).length=A.length
 | A,_,[]=>rfl
 | A,k,v::vs=>by rw [setL,zBP,List.length_set]
theorem zDM : ∀ (A:List Value) (k:Nat) (L:List Value) (j:Nat),j<A.length->(setL A k L)[j]? = if k<=j/\j<k+L.length then L[j - k]? else A[j]?
 | A,k,[],j,_=>by
  rw [setL,if_neg]
  simp only [List.length_nil]
  omega
 | A,k,v::vs,j,hj=>by
  rw [setL,zDM _ _ _ _ (by rw [List.length_set];exact hj),List.length_cons]
  by_cases h1:j=k
  ·subst h1
   rw [if_neg (by omega),if_pos (by omega),List.getElem?_set]
   simp [hj]
  ·by_cases h2:k+1<=j/\j<k+1+vs.length
   ·rw [if_pos h2,if_pos (by omega),show j - k=(j - (k+1))+1 by omega,List.getElem?_cons_succ]
   ·rw [if_neg h2,if_neg (by omega),List.getElem?_set,if_neg (fun e=>h1 e.symm)]
theorem Blk.setCells {b ty o:Nat} : ∀ {w:World} {A:List Value} (L:List Value) (i:Nat),Blk w b ty A->o+i+L.length<=A.length->Blk (setCells w ⟨b,o,none⟩ i L) b ty (setL A (o+i) L)
 | w,A,[],i,h,_=>h
 | w,A,v::vs,i,h,hn=>by
  rw [List.length_cons] at hn
  rw [V.setCells,setL,zAk]
  exact Blk.setCells vs (i+1) (h.set (o+i) v (by omega)) (by rw [List.length_set];omega)
theorem zCs {b o:Nat} : ∀ {w:World} (L:List Value) (i:Nat),(setCells w ⟨b,o,none⟩ i L).heap.size=w.heap.size
 | w,[],i=>rfl
 | w,v::vs,i=>by rw [V.setCells,zCs vs (i+1),zAk,zCA]
theorem zAx {b o k:Nat} (hk:k≠b) : ∀ {w:World} (L:List Value) (i:Nat),(setCells w ⟨b,o,none⟩ i L).heap[k]? = w.heap[k]?
 | w,[],i=>rfl
 | w,v::vs,i=>by rw [V.setCells,zAx hk vs (i+1),zAk,zAs hk]
theorem zAr {B b o:Nat} (hB:B<=b) : ∀ {w:World} (L:List Value) (i:Nat),Below B w (setCells w ⟨b,o,none⟩ i L)
 | w,[],i=>Below.refl _ _
 | w,v::vs,i=>by
  rw [V.setCells,zAk]
  exact (Below.setCell (Below.refl B w) (p:=⟨b,o+i,none⟩) hB v).trans (zAr hB vs (i+1))
theorem Blk.vcells {w:World} {b ty o:Nat} {A L:List Value} (h:Blk w b ty A) (hL : ∀ j,j<L.length->A[o+j]? = L[j]?):vcells w ⟨b,o,none⟩ 0 L:=by
 rw [zAC]
 intro j v hj
 rw [zAk,Nat.zero_add]
 exact h.cell ((hL j (List.getElem?_eq_some_iff.1 hj).1).trans hj)
theorem Blk.put {w:World} {b ty:Nat} {A:List Value} (h:Blk w b ty A) (L:List Value) (hl:L.length=A.length):Blk (V.setCells w ⟨b,0,none⟩ 0 L) b ty L:=by
 have h1:=h.setCells (o:=0) L 0 (by omega)
 have e:setL A (0+0) L=L:=by
  apply List.ext_getElem?
  intro j
  by_cases hj:j<A.length
  ·rw [zDM _ _ _ _ hj,if_pos (by omega),show j - (0+0)=j by omega]
  ·rw [List.getElem?_eq_none (by rw [zBP];omega),List.getElem?_eq_none (by omega)]
 rw [e] at h1
 exact h1
theorem Blk.all {w:World} {b ty:Nat} {L:List Value} (h:Blk w b ty L):V.vcells w ⟨b,0,none⟩ 0 L:=h.vcells fun j _=>by rw [Nat.zero_add]
theorem Ext.put {w0 w:World} (h:Ext w0 w) {b o:Nat} (hb:w0.heap.size<=b) (L:List Value) (i:Nat):Ext w0 (V.setCells w ⟨b,o,none⟩ i L):=Below.trans h (zAr hb L i)
theorem Ext.setCell {w0 w:World} (h:Ext w0 w) {b o:Nat} (hb:w0.heap.size<=b) (v:Value):Ext w0 (w.setCell ⟨b,o,none⟩ v):=Below.setCell h (p:=⟨b,o,none⟩) hb v
theorem Ext.from_alloc {w w2:World} {o:Obj} (h:Ext (w.alloc o) w2):Ext w w2:=((Ext.refl w).alloc o).trans h
def Box (w:World) (b ty:Nat) (A:List Value):Prop:=w.heap[b]? = some (.cells A.toArray ty (0,0))
theorem Box.new (w:World) (A:List Value) (e:Nat):Box (w.alloc (.cells A.toArray e)) w.heap.size e A:=heap_alloc_new w _
theorem Box.ext {w w' : World} {b ty:Nat} {A:List Value} (h:Box w b ty A) (he:Ext w w'):Box w' b ty A:=he.blk h
theorem Box.same {w w' : World} {b ty:Nat} {A:List Value} (h:Box w b ty A) (he:w'.heap[b]? = w.heap[b]?):Box w' b ty A:=he.trans h
theorem Box.blk {w:World} {b ty:Nat} {A:List Value} (h:Box w b ty A):Blk w b ty A:=Blk.of h
theorem Box.lt {w:World} {b ty:Nat} {A:List Value} (h:Box w b ty A):b<w.heap.size:=h.blk.lt
theorem Box.set {w:World} {b ty:Nat} {A:List Value} (h:Box w b ty A) (j:Nat) (v:Value):Box (w.setCell ⟨b,j,none⟩ v) b ty (A.set j v):=by
 unfold Box at h ⊢
 simp only [World.setCell,Array.getElem?_modify,if_true,h,Option.map_some]
 simp
theorem Box.setCells {b ty o:Nat} : ∀ {w:World} {A:List Value} (L:List Value) (i:Nat),Box w b ty A->Box (V.setCells w ⟨b,o,none⟩ i L) b ty (setL A (o+i) L)
 | w,A,[],i,h=>h
 | w,A,v::vs,i,h=>by
  rw [V.setCells,setL,zAk]
  exact Box.setCells vs (i+1) (h.set (o+i) v)
theorem Box.put {w:World} {b ty:Nat} {A:List Value} (h:Box w b ty A) (L:List Value) (hl:L.length=A.length):Box (V.setCells w ⟨b,0,none⟩ 0 L) b ty L:=by
 have h1:=h.setCells (o:=0) L 0
 have e:setL A (0+0) L=L:=by
  apply List.ext_getElem?
  intro j
  by_cases hj:j<A.length
  ·rw [zDM _ _ _ _ hj,if_pos (by omega),show j - (0+0)=j by omega]
  ·rw [List.getElem?_eq_none (by rw [zBP];omega),List.getElem?_eq_none (by omega)]
 rw [e] at h1
 exact h1
theorem SlAt.put {w:World} {a:Option Addr} {L:List Value} {b ty:Nat} {A:List Value} (h:SlAt w a L) (hb:Box w b ty A) (hno : ∀ v,v∈L->v∉A) (M:List Value) (o i:Nat):SlAt (V.setCells w ⟨b,o,none⟩ i M) a L:=by
 rcases h with h | ⟨ad,h1,h2,h3⟩
 ·exact .inl h
 ·refine .inr ⟨ad,h1,h2,fun j v hj=>?_⟩
  have hc:=h3 j v hj
  obtain⟨ab,ao,aS⟩:=ad
  cases h2
  rw [zAk] at hc ⊢
  by_cases e:ab=b
  ·subst e
   rw [cell_of_row _ _ _ _ _ _ hb,List.getElem?_toArray] at hc
   exact absurd (List.mem_of_getElem? hc) (hno v (List.mem_of_getElem? hj))
  ·rw [World.cell?_of_block (w:=w) (zAx e M i)]
   exact hc
theorem SlAt.set {w:World} {a:Option Addr} {L:List Value} {b ty:Nat} {A:List Value} (h:SlAt w a L) (hb:Box w b ty A) (hno : ∀ v,v∈L->v∉A) (M:Value) (o:Nat):SlAt (w.setCell ⟨b,o,none⟩ M) a L:=by
 have:=h.put hb hno [M] o 0
 rw [V.setCells,zAk] at this
 exact this
end Go.V
namespace Go.Tb
def sumN:Nat->(Nat->Rat)->Rat
 | 0,_=>0
 | k+1,f=>sumN k f+f k
theorem zAG (f:Nat->Rat):sumN 0 f=0:=rfl
theorem zAo (k:Nat) (f:Nat->Rat):sumN (k+1) f=sumN k f+f k:=rfl
theorem zAi {f g:Nat->Rat} : ∀ {k:Nat},(∀ i,i<k->f i=g i)->sumN k f=sumN k g
 | 0,_=>rfl
 | k+1,h=>by rw [zAo,zAo,zAi fun i hi=>h i (by omega),h k (by omega)]
theorem zB8 (k:Nat) (f g:Nat->Rat):sumN k (fun i=>f i+g i)=sumN k f+sumN k g:=by
 induction k with
 | zero=>simp only [sumN];grind
 | succ k ih=>rw [zAo,zAo,zAo,ih];grind
theorem zGv (k:Nat) (f g:Nat->Rat):sumN k (fun i=>f i - g i)=sumN k f - sumN k g:=by
 induction k with
 | zero=>simp only [sumN];grind
 | succ k ih=>rw [zAo,zAo,zAo,ih];grind
theorem zBn (k:Nat) (c:Rat) (f:Nat->Rat):sumN k (fun i=>c*f i)=c*sumN k f:=by
 induction k with
 | zero=>simp [sumN]
 | succ k ih=>rw [zAo,zAo,ih];grind
theorem zDH (k:Nat) (f:Nat->Rat):sumN k (fun i => - f i) = - sumN k f:=by
 induction k with
 | zero=>simp [sumN]
 | succ k ih=>rw [zAo,zAo,ih];grind
theorem zAM {k:Nat} {f:Nat->Rat} (h : ∀ i,i<k->f i=0):sumN k f=0:=by
 rw [zAi (g:=fun _=>0) h]
 clear h
 induction k with
 | zero=>rfl
 | succ k ih=>rw [zAo,ih];grind
theorem zCh {k j:Nat} (hj:j<k) (f:Nat->Rat):sumN k f=f j+sumN k (fun i=>if i=j then 0 else f i):=by
 induction k with
 | zero=>omega
 | succ k ih =>
  rw [zAo,zAo]
  by_cases h:j=k
  ·subst h
   rw [if_pos rfl,zAi (k:=j) (g:=fun i=>if i=j then 0 else f i) fun i hi=>by rw [if_neg (by omega)]]
   grind
  ·rw [ih (by omega),if_neg (fun e=>h e.symm)];grind
theorem zAZ {k j:Nat} (hj:j<k) (f:Nat->Rat) (h : ∀ i,i<k->i≠j->f i=0):sumN k f=f j:=by
 rw [zCh hj,zAM fun i hi=>?_]
 ·grind
 ·split
  ·rfl
  ·exact h i hi (by assumption)
theorem zDJ (a b:Nat) (f:Nat->Nat->Rat):sumN a (fun i=>sumN b fun j=>f i j)=sumN b (fun j=>sumN a fun i=>f i j):=by
 induction a with
 | zero=>rw [zAG];exact (zAM fun _ _=>rfl).symm
 | succ a ih=>rw [zAo,ih,<- zB8];rfl
theorem zBN {k:Nat} {f:Nat->Rat} (h : ∀ i,i<k->0<=f i):0<=sumN k f:=by
 induction k with
 | zero=>rw [zAG];grind
 | succ k ih=>rw [zAo];have:=ih fun i hi=>h i (by omega);have:=h k (by omega);grind
theorem zDy {k:Nat} {f:Nat->Rat} (h:0<sumN k f) : ∃ i,i<k/\0<f i:=by
 induction k with
 | zero=>rw [zAG] at h;grind
 | succ k ih =>
  rw [zAo] at h
  by_cases hk:0<f k
  ·exact⟨k,by omega,hk⟩
  ·obtain⟨i,hi,hp⟩:=ih (by grind)
   exact⟨i,by omega,hp⟩
abbrev V2:=Rat × Rat
def lt2 (v w:V2):Prop:=v.1<w.1\/v.1=w.1/\v.2<w.2
def le2 (v w:V2):Prop:=v.1<w.1\/v.1=w.1/\v.2<=w.2
instance (v w:V2):Decidable (lt2 v w):=inferInstanceAs (Decidable (_\/_))
instance (v w:V2):Decidable (le2 v w):=inferInstanceAs (Decidable (_\/_))
theorem not_lt2 {v w:V2} : ¬ lt2 v w↔le2 w v:=by unfold lt2 le2;grind
def sum2 (k:Nat) (f:Nat->V2):V2:=(sumN k fun i=>(f i).1,sumN k fun i=>(f i).2)
def zero2:V2:=(0,0)
theorem sum2_nonneg {k:Nat} {f:Nat->V2} (h : ∀ i,i<k->le2 zero2 (f i)):le2 zero2 (sum2 k f):=by
 induction k with
 | zero=>right;exact⟨rfl,by show (0:Rat)<=0;grind⟩
 | succ k ih =>
  have h1:=ih fun i hi=>h i (by omega)
  have h2:=h k (by omega)
  simp only [sum2,le2,zero2,zAo] at h1 h2 ⊢
  grind
theorem sum2_pos {k j:Nat} {f:Nat->V2} (h : ∀ i,i<k->le2 zero2 (f i)) (hj:j<k) (hp:lt2 zero2 (f j)):lt2 zero2 (sum2 k f):=by
 induction k with
 | zero=>omega
 | succ k ih =>
  have h2:=h k (by omega)
  have h3:=sum2_nonneg (k:=k) fun i hi=>h i (by omega)
  by_cases hk:j=k
  ·subst hk
   simp only [sum2,le2,lt2,zero2,zAo] at h2 h3 hp ⊢
   grind
  ·have h1:=ih (fun i hi=>h i (by omega)) (by omega)
   simp only [sum2,le2,lt2,zero2,zAo] at h1 h2 ⊢
   grind
def hgt (H:Nat) (q:Rat):Prop:=q.num.natAbs<=H/\q.den<=H
theorem hgt.mono {H J:Nat} {q:Rat} (h:hgt H q) (hj:H<=J):hgt J q:=⟨Nat.le_trans h.1 hj,Nat.le_trans h.2 hj⟩
theorem hgt.neg {H:Nat} {q:Rat} (h:hgt H q):hgt H (-q):=by
 refine⟨?_,?_⟩
 ·rw [Rat.neg_num,Int.natAbs_neg];exact h.1
 ·rw [Rat.neg_den];exact h.2
theorem hgt_mkRat {H:Nat} {a:Int} {b:Nat} (ha:a.natAbs<=H) (hb:b<=H) (h1:1<=H):hgt H (mkRat a b):=by
 by_cases h0:b=0
 ·subst h0
  rw [Rat.mkRat_zero]
  exact⟨Nat.zero_le _,h1⟩
 ·refine⟨?_,?_⟩
  ·rw [Rat.num_mkRat,if_neg h0]
   refine Nat.le_trans ?_ ha
   rw [Int.natAbs_ediv_of_dvd (by
    exact Int.ofNat_dvd_left.2 (Nat.gcd_dvd_right _ _))]
   exact Nat.div_le_self _ _
  ·rw [Rat.den_mkRat,if_neg h0]
   exact Nat.le_trans (Nat.div_le_self _ _) hb
theorem hgt.pos {H:Nat} {q:Rat} (h:hgt H q):1<=H:=Nat.le_trans (Nat.pos_of_ne_zero q.den_nz) h.2
theorem hgt.mul {H J:Nat} {p q:Rat} (hp:hgt H p) (hq:hgt J q):hgt (H*J) (p*q):=by
 rw [Rat.mul_def']
 refine hgt_mkRat ?_ (Nat.mul_le_mul hp.2 hq.2) (Nat.mul_pos hp.pos hq.pos)
 rw [Int.natAbs_mul]
 exact Nat.mul_le_mul hp.1 hq.1
theorem hgt.add {H J:Nat} {p q:Rat} (hp:hgt H p) (hq:hgt J q):hgt (2*(H*J)) (p+q):=by
 rw [Rat.add_def']
 have h1:(p.num*q.den).natAbs<=H*J:=by rw [Int.natAbs_mul];exact Nat.mul_le_mul hp.1 hq.2
 have h2:(q.num*p.den).natAbs<=H*J:=by rw [Int.natAbs_mul,Nat.mul_comm];exact Nat.mul_le_mul hp.2 hq.1
 have h3:p.den*q.den<=H*J:=Nat.mul_le_mul hp.2 hq.2
 have h4:0<H*J:=Nat.mul_pos hp.pos hq.pos
 refine hgt_mkRat ?_ (by omega) (by omega)
 have:=Int.natAbs_add_le (p.num*q.den) (q.num*p.den)
 omega
theorem hgt.inv {H:Nat} {q:Rat} (h:hgt H q):hgt H q⁻¹:=by
 refine⟨?_,?_⟩
 ·rw [Rat.num_inv,Int.natAbs_mul]
  have h1:q.num.sign.natAbs<=1:=by rw [Int.natAbs_sign];split <;> omega
  have:=Nat.mul_le_mul h1 h.2
  simpa using this
 ·rw [Rat.den_inv]
  split
  ·exact h.pos
  ·exact h.1
theorem zES {H:Nat} (h:1<=H):hgt H 0:=⟨Nat.zero_le _,h⟩
theorem hgt_one {H:Nat} (h:1<=H):hgt H 1:=⟨h,h⟩
def sbnd (H:Nat):Nat->Nat
 | 0=>1
 | k+1=>2*(sbnd H k*H)
theorem zG7 {H:Nat} {f:Nat->Rat} : ∀ {k:Nat},(∀ i,i<k->hgt H (f i))->hgt (sbnd H k) (sumN k f)
 | 0,_=>zES (Nat.le_refl 1)
 | k+1,h=>by
  rw [zAo,sbnd]
  exact (zG7 fun i hi=>h i (by omega)).add (h k (by omega))
structure Sys where
 n:Nat
 m:Nat
 C:Nat->Nat->Rat
 rel:Nat->Nat
 K:Nat->Rat
structure Dy where
 basic:Nat->Nat
 cols:Nat->Nat
 line:Nat->Int
 a:Nat->Nat->Rat
 val:Nat->V2
def Sol (S:Sys) (x:Nat->Rat):Prop:=∀ i,i<S.m->x (S.n+i)=sumN S.n fun j=>S.C i j*x j
def DSol (S:Sys) (s:Dy) (x:Nat->Rat):Prop:=∀ i,i<S.m->x (s.basic i)=sumN S.n fun k=>s.a i k*x (s.cols k)
structure Perm (S:Sys) (s:Dy):Prop where
 bas : ∀ i,i<S.m->s.basic i<S.n+S.m/\s.line (s.basic i)=i
 col : ∀ j,j<S.n->s.cols j<S.n+S.m/\s.line (s.cols j) = -1
 inj : ∀ j k,j<S.n->k<S.n->s.cols j=s.cols k->j=k
 lin : ∀ v,v<S.n+S.m->(0<=s.line v->s.line v<S.m/\s.basic (s.line v).toNat=v)/\(s.line v<0->s.line v = -1/\∃ j,j<S.n/\s.cols j=v)
structure Dict (S:Sys) (s:Dy):Prop where
 perm:Perm S s
 sol : ∀ x,Sol S x↔DSol S s x
theorem Perm.basInj {S:Sys} {s:Dy} (h:Perm S s) {i k:Nat} (hi:i<S.m) (hk:k<S.m) (e:s.basic i=s.basic k):i=k:=by
 have h1:=(h.bas i hi).2
 have h2:=(h.bas k hk).2
 rw [e,h2] at h1
 omega
theorem Perm.ne {S:Sys} {s:Dy} (h:Perm S s) {i j:Nat} (hi:i<S.m) (hj:j<S.n):s.basic i≠s.cols j:=by
 intro e
 have h1:=(h.bas i hi).2
 have h2:=(h.col j hj).2
 rw [e,h2] at h1
 omega
def upd {α:Type} (f:Nat->α) (i:Nat) (x:α):Nat->α:=fun k=>if k=i then x else f k
theorem zAy {α:Type} (f:Nat->α) (i:Nat) (x:α):upd f i x i=x:=by simp [upd]
theorem zAu {α:Type} (f:Nat->α) {i k:Nat} (h:k≠i) (x:α):upd f i x k=f k:=by simp [upd,h]
def pivA (a:Nat->Nat->Rat) (i j:Nat):Nat->Nat->Rat:=fun l k =>
 if l=i then (if k=j then (a i j)⁻¹ else - (a i k*(a i j)⁻¹))
 else if k=j then a l j*(a i j)⁻¹ else a l k+a l j*(- (a i k*(a i j)⁻¹))
def pivot (s:Dy) (i j:Nat):Dy :=
 { s with a:=pivA s.a i j,basic:=upd s.basic i (s.cols j),cols:=upd s.cols j (s.basic i),line:=upd (upd s.line (s.basic i) (-1)) (s.cols j) i }
theorem zFQ {S:Sys} {s:Dy} (h:Perm S s) {i j:Nat} (hi:i<S.m) (hj:j<S.n):Perm S (pivot s i j):=by
 have hij:=h.ne hi hj
 have hb:=h.bas i hi
 have hc:=h.col j hj
 refine⟨fun l hl=>?_,fun k hk=>?_,fun k l hk hl e=>?_,fun v hv=>?_⟩
 ·simp only [pivot] at hl ⊢
  by_cases e:l=i
  ·subst e
   rw [zAy,zAy]
   exact⟨hc.1,rfl⟩
  ·rw [zAu _ e]
   have h1:=h.bas l hl
   rw [zAu _ (h.ne hl hj),zAu _ (fun e2=>e (h.basInj hl hi e2))]
   exact h1
 ·simp only [pivot] at hk ⊢
  by_cases e:k=j
  ·subst e
   rw [zAy,zAu _ hij,zAy]
   exact⟨hb.1,rfl⟩
  ·rw [zAu _ e]
   have h1:=h.col k hk
   rw [zAu _ (fun e2=>e (h.inj k j hk hj e2)),zAu _ (fun e2=>h.ne hi hk e2.symm)]
   exact h1
 ·simp only [pivot] at hk hl e
  by_cases e1:k=j
  ·by_cases e2:l=j
   ·rw [e1,e2]
   ·rw [e1,zAy,zAu _ e2] at e
    exact absurd e (h.ne hi hl)
  ·by_cases e2:l=j
   ·rw [e2,zAy,zAu _ e1] at e
    exact absurd e.symm (h.ne hi hk)
   ·rw [zAu _ e1,zAu _ e2] at e
    exact h.inj k l hk hl e
 ·simp only [pivot] at hv ⊢
  by_cases e1:v=s.cols j
  ·subst e1
   rw [zAy]
   refine⟨fun _=>⟨by omega,?_⟩,fun h0=>by omega⟩
   rw [Int.toNat_natCast,zAy]
  ·rw [zAu _ e1]
   by_cases e2:v=s.basic i
   ·subst e2
    rw [zAy]
    refine⟨fun h0=>by omega,fun _=>⟨rfl,j,hj,by rw [zAy]⟩⟩
   ·rw [zAu _ e2]
    obtain⟨h1,h2⟩:=h.lin v hv
    refine⟨fun h0=>?_,fun h0=>?_⟩
    ·obtain⟨h3,h4⟩:=h1 h0
     refine⟨h3,?_⟩
     rw [zAu _ (fun e=>e2 (by rw [<- h4,e]))]
     exact h4
    ·obtain⟨h3,k,hk,h4⟩:=h2 h0
     refine⟨h3,k,hk,?_⟩
     rw [zAu _ (fun e=>e1 (by rw [<- h4,e]))]
     exact h4
theorem zFR {S:Sys} {s:Dy} {i j:Nat} (hi:i<S.m) (hj:j<S.n) (hp:Perm S s) (h0:s.a i j≠0) (x:Nat->Rat):DSol S s x->DSol S (pivot s i j) x:=by
 intro h l hl
 simp only [pivot] at hl ⊢
 have hI:=h i hi
 rw [zCh hj] at hI
 have hJ:x (s.cols j)=(s.a i j)⁻¹*x (s.basic i)+sumN S.n (fun k=>if k=j then 0 else - (s.a i k*(s.a i j)⁻¹)*x (s.cols k)):=by
  have e:(sumN S.n fun k=>if k=j then 0 else - (s.a i k*(s.a i j)⁻¹)*x (s.cols k)) = - (s.a i j)⁻¹*sumN S.n (fun k=>if k=j then 0 else s.a i k*x (s.cols k)):=by
   rw [<- zBn]
   refine zAi fun k _=>?_
   split <;> grind
  rw [e,hI]
  have:=Rat.inv_mul_cancel _ h0
  grind
 have hS : ∀ f:Nat->Rat,(sumN S.n fun k=>f k*x (upd s.cols j (s.basic i) k))=f j*x (s.basic i)+sumN S.n (fun k=>if k=j then 0 else f k*x (s.cols k)):=by
  intro f
  rw [zCh hj,zAy]
  congr 1
  refine zAi fun k _=>?_
  split
  ·rfl
  ·rename_i e;rw [zAu _ e]
 rw [hS]
 by_cases e:l=i
 ·subst e
  rw [zAy,hJ]
  congr 1
  ·rw [pivA,if_pos rfl,if_pos rfl]
  ·refine zAi fun k _=>?_
   split
   ·rfl
   ·rename_i e;rw [pivA,if_pos rfl,if_neg e]
 ·rw [zAu _ e,h l hl,zCh hj,hJ]
  have e1:(sumN S.n fun k=>if k=j then 0 else pivA s.a i j l k*x (s.cols k))=sumN S.n (fun k=>if k=j then 0 else s.a l k*x (s.cols k))+s.a l j*sumN S.n (fun k=>if k=j then 0 else - (s.a i k*(s.a i j)⁻¹)*x (s.cols k)):=by
   rw [<- zBn,<- zB8]
   refine zAi fun k _=>?_
   split
   ·grind
   ·rename_i e2;rw [pivA,if_neg e,if_neg e2];grind
  rw [e1,pivA,if_neg e,if_pos rfl]
  grind
theorem pivA_ne {s:Dy} {i j:Nat} (h0:s.a i j≠0):(pivot s i j).a i j≠0:=by
 simp only [pivot,pivA,if_true]
 intro e
 have:=Rat.inv_mul_cancel _ h0
 rw [e] at this
 grind
theorem pivA_pivA {a:Nat->Nat->Rat} {i j:Nat} (h0:a i j≠0) (l k:Nat):pivA (pivA a i j) i j l k=a l k:=by
 have h1:=Rat.inv_mul_cancel _ h0
 have h2:(a i j)⁻¹⁻¹=a i j:=Rat.inv_inv _
 unfold pivA
 simp only [if_true,h2]
 by_cases e1:l=i
 ·subst e1
  rw [if_pos rfl]
  by_cases e2:k=j
  ·subst e2;rw [if_pos rfl]
  ·rw [if_neg e2]
   simp only [if_neg e2]
   grind
 ·rw [if_neg e1]
  simp only [if_neg e1]
  by_cases e2:k=j
  ·subst e2
   simp only [if_true]
   grind
  ·simp only [if_neg e2]
   grind
theorem zFS {S:Sys} {s:Dy} (h:Dict S s) {i j:Nat} (hi:i<S.m) (hj:j<S.n) (h0:s.a i j≠0):Dict S (pivot s i j):=by
 refine⟨zFQ h.perm hi hj,fun x=>?_⟩
 have e:Sol S x↔Sol S x:=Iff.rfl
 rw [e,h.sol]
 refine⟨zFR hi hj h.perm h0 x,fun hd=>?_⟩
 have:=zFR (s:=pivot s i j) hi hj (zFQ h.perm hi hj) (pivA_ne h0) x hd
 intro l hl
 have h2:=this l hl
 simp only [pivot] at h2
 rw [show upd (upd s.basic i (s.cols j)) i (upd s.cols j (s.basic i) j) l=s.basic l by
  by_cases e:l=i
  ·subst e;rw [zAy,zAy]
  ·rw [zAu _ e,zAu _ e]] at h2
 rw [h2]
 refine zAi fun k hk=>?_
 rw [pivA_pivA h0]
 congr 2
 by_cases e:k=j
 ·subst e;rw [zAy,zAy]
 ·rw [zAu _ e,zAu _ e]
end Go.Tb
