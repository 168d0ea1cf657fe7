/- Part of the proof: V1, V2, V3, V3s, V3o, V4. -/
import Derived.Tactics
import Derived.Deep.Quiet
import Derived.Below
import Derived.Laws.Entries
import Derived.Laws.OwnMore
import Derived.Laws.Slices
import Derived.Laws.BytesArg
import Derived.Lib.AppendStr
import Derived.Orders
import Derived.Laws.StructEq
import Derived.Lib.ConvBytes
import Derived.ArgAppend
set_option linter.unusedVariables false
set_option linter.unusedSimpArgs false
namespace Go.V
open Go
def qOk:Question->Nat->Prop
 | .appendCap need _ _,n=>need<=n/\(need<2 ^ 63->n<2 ^ 63)
 | .zeroSizeEq,n=>n<2
 | .extern _ r,n=>r=0\/n<r
 | _,_=>True
def swp {α:Type} (P:Program):Sem α->World->(α->World->Prop)->Prop
 | .pure a,w,K=>K a w
 | .load _ a k,w,K=>∃ v,w.cell? a=some v/\swp P (k v) w K
 | .store _ _ (.agg _) _,_,_=>False
 | .store _ _ (.tuple _) _,_,_=>False
 | .store _ a v k,w,K=>(∃ u,w.cell? a=some u)/\w.frozen? a=false/\swp P k (w.setCell a v) K
 | .new o k,w,K=>swp P (k w.heap.size) (w.alloc o) K
 | .shape r k,w,K=>swp P (k (w.shape? r)) w K
 | .freeze a n k,w,K=>swp P k (w.freeze a n) K
 | .frozen a k,w,K=>swp P (k (w.frozen? a)) w K
 | .getObj r k,w,K=>∃ o,w.heap[r]? = some o/\(∀ c e f,o ≠ .cells c e f)/\swp P (k o) w K
 | .setObj r o k,w,K=>(∃ u,w.heap[r]? = some u/\∀ c e f,u ≠ .cells c e f)/\swp P k { w with heap:=w.heap.setIfInBounds r o } K
 | .choose q k,w,K=>(q.forced=true->swp P (k 0) w K)/\(q.forced=false->∀ n,qOk q n->swp P (k n) w.drew K)
 | .sys _ _,_,_=>False
 | .program k,w,K=>swp P (k P) w K
 | .mark _ k,w,K=>swp P k w K
 | .halt _,_,_=>False
theorem qOk_cut (q:Question) (t:Nat):qOk q (q.cut t):=by
 cases q with
 | appendCap need old e =>
  refine⟨Nat.le_add_right _ _,fun h=>?_⟩
  show need+t % (2 ^ 63 - need)<2 ^ 63
  have:=Nat.mod_lt t (show 0<2 ^ 63 - need by omega)
  omega
 | zeroSizeEq=>exact Nat.mod_lt _ (by decide)
 | «extern» s r =>
  by_cases h:r=0
  ·exact .inl h
  ·right
   show (if r=0 then t else t % r)<r
   rw [if_neg h]
   exact Nat.mod_lt _ (by omega)
 | _=>trivial
theorem swp_sound {α:Type} (P:Program) : ∀ (s:Sem α) (w:World) (K:α->World->Prop),swp P s w K->∃ a w',s.run P w = .ok a w'/\K a w':=by
 intro s
 induction s with
 | pure a=>intro w K h;exact⟨a,w,rfl,h⟩
 | load m a k ih =>
  intro w K h
  obtain⟨v,hv,h⟩:=h
  obtain⟨x,w',hr,hk⟩:=ih v w K h
  exact⟨x,w',by simp only [Sem.run,hv];exact hr,hk⟩
 | store m a v k ih =>
  intro w K h
  cases v with
  | agg c=>exact h.elim
  | tuple c=>exact h.elim
  | _ =>
   obtain⟨⟨u,hu⟩,hf,h⟩:=h
   obtain⟨x,w',hr,hk⟩:=ih _ K h
   exact⟨x,w',by simp only [Sem.run,hu,hf];exact hr,hk⟩
 | new o k ih =>
  intro w K h
  obtain⟨x,w',hr,hk⟩:=ih _ _ K h
  exact⟨x,w',hr,hk⟩
 | shape r k ih=>intro w K h;obtain⟨x,w',hr,hk⟩:=ih _ _ K h;exact⟨x,w',hr,hk⟩
 | freeze a n k ih=>intro w K h;obtain⟨x,w',hr,hk⟩:=ih _ K h;exact⟨x,w',hr,hk⟩
 | frozen a k ih=>intro w K h;obtain⟨x,w',hr,hk⟩:=ih _ _ K h;exact⟨x,w',hr,hk⟩
 | getObj r k ih =>
  intro w K h
  obtain⟨o,ho,hn,h⟩:=h
  obtain⟨x,w',hr,hk⟩:=ih _ _ K h
  refine⟨x,w',?_,hk⟩
  simp only [Sem.run,ho]
  cases o with
  | cells c e f=>exact absurd rfl (hn c e f)
  | _=>exact hr
 | setObj r o k ih =>
  intro w K h
  obtain⟨⟨u,hu,hn⟩,h⟩:=h
  obtain⟨x,w',hr,hk⟩:=ih _ K h
  refine⟨x,w',?_,hk⟩
  simp only [Sem.run,hu]
  cases u with
  | cells c e f=>exact absurd rfl (hn c e f)
  | _=>exact hr
 | choose q k ih =>
  intro w K h
  cases hq:q.forced with
  | true =>
   obtain⟨x,w',hr,hk⟩:=ih _ _ K (h.1 hq)
   exact⟨x,w',by simp only [Sem.run,hq,if_true];exact hr,hk⟩
  | false =>
   obtain⟨x,w',hr,hk⟩:=ih _ _ K (h.2 hq _ (qOk_cut q (w.tape w.drawn q)))
   exact⟨x,w',by simp only [Sem.run,hq];exact hr,hk⟩
 | sys c k ih=>intro w K h;exact h.elim
 | program k ih=>intro w K h;obtain⟨x,w',hr,hk⟩:=ih _ _ K h;exact⟨x,w',hr,hk⟩
 | mark m k ih=>intro w K h;obtain⟨x,w',hr,hk⟩:=ih _ K h;exact⟨x,w',hr,hk⟩
 | halt h=>intro w K h;exact h.elim
inductive B | int (k:IntKind) | bool | str | ptr | slice | any
inductive Sh | one (b:B) | agg (l:List B)
inductive Rs | one (s:Sh) | tup (l:List Sh)
def B.of:Value->B
 | .int k _ => .int k
 | .bool _ => .bool
 | .string _ => .str
 | .pointer _ => .ptr
 | .slice _ _ _ => .slice
 | _ => .any
def B.ofL:List Value->List B
 | []=>[]
 | v::l=>B.of v::B.ofL l
def Sh.of:Value->Sh
 | .agg cs => .agg (B.ofL cs.toList)
 | v => .one (B.of v)
def B.all:B->(Value->Prop)->Prop
 | .int k,p=>∀ n:Int,p (.int k n)
 | .bool,p=>∀ b:Bool,p (.bool b)
 | .str,p=>∀ s:ByteArray,p (.string s)
 | .ptr,p=>∀ a:Addr,p (.pointer (some a))
 | .slice,p=>∀ (a:Option Addr) (n c:Nat),p (.slice a n c)
 | .any,p=>∀ v:Value,p v
def B.allL:List B->(List Value->Prop)->Prop
 | [],p=>p []
 | b::l,p=>b.all fun v=>B.allL l fun vs=>p (v::vs)
def Sh.all:Sh->(Value->Prop)->Prop
 | .one b,p=>b.all p
 | .agg l,p=>B.allL l fun vs=>p (.agg vs.toArray)
def Sh.allL:List Sh->(List Value->Prop)->Prop
 | [],p=>p []
 | s::l,p=>s.all fun v=>Sh.allL l fun vs=>p (v::vs)
def B.ex:B->(Value->Prop)->Prop
 | .int k,p=>∃ n:Int,p (.int k n)
 | .bool,p=>∃ b:Bool,p (.bool b)
 | .str,p=>∃ s:ByteArray,p (.string s)
 | .ptr,p=>∃ a:Addr,p (.pointer (some a))
 | .slice,p=>∃ (a:Option Addr) (n c:Nat),p (.slice a n c)
 | .any,p=>∃ v:Value,p v
def B.exL:List B->(List Value->Prop)->Prop
 | [],p=>p []
 | b::l,p=>b.ex fun v=>B.exL l fun vs=>p (v::vs)
def Sh.ex:Sh->(Value->Prop)->Prop
 | .one b,p=>b.ex p
 | .agg l,p=>B.exL l fun vs=>p (.agg vs.toArray)
def Sh.exL:List Sh->(List Value->Prop)->Prop
 | [],p=>p []
 | s::l,p=>s.ex fun v=>Sh.exL l fun vs=>p (v::vs)
def Rs.ex:Rs->(Value->Prop)->Prop
 | .one s,p=>s.ex p
 | .tup l,p=>Sh.exL l fun vs=>p (.tuple vs.toArray)
theorem B.ex_elim : ∀ (b:B) {p:Value->Prop},b.ex p->∃ v,p v
 | .int _,_,⟨_,h⟩=>⟨_,h⟩
 | .bool,_,⟨_,h⟩=>⟨_,h⟩
 | .str,_,⟨_,h⟩=>⟨_,h⟩
 | .ptr,_,⟨_,h⟩=>⟨_,h⟩
 | .slice,_,⟨_,_,_,h⟩=>⟨_,h⟩
 | .any,_,h=>h
theorem B.exL_elim : ∀ (l:List B) {p:List Value->Prop},B.exL l p->∃ vs,vs.length=l.length/\p vs
 | [],_,h=>⟨[],rfl,h⟩
 | b::l,p,h=>by
  obtain⟨v,h⟩:=b.ex_elim h
  obtain⟨vs,hl,h⟩:=B.exL_elim l h
  exact⟨v::vs,by simp [hl],h⟩
theorem Sh.ex_elim : ∀ (s:Sh) {p:Value->Prop},s.ex p->∃ v,p v
 | .one b,_,h=>b.ex_elim h
 | .agg l,_,h=>let ⟨_,_,h⟩:=B.exL_elim l h;⟨_,h⟩
theorem Sh.exL_elim : ∀ (l:List Sh) {p:List Value->Prop},Sh.exL l p->∃ vs,p vs
 | [],_,h=>⟨[],h⟩
 | s::l,p,h=>by
  obtain⟨v,h⟩:=s.ex_elim h
  obtain⟨vs,h⟩:=Sh.exL_elim l h
  exact⟨v::vs,h⟩
theorem Rs.ex_elim : ∀ (s:Rs) {p:Value->Prop},s.ex p->∃ v,p v
 | .one s,_,h=>s.ex_elim h
 | .tup l,_,h=>let ⟨_,h⟩:=Sh.exL_elim l h;⟨_,h⟩
def kindB:IntKind->IntKind->Bool
 | .i8,.i8 | .i16,.i16 | .i32,.i32 | .i64,.i64 | .u8,.u8 | .u16,.u16 | .u32,.u32 | .u64,.u64=>true
 | _,_=>false
theorem zDB {j k:IntKind} (h:kindB j k=true):j=k:=by cases j <;> cases k <;> first | rfl | cases h
def B.fits:B->Value->Bool
 | .int k,.int j _=>kindB k j
 | .bool,.bool _=>true
 | .str,.string _=>true
 | .ptr,.pointer (some _)=>true
 | .slice,.slice _ _ _=>true
 | .any,_=>true
 | _,_=>false
def B.fitsL:List B->List Value->Bool
 | [],[]=>true
 | b::l,v::vs=>cond (b.fits v) (B.fitsL l vs) false
 | _,_=>false
def Sh.fits:Sh->Value->Bool
 | .one b,v=>b.fits v
 | .agg l,.agg cs=>B.fitsL l cs.toList
 | _,_=>false
def Sh.fitsL:List Sh->List Value->Bool
 | [],[]=>true
 | s::l,v::vs=>cond (s.fits v) (Sh.fitsL l vs) false
 | _,_=>false
theorem B.all_elim : ∀ (b:B) {p:Value->Prop} (v:Value),b.fits v=true->b.all p->p v
 | .int k,_,.int j n,h,ha=>by have:=zDB h;subst this;exact ha n
 | .bool,_,.bool b,_,ha=>ha b
 | .str,_,.string s,_,ha=>ha s
 | .ptr,_,.pointer (some a),_,ha=>ha a
 | .slice,_,.slice a n c,_,ha=>ha a n c
 | .any,_,v,_,ha=>ha v
theorem B.allL_elim : ∀ (l:List B) {p:List Value->Prop} (vs:List Value),B.fitsL l vs=true->B.allL l p->p vs
 | [],_,[],_,ha=>ha
 | b::l,p,v::vs,h,ha=>by
  cases hb:b.fits v with
  | false=>simp [B.fitsL,hb] at h
  | true =>
   simp only [B.fitsL,hb,cond_true] at h
   exact B.allL_elim l vs h (B.all_elim b v hb ha)
theorem Sh.all_elim : ∀ (s:Sh) {p:Value->Prop} (v:Value),s.fits v=true->s.all p->p v
 | .one b,_,v,h,ha=>B.all_elim b v h ha
 | .agg l,_,.agg cs,h,ha=>by have:=B.allL_elim l cs.toList h ha;simpa using this
theorem Sh.allL_elim : ∀ (l:List Sh) {p:List Value->Prop} (vs:List Value),Sh.fitsL l vs=true->Sh.allL l p->p vs
 | [],_,[],_,ha=>ha
 | b::l,p,v::vs,h,ha=>by
  cases hb:b.fits v with
  | false=>simp [Sh.fitsL,hb] at h
  | true =>
   simp only [Sh.fitsL,hb,cond_true] at h
   exact Sh.allL_elim l vs h (Sh.all_elim b v hb ha)
structure Env where
 P:Program
 okf:List (Nat × Rs)
def lookR (f:Nat):List (Nat × Rs)->Option Rs
 | []=>none
 | (g,r)::l=>cond (Nat.beq g f) (some r) (lookR f l)
def fnOk (P : Program) (f : Nat) : Prop := ∃ fn, P.funcs[f]? = some fn ∧ (fn.name == "runtime.NumGoroutine") = false ∧ fn.body.isNone = false
structure Env.Ok (E:Env):Prop where
 fns : ∀ f rs,lookR f E.okf=some rs->fnOk E.P f
 mixed:E.P.follows .mixedOrders=true
def bt (s:ByteArray) (i:Int):Int:=((s.data.toList.getD i.toNat 0).toNat:Int)
def subA (a:Option Addr) (l m size:Nat):Option Addr:=if m=l then a else a.map (·.add (l*size))
def vcells (w:World) (a:Addr):Nat->List Value->Prop
 | _,[]=>True
 | i,v::vs=>w.cell? (a.add i)=some v/\vcells w a (i+1) vs
def vload (P:Program) (t:TypeId) (a:Addr) (w:World) (K:Value->Prop):Prop :=
 match P.underlying t,P.info? t with
 | some (.struct _),some i | some (.array _ _),some i =>
  match i.zero with
  | some (.agg z)=>cond (Nat.beq (B.ofL z.toList).length i.size) (B.exL (B.ofL z.toList) fun vs=>vcells w a 0 vs/\K (.agg vs.toArray)) False
  | _=>False
 | some _,some i =>
  match i.zero with
  | some (.agg _)=>False
  | some z=>(B.of z).ex fun v=>w.cell? a=some v/\K v
  | none=>False
 | _,_=>False
def writable (w:World) (a:Addr) (n:Nat):Prop:=∀ i,i<n->(∃ u,w.cell? (a.add i)=some u)/\w.frozen? (a.add i)=false
def setCells (w:World) (a:Addr):Nat->List Value->World
 | _,[]=>w
 | i,v::vs=>setCells (w.setCell (a.add i) v) a (i+1) vs
def plainCell:Value->Bool
 | .agg _=>false
 | .tuple _=>false
 | _=>true
def zAr:List Value->Bool
 | []=>true
 | v::vs=>cond (plainCell v) (zAr vs) false
def vstore (P:Program) (t:TypeId) (a:Addr) (v:Value) (w:World) (K:World->Prop):Prop :=
 match P.info? t,v with
 | some i,.agg cs=>cond (Nat.beq cs.toList.length i.size) (cond (zAr cs.toList) (writable w a i.size/\K (setCells w a 0 cs.toList)) False) False
 | some i,v=>cond (Nat.beq i.size 1) (cond (plainCell v) (((∃ u,w.cell? a=some u)/\w.frozen? a=false)/\K (w.setCell a v)) False) False
 | none,_=>False
def zC1 (size:Nat) (K:Value->Prop):Value->Option Value->Option Value->Option Value->Prop
 | .string s,none,none,none=>K (.string (s.extract 0 s.size))
 | .string s,some (.int _ l),none,none=>(0<=l/\l<=s.size)/\K (.string (s.extract l.toNat s.size))
 | .string s,none,some (.int _ h),none=>(0<=h/\h<=s.size)/\K (.string (s.extract 0 h.toNat))
 | .string s,some (.int _ l),some (.int _ h),none=>(0<=l/\l<=h/\h<=s.size)/\K (.string (s.extract l.toNat h.toNat))
 | .slice a n c,none,none,none=>K (.slice a n c)
 | .slice a n c,some (.int _ l),none,none=>(0<=l/\l<=n)/\K (.slice (subA a l.toNat c size) (n - l.toNat) (c - l.toNat))
 | .slice a _ c,none,some (.int _ h),none=>(0<=h/\h<=c)/\K (.slice a h.toNat c)
 | .slice a _ c,some (.int _ l),some (.int _ h),none=>(0<=l/\l<=h/\h<=c)/\K (.slice (subA a l.toNat c size) (h.toNat - l.toNat) (c - l.toNat))
 | .slice a _ c,none,some (.int _ h),some (.int _ m)=>(0<=h/\h<=m/\m<=c)/\K (.slice a h.toNat m.toNat)
 | .slice a _ c,some (.int _ l),some (.int _ h),some (.int _ m)=>(0<=l/\l<=h/\h<=m/\m<=c)/\K (.slice (subA a l.toNat m.toNat size) (h.toNat - l.toNat) (m.toNat - l.toNat))
 | _,_,_,_=>False
def Ret (P:Program) (f:Nat) (args:Array Value) (w:World) (R:Value->World->Prop):Prop :=
 Calls P f args w fun e w'=>∃ v,e = .returned v/\R v w'
inductive Called (P:Program) (f:Nat) (args:Array Value) (w:World) (R:Value->World->Prop):Prop
 | mk (h:Ret P f args w R)
def vcall (E:Env) (f:Nat) (args:Array Value) (w:World) (K:Value->World->Prop):Prop :=
 match lookR f E.okf with
 | some rs=>Called E.P f args w fun v w'=>rs.ex fun u=>v=u/\K u w'
 | none=>False
def OwnFull (w:World) (base:Nat) (e:TypeId) (size:Nat) (a:Option Addr) (n c m:Nat) (xs:List Value):Prop :=
 w.ownsRow base e size (.slice a n c) n xs\/(0<m/\c<n+m/\xs.length=n*size/\∃ ad,a=some ad/\∀ j u,xs[j]? = some u->w.cell? (ad.add j)=some u)
structure AppOk (w:World) (base:Nat) (e:TypeId) (size bytes:Nat) (a:Option Addr) (n c:Nat) (xs:List Value) (xa:Option Addr) (m:Nat) (news:List Value):Prop where
 own:OwnFull w base e size a n c m xs
 len:news.length=m*size
 src:m=0\/∃ ad,xa=some ad/\vcells w ad 0 news
 plain:zAr news=true
 max:n+m<=maxLen
 bytes:(n+m)*bytes<=140737488355328
 base:base<=w.heap.size
structure AppRes (w w' : World) (base:Nat) (e:TypeId) (size:Nat) (a:Option Addr) (n c:Nat) (xs:List Value) (m:Nat) (news:List Value) (a' : Option Addr) (c' : Nat):Prop where
 own:w'.ownsRow base e size (.slice a' (n+m) c') (n+m) (xs++news)
 grown:w.grownBy w' (Value.slice a n c).ownBlock
 nil:a' = none↔a=none/\m=0
 blk:(Value.slice a' (n+m) c').ownBlock=(Value.slice a n c).ownBlock\/∀ k,(Value.slice a' (n+m) c').ownBlock=some k->w.heap.size<=k
 full : ¬ w.ownsRow base e size (.slice a n c) n xs->w.grownBy w' none
def zFN (P:Program) (t:TypeId) (w:World) (K:Value->World->Prop):Value->Value->Prop
 | .slice a n c,.slice xa m _ =>
  match P.underlying t with
  | some (.slice e) =>
   match P.info? e with
   | some i =>
    match i.zero with
    | some z=>cond (Nat.beq z.cells.toList.length i.size) (cond (Nat.ble 1 i.size)
      (∃ (base:Nat) (xs news:List Value),AppOk w base e i.size i.bytes a n c xs xa m news /\
       ∀ (a' : Option Addr) (c' : Nat) (w' : World),AppRes w w' base e i.size a n c xs m news a' c'->K (.slice a' (n+m) c') w') False) False
    | none=>False
   | none=>False
  | _=>False
 | _,_=>False
def zDv (w:World) (a:Option Addr) (n:Nat) (bs:List UInt8):Prop :=
 bs.length=n/\(a=none/\n=0\/∃ ad,a=some ad/\ad.spot=none/\∀ i,i<n->w.cell? ⟨ad.block,ad.off+i,none⟩=some (.int .u8 (bs.getD i 0).toNat))
structure BytesNew (w w' : World) (s:ByteArray) (cap:Nat):Prop where
 below:RowKit.Below w.heap.size w w'
 size:w'.heap.size=w.heap.size+1
 cell : ∀ j,j<s.size->w'.cell? ⟨w.heap.size,j,none⟩=some (.int .u8 (s.data.toList.getD j 0).toNat)
 cap:s.size<=cap
def eqF (P:Program):List Field->Nat->List Value->List Value->Option Bool
 | [],_,_,_=>some true
 | f :: fs, i, x :: xs, y :: ys => cond (cond (Nat.beq f.offset i) (f.name == "_") true) none
   (match P.underlying f.type,x,y with
    | some (.int _),.int k a,.int j b=>cond (kindB k j) (match eqF P fs (i+1) xs ys with | some c=>some (and (a==b) c) | none=>none) none
    | some .string,.string a,.string b=>match eqF P fs (i+1) xs ys with | some c=>some (and (a==b) c) | none=>none
    | some .bool,.bool a,.bool b=>match eqF P fs (i+1) xs ys with | some c=>some (and (a==b) c) | none=>none
    | _,_,_=>none)
 | _,_,_,_=>none
def veq (P:Program) (t:TypeId) (xs ys:Array Value) (K:Bool->Prop):Prop :=
 match P.underlying t with
 | some (.struct fs)=>cond (P.stoodInHeld t) False (cond (P.eqGuardType P.depth t) False (match eqF P fs.toList 0 xs.toList ys.toList with
  | some b=>K b
  | none=>False))
 | _=>False
def intOp:BinOp->Bool
 | .quo | .rem=>true
 | _=>false
def vres (K:Value->World->Prop):Next->World->Prop
 | .value v,w'=>K v w'
 | .skip,w'=>K undef w'
 | _,_=>False
def vgen (E:Env) (ρ:Operand->Value) (o:Oper) (w:World) (K:Value->World->Prop):Prop:=swp E.P (execOp ρ o) w (vres K)
def zFK (P:Program) (t:TypeId) (op:BinOp) (v y:Value) (K:Value->Prop):Prop :=
 match y with
 | .nilIface=>match P.underlying t with
  | some (.interface _)=>match op with
   | .eql=>(v = .nilIface/\K (.bool true))\/((∃ a b,v = .iface a b)/\K (.bool false))
   | .neq=>(v = .nilIface/\K (.bool false))\/((∃ a b,v = .iface a b)/\K (.bool true))
   | _=>False
  | _=>False
 | .slice none _ _=>match P.underlying t with
  | some (.slice _)=>match v with
   | .slice a _ _=>match op with
    | .eql=>K (.bool a.isNone)
    | .neq=>K (.bool (!a.isNone))
    | _=>False
   | _=>False
  | _=>False
 | _=>False
def vop (E:Env) (ρ:Operand->Value) (o:Oper) (w:World) (K:Value->World->Prop):Prop :=
 match o.op with
 | .load t a=>match ρ a with
  | .pointer (some ad)=>vload E.P t ad w fun v=>K v w
  | _=>False
 | .store t a x=>match ρ a with
  | .pointer (some ad)=>vstore E.P t ad (ρ x) w fun w'=>K undef w'
  | _=>False
 | .index t x i=>match ρ x,ρ i with
  | .string s,.int _ n=>match E.P.underlying t with
   | some .string=>(0<=n/\n<s.size)/\K (.int .u8 (bt s n)) w
   | _=>False
  | _,_=>vgen E ρ o w K
 | .indexAddr t x i=>match ρ x,ρ i with
  | .slice a len _,.int _ n=>match E.P.underlying t with
   | some (.slice e)=>match E.P.info? e with
    | some i=>∃ ad,a=some ad/\(0<=n/\n<len)/\K (.pointer (some (ad.add (n.toNat*i.size)))) w
    | none=>False
   | _=>False
  | _,_=>vgen E ρ o w K
 | .slice t x lo hi mx=>match E.P.underlying t with
  | some .string=>match ρ x with
   | .string s=>zC1 1 (fun v=>K v w) (.string s) (lo.map ρ) (hi.map ρ) (mx.map ρ)
   | _=>False
  | some (.slice e)=>match ρ x,E.P.info? e with
   | .slice a n c,some i=>zC1 i.size (fun v=>K v w) (.slice a n c) (lo.map ρ) (hi.map ρ) (mx.map ρ)
   | _,_=>False
  | _=>vgen E ρ o w K
 | .convert src dst x=>match ρ x with
  | .slice a n _=>match E.P.underlying src,E.P.underlying dst with
   | some (.slice e),some .string=>match E.P.underlying e with
    | some (.int .u8)=>∃ bs:List UInt8,zDv w a n bs/\K (.string ⟨bs.toArray⟩) w
    | _=>False
   | _,_=>vgen E ρ o w K
  | .string s=>match E.P.underlying src,E.P.underlying dst with
   | some .string,some (.slice e)=>match E.P.underlying e with
    | some (.int .u8)=>∀ (cap:Nat) (w' : World),BytesNew w w' s cap->K (.slice (some ⟨w.heap.size,0,none⟩) s.size cap) w'
    | _=>False
   | _,_=>vgen E ρ o w K
  | _=>vgen E ρ o w K
 | .binOp op t x (.const .nilIface) _=>zFK E.P t op (ρ x) (ρ (.const .nilIface)) fun v=>K v w
 | .binOp op t x (.const (.slice none n c)) _=>zFK E.P t op (ρ x) (ρ (.const (.slice none n c))) fun v=>K v w
 | .binOp op t x y _=>match ρ x,ρ y with
  | .int k a,.int j b=>cond (intOp op) (cond (kindB k j) (cond (decide (b=0)) False
    (match op with
     | .quo=>K (.int k (k.wrap (a.tdiv b))) w
     | .rem=>K (.int k (a.tmod b)) w
     | _=>False)) False) (vgen E ρ o w K)
  | .string a,.string b=>match op with
   | .add=>a.size+b.size<=9223372036854775807/\K (.string (a++b)) w
   | _=>vgen E ρ o w K
  | .agg xs,.agg ys=>match op with
   | .eql=>veq E.P t xs ys fun b=>K (.bool b) w
   | .neq=>veq E.P t xs ys fun b=>K (.bool (!b)) w
   | _=>False
  | _,_=>vgen E ρ o w K
 | .makeSlice t l c=>match ρ l,ρ c with
  | .int _ l,.int _ c=>match E.P.underlying t with
   | some (.slice e)=>match E.P.info? e with
    | some i=>match i.zero with
     | some z=>(0<=l/\l<=c/\(i.bytes:Int)*c<=281474976710656/\c<=9223372036854775807) /\
       K (.slice (some ⟨w.heap.size,0,none⟩) l.toNat c.toNat) (w.alloc (.cells (madeCells z.cells (c.toNat*i.size)) e))
     | none=>False
    | none=>False
   | _=>False
  | _,_=>False
 | .call c=>match c.callee with
  | .value f=>match ρ f with
   | .func (.func g) first captured=>vcall E g (first++c.args.map ρ++captured) w K
   | _=>False
  | .builtin .append=>match c.args.toList,c.argTypes.toList with
   | [s,x],[t,u]=>match ρ x with
    | .string _=>False
    | y=>cond (Nat.beq t u) (zFN E.P t w K (ρ s) y) False
   | _,_=>False
  | _=>vgen E ρ o w K
 | _=>vgen E ρ o w K
theorem zEo (P:Program) (w:World) (a:Addr) : ∀ (vs:List Value) (i:Nat) (acc:Array Value),vcells w a i vs ->
  (loadCellsFrom a i vs.length acc).run P w = .ok (acc++vs.toArray) w
 | [],i,acc,_=>by simp [loadCellsFrom]
 | v::vs,i,acc,h=>by
  have ih:=zEo P w a vs (i+1) (acc.push v) h.2
  simp only [List.length_cons,loadCellsFrom,load]
  show Sem.run P (Sem.bind (.load .plain (a.add i) .pure) _) w=_
  simp only [Sem.bind,Sem.run,h.1]
  rw [ih]
  simp
theorem zD7 {v:Value} (h:plainCell v=true):v.oneCell' = true:=by cases v <;> first | rfl | cases h
theorem zDg : ∀ {vs:List Value},zAr vs=true->∀ v∈vs,v.oneCell' = true
 | [],_,v,hv=>by cases hv
 | u::us,h,v,hv=>by
  cases hu:plainCell u with
  | false=>simp [zAr,hu] at h
  | true =>
   simp only [zAr,hu,cond_true] at h
   rcases List.mem_cons.1 hv with rfl | hv
   ·exact zD7 hu
   ·exact zDg h v hv
def aggD:TypeDesc->Bool
 | .struct _=>true
 | .array _ _=>true
 | _=>false
theorem zDC {P:Program} {t:TypeId} {d:TypeDesc} (h:P.underlying t=some d) (w:World) :
  (isAgg t).run P w = .ok (aggD d) w:=by
 unfold isAgg
 simp only [Sem.run_bind,run_underlying h,Result.andThen_ok]
 cases d <;> rfl
theorem zDP {P:Program} {t:TypeId} {i:TypeInfo} (h:P.info? t=some i) (w:World):(sizeOf t).run P w = .ok i.size w:=by
 simp [sizeOf,typeInfo,h]
theorem zEY {P:Program} {t:TypeId} {d:TypeDesc} {i:TypeInfo} {a:Addr} {w:World} (hd:P.underlying t=some d) (hag:(aggD d)=true)
  (hi:P.info? t=some i) {vs:List Value} (hl:vs.length=i.size) (hc:vcells w a 0 vs):(loadVar t a).run P w = .ok (.agg vs.toArray) w:=by
 unfold loadVar
 simp only [Sem.run_bind,zDC hd,hag,Result.andThen_ok,if_true,zDP hi,loadCells,<- hl]
 rw [zEo P w a vs 0 #[] hc]
 simp
theorem zCt {P:Program} {t:TypeId} {d:TypeDesc} {a:Addr} {w:World} (hd:P.underlying t=some d) (hag:(aggD d)=false)
  {v:Value} (hc:w.cell? a=some v):(loadVar t a).run P w = .ok v w:=by
 unfold loadVar
 simp only [Sem.run_bind,zDC hd,hag,Result.andThen_ok,load]
 simp [Sem.run,hc]
theorem zEC {P:Program} {t:TypeId} {a:Addr} {w:World} {K:Value->Prop} (h:vload P t a w K) : ∃ v,(loadVar t a).run P w = .ok v w/\K v:=by
 unfold vload at h
 cases hd:P.underlying t with
 | none=>simp [hd] at h
 | some d =>
  cases hi:P.info? t with
  | none=>rw [hd,hi] at h;cases d <;> exact h.elim
  | some i =>
   rw [hd,hi] at h
   by_cases f:(aggD d)=true
   ·have h' : (match i.zero with
      | some (.agg z)=>cond (Nat.beq (B.ofL z.toList).length i.size) (B.exL (B.ofL z.toList) fun vs=>vcells w a 0 vs/\K (.agg vs.toArray)) False
      | _=>False):=by
     revert f h;cases d <;> intro h f <;> first | exact h | cases f
    cases hz:i.zero with
    | none=>rw [hz] at h';exact h'.elim
    | some z =>
     rw [hz] at h'
     cases z with
     | agg z =>
      cases hb:Nat.beq (B.ofL z.toList).length i.size with
      | false=>simp only [hb,cond_false] at h'
      | true =>
       simp only [hb,cond_true] at h'
       obtain⟨vs,hl,hc,hk⟩:=B.exL_elim _ h'
       exact⟨_,zEY hd f hi (hl.trans (Nat.eq_of_beq_eq_true hb)) hc,hk⟩
     | _=>exact h'.elim
   ·have b:(aggD d)=false:=by simpa using f
    clear f
    have h' : (match i.zero with
      | some (.agg _)=>False
      | some z=>(B.of z).ex fun v=>w.cell? a=some v/\K v
      | none=>False):=by
     revert b h;cases d <;> intro h b <;> first | exact h | cases b
    cases hz:i.zero with
    | none=>rw [hz] at h';exact h'.elim
    | some z =>
     rw [hz] at h'
     have h'' : (B.of z).ex fun v=>w.cell? a=some v/\K v:=by
      cases z <;> first | exact h' | exact h'.elim
     obtain⟨v,hc,hk⟩:=B.ex_elim _ h''
     exact⟨v,zCt hd b hc,hk⟩
theorem cell?_setCell_isSome {w:World} {a b:Addr} {v u:Value} (h:w.cell? b=some u) : ∃ u',(w.setCell a v).cell? b=some u':=by
 unfold World.cell? at h ⊢
 simp only [World.setCell,Array.getElem?_modify]
 by_cases hab:a.block=b.block
 ·simp only [hab,if_true]
  cases hb:w.heap[b.block]? with
  | none=>rw [hb] at h;cases h
  | some o =>
   rw [hb] at h
   cases o with
   | cells c e f =>
    simp only [Option.map_some]
    by_cases hs:b.spot.isSome=true
    ·simp [hs] at h
    ·have h2:c[b.off]? = some u:=by simpa [hs] using h
     have d:b.off<c.size:=(Array.getElem?_eq_some_iff.1 h2).1
     by_cases ha:a.spot.isSome=true
     ·exact⟨u,by simp [hs,ha,h2]⟩
     ·exact⟨(c.setIfInBounds a.off v)[b.off]'(by simpa using d),by simp [hs,ha,d]⟩
   | _=>cases h
 ·rw [if_neg hab]
  exact⟨u,h⟩
theorem frozen?_setCell {w:World} {a b:Addr} {v:Value} : (w.setCell a v).frozen? b=w.frozen? b:=by
 unfold World.frozen?
 simp only [World.setCell,Array.getElem?_modify]
 by_cases hab:a.block=b.block
 ·simp only [hab,if_true]
  cases hb:w.heap[b.block]? with
  | none=>rfl
  | some o=>cases o <;> rfl
 ·rw [if_neg hab]
theorem zFy {P:Program} {w:World} {a:Addr} {v:Value} (hp:plainCell v=true) (hc : ∃ u,w.cell? a=some u) (hf:w.frozen? a=false) :
  (store a v).run P w = .ok () (w.setCell a v):=by
 obtain⟨u,hu⟩:=hc
 rw [run_store P w a v _ (zD7 hp),hu]
 simp [hf]
theorem zDf {P:Program} (a:Addr) : ∀ (vs:List Value) (i:Nat) (w:World),zAr vs=true ->
  (∀ j,i<=j->j<i+vs.length->(∃ u,w.cell? (a.add j)=some u)/\w.frozen? (a.add j)=false)->(storeCells a vs i).run P w = .ok () (setCells w a i vs)
 | [],i,w,_,_=>rfl
 | v::vs,i,w,hp,h=>by
  cases hv:plainCell v with
  | false=>simp [zAr,hv] at hp
  | true =>
   simp only [zAr,hv,cond_true] at hp
   have h0:=h i (Nat.le_refl _) (by simp)
   simp only [storeCells,Sem.run_bind,zFy hv h0.1 h0.2,Result.andThen_ok,setCells]
   refine zDf a vs (i+1) _ hp fun j hj hj'=>?_
   have hj2:=h j (by omega) (by simp only [List.length_cons];omega)
   exact⟨let ⟨u,hu⟩:=hj2.1;cell?_setCell_isSome hu,by rw [frozen?_setCell];exact hj2.2⟩
theorem zEe {P:Program} {t:TypeId} {a:Addr} {v:Value} {w:World} {K:World->Prop} (h:vstore P t a v w K) : ∃ w',(storeVar t a v).run P w = .ok () w'/\K w':=by
 unfold vstore at h
 cases hi:P.info? t with
 | none=>rw [hi] at h;cases v <;> exact h.elim
 | some i =>
  rw [hi] at h
  have one : ∀ v:Value,v.cells = #[v]->(cond (Nat.beq i.size 1) (cond (plainCell v) (((∃ u,w.cell? a=some u)/\w.frozen? a=false)/\K (w.setCell a v)) False) False) ->
    ∃ w',(storeVar t a v).run P w = .ok () w'/\K w':=by
   intro v hc h
   cases hb:Nat.beq i.size 1 with
   | false=>simp [hb] at h
   | true =>
    cases hp:plainCell v with
    | false=>simp [hb,hp] at h
    | true =>
     simp only [hb,hp,cond_true] at h
     have hs:=Nat.eq_of_beq_eq_true hb
     refine⟨_,?_,h.2⟩
     unfold storeVar
     have h0:a.add 0=a:=by simp [Addr.add]
     simp only [Sem.run_bind,zDP hi,Result.andThen_ok,hc,hs]
     have:=zFy (P:=P) hp h.1.1 h.1.2
     simp [storeCells,h0,this]
  cases v with
  | agg cs =>
   simp only at h
   cases hb:Nat.beq cs.toList.length i.size with
   | false=>simp only [hb,cond_false] at h
   | true =>
    cases hp:zAr cs.toList with
    | false=>simp only [hb,hp,cond_true,cond_false] at h
    | true =>
     simp only [hb,hp,cond_true] at h
     have hs:=Nat.eq_of_beq_eq_true hb
     refine⟨_,?_,h.2⟩
     unfold storeVar
     have b:(Value.agg cs).cells.size=i.size:=by show cs.size=i.size;simpa using hs
     simp only [Sem.run_bind,zDP hi,Result.andThen_ok,b,ne_eq,not_true_eq_false,if_false]
     exact zDf a cs.toList 0 w hp fun j _ hj=>h.1 j (by simp at hj hs;omega)
  | _=>exact one _ rfl h
theorem zAw {P:Program} {w:World} {k:IntKind} {i:Int} {y:Nat} {code:BoundsCode} (h0:0<=i) (h1:i<=y) :
  (Instr.sliceBound (.int k i) y code).run P w = .ok i.toNat w:=run_sliceBound (P:=P) (w:=w) k i y code h0 h1
theorem zDw {P:Program} {t:TypeId} {w:World} {s:ByteArray} {lo hi mx:Option Value} {K:Value->Prop} {z:Nat} (ht:P.underlying t=some .string)
  (h:zC1 z K (.string s) lo hi mx) : ∃ v,(Instr.slice t (.string s) lo hi mx).run P w = .ok v w/\K v:=by
 unfold zC1 at h
 unfold Instr.slice
 simp only [Sem.run_bind,run_underlying ht,Result.andThen_ok]
 split at h <;> first | (simp_all;done) | skip
 all_goals simp_all [Instr.sliceBounds]
 ·obtain⟨⟨h1,h2⟩,h3⟩:=h;rw [zAw h1 (by omega)];simp;exact h3
 ·obtain⟨⟨h1,h2⟩,h3⟩:=h;rw [zAw h1 (by omega)];simp;exact h3
 ·obtain⟨⟨h1,h2,h4⟩,h3⟩:=h;rw [zAw (by omega) (by omega)];simp;rw [zAw h1 (by omega)];simp;exact h3
theorem subA_zero (a:Option Addr) (m size:Nat):subA a 0 m size=a:=by
 unfold subA
 split
 ·rfl
 ·cases a <;> simp [Addr.add]
theorem zEf {P:Program} {t e:TypeId} {i:TypeInfo} {w:World} {a:Option Addr} {n c:Nat} {lo hi mx:Option Value} {K:Value->Prop} (ht:P.underlying t=some (.slice e)) (hi' : P.info? e=some i)
  (h:zC1 i.size K (.slice a n c) lo hi mx) : ∃ v,(Instr.slice t (.slice a n c) lo hi mx).run P w = .ok v w/\K v:=by
 have z:(if c=0 then a else a.map (·.add (0*i.size)))=a:=subA_zero a c i.size
 have z' : ∀ m,(if m=0 then a else a.map (·.add (0*i.size)))=a:=fun m=>subA_zero a m i.size
 unfold zC1 at h
 unfold Instr.slice
 simp only [Sem.run_bind,run_underlying ht,Result.andThen_ok]
 split at h <;> first | (simp_all;done) | skip
 all_goals simp_all [Instr.sliceBounds,sizeOf,typeInfo]
 ·obtain⟨⟨h1,h2⟩,h3⟩:=h;rw [zAw h1 (by omega)];simp;exact h3
 ·obtain⟨⟨h1,h2⟩,h3⟩:=h;rw [zAw h1 (by omega)];simp;simpa [Addr.add] using h3
 ·obtain⟨⟨h1,h2,h4⟩,h3⟩:=h;rw [zAw (by omega) (by omega)];simp;rw [zAw h1 (by omega)];simp;exact h3
 ·obtain⟨⟨h1,h2,h4⟩,h3⟩:=h;rw [zAw (by omega) (by omega)];simp;rw [zAw h1 (by omega)];simp;simpa [Addr.add] using h3
 ·obtain⟨⟨h1,h2,h4,h5⟩,h3⟩:=h;rw [zAw (by omega) (by omega)];simp;rw [zAw (by omega) (by omega)];simp;rw [zAw h1 (by omega)];simp;exact h3
theorem zBi {P:Program} {t:TypeId} {d:TypeDesc} {w:World} {x:Value} {lo hi mx:Option Value} (ht:P.underlying t=some d) (hd : ∀ n e,d ≠ .array n e) :
  (Instr.sliceAt t x lo hi mx).run P w=(Instr.slice t x lo hi mx).run P w:=by
 unfold Instr.sliceAt
 simp only [Sem.run_bind,run_underlying ht,Result.andThen_ok]
theorem zEm {P:Program} {t:TypeId} {w:World} {s:ByteArray} {k:IntKind} {n:Int} (ht:P.underlying t=some .string) (h0:0<=n) (h1:n<s.size) :
  (Instr.index t (.string s) (.int k n)).run P w = .ok (.int .u8 (bt s n)) w:=by
 unfold Instr.index
 have hn:n.toNat<s.size:=by omega
 have hg:s[n.toNat]? = some (s.data.toList.getD n.toNat 0):=by
  have b:n.toNat<s.data.size:=hn
  rw [getElem?_pos s n.toNat hn]
  congr 1
  show s.data[n.toNat]=_
  rw [List.getD,Array.getElem?_toList,Array.getElem?_eq_getElem b]
  rfl
 simp [asIntOf,run_underlying ht,h0,hg,bt]
theorem zCK {P:Program} {t e:TypeId} {i:TypeInfo} {w:World} {a:Addr} {len c:Nat} {k:IntKind} {n:Int} (ht:P.underlying t=some (.slice e)) (hi:P.info? e=some i) (h0:0<=n) (h1:n<len) :
  (Instr.indexAt t (.slice (some a) len c) (.int k n)).run P w = .ok (.pointer (some (a.add (n.toNat*i.size)))) w:=by
 unfold Instr.indexAt
 simp [asIntOf,run_underlying ht,h0,h1,sizeOf,typeInfo,hi]
theorem vcells_all {w:World} {ad:Addr} {news:List Value} (hc:vcells w ad 0 news) : ∀ j u,news[j]? = some u->w.cell? (ad.add j)=some u:=by
 have gen : ∀ (vs:List Value) (k:Nat),vcells w ad k vs->∀ j u,vs[j]? = some u->w.cell? (ad.add (k+j))=some u:=by
  intro vs
  induction vs with
  | nil=>intro k _ j u h;simp at h
  | cons v vs ih =>
   intro k h j u hj
   cases j with
   | zero=>simp at hj;subst hj;exact h.1
   | succ j=>have:=ih (k+1) h.2 j u (by simpa using hj);rwa [show k+1+j=k+(j+1) by omega] at this
 intro j u hj
 have:=gen news 0 hc j u hj
 simpa using this
theorem zFG {P:Program} {t ty e:TypeId} {w:World} {i:TypeInfo} {z:Value} {base n c:Nat} {a:Option Addr} {xs:List Value} (ht:P.underlying t=some (.slice e)) (hi:P.info? e=some i) (hz:i.zero=some z)
  (hzs:z.cells.size=i.size) (hsz:0<i.size) (hown:w.ownsRow base e i.size (.slice a n c) n xs) (ad:Addr) (m xc:Nat) (news:List Value) (hl:news.length=m*i.size)
  (hnews : ∀ j u,news[j]? = some u->w.cell? (ad.add j)=some u) (h1 : ∀ u∈news,u.oneCell' = true) (h63:n+m<=maxLen) (hby:(n+m)*i.bytes<=140737488355328) (hbase:base<=w.heap.size)
  {v' : Value} {w' : World} (hr:(Builtin.append_ #[t,t] ty #[.slice a n c,.slice (some ad) m xc]).run P w = .ok v' w') :
  v'.ownBlock=(Value.slice a n c).ownBlock\/∀ k,v'.ownBlock=some k->w.heap.size<=k:=by
 have fresh : ∀ (v2:Value) (w2:World),(Builtin.append_ #[t,t] ty #[.slice a n c,.slice (some ad) m xc]).run P w = .ok v2 w2->w2.ownsRow w.heap.size e i.size v2 (n+m) (xs++news)->∀ k,v'.ownBlock=some k->w.heap.size<=k:=by
  intro v2 w2 b ho k hk
  rw [hr] at b
  cases b
  exact (World.ownsRow.lt ho k hk).1
 rcases hown.2 with ⟨h1',h2'⟩ | ⟨g,cap,cur,h1',hbg,hg,hnc,hcm,hcs,htake⟩
 ·right
  simp only [Value.slice.injEq] at h1'
  obtain⟨rfl,rfl,rfl⟩:=h1'
  have hx:xs=[]:=List.eq_nil_of_length_eq_zero (by simpa using hown.1)
  subst hx
  obtain⟨v2,w2,b,ho,_⟩:=run_append_own (P:=P) w w.heap.size t ty e i z i.size i.bytes ht hi hz rfl rfl hzs hsz (.slice none 0 0) 0 [] (World.ownsRow_nil _ _ _ _) ad m xc news hl hnews h1 h63 hby (Nat.le_refl _)
  exact fresh v2 w2 b ho
 ·simp only [Value.slice.injEq,true_and] at h1'
  obtain⟨rfl,rfl⟩:=h1'
  by_cases hroom:n+m<=c
  ·left
   have f:n*i.size+news.length<=cur.size:=by rw [hl,hcs,<- Nat.add_mul];exact Nat.mul_le_mul_right _ hroom
   have b:=run_append_room (P:=P) w t ty e i ht hi g n c cur hg ad m xc news hl hnews h1 hroom f
   rw [hr] at b
   cases b
   rfl
  ·right
   have d : ∀ j u,xs[j]? = some u->w.cell? ((⟨g,0,none⟩:Addr).add j)=some u:=World.ownsRow.cells hown (g:=g) rfl
   obtain⟨v2,w2,b,ho,_⟩:=run_append_arg_grows (P:=P) w t ty e i z i.size i.bytes ht hi hz rfl rfl hzs hsz ⟨g,0,none⟩ n c xs hown.1 d ad m xc news hl hnews (by omega) h63 hby
   exact fresh v2 w2 b ho
theorem zFM {P:Program} {t ty:TypeId} {w:World} {K:Value->World->Prop} {s x:Value} (h:zFN P t w K s x) :
  ∃ v w',(Builtin.append_ #[t,t] ty #[s,x]).run P w = .ok v w'/\K v w':=by
 unfold zFN at h
 split at h <;> try exact h.elim
 rename_i a n c xa m xc
 split at h <;> try exact h.elim
 rename_i e ht
 split at h <;> try exact h.elim
 rename_i i hi
 split at h <;> try exact h.elim
 rename_i z hz
 cases hb1:Nat.beq z.cells.toList.length i.size with
 | false=>simp only [hb1,cond_false] at h
 | true =>
  cases hb2:Nat.ble 1 i.size with
  | false=>simp only [hb1,hb2,cond_true,cond_false] at h
  | true =>
   simp only [hb1,hb2,cond_true] at h
   obtain⟨base,xs,news,⟨a3,hl,hx,hp,hm,f,b⟩,a4⟩:=h
   have hk : ∀ (a' : Option Addr) (c' : Nat) (w' : World),w'.ownsRow base e i.size (.slice a' (n+m) c') (n+m) (xs++news)->w.grownBy w' (Value.slice a n c).ownBlock->(a' = none↔a=none/\m=0) ->
     ((Value.slice a' (n+m) c').ownBlock=(Value.slice a n c).ownBlock\/∀ k,(Value.slice a' (n+m) c').ownBlock=some k->w.heap.size<=k)->(¬ w.ownsRow base e i.size (.slice a n c) n xs->w.grownBy w' none)->K (.slice a' (n+m) c') w' :=
    fun a' c' w' h1 h2 h3 h4 h5=>a4 a' c' w' ⟨h1,h2,h3,h4,h5⟩
   have o:z.cells.size=i.size:=by have:=Nat.eq_of_beq_eq_true hb1;simpa using this
   have l:0<i.size:=Nat.le_of_ble_eq_true hb2
   have a0:=zDg hp
   rcases a3 with hown | ⟨a1,hcap,hlo,b0,rfl,holds⟩
   case inr =>
    rcases hx with rfl | ⟨ad,rfl,hc⟩
    ·exact absurd a1 (Nat.lt_irrefl 0)
    have d : ∀ j u,news[j]? = some u->w.cell? (ad.add j)=some u:=vcells_all hc
    obtain⟨v',w',hr,h2,h3⟩:=run_append_arg_grows (P:=P) w t ty e i z i.size i.bytes ht hi hz rfl rfl o l b0 n c xs hlo holds ad m xc news hl d hcap hm f
    rcases h2.2 with ⟨_,hz0⟩ | ⟨g,cap,cur,rfl,hbg,hg',r⟩
    ·omega
    ·refine⟨_,w',hr,hk (some ⟨g,0,none⟩) cap w' ⟨h2.1,.inr ⟨g,cap,cur,rfl,Nat.le_trans b hbg,hg',r⟩⟩ ⟨h3.os,h3.tape,h3.output,h3.size,fun k hk _=>h3.block k hk (by simp)⟩ (by simp) (.inr fun k a5=>by cases a5;exact hbg) fun _=>h3⟩
   have fin : ∀ v' w',w'.ownsRow base e i.size v' (n+m) (xs++news)->w.grownBy w' (Value.slice a n c).ownBlock->(v' = .slice none 0 0↔Value.slice a n c = .slice none 0 0/\m=0) ->
     (v'.ownBlock=(Value.slice a n c).ownBlock\/∀ k,v'.ownBlock=some k->w.heap.size<=k)->K v' w':=by
    intro v' w' ho hg hn p
    rcases ho.2 with ⟨rfl,hz0⟩ | ⟨g,cap,cur,rfl,hbg,hg',_⟩
    ·obtain⟨he,a1⟩:=hn.1 rfl
     simp only [Value.slice.injEq] at he
     obtain⟨rfl,rfl,rfl⟩:=he
     subst a1
     exact hk none 0 w' ho hg (by simp) p (absurd hown)
    ·refine hk (some ⟨g,0,none⟩) cap w' ho hg ?_ p (absurd hown)
     constructor
     ·intro h;cases h
     ·rintro⟨rfl,rfl⟩
      rcases hown.2 with ⟨h1,_⟩ | ⟨g2,cap2,cur2,h2,_⟩
      ·have:=hn.2 ⟨h1,rfl⟩
       cases this
      ·cases h2
   rcases hx with rfl | ⟨ad,rfl,hc⟩
   ·have a2:news=[]:=List.eq_nil_of_length_eq_zero (by simpa using hl)
    subst a2
    cases xa with
    | some ad =>
     obtain⟨v',w',hr,h2,h3,h4⟩:=run_append_own (P:=P) w base t ty e i z i.size i.bytes ht hi hz rfl rfl o l (.slice a n c) n xs hown ad 0 xc [] (by simp) (by simp) (by simp) hm f b
     exact⟨v',w',hr,fin v' w' h2 h3 h4 (zFG ht hi hz o l hown ad 0 xc [] (by simp) (by simp) (by simp) hm f b hr)⟩
    | none =>
     refine⟨.slice a n c,w,?_,fin _ _ (by simpa using hown) ⟨rfl,rfl,rfl,Nat.le_refl _,fun _ _ _=>rfl⟩ (by simp) (.inl rfl)⟩
     rcases hown.2 with ⟨h1,h2⟩ | ⟨g,cap,cur,h1,_,_,hnc,_⟩
     ·simp only [Value.slice.injEq] at h1
      obtain⟨rfl,rfl,rfl⟩:=h1
      simp [Builtin.append_,run_underlying ht,sizeOf,typeInfo,hi,Builtin.lenOf,Builtin.firstCells]
     ·simp only [Value.slice.injEq,true_and] at h1
      obtain⟨rfl,rfl⟩:=h1
      simp [Builtin.append_,run_underlying ht,sizeOf,typeInfo,hi,Builtin.lenOf,Builtin.firstCells,hnc,storeCells]
   ·have d : ∀ j u,news[j]? = some u->w.cell? (ad.add j)=some u:=by
     have gen : ∀ (vs:List Value) (k:Nat),vcells w ad k vs->∀ j u,vs[j]? = some u->w.cell? (ad.add (k+j))=some u:=by
      intro vs
      induction vs with
      | nil=>intro k _ j u h;simp at h
      | cons v vs ih =>
       intro k h j u hj
       cases j with
       | zero=>simp at hj;subst hj;exact h.1
       | succ j=>have:=ih (k+1) h.2 j u (by simpa using hj);rwa [show k+1+j=k+(j+1) by omega] at this
     intro j u hj
     have:=gen news 0 hc j u hj
     simpa using this
    obtain⟨v',w',hr,h2,h3,h4⟩:=run_append_own (P:=P) w base t ty e i z i.size i.bytes ht hi hz rfl rfl o l (.slice a n c) n xs hown ad m xc news hl d a0 hm f b
    exact⟨v',w',hr,fin v' w' h2 h3 h4 (zFG ht hi hz o l hown ad m xc news hl d a0 hm f b hr)⟩
theorem eqF_sound {P:Program} {w:World} {d:Nat} {xs ys:Array Value} : ∀ (fs:List Field) (i:Nat) (xl yl:List Value) (b:Bool),(∀ j v,xl[j]? = some v->xs[i+j]? = some v)->(∀ j v,yl[j]? = some v->ys[i+j]? = some v) ->
  eqF P fs i xl yl=some b->(Op.eqFields (d+1) xs ys fs).run P w = .ok b w
 | [],i,xl,yl,b,_,_,h=>by
  have:b=true:=by
   unfold eqF at h
   exact (Option.some.inj h).symm
  subst this
  simp [Op.eqFields]
 | f::fs,i,x::xl,y::yl,b,hx,hy,h=>by
  unfold eqF at h
  cases ho:Nat.beq f.offset i with
  | false=>rw [ho] at h;cases h
  | true =>
   cases hn : (f.name == "_") with
   | true=>rw [ho,hn] at h;cases h
   | false =>
    rw [ho,hn] at h
    simp only [cond_true,cond_false] at h
    have hoff:f.offset=i:=Nat.eq_of_beq_eq_true ho
    have hn' : f.name ≠ "_" := by simpa using hn
    have hx0:xs[i]? = some x:=by simpa using hx 0 x rfl
    have hy0:ys[i]? = some y:=by simpa using hy 0 y rfl
    have hx1 : ∀ j v,xl[j]? = some v->xs[i+1+j]? = some v:=fun j v hj=>by have:=hx (j+1) v (by simpa using hj);rwa [show i+(j+1)=i+1+j by omega] at this
    have hy1 : ∀ j v,yl[j]? = some v->ys[i+1+j]? = some v:=fun j v hj=>by have:=hy (j+1) v (by simpa using hj);rwa [show i+(j+1)=i+1+j by omega] at this
    have part : ∀ {dd:TypeDesc},P.underlying f.type=some dd->aggD dd=false->(part f.type xs f.offset).run P w = .ok x w/\(part f.type ys f.offset).run P w = .ok y w:=by
     intro dd hd ha
     constructor
     ·unfold Go.part;simp only [Sem.run_bind,zDC hd,ha,Result.andThen_ok,hoff,hx0];rfl
     ·unfold Go.part;simp only [Sem.run_bind,zDC hd,ha,Result.andThen_ok,hoff,hy0];rfl
    have fin : ∀ (e:Bool) {dd:TypeDesc},P.underlying f.type=some dd->aggD dd=false->(Op.equalIn (d+1) f.type x y).run P w = .ok e w ->
      (match eqF P fs (i+1) xl yl with | some c=>some (and e c) | none=>none)=some b->(Op.eqFields (d+1) xs ys (f::fs)).run P w = .ok b w:=by
     intro e dd hd ha he hm
     obtain⟨h1,h2⟩:=part hd ha
     split at hm
     ·rename_i c hc
      have ih:=eqF_sound (w:=w) (d:=d) fs (i+1) xl yl c hx1 hy1 hc
      rw [Op.eqFields]
      simp only [if_pos hn',Sem.run_bind,h1,h2,he,Result.andThen_ok]
      cases e with
      | true=>simp at hm;subst hm;simpa using ih
      | false=>simp at hm;subst hm;simp
     ·cases hm
    split at h
    ·rename_i k k1 a j b' hd
     cases hk:kindB k1 j with
     | false=>rw [hk] at h;cases h
     | true =>
      rw [hk] at h
      have:=zDB hk
      subst this
      exact fin (a==b') hd rfl (by unfold Op.equalIn;simp [run_underlying hd]) h
    ·rename_i a b' hd
     exact fin (a==b') hd rfl (by unfold Op.equalIn;simp [run_underlying hd]) h
    ·rename_i a b' hd
     exact fin (a==b') hd rfl (by unfold Op.equalIn;simp [run_underlying hd]) h
    ·cases h
theorem zDx {P:Program} {t:TypeId} {x y:Operand} {xs ys:Array Value} {K:Bool->Prop} (h:veq P t xs ys K) :
  ∃ b,K b/\∀ w,(eqGuard .eql t x y (.agg xs) (.agg ys)).run P w = .ok () w/\(eqGuard .neq t x y (.agg xs) (.agg ys)).run P w = .ok () w/\(Op.equal t (.agg xs) (.agg ys)).run P w = .ok b w:=by
 unfold veq at h
 split at h <;> try exact h.elim
 rename_i fs hd
 cases h1:P.stoodInHeld t with
 | true=>rw [h1] at h;exact h.elim
 | false =>
  cases h2:P.eqGuardType P.depth t with
  | true=>rw [h1,h2] at h;exact h.elim
  | false =>
   rw [h1,h2] at h
   simp only [cond_false] at h
   split at h <;> try exact h.elim
   rename_i b hb
   refine⟨b,h,fun w=>⟨?_,?_,?_⟩⟩
   ·unfold eqGuard;simp [h2]
   ·unfold eqGuard;simp [h2]
   ·have hf:P.fieldsOf t=fs:=by simp [Program.fieldsOf,hd]
    have he:=eqF_sound (P:=P) (w:=w) (d:=9998) (xs:=xs) (ys:=ys) fs.toList 0 xs.toList ys.toList b (fun j v hj=>by simpa using hj) (fun j v hj=>by simpa using hj) hb
    show (Op.equalIn (9998+1+1) t _ _).run P w=_
    rw [run_equalIn_struct (P:=P) w (9998+1) t xs ys (by rw [hf];exact hd) h1,hf]
    exact he
theorem bytesAt_run {P:Program} {src dst e:TypeId} {w:World} {a:Option Addr} {n c:Nat} {bs:List UInt8} (hs:P.underlying src=some (.slice e)) (he:P.underlying e=some (.int .u8)) (hd:P.underlying dst=some .string)
  (h:zDv w a n bs):(convert src dst (.slice a n c)).run P w = .ok (.string ⟨bs.toArray⟩) w:=by
 obtain⟨hl,h⟩:=h
 rcases h with ⟨rfl,rfl⟩ | ⟨ad,rfl,hsp,hc⟩
 ·have:bs=[]:=List.eq_nil_of_length_eq_zero hl
  subst this
  exact run_convert_bytes_nil (P:=P) w src e hs he 0 c dst hd
 ·obtain⟨b,off,sp⟩:=ad
  simp only at hsp hc
  subst hsp
  have:=run_convert_bytes_arg (P:=P) w src e hs he b off n c (bs.map fun u=>(u.toNat:Int)) (by simpa using hl) (fun i hi=>by rw [hc i hi];simp [List.getD,show i<bs.length by omega]) dst hd
  rw [this]
  have hm:List.map (fun n:Int=>UInt8.ofNat n.toNat) (List.map (fun u:UInt8=>(u.toNat:Int)) bs)=bs:=by
   rw [List.map_map]
   conv=>rhs;rw [<- List.map_id bs]
   exact List.map_congr_left fun u _=>by simp
  unfold strOfNums
  rw [hm]
theorem upon_value {o:Oper} {P:Program} {a:Act} {next:Act->World->Prop} {Q:Exit->Act->World->Prop} {ρ:Operand->Value} {w w' : World} {v:Value} {K:Value->World->Prop}
  (hk : ∀ v w',K v w'->next (a.put o.dst v) w') (hr:(execOp ρ o).run P w = .ok (.value v) w') (h:K v w'):o.upon P a next Q ((execOp ρ o).run P w):=by
 rw [hr];exact hk _ _ h
theorem zC3 {E:Env} {o:Oper} {a:Act} {next:Act->World->Prop} {Q:Exit->Act->World->Prop} {ρ:Operand->Value} {w:World} {K:Value->World->Prop}
  (hk : ∀ v w',K v w'->next (a.put o.dst v) w')
  (h:vgen E ρ o w K):o.upon E.P a next Q ((execOp ρ o).run E.P w):=by
 obtain⟨r,w',hr,h⟩:=swp_sound E.P _ w _ h
 rw [hr]
 cases r with
 | value v=>exact hk _ _ h
 | skip=>exact hk _ _ h
 | _=>exact h.elim
theorem vcall_sound {E:Env} (hE:E.Ok) {o:Oper} {a:Act} {next:Act->World->Prop} {Q:Exit->Act->World->Prop} {w:World} {K:Value->World->Prop} {f:Nat} {args:Array Value}
  (hk : ∀ v w',K v w'->next (a.put o.dst v) w') (h:vcall E f args w K):o.upon E.P a next Q ((callFunc f args).run E.P w):=by
 unfold vcall at h
 cases hl:lookR f E.okf with
 | none=>rw [hl] at h;exact h.elim
 | some rs =>
  rw [hl] at h
  obtain⟨fn,hf,hn,hb⟩:=hE.fns f rs hl
  have hr:(callFunc f args).run E.P w = .ok (.enter f args) w:=by
   have hn' : fn.name ≠ "runtime.NumGoroutine" := by simpa using hn
   have hb' : fn.body≠none:=by intro h;simp [h] at hb
   unfold callFunc
   simp [hf,hn',hb']
  rw [hr]
  show Calls E.P f args w _
  obtain⟨h⟩:=h
  refine Calls.mono h fun e w' h'=>?_
  obtain⟨v,rfl,h'⟩:=h'
  obtain⟨u,rfl,hK⟩:=Rs.ex_elim rs h'
  exact hk _ _ hK
theorem zFA {P:Program} {t:TypeId} {x y:Value} {w:World} : (Op.equal t x y).run P w=(Op.equalIn (9999+1) t x y).run P w:=rfl
theorem zE2 {P:Program} {t:TypeId} {ms:Array (String × TypeId)} (ht:P.underlying t=some (.interface ms)) (v:Value) (b:Bool) (h:v = .nilIface/\b=true\/(∃ a c,v = .iface a c)/\b=false) (w:World) :
  (Op.equal t v .nilIface).run P w = .ok b w:=by
 rw [zFA]
 unfold Op.equalIn
 rcases h with ⟨rfl,rfl⟩ | ⟨⟨a,c,rfl⟩,rfl⟩ <;> (simp only [Sem.run_bind,run_underlying ht,Result.andThen_ok];rfl)
theorem eq_slice {P:Program} {t e:TypeId} (ht:P.underlying t=some (.slice e)) (a:Option Addr) (n c n' c' : Nat) (w:World):(Op.equal t (.slice a n c) (.slice none n' c')).run P w = .ok a.isNone w:=by
 rw [zFA]
 unfold Op.equalIn
 cases a <;> (simp only [Sem.run_bind,run_underlying ht,Result.andThen_ok];rfl)
theorem zDD {P:Program} {op:BinOp} {t:TypeId} {x:Operand} {c v:Value} (w:World):(eqGuard op t x (.const c) v .nilIface).run P w = .ok () w:=by
 cases op <;> first | rfl | (cases v <;> first | rfl | (cases x <;> rfl))
theorem zEZ {P:Program} {op:BinOp} {t:TypeId} {x y:Operand} {a b:Option Addr} {n c n' c' : Nat} (w:World):(eqGuard op t x y (.slice a n c) (.slice b n' c')).run P w = .ok () w:=by
 cases op <;> rfl
theorem zDy {P:Program} {t:TypeId} {op:BinOp} {v y' c:Value} {x:Operand} {K:Value->Prop} (h:zFK P t op v y' K) :
  ∃ r,K r/\∀ w,(eqGuard op t x (.const c) v y').run P w = .ok () w/\(binOp op t v y').run P w = .ok r w:=by
 unfold zFK at h
 split at h
 ·split at h <;> try exact h.elim
  rename_i ms ht
  split at h <;> try exact h.elim
  ·rcases h with ⟨hv,hk⟩ | ⟨hv,hk⟩
   ·refine⟨_,hk,fun w=>⟨zDD w,?_⟩⟩
    have:=zE2 ht v true (.inl ⟨hv,rfl⟩) w
    subst hv
    simp only [binOp,Sem.run_bind,this,Result.andThen_ok,Sem.run_pure]
   ·refine⟨_,hk,fun w=>⟨zDD w,?_⟩⟩
    have:=zE2 ht v false (.inr ⟨hv,rfl⟩) w
    obtain⟨a,b,rfl⟩:=hv
    simp only [binOp,Sem.run_bind,this,Result.andThen_ok,Sem.run_pure]
  ·rcases h with ⟨hv,hk⟩ | ⟨hv,hk⟩
   ·refine⟨_,hk,fun w=>⟨zDD w,?_⟩⟩
    have:=zE2 ht v true (.inl ⟨hv,rfl⟩) w
    subst hv
    simp only [binOp,Sem.run_bind,this,Result.andThen_ok,Sem.run_pure,Bool.not_true]
   ·refine⟨_,hk,fun w=>⟨zDD w,?_⟩⟩
    have:=zE2 ht v false (.inr ⟨hv,rfl⟩) w
    obtain⟨a,b,rfl⟩:=hv
    simp only [binOp,Sem.run_bind,this,Result.andThen_ok,Sem.run_pure,Bool.not_false]
 ·split at h <;> try exact h.elim
  rename_i e ht
  split at h <;> try exact h.elim
  split at h <;> try exact h.elim
  ·refine⟨_,h,fun w=>⟨zEZ w,?_⟩⟩
   simp only [binOp,Sem.run_bind,eq_slice ht,Result.andThen_ok,Sem.run_pure]
  ·refine⟨_,h,fun w=>⟨zEZ w,?_⟩⟩
   simp only [binOp,Sem.run_bind,eq_slice ht,Result.andThen_ok,Sem.run_pure]
 ·exact h.elim
theorem vop_sound {E:Env} (hE:E.Ok) {ρ:Operand->Value} {o:Oper} {a:Act} {next:Act->World->Prop} {Q:Exit->Act->World->Prop} {w:World} {K:Value->World->Prop}
  (hk : ∀ v w',K v w'->next (a.put o.dst v) w') (h:vop E ρ o w K):o.upon E.P a next Q ((execOp ρ o).run E.P w):=by
 unfold vop at h
 split at h
 ·
  rename_i t x ho
  split at h <;> try exact h.elim
  rename_i ad hx
  obtain⟨v,hr,hv⟩:=zEC h
  refine upon_value hk ?_ hv
  unfold execOp
  simp [ho,Instr.loadAt,Instr.sureAddr,hx,hr]
 ·
  rename_i t x y ho
  split at h <;> try exact h.elim
  rename_i ad hx
  obtain⟨w',hr,hv⟩:=zEe h
  have:(execOp ρ o).run E.P w = .ok .skip w':=by
   unfold execOp
   simp [ho,Instr.storeAt,Instr.sureAddr,hx,hr]
  rw [this]
  exact hk _ _ hv
 ·
  rename_i t x y ho
  split at h
  ·rename_i s k n hx hy
   split at h <;> try exact h.elim
   rename_i ht
   refine upon_value hk ?_ h.2
   unfold execOp
   simp [ho,hx,hy,zEm ht h.1.1 h.1.2]
  ·exact zC3 hk h
 ·
  rename_i t x y ho
  split at h
  ·rename_i b len c k n hx hy
   split at h <;> try exact h.elim
   rename_i e ht
   split at h <;> try exact h.elim
   rename_i i hi
   obtain⟨ad,rfl,hb,hK⟩:=h
   refine upon_value hk ?_ hK
   unfold execOp
   simp [ho,hx,hy,zCK ht hi hb.1 hb.2]
  ·exact zC3 hk h
 ·
  rename_i t x lo hi mx ho
  split at h
  ·rename_i ht
   split at h <;> try exact h.elim
   rename_i s hx
   obtain⟨v,hr,hv⟩:=zDw (w:=w) ht h
   refine upon_value hk ?_ hv
   unfold execOp
   simp only [ho,Sem.run_bind,hx,zBi ht (by simp),hr,Result.andThen_ok]
   rfl
  ·rename_i e ht
   split at h <;> try exact h.elim
   rename_i b n c i hx hi'
   obtain⟨v,hr,hv⟩:=zEf (w:=w) ht hi' h
   refine upon_value hk ?_ hv
   unfold execOp
   simp only [ho,Sem.run_bind,hx,zBi ht (by simp),hr,Result.andThen_ok]
   rfl
  ·exact zC3 hk h
 ·
  rename_i src dst x ho
  split at h
  ·rename_i b n c hx
   split at h
   ·rename_i e hs hd
    split at h <;> try exact h.elim
    rename_i he
    obtain⟨bs,hb,hK⟩:=h
    refine upon_value hk ?_ hK
    unfold execOp
    simp only [ho,Sem.run_bind,hx,bytesAt_run hs he hd hb,Result.andThen_ok]
    rfl
   ·exact zC3 hk h
  ·rename_i s hx
   split at h
   ·rename_i e hs hd
    split at h <;> try exact h.elim
    rename_i he
    have hr:=Lib.run_convert_string_bytes (P:=E.P) w src dst e s hs hd he
    refine upon_value hk ?_ (h (grownCap w s.size 0 e) (Lib.bytesWorld w e s) ⟨⟨rfl,rfl,rfl,?_,fun j hj=>Lib.bytesWorld_at_old w e s j hj⟩,Lib.bytesWorld_size w e s,fun j hj=>Lib.bytesWorld_cell w e s j hj,grownCap_ge w s.size 0 e⟩)
    ·unfold execOp
     simp only [ho,Sem.run_bind,hx,hr,Result.andThen_ok]
     rfl
    ·rw [Lib.bytesWorld_size];omega
   ·exact zC3 hk h
  ·exact zC3 hk h
 ·
  rename_i op t x u ho
  obtain⟨v,hv,hr⟩:=zDy (x:=x) (c := .nilIface) h
  refine upon_value hk ?_ hv
  unfold execOp
  simp only [ho,Sem.run_bind,(hr w).1,Result.andThen_ok,(hr w).2]
  rfl
 ·
  rename_i op t x n c u ho
  obtain⟨v,hv,hr⟩:=zDy (x:=x) (c := .slice none n c) h
  refine upon_value hk ?_ hv
  unfold execOp
  simp only [ho,Sem.run_bind,(hr w).1,Result.andThen_ok,(hr w).2]
  rfl
 ·
  rename_i op t x y u _ _ ho
  split at h
  ·rename_i k m j b hx hy
   cases hop:intOp op with
   | false=>rw [hop] at h;exact zC3 hk h
   | true =>
    rw [hop] at h
    cases hkb:kindB k j with
    | false=>rw [hkb] at h;exact h.elim
    | true =>
     rw [hkb] at h
     have:=zDB hkb
     subst this
     by_cases hb:b=0
     ·simp only [hb,decide_true,cond_true] at h
     ·simp only [hb,decide_false,cond_true,cond_false] at h
      cases op <;> simp only [intOp,Bool.false_eq_true] at hop <;> try cases hop
      ·refine upon_value hk ?_ h
       unfold execOp
       simp [ho,hx,hy,eqGuard,binOp,Op.intDiv,hb]
      ·refine upon_value hk ?_ h
       unfold execOp
       simp [ho,hx,hy,eqGuard,binOp,Op.intDiv,hb]
  ·rename_i b c hx hy
   split at h
   ·refine upon_value hk ?_ h.2
    unfold execOp
    simp only [ho,hx,hy,Sem.run_bind]
    simp [eqGuard,binOp,Op.stringOp]
    have h1:=h.1
    simp at *
    omega
   ·exact zC3 hk h
  ·rename_i xs ys hx hy
   split at h
   ·obtain⟨b,hb,hr⟩:=zDx (x:=x) (y:=y) h
    refine upon_value hk ?_ hb
    unfold execOp
    simp only [ho,hx,hy,Sem.run_bind,(hr w).1,Result.andThen_ok,binOp,(hr w).2.2,Sem.run_pure]
   ·obtain⟨b,hb,hr⟩:=zDx (x:=x) (y:=y) h
    refine upon_value hk ?_ hb
    unfold execOp
    simp only [ho,hx,hy,Sem.run_bind,(hr w).2.1,Result.andThen_ok,binOp,(hr w).2.2,Sem.run_pure]
   ·exact h.elim
  ·exact zC3 hk h
 ·
  rename_i t l c ho
  split at h <;> try exact h.elim
  rename_i k1 ln k2 cn hx hy
  split at h <;> try exact h.elim
  rename_i e ht
  split at h <;> try exact h.elim
  rename_i i hi
  split at h <;> try exact h.elim
  rename_i z hz
  obtain⟨⟨h0,h1,h2,h3⟩,hK⟩:=h
  refine upon_value hk ?_ hK
  unfold execOp
  simp [ho,hx,hy,run_make (P:=E.P) w t e i z ht hi hz k1 k2 ln cn h0 h1 h2 h3]
 ·
  rename_i c ho
  split at h
  ·rename_i f hc
   split at h <;> try exact h.elim
   rename_i g first captured hf
   have:=vcall_sound hE (o:=o) (a:=a) (Q:=Q) hk h
   have hx:(execOp ρ o).run E.P w=(callFunc g (first++c.args.map ρ++captured)).run E.P w:=by
    unfold execOp
    simp [ho,resolve,hc,hf,Deferred.ofValue,invoke]
   rw [hx];exact this
  ·rename_i hc
   split at h <;> try exact h.elim
   rename_i s x t u hargs htys
   have ha:c.args = #[s,x]:=by
    have:=congrArg List.toArray hargs
    simpa using this
   have d:c.argTypes = #[t,u]:=by
    have:=congrArg List.toArray htys
    simpa using this
   have main : ∀ y,ρ x=y->cond (Nat.beq t u) (zFN E.P t w K (ρ s) y) False->o.upon E.P a next Q ((execOp ρ o).run E.P w):=by
    intro y hy hq
    cases hb:Nat.beq t u with
    | false=>rw [hb] at hq;exact hq.elim
    | true =>
     rw [hb] at hq
     have p:=Nat.eq_of_beq_eq_true hb
     rw [<- p] at d
     obtain⟨v,w',hr,hv⟩:=zFM (ty:=o.type) hq
     refine upon_value hk ?_ hv
     unfold execOp
     simp [ho,resolve,hc,ha,d,invoke,builtin,hy,hr]
   split at h <;> first | exact h.elim | exact main _ rfl h
  ·exact zC3 hk h
 ·exact zC3 hk h
abbrev Cs:=List (Nat × Bool)
abbrev Fr:=List (Nat × Option (Cs × Value))
def beqB:Bool->Bool->Bool
 | true,true=>true
 | false,false=>true
 | _,_=>false
def notB:Bool->Bool
 | true=>false
 | false=>true
def csMem (s:Nat) (b:Bool):Cs->Bool
 | []=>false
 | (t,c)::l=>cond (Nat.beq s t) (cond (beqB b c) true (csMem s b l)) (csMem s b l)
def csSub:Cs->Cs->Bool
 | [],_=>true
 | (s,b)::l,m=>cond (csMem s b m) (csSub l m) false
def look (t:Nat):Fr->Option (Cs × Value)
 | []=>none
 | (s,x)::f=>cond (Nat.beq s t) x (look t f)
def get (f:Fr) (cs:Cs) (t:Nat):Option Value :=
 match look t f with
 | some (c,v)=>cond (csSub c cs) (some v) none
 | none=>none
def ev (f:Fr) (cs:Cs):Operand->Option Value
 | .tmp t=>get f cs t
 | .const v=>some v
 | .global g=>some (.pointer (some ⟨g,0,none⟩))
 | .func g=>some (.func (.func g) #[] #[])
def rho (f:Fr) (cs:Cs) (x:Operand):Value :=
 match ev f cs x with
 | some v=>v
 | none=>undef
def isSm:Option Value->Bool
 | some _=>true
 | none=>false
def evAll (f:Fr) (cs:Cs):List Operand->Bool
 | []=>true
 | x::l=>cond (isSm (ev f cs x)) (evAll f cs l) false
def mentC (d:Nat):Cs->Bool
 | []=>false
 | (t,_)::l=>cond (Nat.beq t d) true (mentC d l)
def ment (d:Nat):Fr->Bool
 | []=>false
 | (_,some (c,_))::f=>cond (mentC d c) true (ment d f)
 | (_,none)::f=>ment d f
def Holds (cs:Cs) (a:Act):Prop:=∀ p∈cs,a.tmps[p.1]? = some (.bool p.2)
structure Sat (n:Nat) (f:Fr) (a:Act):Prop where
 defers:a.defers=[]
 size:a.tmps.size=n
 val : ∀ t cs v,look t f=some (cs,v)->(Holds cs a->a.tmps[t]? = some v)/\(¬ Holds cs a->a.tmps[t]? = some undef)
def Agree (W:List Nat) (a a' : Act):Prop:=∀ t,t∉W->a'.tmps[t]? = a.tmps[t]?
theorem beqB_eq {b c:Bool} (h:beqB b c=true):b=c:=by cases b <;> cases c <;> first | rfl | cases h
theorem zAU {s:Nat} {b:Bool} : ∀ {l:Cs},csMem s b l=true->(s,b)∈l
 | (t,c)::l,h=>by
  unfold csMem at h
  cases h1:Nat.beq s t with
  | false=>rw [h1] at h;exact List.mem_cons_of_mem _ (zAU h)
  | true =>
   rw [h1] at h
   cases h2:beqB b c with
   | false=>rw [h2] at h;exact List.mem_cons_of_mem _ (zAU h)
   | true=>rw [Nat.eq_of_beq_eq_true h1,beqB_eq h2];exact List.mem_cons_self
theorem csSub_mem : ∀ {c m:Cs},csSub c m=true->∀ p∈c,p∈m
 | [],_,_,p,hp=>by cases hp
 | (s,b)::l,m,h,p,hp=>by
  unfold csSub at h
  cases h1:csMem s b m with
  | false=>rw [h1] at h;cases h
  | true =>
   rw [h1] at h
   rcases List.mem_cons.1 hp with rfl | hp
   ·exact zAU h1
   ·exact csSub_mem h p hp
theorem Holds.sub {c m:Cs} {a:Act} (h:csSub c m=true) (hm:Holds m a):Holds c a:=fun p hp=>hm p (csSub_mem h p hp)
theorem zDZ {a:Act} {t:Nat} {v:Value} (h:a.tmps[t]? = some v):a.tmps.getD t undef=v:=by
 rw [Array.getD_eq_getD_getElem?,h];rfl
theorem zCM {n:Nat} {f:Fr} {a:Act} {cs:Cs} {t:Nat} {v:Value} (hs:Sat n f a) (hh:Holds cs a) (h:get f cs t=some v):a.tmps[t]? = some v:=by
 unfold get at h
 cases hl:look t f with
 | none=>rw [hl] at h;cases h
 | some x =>
  obtain⟨c,u⟩:=x
  rw [hl] at h
  cases h1:csSub c cs with
  | false=>simp only [h1,cond_false] at h;cases h
  | true =>
   simp only [h1,cond_true,Option.some.injEq] at h
   subst h
   exact (hs.val t c u hl).1 (hh.sub h1)
theorem zDj {n:Nat} {f:Fr} {a:Act} {cs:Cs} {x:Operand} {v:Value} (hs:Sat n f a) (hh:Holds cs a) (h:ev f cs x=some v):a.eval x=v:=by
 cases x with
 | tmp t=>exact zDZ (zCM hs hh h)
 | const u=>exact Option.some.inj h
 | global g=>exact Option.some.inj h
 | func g=>exact Option.some.inj h
theorem evAll_sat {n:Nat} {f:Fr} {a:Act} {cs:Cs} (hs:Sat n f a) (hh:Holds cs a) : ∀ {l:List Operand},evAll f cs l=true->∀ x∈l,rho f cs x=a.eval x
 | x::l,h,y,hy=>by
  unfold evAll at h
  cases hx:ev f cs x with
  | none=>rw [hx] at h;cases h
  | some v =>
   rw [hx] at h
   rcases List.mem_cons.1 hy with rfl | hy
   ·unfold rho;rw [hx];exact (zDj hs hh hx).symm
   ·exact evAll_sat hs hh h y hy
def zBJ:Op->Bool
 | .select _ _=>false
 | _=>true
theorem zEb {n:Nat} {f:Fr} {a:Act} {cs:Cs} {o:Oper} (hs:Sat n f a) (hh:Holds cs a) (hn:zBJ o.op=true) (h:evAll f cs o.op.operands.toList=true) :
  execOp (rho f cs) o=execOp a.eval o :=
 execOp_congr o (fun cs b he=>by rw [he] at hn;cases hn) fun x hx=>evAll_sat hs hh h x (by simpa using hx)
def dstOf (ops:Array Oper) (j:Nat):Option Nat :=
 match ops[j]? with
 | some o=>o.dst
 | none=>none
def push (o:Oper) (x:Option (Cs × Value)) (f:Fr):Fr :=
 match o.dst with
 | some d=>(d,x)::f
 | none=>f
def zBm (n:Nat) (o:Oper) (kn:Cs) (f:Fr):Bool :=
 match o.dst with
 | some d=>cond (Nat.blt d n) (cond (mentC d kn) false (notB (ment d f))) false
 | none=>true
def joinV (x:Bool):Option Value->Option Value->Option Value
 | some (.bool p),some (.bool q)=>some (.bool (cond x p q))
 | some (.int k p),some (.int j q)=>cond (kindB k j) (some (.int k (cond x p q))) none
 | some (.string p),some (.string q)=>some (.string (cond x p q))
 | _,_=>none
def joinO (x:Bool) (a b:Operand) (p q:Option Value):Option Value :=
 match a,b,p,q with
 | .const (.bool true),_,some (.bool true),some (.bool c)=>some (.bool (or x c))
 | _,.const (.bool false),some (.bool c),some (.bool false)=>some (.bool (and x c))
 | _,_,p,q=>joinV x p q
def pureOf:Sem Next->Option Value
 | .pure (.value v)=>some v
 | _=>none
def vspec (f:Fr) (kn cs:Cs) (o:Oper):Option Value :=
 match o.op with
 | .pick (.tmp t) a b =>
  match ev f (cs++kn) (.tmp t) with
  | some (.bool x)=>cond (csMem t true kn) (ev f (cs++kn) a) (cond (csMem t false kn) (ev f (cs++kn) b) (joinO x a b (ev f ((t,true)::(cs++kn)) a) (ev f ((t,false)::(cs++kn)) b)))
  | _=>none
 | .binOp _ _ _ (.const .nilIface) _=>none
 | .binOp _ _ _ (.const (.slice none _ _)) _=>none
 | op=>cond (zBJ op) (cond (evAll f (cs++kn) op.operands.toList) (pureOf (execOp (rho f (cs++kn)) o)) none) none
theorem Holds.append {c d:Cs} {a:Act} (h:Holds c a) (k:Holds d a):Holds (c++d) a:=fun p hp=>(List.mem_append.1 hp).elim (h p) (k p)
theorem Holds.cons {t:Nat} {b:Bool} {c:Cs} {a:Act} (h:a.tmps[t]? = some (.bool b)) (k:Holds c a):Holds ((t,b)::c) a:=fun p hp=>by
 rcases List.mem_cons.1 hp with rfl | hp
 ·exact h
 ·exact k p hp
theorem joinV_some {x:Bool} {p q:Option Value} {v:Value} (h:joinV x p q=some v) : ∃ u y,p=some u/\q=some y/\v=cond x u y:=by
 unfold joinV at h
 split at h
 ·cases h;cases x <;> exact⟨_,_,rfl,rfl,rfl⟩
 ·rename_i k a j b
  cases hk:kindB k j with
  | false=>rw [hk] at h;cases h
  | true =>
   rw [hk] at h
   have:=zDB hk
   subst this
   cases h
   cases x <;> exact⟨_,_,rfl,rfl,rfl⟩
 ·cases h;cases x <;> exact⟨_,_,rfl,rfl,rfl⟩
 ·cases h
theorem joinO_some {x:Bool} {a b:Operand} {p q:Option Value} {v:Value} (h:joinO x a b p q=some v) : ∃ u y,p=some u/\q=some y/\v=cond x u y:=by
 unfold joinO at h
 split at h
 ·cases h;cases x <;> exact⟨_,_,rfl,rfl,rfl⟩
 ·cases h;cases x <;> exact⟨_,_,rfl,rfl,rfl⟩
 ·exact joinV_some h
theorem zCj {P:Program} {n:Nat} {f:Fr} {a:Act} {kn cs:Cs} {o:Oper} {v:Value} {w:World} (hs:Sat n f a) (hk:Holds kn a) (hc:Holds cs a) (h:vspec f kn cs o=some v) :
  (execOp a.eval o).run P w = .ok (.value v) w:=by
 have hh:Holds (cs++kn) a:=hc.append hk
 unfold vspec at h
 split at h
 ·rename_i t x y ho
  split at h <;> try (cases h;done)
  rename_i b hb
  have d:a.tmps[t]? = some (.bool b):=zCM hs hh hb
  have he:a.eval (.tmp t) = .bool b:=zDZ d
  have hv:v=(if b then a.eval x else a.eval y):=by
   cases h1:csMem t true kn with
   | true =>
    rw [h1] at h
    have:=hk _ (zAU h1)
    rw [d] at this
    cases this
    exact (zDj hs hh h).symm
   | false =>
    cases h2:csMem t false kn with
    | true =>
     rw [h1,h2] at h
     have:=hk _ (zAU h2)
     rw [d] at this
     cases this
     exact (zDj hs hh h).symm
    | false =>
     rw [h1,h2] at h
     obtain⟨u,z,hu,hz,rfl⟩:=joinO_some h
     cases b with
     | true=>exact (zDj hs (hh.cons d) hu).symm
     | false=>exact (zDj hs (hh.cons d) hz).symm
  subst hv
  unfold execOp
  simp [ho,he,asBool]
 ·cases h
 ·cases h
 ·cases h1:zBJ o.op with
  | false=>rw [h1] at h;cases h
  | true =>
   cases h2:evAll f (cs++kn) o.op.operands.toList with
   | false=>rw [h1,h2] at h;cases h
   | true =>
    rw [h1,h2] at h
    simp only [cond_true] at h
    rw [zEb hs hh h1 h2] at h
    unfold pureOf at h
    split at h
    ·rename_i u he
     cases h
     rw [he];rfl
    ·cases h
end Go.V
