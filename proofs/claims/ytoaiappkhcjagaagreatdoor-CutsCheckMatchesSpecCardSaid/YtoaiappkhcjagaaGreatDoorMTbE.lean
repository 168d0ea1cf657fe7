/- Part of the proof: TbE, TbF, TbG, TbH, SiK, SiK2, SiK3, SiK4. -/
import Derived.Test.YtoaiappkhcjagaaGreatDoorMSiO5
import Derived.Test.YtoaiappkhcjagaaGreatDoorMV7
import Derived.Test.YtoaiappkhcjagaaGreatDoorSiV4
set_option linter.unusedVariables false
set_option linter.unusedSimpArgs false
namespace Go.Tb
def costF(S:Sys)(s:Dy)(c:Nat->Rat):Nat->Nat->Rat
 | 0,j=>if s.cols j<S.n then c (s.cols j) else 0
 | k+1,j=>if s.line k<0 then costF S s c k j else costF S s c k j+c k*s.a (s.line k).toNat j
def costs(S:Sys)(s:Dy)(c:Nat->Rat)(j:Nat):Rat:=costF S s c S.n j
theorem pick_cols{S:Sys}{s:Dy}(h:Perm S s){j v:Nat}(hj:j<S.n)(e:s.cols j=v)(f:Nat->Rat):(sumN S.n fun k=>if s.cols k=v then f k else 0)=f j:=by
 rw [zC7 hj,if_pos e];intro k hk b;exact if_neg fun e2=>b (h.inj k j hk hj (by rw [e2,e]))
def improves(S:Sys)(s:Dy)(d:Nat->Rat)(j:Nat):Bool:=decide (d j≠0)&&free S s.val (s.cols j) (decide (0<d j))
def cand(S:Sys)(s:Dy)(v:Nat)(rate:Rat):Option V2 :=
 match (if rate<0 then lower S v else upper S v) with
 | none=>none
 | some b=>some (zAC (sub2 b (s.val v)) rate⁻¹)
def oneQ(up:Bool):Rat:=if up then 1 else -1
def stepOf(up:Bool)(st:V2):V2:=if up then st else zAC st (-1)
inductive ResM | best (d:Nat->Rat) | ray (j:Nat) (up:Bool) | self (s:Dy) | go (i j:Nat) (s:Dy)
def Feas(S:Sys)(s:Dy):Prop:=∀ v,S.n<=v->v<S.n+S.m->zEU S s v
structure StepM (S:Sys) (s:Dy) (c:Nat->Rat) (i j:Nat) (st:V2) (s' : Dy):Prop where
 hj:j<S.n
 imp:improves S s (costs S s c) j=true
 low : ∀ k,k<S.n->improves S s (costs S s c) k=true->s.cols j<=s.cols k
 hi:i<S.m
 ne:s.a i j≠0
 cnd:cand S s (s.basic i) (s.a i j*oneQ (decide (0<costs S s c j)))=some st
 min : ∀ q x,q<S.m->s.a q j≠0->cand S s (s.basic q) (s.a q j*oneQ (decide (0<costs S s c j)))=some x->le2 st x/\(x=st->s.basic i<=s.basic q)
 eq:s' = pivot (move s j (stepOf (decide (0<costs S s c j)) st)) i j
def lhs(S:Sys)(x:Nat->Rat)(k:Nat):Rat:=sumN S.n fun j=>S.C k j*x j
def Sat(S:Sys)(x:Nat->Rat):Prop:=∀ k,k<S.m->lhs S x k<=S.K k/\(S.rel k=2->lhs S x k<S.K k)/\(S.rel k=3->lhs S x k=S.K k)
def Adm(S:Sys)(y:Nat->Rat):Prop:=∀ k,k<S.m->S.rel k≠3->0<=y k
def Strict(S:Sys)(y:Nat->Rat):Prop:=∃ k,k<S.m/\S.rel k=2/\0<y k
def comb(S:Sys)(y:Nat->Rat)(j:Nat):Rat:=sumN S.m fun k=>y k*S.C k j
def combK(S:Sys)(y:Nat->Rat):Rat:=sumN S.m fun k=>y k*S.K k
def zBp(S:Sys)(y:Nat->Rat):Prop:=Adm S y/\(∀ j,j<S.n->comb S y j=0)/\(combK S y<0\/combK S y=0/\Strict S y)
theorem comb_dot(S:Sys)(y x:Nat->Rat):(sumN S.n fun j=>comb S y j*x j)=sumN S.m fun k=>y k*lhs S x k:=by
 have e1:(sumN S.n fun j=>comb S y j*x j)=sumN S.n fun j=>sumN S.m fun k=>y k*S.C k j*x j:=by
  refine zAn fun j _=>?_;rw [comb,Rat.mul_comm,<- zCg]
  exact zAn fun k _=>by grind
 rw [e1,sumN_comm];refine zAn fun k _=>?_;rw [lhs,<- zCg]
 exact zAn fun j _=>by grind
theorem weak{S:Sys}{y x:Nat->Rat}(hy:Adm S y)(hx:Sat S x):(sumN S.m fun k=>y k*lhs S x k)<=combK S y/\(Strict S y->(sumN S.m fun k=>y k*lhs S x k)<combK S y):=by
 have h1 : ∀ k,k<S.m->0<=y k*(S.K k - lhs S x k):=by
  intro k hk;obtain⟨a,b,c⟩:=hx k hk
  by_cases h3:S.rel k=3
  ·rw [c h3];grind
  ·exact Rat.mul_nonneg (hy k hk h3) (by grind)
 have e:(sumN S.m fun k=>y k*(S.K k - lhs S x k))=combK S y - sumN S.m fun k=>y k*lhs S x k:=by
  rw [combK,<- zGy]
  exact zAn fun k _=>by grind
 have h2:=zFf h1;rw [e] at h2;refine⟨by grind,fun ⟨k,hk,hr,hp⟩=>?_⟩;have h3:0<y k*(S.K k - lhs S x k):=Rat.mul_pos hp (by have:=(hx k hk).2.1 hr;grind)
 have h4:0<sumN S.m fun k=>y k*(S.K k - lhs S x k):=by
  rw [zCX hk]
  have:0<=sumN S.m fun i=>if i=k then 0 else y i*(S.K i - lhs S x i):=zFf fun i hi=>by
   split
   ·exact Rat.le_refl
   ·exact h1 i hi
  grind
 rw [e] at h4
 grind
theorem farkas{S:Sys}{y x:Nat->Rat}(hy:zBp S y)(hx:Sat S x):False:=by
 obtain⟨h1,h2⟩:=weak hy.1 hx;rw [<- comb_dot,zBh fun j hj=>by rw [hy.2.1 j hj,Rat.zero_mul]] at h1 h2
 rcases hy.2.2 with h3 | ⟨h3,h4⟩
 ·grind
 ·have:=h2 h4;grind
def init(S:Sys):Dy where
 basic i:=S.n+i
 cols j:=j
 line v:=if v<S.n then -1 else ((v - S.n:Nat):Int)
 a:=S.C
 val _:=zero2
theorem zEL(S:Sys):Inv S (init S):=by
 refine⟨⟨⟨fun i hi=>?_,fun j hj=>?_,fun j k _ _ e=>e,fun v hv=>?_⟩,fun x=>Iff.rfl⟩,?_,?_,fun j hj=>?_⟩
 ·simp only [init]
  refine⟨by omega,?_⟩;rw [if_neg (by omega)];omega
 ·simp only [init]
  refine⟨by omega,?_⟩;rw [if_pos hj]
 ·simp only [init]
  refine⟨fun h=>?_,fun h=>?_⟩
  ·by_cases e:v<S.n
   ·rw [if_pos e] at h;omega
   ·rw [if_neg e] at h ⊢;omega
  ·by_cases e:v<S.n
   ·rw [if_pos e] at h ⊢
    exact⟨rfl,v,e,rfl⟩
   ·rw [if_neg e] at h;omega
 ·intro i _
  show (0:Rat)=sumN S.n fun j=>S.C i j*0;rw [zBh fun j _=>Rat.mul_zero _]
 ·intro i _
  show (0:Rat)=sumN S.n fun j=>S.C i j*0;rw [zBh fun j _=>Rat.mul_zero _]
 ·exact (if_pos hj).symm
theorem zEi{S:Sys} : ∀ (f:Nat) {s s' : Dy} {r:Option (Nat × Bool)},Inv S s->zBd S f s=some (s',r)->Inv S s'/\(r=none->viol S s' = none)/\(∀ i up,r=some (i,up)->∃ b,viol S s' = some (i,b,up)/\zB7 S s' i up=none)
 | f+1,s,s',r,h,he=>by
  rw [zBd] at he
  cases hs:stepS S s with
  | sat =>
   rw [hs] at he;cases he
   refine⟨h,fun _=>?_,fun i up e=>by cases e⟩
   unfold stepS at hs
   cases hv:viol S s with
   | none=>rfl
   | some r =>
    obtain⟨i,b,up⟩:=r
    rw [hv] at hs;simp only at hs
    cases hent:zB7 S s i up <;> rw [hent] at hs <;> cases hs
  | unsat i up =>
   rw [hs] at he;cases he
   refine⟨h,fun e=>(by cases e),fun i' up' e=>?_⟩
   cases e
   unfold stepS at hs
   cases hv:viol S s with
   | none=>rw [hv] at hs;cases hs
   | some r =>
    obtain⟨i2,b,up2⟩:=r
    rw [hv] at hs;simp only at hs
    cases hent:zB7 S s i2 up2 with
    | none=>rw [hent] at hs;cases hs;exact⟨b,rfl,hent⟩
    | some j=>rw [hent] at hs;cases hs
  | go i j s1 =>
   rw [hs] at he
   obtain⟨_,_,_,_,_,_,_,_,_,hI⟩:=zC8 h hs
   exact zEi f hI he
theorem feas_of{S:Sys}{s:Dy}(h:Inv S s)(hv:viol S s=none):Feas S s:=by
 intro v h1 h2
 by_cases h0:0<=s.line v
 ·exact viol_none hv v h1 h2 h0
 ·have:=zFv h (v:=v) ⟨h2,by omega⟩
  rw [if_neg (by omega)] at this;refine⟨?_,fun _=>this⟩;rw [this];right;exact⟨rfl,Rat.le_refl⟩
def refF(S:Sys)(s:Dy)(i:Nat):Nat->Nat->Rat
 | 0=>upd (fun _=>0) (s.basic i - S.n) 1
 | j+1=>if s.a i j≠0 then upd (refF S s i j) (s.cols j - S.n) (- s.a i j) else refF S s i j
def refv(S:Sys)(s:Dy)(i:Nat)(up:Bool)(k:Nat):Rat:=if up then - refF S s i S.n k else refF S s i S.n k
theorem zFn{S:Sys}{s:Dy}(h:Inv S s){i:Nat}{up:Bool}(he:zB7 S s i up=none) : ∀ j,j<S.n->s.a i j≠0->S.n<=s.cols j/\(S.rel (s.cols j - S.n)≠3->(decide (0<s.a i j)==up)=true):=by
 intro j hj h0;have d:=zEw he j hj
 have b : ¬ (s.a i j≠0/\(S.n<=s.cols j->S.rel (s.cols j - S.n)≠3/\(decide (0<s.a i j)==up)=false)):=by
  rw [<- zDP h hj,d];decide
 refine⟨Decidable.byContradiction fun h1=>b ⟨h0,fun h2=>absurd h2 h1⟩,fun h3=>?_⟩
 cases hd:(decide (0<s.a i j)==up) with
 | true=>rfl
 | false=>exact absurd ⟨h0,fun _=>⟨h3,hd⟩⟩ b
theorem refF_eq{S:Sys}{s:Dy}(h:Perm S s){i:Nat}(hi:i<S.m)(hb:S.n<=s.basic i)(hc : ∀ j,j<S.n->s.a i j≠0->S.n<=s.cols j)(k:Nat) : ∀ J,J<=S.n ->
  refF S s i J k=(if s.basic i=S.n+k then 1 else 0)+sumN J fun j=>if s.cols j=S.n+k then - s.a i j else 0
 | 0,_=>by
  rw [refF,zBM]
  unfold upd
  by_cases e:k=s.basic i - S.n
  ·rw [if_pos e,if_pos (by omega)];grind
  ·rw [if_neg e,if_neg (by omega)];grind
 | J+1,hJ=>by
  have ih:=refF_eq h hi hb hc k J (by omega)
  rw [refF,zAq]
  by_cases h0:s.a i J=0
  ·rw [if_neg (fun e=>e h0),ih]
   split <;> grind
  ·rw [if_pos h0]
   have hJn:=hc J (by omega) h0
   by_cases e:k=s.cols J - S.n
   ·have e2:s.cols J=S.n+k:=by omega
    rw [e,zA4,<- e,if_pos e2,if_neg (fun e3=>h.ne hi (by omega:J<S.n) (by rw [e3,e2])),zBh fun j hj=>if_neg fun e3=>?_]
    ·grind
    ·have:=h.inj j J (by omega) (by omega) (by rw [e3,e2]);omega
   ·rw [zAt _ e,ih,if_neg (by omega : ¬ s.cols J=S.n+k)];grind
theorem refF_sum{S:Sys}{s:Dy}(h:Perm S s){i:Nat}(hi:i<S.m)(hb:S.n<=s.basic i)(hc : ∀ j,j<S.n->s.a i j≠0->S.n<=s.cols j)(g:Nat->Rat) :
  (sumN S.m fun k=>refF S s i S.n k*g (S.n+k))=g (s.basic i) - sumN S.n fun j=>s.a i j*g (s.cols j):=by
 have e1:(sumN S.m fun k=>refF S s i S.n k*g (S.n+k))=(sumN S.m fun k=>if k=s.basic i - S.n then g (s.basic i) else 0)+sumN S.m fun k=>sumN S.n fun j=>if s.cols j=S.n+k then - s.a i j*g (s.cols j) else 0:=by
  rw [<- zDN];refine zAn fun k _=>?_;rw [refF_eq h hi hb hc k S.n (Nat.le_refl _)]
  have e2:(sumN S.n fun j=>if s.cols j=S.n+k then - s.a i j*g (s.cols j) else 0)=g (S.n+k)*sumN S.n fun j=>if s.cols j=S.n+k then - s.a i j else 0:=by
   rw [<- zCg];refine zAn fun j _=>?_;split
   ·rename_i e;rw [e];grind
   ·grind
  rw [e2]
  by_cases e:k=s.basic i - S.n
  ·rw [if_pos (by omega),if_pos e,show S.n+k=s.basic i by omega];grind
  ·rw [if_neg (by omega),if_neg e];grind
 have d:=(h.bas i hi).1;rw [e1,sumN_comm,zC7 (j:=s.basic i - S.n) (by omega) _ (fun k _ b=>if_neg b),if_pos rfl,Rat.sub_eq_add_neg,<- zEB]
 congr 1
 refine zAn fun j hj=>?_
 by_cases h0:s.a i j=0
 ·rw [h0,zBh fun k _=>by split <;> grind];grind
 ·have l:=hc j hj h0
  have f:=(h.col j hj).1;rw [zC7 (j:=s.cols j - S.n) (by omega) _ (fun k _ b=>if_neg (by omega)),if_pos (by omega)];grind
theorem refute_ok{S:Sys}{s:Dy}(h:Inv S s){i:Nat}{b:V2}{up:Bool}(hv:viol S s=some (i,b,up))(he:zB7 S s i up=none):zBp S (refv S s i up):=by
 obtain⟨a1,a2,a3,a4,a5,a6⟩:=zCb h.dict.perm hv;have f:=zFn h he;have hc : ∀ j,j<S.n->s.a i j≠0->S.n<=s.cols j:=fun j hj h0=>(f j hj h0).1;have u:=refF_sum h.dict.perm a1 a2 hc
 have l : ∀ g:Nat->Rat,(sumN S.m fun k=>refv S s i up k*g (S.n+k))=(if up then (-1:Rat) else 1)*(g (s.basic i) - sumN S.n fun j=>s.a i j*g (s.cols j)):=by
  intro g;rw [<- u,<- zCg];refine zAn fun k _=>?_;unfold refv
  split <;> grind
 have x : ∀ k,k<S.m->refF S s i S.n k=(if s.basic i=S.n+k then 1 else 0)+sumN S.n fun j=>if s.cols j=S.n+k then - s.a i j else 0:=fun k hk=>refF_eq h.dict.perm a1 a2 hc k S.n (Nat.le_refl _)
 have o : ∀ k,k<S.m->(s.basic i=S.n+k/\refF S s i S.n k=1)\/(s.basic i≠S.n+k/\refF S s i S.n k=0)\/∃ j,j<S.n/\s.cols j=S.n+k/\refF S s i S.n k = - s.a i j:=by
  intro k hk;rw [x k hk]
  by_cases e:s.basic i=S.n+k
  ·left
   refine⟨e,?_⟩;rw [if_pos e,zBh fun j hj=>if_neg fun e2=>h.dict.perm.ne a1 hj (by rw [e,e2])];grind
  ·right
   rw [if_neg e]
   by_cases hj : ∃ j,j<S.n/\s.cols j=S.n+k
   ·right
    obtain⟨j,hj,e2⟩:=hj;exact⟨j,hj,e2,by rw [pick_cols h.dict.perm hj e2 fun j => - s.a i j];grind⟩
   ·left
    exact⟨e,by rw [zBh fun j a8=>if_neg fun e2=>hj ⟨j,a8,e2⟩];grind⟩
 have p:Adm S (refv S s i up):=by
  intro k hk h3;unfold refv
  rcases o k hk with ⟨e,e2⟩ | ⟨_,e2⟩ | ⟨j,hj,e,e2⟩
  ·rw [e2]
   cases hu:up with
   | false=>simp only [Bool.false_eq_true,if_false];grind
   | true =>
    have:=(a5 hu).1;rw [e,Nat.add_sub_cancel_left] at this;exact absurd this h3
  ·rw [e2];split <;> grind
  ·rw [e2]
   by_cases h0:s.a i j=0
   ·rw [h0];split <;> grind
   ·have:=(f j hj h0).2 (by rw [e,Nat.add_sub_cancel_left];exact h3)
    cases hu:up with
    | false =>
     rw [hu] at this
     have h4 : ¬ 0<s.a i j:=by simpa using this
     simp only [Bool.false_eq_true,if_false];grind
    | true =>
     rw [hu] at this
     have h4:0<s.a i j:=by simpa using this
     simp only [if_true];grind
 refine⟨p,fun j hj=>?_,?_⟩
 ·have hx:=ext_sol S fun v=>if v=j then 1 else 0
  have h1:=(h.dict.sol _).1 hx i a1;have h2:=l (ext S fun v=>if v=j then 1 else 0);rw [h1] at h2
  have e3:comb S (refv S s i up) j=sumN S.m fun k=>refv S s i up k*ext S (fun v=>if v=j then 1 else 0) (S.n+k):=by
   rw [comb];refine zAn fun k hk=>?_;rw [hx k hk,zC7 hj,show ext S (fun v=>if v=j then 1 else 0) j=1 from (zF0 hj).trans (if_pos rfl),Rat.mul_one];intro v hv a9;rw [show ext S (fun v=>if v=j then (1:Rat) else 0) v=0 from (zF0 hv).trans (if_neg a9),Rat.mul_zero]
  rw [e3,h2];grind
 ·
  have hK:combK S (refv S s i up)=(if up then (-1:Rat) else 1)*((ub S (s.basic i)).1 - sumN S.n fun j=>s.a i j*(ub S (s.cols j)).1):=by
   rw [<- l fun v=>(ub S v).1]
   exact zAn fun k _=>by rw [ub];simp only [Nat.add_sub_cancel_left]
  have hE:(sumN S.m fun k=>refv S s i up k*(ub S (S.n+k)).2)=(if up then (-1:Rat) else 1)*((ub S (s.basic i)).2 - sumN S.n fun j=>s.a i j*(ub S (s.cols j)).2):=l fun v=>(ub S v).2
  have a0:(s.val (s.basic i)).1=sumN S.n fun j=>s.a i j*(ub S (s.cols j)).1:=by
   have:=(h.dict.sol _).1 h.sol1 i a1;rw [this];refine zAn fun j hj=>?_
   by_cases h0:s.a i j=0
   ·rw [h0];grind
   ·rw [h.non j hj,if_neg (by have:=hc j hj h0;omega)]
  have a7:(s.val (s.basic i)).2=sumN S.n fun j=>s.a i j*(ub S (s.cols j)).2:=by
   have:=(h.dict.sol _).1 h.sol2 i a1;rw [this];refine zAn fun j hj=>?_
   by_cases h0:s.a i j=0
   ·rw [h0];grind
   ·rw [h.non j hj,if_neg (by have:=hc j hj h0;omega)]
  rw [<- a0] at hK;rw [<- a7] at hE
  have d:(sumN S.m fun k=>refv S s i up k*(ub S (S.n+k)).2)<0->Strict S (refv S s i up):=by
   intro b0
   have:0<sumN S.m fun k => - (refv S s i up k*(ub S (S.n+k)).2):=by rw [zEB];grind
   obtain⟨k,hk,hp⟩:=sumN_pos_ex this
   have h2:S.rel k=2:=by
    refine Decidable.byContradiction fun h2=>?_;rw [ub] at hp;simp only [Nat.add_sub_cancel_left,if_neg h2] at hp
    grind
   refine⟨k,hk,h2,?_⟩;rw [ub] at hp;simp only [Nat.add_sub_cancel_left,if_pos h2] at hp
   grind
  cases hu:up with
  | false =>
   have h1:=a4 hu;rw [hu] at hK hE;simp only [Bool.false_eq_true,if_false] at hK hE;unfold lt2 at h1
   rcases h1 with h1 | ⟨h1,h2⟩
   ·left;grind
   ·right
    refine⟨by grind,?_⟩;have:=d (by rw [hu];grind)
    rwa [hu] at this
  | true =>
   have h1:=(a5 hu).2;rw [hu] at hK hE;simp only [if_true] at hK hE;unfold lt2 at h1
   rcases h1 with h1 | ⟨h1,h2⟩
   ·left;grind
   ·right
    refine⟨by grind,?_⟩;have:=d (by rw [hu];grind)
    rwa [hu] at this
def below(eps:Rat)(a b:V2):Rat:=if a.1<b.1/\b.2<a.2 then (if (b.1 - a.1)*(a.2 - b.2)⁻¹<eps then (b.1 - a.1)*(a.2 - b.2)⁻¹ else eps) else eps
def zCq(S:Sys)(s:Dy)(eps:Rat)(v:Nat):Rat :=
 let e1:=match upper S v with | some u=>below eps (s.val v) u | none=>eps
 match lower S v with | some l=>below e1 l (s.val v) | none=>e1
def epsF(S:Sys)(s:Dy):Nat->Rat
 | 0=>1
 | k+1=>zCq S s (epsF S s k) (S.n+k)
def zBv(S:Sys)(s:Dy):Rat:=epsF S s S.m
theorem zES(eps:Rat)(a b:V2):below eps a b<=eps:=by unfold below;grind
theorem zFC{eps:Rat}(h:0<eps)(a b:V2):0<below eps a b:=by
 unfold below;split
 ·rename_i h1
  split
  ·exact Rat.mul_pos (by grind) (Rat.inv_pos.2 (by grind))
  ·exact h
 ·exact h
theorem below_ok{eps e:Rat}{a b:V2}(hl:le2 a b)(h0:0<e)(he:e<=below eps a b):a.1+a.2*e<=b.1+b.2*e:=by
 unfold below at he;unfold le2 at hl
 by_cases h1:a.1<b.1/\b.2<a.2
 ·rw [if_pos h1] at he
  have hd:0<a.2 - b.2:=by grind
  have d:e<=(b.1 - a.1)*(a.2 - b.2)⁻¹:=by grind
  have:=Rat.mul_le_mul_of_nonneg_right d (Rat.le_of_lt hd);rw [Rat.mul_assoc,Rat.inv_mul_cancel _ (by grind),Rat.mul_one] at this
  grind
 ·rcases hl with h2 | ⟨h2,h3⟩
  ·have h4:a.2<=b.2:=by grind
   have:=Rat.mul_le_mul_of_nonneg_right h4 (Rat.le_of_lt h0)
   grind
  ·have:=Rat.mul_le_mul_of_nonneg_right h3 (Rat.le_of_lt h0)
   grind
theorem epsStep_le(S:Sys)(s:Dy)(eps:Rat)(v:Nat):zCq S s eps v<=eps:=by
 unfold zCq;simp only;split
 ·refine Rat.le_trans (zES _ _ _) ?_
  split
  ·exact zES _ _ _
  ·exact Rat.le_refl
 ·split
  ·exact zES _ _ _
  ·exact Rat.le_refl
theorem epsStep_pos(S:Sys)(s:Dy){eps:Rat}(h:0<eps)(v:Nat):0<zCq S s eps v:=by
 unfold zCq;simp only;split
 ·refine zFC ?_ _ _
  split
  ·exact zFC h _ _
  ·exact h
 ·split
  ·exact zFC h _ _
  ·exact h
theorem epsF_pos(S:Sys)(s:Dy) : ∀ k,0<epsF S s k
 | 0=>by rw [epsF];grind
 | k+1=>epsStep_pos S s (epsF_pos S s k) _
theorem epsF_le(S:Sys)(s:Dy){j k:Nat}(h:j<=k):epsF S s k<=epsF S s j:=by
 induction h with
 | refl=>exact Rat.le_refl
 | step _ ih=>exact Rat.le_trans (epsStep_le _ _ _ _) ih
def zBP(s:Dy)(eps:Rat)(v:Nat):Rat:=(s.val v).1+(s.val v).2*eps
theorem point_lhs{S:Sys}{s:Dy}(h:Inv S s)(eps:Rat){k:Nat}(hk:k<S.m):lhs S (zBP s eps) k=zBP s eps (S.n+k):=by
 have h1:=h.sol1 k hk;have h2:=h.sol2 k hk;simp only at h1 h2;rw [lhs,zBP,h1,h2,Rat.mul_comm _ eps,<- zCg,<- zDN]
 exact zAn fun j _=>by rw [zBP];grind
theorem point_sat{S:Sys}{s:Dy}(h:Inv S s)(hF:Feas S s):Sat S (zBP s (zBv S s)):=by
 intro k hk;rw [point_lhs h _ hk,zBP];obtain⟨w1,w2⟩:=hF (S.n+k) (by omega) (by omega);have hp:0<zBv S s:=epsF_pos S s S.m;have g:zBv S s<=zCq S s (epsF S s k) (S.n+k):=epsF_le S s (j:=k+1) (by omega)
 have hb:zBv S s<=below (epsF S s k) (s.val (S.n+k)) (ub S (S.n+k)):=by
  refine Rat.le_trans g ?_;unfold zCq;rw [upper,if_neg (by omega)];simp only;split
  ·exact zES _ _ _
  ·exact Rat.le_refl
 have f:=below_ok w1 hp hb;rw [Nat.add_sub_cancel_left] at w2
 have b:(ub S (S.n+k)).1=S.K k:=by rw [ub];simp only [Nat.add_sub_cancel_left]
 have d:(ub S (S.n+k)).2=if S.rel k=2 then -1 else 0:=by rw [ub];simp only [Nat.add_sub_cancel_left]
 rw [b,d] at f;refine⟨?_,fun h2=>?_,fun h3=>?_⟩
 ·split at f <;> grind
 ·rw [if_pos h2] at f;grind
 ·rw [w2 h3,b,d,if_neg (by omega)];grind
end Go.Tb
namespace Go.Tb
open Go.Num
def dg(k:Nat)(q:Rat):Prop:=(dec q.num.natAbs).length<=k/\(dec q.den).length<=k
theorem dg_hgt{k:Nat}(hk:0<k){q:Rat} : dg k q↔q.num.natAbs<10 ^ k/\q.den<10 ^ k:=by
 unfold dg;rw [zA9 hk,zA9 hk]
theorem dg.mono{j k:Nat}{q:Rat}(h:dg j q)(hj:j<=k):dg k q:=⟨Nat.le_trans h.1 hj,Nat.le_trans h.2 hj⟩
theorem hgt.dg{k:Nat}{q:Rat}(h:hgt (10 ^ k) q):dg (k+1) q:=by
 have h1:10 ^ k<10 ^ (k+1):=Nat.pow_lt_pow_right (by omega) (by omega);exact (dg_hgt (by omega)).2 ⟨Nat.lt_of_le_of_lt h.1 h1,Nat.lt_of_le_of_lt h.2 h1⟩
theorem dg.pos{k:Nat}{q:Rat}(h:dg k q):0<k:=by
 have:0<(dec q.den).length:=List.length_pos_iff.2 (zBi _);exact Nat.lt_of_lt_of_le this h.2
theorem dg.hgt{k:Nat}{q:Rat}(h:dg k q):hgt (10 ^ k) q:=by
 have h1:=(dg_hgt h.pos).1 h;exact⟨Nat.le_of_lt h1.1,Nat.le_of_lt h1.2⟩
theorem dg.neg{k:Nat}{q:Rat}(h:dg k q):dg k (-q):=by
 unfold Tb.dg;rw [Rat.neg_num,Rat.neg_den,Int.natAbs_neg];exact h
theorem dg.mul{j k:Nat}{p q:Rat}(hp:dg j p)(hq:dg k q):dg (j+k+1) (p*q):=by
 have:=hp.hgt.mul hq.hgt;rw [<- Nat.pow_add] at this;exact this.dg
theorem dg.add{j k:Nat}{p q:Rat}(hp:dg j p)(hq:dg k q):dg (j+k+2) (p+q):=by
 have:=hp.hgt.add hq.hgt;rw [<- Nat.pow_add] at this;refine (this.mono ?_).dg;rw [Nat.pow_succ];omega
theorem dg.sub{j k:Nat}{p q:Rat}(hp:dg j p)(hq:dg k q):dg (j+k+2) (p - q):=by
 rw [Rat.sub_eq_add_neg];exact hp.add hq.neg
theorem dg.inv{k:Nat}{q:Rat}(h:dg k q):dg (k+1) q⁻¹:=h.hgt.inv.dg
theorem zB8{k:Nat}(h:0<k):dg k 0:=(dg_hgt h).2 ⟨Nat.pow_pos (by omega),by
 have:10 ^ 1<=10 ^ k:=Nat.pow_le_pow_right (by omega) h
 show 1<_
 omega⟩
theorem zF5{k:Nat}(h:0<k):dg k 1:=(dg_hgt h).2 ⟨by
 have:10 ^ 1<=10 ^ k:=Nat.pow_le_pow_right (by omega) h
 show 1<_
 omega,by
 have:10 ^ 1<=10 ^ k:=Nat.pow_le_pow_right (by omega) h
 show 1<_
 omega⟩
theorem dg_txt{k:Nat}{q:Rat}(h:dg k q):(txtQ q).length<=2*k+2:=by
 have:=txt_len (decide (q.num<0)) q.num.natAbs q.den;have h1:=h.1;have h2:=h.2;unfold txtQ;omega
theorem dg_of_txt{k:Nat}{q:Rat}(h:(txtQ q).length<=k):dg (k+1) q:=by
 have h1:(dec q.num.natAbs).length<=(txtQ q).length:=by
  unfold txtQ txt3;rw [List.length_append,List.length_append];omega
 have h2:(dec q.den).length<=(txtQ q).length+1:=by
  unfold txtQ txt3;rw [List.length_append,List.length_append]
  by_cases e:q.den=1
  ·rw [e,zAu (by omega)];simp
  ·rw [if_neg e,List.length_cons];omega
 exact⟨by omega,by omega⟩
def bd(h:Nat):Nat->Nat
 | 0=>h
 | k+1=>4*bd h k+1
theorem bnd_bd(h:Nat) : ∀ k,bnd (10 ^ h) k<=10 ^ bd h k
 | 0=>Nat.le_refl _
 | k+1=>by
  have ih:=bnd_bd h k
  have e:10 ^ bd h (k+1)=10*(10 ^ bd h k*(10 ^ bd h k*(10 ^ bd h k*10 ^ bd h k))):=by
   rw [<- Nat.pow_add,<- Nat.pow_add,<- Nat.pow_add,Nat.mul_comm,<- Nat.pow_succ,bd]
   congr 1;omega
  rw [e,bnd];have:bnd (10 ^ h) k*(bnd (10 ^ h) k*(bnd (10 ^ h) k*bnd (10 ^ h) k))<=10 ^ bd h k*(10 ^ bd h k*(10 ^ bd h k*10 ^ bd h k)):=Nat.mul_le_mul ih (Nat.mul_le_mul ih (Nat.mul_le_mul ih ih));omega
theorem sbnd_bd(h:Nat) : ∀ k,sbnd (10 ^ h) k<=10 ^ (k*(h+1))
 | 0=>by simp [sbnd]
 | k+1=>by
  have ih:=sbnd_bd h k
  rw [sbnd,Nat.add_mul,Nat.one_mul,Nat.pow_add,Nat.pow_succ]
  have:sbnd (10 ^ h) k*10 ^ h<=10 ^ (k*(h+1))*10 ^ h:=Nat.mul_le_mul_right _ ih
  have e:10 ^ (k*(h+1))*(10 ^ h*10)=10*(10 ^ (k*(h+1))*10 ^ h):=by rw [<- Nat.mul_assoc,Nat.mul_comm]
  rw [e]
  generalize 10 ^ (k*(h+1))*10 ^ h=x at this ⊢
  generalize sbnd (10 ^ h) k*10 ^ h=y at this ⊢
  omega
theorem dict_dg{h:Nat}{S:Sys}{s:Dy}(hd:Dict S s)(hC : ∀ i j,i<S.m->j<S.n->dg h (S.C i j)) : ∀ l c,l<S.m->c<S.n->dg (bd h S.n+1) (s.a l c):=fun l c hl hc =>
 ((dict_bound (Nat.pow_pos (by omega)) hd (fun i j hi hj=>(hC i j hi hj).hgt) l c hl hc).mono (bnd_bd h S.n)).dg
theorem zFe{h:Nat}{f:Nat->Rat}{k:Nat}(hf : ∀ i,i<k->dg h (f i)):dg (k*(h+1)+1) (sumN k f) :=
 ((hgt_sum fun i hi=>(hf i hi).hgt).mono (sbnd_bd h k)).dg
end Go.Tb
namespace Go.Proofs.Si
open Go Go.V Go.Proofs Go.RowKit Go.Num Go.Tb Go.Proofs.Tryz
set_option maxRecDepth 100000
def fitsQ(q:Rat):Bool:=decide (q.num.natAbs<=9223372036854775807)&&decide (q.den<=9223372036854775807)
def qn(q:Rat):Int:=if fitsQ q then q.num else 0
def ql(q:Rat):Int:=if fitsQ q then (q.den:Int) - 1 else 0
def qb(q:Rat):BA:=if fitsQ q then { data:=#[] } else mk (txtQ q)
def qc(q:Rat):List Value:=[Iv (qn q),Iv (ql q),Sv (qb q)]
def qv(q:Rat):Value := .agg #[Iv (qn q),Iv (ql q),Sv (qb q)]
theorem zAN{q:Rat} : fitsQ q=true↔q.num.natAbs<=9223372036854775807/\q.den<=9223372036854775807:=by
 unfold fitsQ;rw [Bool.and_eq_true,decide_eq_true_eq,decide_eq_true_eq]
theorem zAT{q:Rat}(h:fitsQ q=true):qn q=q.num/\ql q=(q.den:Int) - 1/\qb q = { data:=#[] }:=by
 unfold qn ql qb;rw [h];exact⟨rfl,rfl,rfl⟩
theorem zCZ{q:Rat}(h:fitsQ q=false):qn q=0/\ql q=0/\qb q=mk (txtQ q):=by
 unfold qn ql qb;rw [h];exact⟨rfl,rfl,rfl⟩
theorem zBn(q:Rat):((qb q).toList==({ data:=#[] } : BA).toList)=fitsQ q:=by
 rw [zAv]
 cases h:fitsQ q with
 | true=>rw [(zAT h).2.2];exact decide_eq_true rfl
 | false =>
  rw [(zCZ h).2.2,bs_mk];obtain⟨c,r,e,_⟩:=txt_head q;rw [e];exact decide_eq_false (by intro e2;cases e2)
theorem qc_zero:qc 0=[Iv 0,Iv 0,S0]:=by
 have h:fitsQ 0=true:=by decide
 obtain⟨h1,h2,h3⟩:=zAT h;unfold qc;rw [h1,h2,h3];rfl
abbrev zq:List Value:=[Iv 0,Iv 0,S0]
theorem head_parse(q:Rat){s:BA}(hs:bs s=(if q.num<0 then [45] else [])++dec q.num.natAbs) :
  Lib.parseIntB 64 (bs s)=if q.num.natAbs<=(if q.num<0 then 9223372036854775808 else 9223372036854775807) then .ok q.num else .range:=by
 rw [hs]
 by_cases h:q.num<0
 ·rw [if_pos h,if_pos h]
  show Lib.parseIntB 64 (45::dec q.num.natAbs)=_;rw [pib_minus (zBi _) (zAE _),zAQ];split
  ·congr 1;omega
  ·rfl
 ·rw [if_neg h,if_neg h,List.nil_append,zFo (zBi _) (zAE _),zAQ]
  split
  ·congr 1;omega
  ·rfl
theorem parseR(s:BA)(n:Int)(c:Prop)[Decidable c](h:Lib.parseIntB 64 (bs s)=if c then .ok n else .range)(hz:s.size<=281474976710656)(w)(hg:Gl w) :
  Ret prog 150 #[Sv s,Iv 10,Iv 64] w fun u w'=>((c/\u = .tuple #[Iv n,.nilIface])\/(¬ c/\∃ m t p,u = .tuple #[Iv m,.iface t p]))/\Ext w w':=by
 by_cases hc:c
 ·rw [if_pos hc] at h
  exact (c150 s n h hz w).mono fun v w' hv=>⟨.inl ⟨hc,hv.1⟩,hv.2⟩
 ·rw [if_neg hc] at h
  exact (c150r s h hz w hg).mono fun v w' hv=>⟨.inr ⟨hc,hv.1⟩,hv.2⟩
theorem c104{s:BA}{q:Rat}(hs:bs s=txtQ q)(hz:s.size<=1000000000)(w)(hg:Gl w):Ret prog 104 #[Sv s] w fun v w'=>v=qv q/\Ext w w':=by
 have a1:=(yE w).alloc (.cells zq.toArray 88);have a2:=yN w zq 88;refine run104 _ _ _ (yC (c149 s (by omega) _ (hg.ext a1)) ?_);rintro v w1 ⟨⟨t,u,rfl,ht,hu⟩,p⟩;have l:=a1.trans p;obtain⟨p1,p2,p3,p4⟩:=zFc q
 have hd:q.den=1\/q.den≠1:=by omega
 have j:bs t=(if q.num<0 then [45] else [])++dec q.num.natAbs/\decide (((bs s).takeWhile (· != 47)).length<(bs s).length)=decide (q.den≠1)/\(q.den≠1->bs u=dec q.den):=by
  have hX:((if q.num<0 then [45] else [])++dec q.num.natAbs:List UInt8).takeWhile (· != 47)=(if q.num<0 then [45] else [])++dec q.num.natAbs:=by
   by_cases h:q.num<0
   ·rw [if_pos h]
    show (45::dec q.num.natAbs).takeWhile (· != 47)=_;rw [List.takeWhile_cons,if_pos (by decide),zCu (zAE _)];rfl
   ·rw [if_neg h,List.nil_append,zCu (zAE _)]
  have hY : ∀ r:List UInt8,((if q.num<0 then [45] else [])++dec q.num.natAbs++47::r:List UInt8).takeWhile (· != 47)=(if q.num<0 then [45] else [])++dec q.num.natAbs:=by
   intro r
   by_cases h:q.num<0
   ·rw [if_pos h]
    show (45::(dec q.num.natAbs++47::r)).takeWhile (· != 47)=_;rw [List.takeWhile_cons,if_pos (by decide),zDp (zAE _)];rfl
   ·rw [if_neg h,List.nil_append,zDp (zAE _)]
  have a5:=zA2 q;rw [hs,a5] at ht hu ⊢;unfold dqCut at ht hu
  rcases hd with h1 | h1
  ·rw [if_pos h1,List.append_nil,hX,if_neg (Nat.lt_irrefl _)] at ht
   rw [if_pos h1,List.append_nil,hX];refine⟨ht,?_,fun h=>absurd h1 h⟩;rw [decide_eq_false (Nat.lt_irrefl _),decide_eq_false (fun h=>h h1)]
  ·rw [if_neg h1,hY] at ht hu
   have hl:((if q.num<0 then [45] else [])++dec q.num.natAbs:List UInt8).length<((if q.num<0 then [45] else [])++dec q.num.natAbs++47::dec q.den:List UInt8).length:=by
    rw [List.length_append (bs:=47::dec q.den),List.length_cons];omega
   rw [if_neg h1,hY];rw [if_pos hl] at ht;rw [if_pos hl,if_pos hl] at hu;refine⟨ht,by rw [decide_eq_true hl,decide_eq_true h1],fun _=>?_⟩;rw [hu];show List.drop (_+1) _=_;rw [<- List.drop_drop,List.drop_left];rfl
 obtain⟨a0,a3,a6⟩:=j;rw [a3];have i:=zF4 q;rw [<- hs,<- zAc] at i
 have a8:t.size<=1000000001:=by
  rw [zAc,a0,List.length_append];have h1:(dec q.num.natAbs).length<=s.size:=i.1
  have:(if q.num<0 then [(45:UInt8)] else []).length<=1:=by split <;> simp
  omega
 refine⟨t,u,_,rfl,fun K hK=>?_⟩
 have main : ∀ x:BA,bs x=dec q.den->K [Sv x] w1:=by
  intro x hx
  have a9:x.size<=1000000000:=by
   rw [zAc,hx];have h1:(dec q.den).length<=s.size:=i.2;omega
  refine hK x (yC (parseR t q.num _ (head_parse q a0) (by omega) w1 (hg.ext l)) ?_);rintro v w2 ⟨hv,d⟩
  have o:Lib.parseIntB 64 (bs x)=if q.den<=9223372036854775807 then .ok (q.den:Int) else .range:=by
   rw [hx,zFo (zBi _) (zAE _),zAQ]
  have b : ∀ w3,Ext w1 w3->∀ L:List Value,L.length=3->L=qc q->Ext w (setCells w3 ⟨w.heap.size,0,none⟩ 0 L)/\writable w3 ⟨w.heap.size,0,none⟩ 3/\vcells (setCells w3 ⟨w.heap.size,0,none⟩ 0 L) ⟨w.heap.size,0,none⟩ 0 L:=by
   intro w3 h3 L hL _;have n:=(a2.ext p).ext h3;exact⟨(l.trans h3).put yL _ _,n.blk.writable (by decide),(n.put L hL).blk.all⟩
  have f:s=mk (txtQ q):=zDn (by rw [bs_mk,hs])
  rcases hv with ⟨hc,rfl⟩ | ⟨hc,m,t1,p1',rfl⟩
  ·refine⟨_,_,rfl,yC (parseR x (q.den:Int) _ o (by omega) w2 ((hg.ext l).ext d)) ?_⟩
   rintro v w3 ⟨hv,g⟩
   rcases hv with ⟨hc2,rfl⟩ | ⟨hc2,m2,t2,p2',rfl⟩
   ·refine⟨_,_,rfl,.inl ⟨rfl,.inl ⟨rfl,?_⟩⟩⟩
    rw [Bool.false_or]
    by_cases hmin:q.num = -9223372036854775808
    ·have hf:fitsQ q=false:=by
      unfold fitsQ;rw [decide_eq_false (by omega)];rfl
     obtain⟨e1,e2,e3⟩:=zCZ hf;rw [hmin];obtain⟨h1,h2,h3⟩:=b w3 (d.trans g) [Iv 0,Iv 0,Sv s] rfl (by unfold qc;rw [e1,e2,e3,f]);refine⟨h2,_,_,_,h3,?_,h1⟩;unfold qv;rw [e1,e2,e3,f]
    ·have hf:fitsQ q=true:=zAN.2 ⟨by split at hc <;> omega,hc2⟩
     obtain⟨e1,e2,e3⟩:=zAT hf
     have a4:(q.num == -9223372036854775808)=false:=by rw [beq_eq_false_iff_ne];exact hmin
     have a7:=q.den_nz;rw [a4,cond_false,zAe (by omega) (by omega)];obtain⟨h1,h2,h3⟩:=b w3 (d.trans g) [Iv q.num,Iv ((q.den:Int) - 1),S0] rfl (by unfold qc;rw [e1,e2,e3]);refine⟨h2,_,_,_,h3,?_,h1⟩;unfold qv;rw [e1,e2,e3]
   ·have hf:fitsQ q=false:=by
     cases h:fitsQ q with
     | false=>rfl
     | true=>exact absurd (zAN.1 h).2 hc2
    obtain⟨e1,e2,e3⟩:=zCZ hf;refine⟨_,_,rfl,.inl ⟨rfl,.inr ⟨⟨_,_,rfl⟩,?_⟩⟩⟩;obtain⟨h1,h2,h3⟩:=b w3 (d.trans g) [Iv 0,Iv 0,Sv s] rfl (by unfold qc;rw [e1,e2,e3,f]);refine⟨h2,_,_,_,h3,?_,h1⟩;unfold qv;rw [e1,e2,e3,f]
  ·have hf:fitsQ q=false:=by
    cases h:fitsQ q with
    | false=>rfl
    | true=>exact absurd (by have:=(zAN.1 h).1;split <;> omega) hc
   obtain⟨e1,e2,e3⟩:=zCZ hf;refine⟨_,_,rfl,yC (parseR x (q.den:Int) _ o (by omega) w2 ((hg.ext l).ext d)) ?_⟩;rintro v w3 ⟨hv,g⟩;obtain⟨h1,h2,h3⟩:=b w3 (d.trans g) [Iv 0,Iv 0,Sv s] rfl (by unfold qc;rw [e1,e2,e3,f])
   have k : ∃ n1 v4,v = .tuple #[Iv n1,v4]:=by
    rcases hv with ⟨_,rfl⟩ | ⟨_,m2,t2,p2',rfl⟩ <;> exact⟨_,_,rfl⟩
   obtain⟨n1,v4,rfl⟩:=k;refine⟨_,_,rfl,.inr ⟨⟨_,_,rfl⟩,h2,_,_,_,h3,?_,h1⟩⟩;unfold qv;rw [e1,e2,e3,f]
 rcases hd with h1 | h1
 ·rw [decide_eq_false (fun h=>h h1),Bool.not_false,cond_true]
  refine main _ ?_;rw [h1,zAu (by omega)];rfl
 ·rw [decide_eq_true h1,Bool.not_true,cond_false]
  exact main u (a6 h1)
end Go.Proofs.Si
namespace Go.Proofs.Si
open Go Go.V Go.Proofs Go.RowKit Go.Num Go.Tb Go.Proofs.Tryz
open Go.IntKind (i64 u64 u32 u8)
set_option maxRecDepth 100000
theorem zBU{k:Nat}{q:Rat}(h:dg k q){s:BA}(hs:bs s=txtQ q):s.size<=2*k+2:=by rw [zAc,hs];exact dg_txt h
theorem c76{q:Rat}(h:dg 400000000 q)(w)(hg:Gl w):Ret prog 76 #[qv q] w fun v w'=>TxtV q v/\Ext w w':=by
 have hx:=(yE w).alloc (.cells (qc q).toArray 88);have hB:=yN w (qc q) 88;have b:Box (w.alloc (.cells (qc q).toArray 88)).drew w.heap.size 88 (qc q):=hB;refine run76 _ _ _ _ _ ⟨_,hB.blk.cell (j:=2) rfl,?_⟩;rw [zBn]
 cases hf:fitsQ q with
 | false =>
  rw [Bool.not_false,cond_true];refine⟨_,hB.blk.cell (j:=2) rfl,⟨_,rfl,?_⟩,hx⟩;rw [(zCZ hf).2.2,bs_mk]
 | true =>
  obtain⟨e1,e2,e3⟩:=zAT hf;obtain⟨f1,f2⟩:=zAN.1 hf;have f:=q.den_nz;have zn:=h.1;have zd:=h.2;rw [Bool.not_true,cond_false];refine⟨_,hB.blk.cell (j:=1) rfl,zAb (fun h1=>?_) (fun h1=>?_)⟩
  ·have h1:q.den=1:=by
    rw [e2] at h1
    have:((q.den:Int) - 1)=0:=by simpa using h1
    omega
   refine⟨_,hB.blk.cell (j:=0) rfl,?_⟩;refine yC (R:=fun v w'=>(∃ s,v=Sv s/\bs s=txtQ q)/\Ext w w') ?_ (fun v w' hv=>?_)
   ·refine (c132 (qn q) (by rw [e1];omega) (by rw [e1];omega) _ (hg.ext hx).p10).mono ?_
    rintro v w1 ⟨⟨s,rfl,hs⟩,he⟩;rw [e1] at hs;refine⟨⟨s,rfl,?_⟩,hx.trans he⟩;rw [hs,zA2,if_pos h1,List.append_nil]
   ·obtain⟨⟨s,rfl,hs⟩,he⟩:=hv
    exact⟨s,rfl,⟨s,rfl,hs⟩,he⟩
  ·have h1:q.den≠1:=by
    rintro e;rw [e2,e] at h1;exact absurd h1 (by decide)
   intro K hK;refine⟨_,b.blk.cell (j:=0) rfl,_,b.blk.cell (j:=1) rfl,?_⟩
   have ew:i64.wrap (ql q+1)=(q.den:Int):=by rw [e2,zAe (by omega) (by omega)];omega
   rw [ew];refine yC (c132 (qn q) (by rw [e1];omega) (by rw [e1];omega) _ (hg.ext hx).drew.p10) ?_;rintro v w1 ⟨⟨s,rfl,hs⟩,he⟩;rw [e1] at hs
   have g:s.size<=400000001:=by
    rw [zAc,hs,List.length_append]
    have:(if q.num<0 then [(45:UInt8)] else []).length<=1:=by split <;> simp
    omega
   refine⟨s,rfl,he,by omega,yC (c132 (q.den:Int) (by omega) (by omega) w1 ((hg.ext hx).drew.ext he).p10) ?_⟩;rintro v w2 ⟨⟨u,rfl,hu⟩,d⟩;rw [if_neg (by omega),List.nil_append,Int.natAbs_natCast] at hu
   have i:u.size<=400000000:=by rw [zAc,hu];exact zd
   refine⟨u,rfl,?_,hK _ _ ⟨⟨_,rfl,?_⟩,(hx.drew.trans he).trans d⟩⟩
   ·rw [zDw]
    have:({ data:=#[47] } : BA).size=1:=rfl;omega
   ·rw [zBa,zBa,hs,hu,zA2,if_neg h1]
    simp [bs]
theorem c176(n:Int)(h0:n.natAbs<=9223372036854775807)(w):Ret prog 176 #[Iv n] w fun v w'=>v = .int .u64 (n.natAbs:Int)/\w' = w:=by
 refine run176 _ _ _ (zAd (fun h=>⟨?_,rfl⟩) (fun h=>⟨?_,rfl⟩))
 ·rw [zAe (by omega) (by omega),w64ui (by omega) (by omega)];congr 1;omega
 ·rw [w64ui (by omega) (by omega)];congr 1;omega
theorem mul64(x y:Nat)(hx:x<18446744073709551616)(hy:y<18446744073709551616)(w):Ret prog 189 #[.int .u64 x,.int .u64 y] w fun v w' =>
  v = .tuple #[.int .u64 ((x*y / 18446744073709551616:Nat):Int),.int .u64 ((x*y % 18446744073709551616:Nat):Int)]/\w' = w :=
 Calls.mono (Tryz.bits_Mul64 x y hx hy w) fun e w' ⟨h1,h2⟩=>⟨_,h1,rfl,h2⟩
theorem c154(a b:Int)(ha:a.natAbs<=9223372036854775807)(hb:b.natAbs<=9223372036854775807)(w) :
  Ret prog 154 #[Iv a,Iv b] w fun v w'=>(∃ r ok,v = .tuple #[Iv r,Bv ok]/\(ok=true->r=a*b/\(a*b).natAbs<=9223372036854775807))/\w' = w:=by
 refine run154 _ _ _ _ (yC (c176 a ha w) ?_);rintro v w1 ⟨rfl,rfl⟩;refine⟨_,rfl,yC (c176 b hb w1) ?_⟩;rintro v w2 ⟨rfl,rfl⟩;refine⟨_,rfl,yC (mul64 a.natAbs b.natAbs (by omega) (by omega) w2) ?_⟩;rintro v w3 ⟨rfl,rfl⟩;have d:(a*b).natAbs=a.natAbs*b.natAbs:=Int.natAbs_mul a b;refine⟨_,_,rfl,zAb (fun h=>⟨⟨_,_,rfl,fun h=>by cases h⟩,rfl⟩) (fun h=>?_)⟩;rw [Bool.or_eq_false_iff] at h
 have h1:a.natAbs*b.natAbs / 18446744073709551616=0:=by
  have:(((a.natAbs*b.natAbs / 18446744073709551616:Nat):Int))=0:=by simpa using h.1
  omega
 have h2:a.natAbs*b.natAbs % 18446744073709551616<=9223372036854775807:=by
  have:=of_decide_eq_false h.2;omega
 have h3:a.natAbs*b.natAbs % 18446744073709551616=(a*b).natAbs:=by rw [d];omega
 rw [h3] at h2 ⊢;rw [zAe (n:=((a*b).natAbs:Int)) (by omega) (by omega)];have f : ∀ x y:Int,decide (x<0)=false->decide (y<0)=false->0<=x*y:=fun x y h1 h2=>Int.mul_nonneg (by have:=of_decide_eq_false h1;omega) (by have:=of_decide_eq_false h2;omega);refine zAb (fun h4=>⟨⟨_,_,rfl,fun _=>⟨?_,h2⟩⟩,rfl⟩) (fun h4=>⟨⟨_,_,rfl,fun _=>⟨?_,h2⟩⟩,rfl⟩)
 ·rw [zAe (by omega) (by omega)]
  have:a*b<=0:=by
   by_cases c1:a<0 <;> by_cases c2:b<0
   ·rw [decide_eq_true c1,decide_eq_true c2] at h4;exact absurd h4 (by decide)
   ·exact Int.mul_nonpos_of_nonpos_of_nonneg (by omega) (by omega)
   ·exact Int.mul_nonpos_of_nonneg_of_nonpos (by omega) (by omega)
   ·rw [decide_eq_false c1,decide_eq_false c2] at h4;exact absurd h4 (by decide)
  omega
 ·have:0<=a*b:=by
   by_cases c1:a<0 <;> by_cases c2:b<0
   ·exact Int.mul_nonneg_of_nonpos_of_nonpos (by omega) (by omega)
   ·rw [decide_eq_true c1,decide_eq_false c2] at h4;exact absurd h4 (by decide)
   ·rw [decide_eq_false c1,decide_eq_true c2] at h4;exact absurd h4 (by decide)
   ·exact Int.mul_nonneg (by omega) (by omega)
  omega
theorem c155(a b:Int)(ha:a.natAbs<=9223372036854775807)(hb:b.natAbs<=9223372036854775807)(w) :
  Ret prog 155 #[Iv a,Iv b] w fun v w'=>(∃ r ok,v = .tuple #[Iv r,Bv ok]/\(ok=true->r=a+b/\(a+b).natAbs<=9223372036854775807))/\w' = w:=by
 refine run155 _ _ _ _ (zAb (fun h=>⟨⟨_,_,rfl,fun h=>by cases h⟩,rfl⟩) (fun h=>⟨⟨_,_,rfl,fun _=>?_⟩,rfl⟩));rw [Bool.or_eq_false_iff,Bool.or_eq_false_iff] at h
 have hw:i64.wrap (a+b)=(a+b+9223372036854775808) % 18446744073709551616 - 9223372036854775808:=by rw [IntKind.wrap_i64]
 have h1 : ¬ (a>0/\b>0/\i64.wrap (a+b)<0):=fun ⟨x,y,z⟩=>by
  have:=h.1.1;rw [decide_eq_true x,decide_eq_true y,decide_eq_true z] at this;exact absurd this (by decide)
 have h2 : ¬ (a<0/\b<0/\i64.wrap (a+b)>=0):=fun ⟨x,y,z⟩=>by
  have:=h.1.2;rw [decide_eq_true x,decide_eq_true y,decide_eq_true z] at this;exact absurd this (by decide)
 have h3:i64.wrap (a+b) ≠ -9223372036854775808:=fun e=>by rw [e] at h;exact absurd h.2 (by decide)
 omega
theorem c175(a b:Nat)(w):Ret prog 175 #[.int .u64 a,.int .u64 b] w fun v w'=>v = .int .u64 (Nat.gcd a b:Nat)/\Ext w w':=by
 obtain⟨I',μ',f,d⟩:=ghost (G:=Nat × Nat) (fun g vals w1=>vals=[.int .u64 g.1,.int .u64 g.2]/\Nat.gcd g.1 g.2=Nat.gcd a b/\Ext w w1) (fun g=>g.2);refine run175 _ _ _ _ ⟨I',μ',f (a,b) _ _ ⟨rfl,rfl,yE _⟩,fun n n1 w1 hI=>?_⟩;obtain⟨⟨x,y⟩,⟨hv,hg,he⟩,fin⟩:=d _ _ hI;cases hv;refine zAb (fun h=>?_) (fun h=>⟨?_,he⟩)
 ·have hy:y≠0:=by rintro rfl;simp at h
  refine zAd (fun h0=>absurd h0 (by omega)) (fun _=>fin (y,x % y) _ _ ⟨by rw [tmodN],?_,he.drew⟩ (Nat.mod_lt _ (by omega)));rw [<- hg];show Nat.gcd y (x % y)=Nat.gcd x y;rw [Nat.gcd_comm x y,Nat.gcd_rec y x,Nat.gcd_comm]
 ·have hy:y=0:=by
   have:((y:Nat):Int)=0:=by simpa using h
   omega
  subst hy;rw [<- hg];simp
theorem c156(n:Int)(d:Nat)(hd:d≠0)(hn:n.natAbs<=9223372036854775807)(hd2:d<=9223372036854775807)(w) :
  Ret prog 156 #[Iv n,Iv (d:Int)] w fun v w'=>v=qv (mkRat n d)/\Ext w w':=by
 have hx:=(yE w).alloc (.cells zq.toArray 88);have hB:=yN w zq 88;refine run156 _ _ _ _ (yC (c176 n hn _) ?_);rintro v w1 ⟨rfl,rfl⟩;rw [w64ui (n:=(d:Int)) (by omega) (by omega)];refine⟨_,rfl,yC (c175 n.natAbs d _) ?_⟩;rintro v w2 ⟨rfl,j⟩;obtain⟨G,hG⟩ : ∃ G,G=Nat.gcd n.natAbs d:=⟨_,rfl⟩
 have l:0<G:=by rw [hG];exact Nat.gcd_pos_of_pos_right _ (Nat.pos_of_ne_zero hd)
 have k:G<=d:=by rw [hG];exact Nat.le_of_dvd (Nat.pos_of_ne_zero hd) (Nat.gcd_dvd_right _ _)
 have g:((G:Nat):Int) ∣ n:=by rw [hG];exact Int.ofNat_dvd_left.2 (Nat.gcd_dvd_left _ _)
 have f:(mkRat n d).num=n.tdiv (G:Int):=by rw [Rat.num_mkRat,if_neg hd,Nat.gcd_comm,<- hG,Int.tdiv_eq_ediv_of_dvd g]
 have b:(mkRat n d).den=d / G:=by rw [Rat.den_mkRat,if_neg hd,Nat.gcd_comm,<- hG]
 have m:(mkRat n d).num.natAbs<=n.natAbs:=by
  rw [f,Int.tdiv_eq_ediv_of_dvd g,Int.natAbs_ediv_of_dvd g];exact Nat.div_le_self _ _
 have p:(mkRat n d).den<=d:=by rw [b];exact Nat.div_le_self _ _
 have o:=(mkRat n d).den_nz;rw [<- hG];refine⟨_,rfl,?_⟩;rw [zAe (n:=(G:Int)) (by omega) (by omega),tdivN,<- f,<- b,zAe (n:=(mkRat n d).num) (by omega) (by omega),zAe (n:=((mkRat n d).den:Int)) (by omega) (by omega),zAe (by omega) (by omega)];have i:Box w2.drew w.heap.size 88 zq:=hB.ext j.drew;obtain⟨e1,e2,e3⟩:=zAT (q:=mkRat n d) (zAN.2 ⟨by omega,by omega⟩);refine zAd (fun h=>absurd h (by omega)) (fun _=>zAd (fun h=>absurd h (by omega)) (fun _=>⟨i.blk.writable (by decide),_,_,_,(i.put _ (by rfl)).blk.all,?_,(hx.trans j).drew.put yL _ _⟩));unfold qv;rw [e1,e2,e3]
theorem qput{w w'}{B:Nat}(q:Rat)(hB:Box w' B 88 zq)(hx:Ext w w')(hb:w.heap.size<=B) :
  writable w' ⟨B,0,none⟩ 3/\vcells (setCells w' ⟨B,0,none⟩ 0 (qc q)) ⟨B,0,none⟩ 0 (qc q)/\Ext w (setCells w' ⟨B,0,none⟩ 0 (qc q)) :=
 ⟨hB.blk.writable (by decide),(hB.put (qc q) (by rfl)).blk.all,hx.put hb _ _⟩
theorem neg_fits(q:Rat):fitsQ (-q)=fitsQ q:=by unfold fitsQ;rw [Rat.neg_num,Rat.neg_den,Int.natAbs_neg]
theorem c133{q:Rat}(h:dg 400000000 q)(w)(hg:Gl w):Ret prog 133 #[qv q] w fun v w'=>v=qv (-q)/\Ext w w':=by
 have g:=(yE w).alloc (.cells (qc q).toArray 88);have m:=(yE (w.alloc (.cells (qc q).toArray 88))).alloc (.cells zq.toArray 88);have b:=(yN w (qc q) 88).ext m;have i:=yN (w.alloc (.cells (qc q).toArray 88)) zq 88;have d:=g.trans m;refine run133 _ _ _ _ _ ⟨_,b.blk.cell (j:=2) rfl,?_⟩;rw [zBn];refine zAb (fun hf=>?_) (fun hf=>?_)
 ·obtain⟨e1,e2,e3⟩:=zAT hf
  obtain⟨f1,f2⟩:=zAN.1 hf
  have e:[Iv (i64.wrap (0 - qn q)),Iv (ql q),S0]=qc (-q):=by
   obtain⟨g1,g2,g3⟩:=zAT (q := -q) (by rw [neg_fits];exact hf);unfold qc;rw [g1,g2,g3,e1,e2,zAe (by omega) (by omega),Rat.neg_num,Rat.neg_den,Int.zero_sub]
  obtain⟨p1,p2,p3⟩:=qput (-q) i d g.size;refine⟨_,b.blk.cell (j:=0) rfl,_,b.blk.cell (j:=1) rfl,p1,?_⟩;rw [e];exact⟨_,_,_,p2,rfl,p3⟩
 ·obtain⟨e1,e2,e3⟩:=zCZ hf
  have k:bs (qb q)=txtQ q:=by rw [e3,bs_mk]
  have hz:=zBU h k;refine⟨_,b.blk.cell (j:=2) rfl,yC (c169 k (by omega) _ (hg.ext d)) ?_⟩;rintro v w1 ⟨⟨s,rfl,hs⟩,f⟩;have n:=zBU h.neg hs;refine⟨s,rfl,yC (c104 hs (by omega) w1 ((hg.ext d).ext f)) ?_⟩;rintro v w2 ⟨rfl,l⟩;obtain⟨p1,p2,p3⟩:=qput (-q) ((i.ext f).ext l) ((d.trans f).trans l) g.size;exact⟨_,_,_,rfl,p1,_,_,_,p2,rfl,p3⟩
set_option maxHeartbeats 1000000 in
theorem c112{p q:Rat}(hp:dg 90000000 p)(hq:dg 90000000 q)(w)(hg:Gl w):Ret prog 112 #[qv p,qv q] w fun v w'=>v=qv (p+q)/\Ext w w':=by
 have b0:=(yE w).alloc (.cells (qc p).toArray 88);have a0:=(yE (w.alloc (.cells (qc p).toArray 88))).alloc (.cells (qc q).toArray 88);have a1:=(yE ((w.alloc (.cells (qc p).toArray 88)).alloc (.cells (qc q).toArray 88))).alloc (.cells zq.toArray 88);have f:=((yN w (qc p) 88).ext a0).ext a1;have g:=(yN (w.alloc (.cells (qc p).toArray 88)) (qc q) 88).ext a1;have a7:=yN ((w.alloc (.cells (qc p).toArray 88)).alloc (.cells (qc q).toArray 88)) zq 88;have b1:=(b0.trans a0).trans a1;have a9:=(b0.trans a0).size;refine run112 _ _ _ _ _ _ _ _ fun K hK=>?_
 have big : ∀ w1,Ext ((((w.alloc (.cells (qc p).toArray 88)).alloc (.cells (qc q).toArray 88))).alloc (.cells zq.toArray 88)) w1->K [] w1:=by
  intro w1 k;have b3:=f.ext k.drew;have b4:=g.ext k.drew;have b5:=a7.ext k.drew;have hx:=(b1.trans k).drew;refine hK w1 fun K1 b6=>⟨_,_,_,b3.blk.all,_,_,_,b4.blk.all,yC (c76 (hp.mono (by decide)) _ (hg.ext hx)) ?_⟩;rintro v w3 ⟨⟨s,rfl,hs⟩,d⟩;refine⟨s,rfl,d,yC (c76 (hq.mono (by decide)) _ ((hg.ext hx).ext d)) ?_⟩;rintro v w4 ⟨⟨t,rfl,ht⟩,l⟩;have z1:=zBU hp hs;have z2:=zBU hq ht;refine⟨t,rfl,yC (c157 hs ht (by omega) _ (((hg.ext hx).ext d).ext l)) ?_⟩;rintro v w5 ⟨⟨u,rfl,hu⟩,n⟩;have z3:=zBU (hp.add hq) hu;refine⟨u,rfl,yC (c104 hu (by omega) _ ((((hg.ext hx).ext d).ext l).ext n)) ?_⟩;rintro v w6 ⟨rfl,a8⟩;obtain⟨p1,p2,p3⟩:=qput (p+q) (b5.ext (((d.trans l).trans n).trans a8)) (hx.trans (((d.trans l).trans n).trans a8)) a9;exact⟨_,_,_,rfl,p1,b6 _ ⟨_,_,_,p2,rfl,p3⟩⟩
 intro K2 b7
 have main : ∀ b,b=(fitsQ p&&fitsQ q)->K2 [Bv b] (((w.alloc (.cells (qc p).toArray 88)).alloc (.cells (qc q).toArray 88)).alloc (.cells zq.toArray 88)):=by
  rintro b hb;refine b7 b (zAb (fun h=>?_) (fun _=>big _ (yE _)));rw [h] at hb
  have hb:fitsQ p=true/\fitsQ q=true:=by rw [<- Bool.and_eq_true];exact hb.symm
  obtain⟨e1,e2,e3⟩:=zAT hb.1;obtain⟨g1,g2,g3⟩:=zAT hb.2;obtain⟨f1,f2⟩:=zAN.1 hb.1;obtain⟨f3,f4⟩:=zAN.1 hb.2;have d1:=p.den_nz;have d2:=q.den_nz
  have o:i64.wrap (ql p+1)=(p.den:Int):=by rw [e2,zAe (by omega) (by omega)];omega
  have x:i64.wrap (ql q+1)=(q.den:Int):=by rw [g2,zAe (by omega) (by omega)];omega
  refine⟨_,f.blk.cell (j:=0) rfl,_,g.blk.cell (j:=1) rfl,?_⟩;refine yC (c154 (qn p) (i64.wrap (ql q+1)) (by rw [e1];omega) (by rw [x];omega) _) ?_;rintro v w7 ⟨⟨a,a4,rfl,h1⟩,rfl⟩;refine⟨_,_,rfl,_,g.blk.cell (j:=0) rfl,_,f.blk.cell (j:=1) rfl,?_⟩;refine yC (c154 (qn q) (i64.wrap (ql p+1)) (by rw [g1];omega) (by rw [o];omega) _) ?_;rintro v w8 ⟨⟨a2,a5,rfl,h2⟩,rfl⟩;refine⟨_,_,rfl,_,f.blk.cell (j:=1) rfl,_,g.blk.cell (j:=1) rfl,?_⟩;refine yC (c154 (i64.wrap (ql p+1)) (i64.wrap (ql q+1)) (by rw [o];omega) (by rw [x];omega) _) ?_;rintro v w9 ⟨⟨a3,b2,rfl,h3⟩,rfl⟩;refine⟨_,_,rfl,?_⟩;rw [o] at h2 h3;rw [x] at h1 h3;rw [e1] at h1;rw [g1] at h2
  by_cases hok:a4=true/\a5=true
  ·obtain⟨rfl,i1⟩:=h1 hok.1
   obtain⟨rfl,i2⟩:=h2 hok.2;refine yC (c155 _ _ i1 i2 _) ?_;rintro v b9 ⟨⟨r,a6,rfl,h4⟩,rfl⟩;refine⟨_,_,rfl,zAb (fun i=>?_) (fun _=>big _ (yE _))⟩;rw [Bool.and_eq_true,Bool.and_eq_true,Bool.and_eq_true] at i;obtain⟨rfl,i3⟩:=h3 i.2;obtain⟨rfl,i4⟩:=h4 i.1.1.1;have b8:((p.den:Int)*(q.den:Int))=((p.den*q.den:Nat):Int):=(Int.natCast_mul _ _).symm;rw [b8] at i3 ⊢;refine yC (c156 _ (p.den*q.den) (Nat.mul_ne_zero d1 d2) i4 (by omega) _) ?_;rintro v d0 ⟨rfl,m⟩;rw [<- Rat.add_def'];obtain⟨p1,p2,p3⟩:=qput (p+q) (a7.ext m) (b1.trans m) a9;exact⟨_,_,_,rfl,p1,_,_,_,p2,rfl,p3⟩
  ·refine yC (R:=fun v w'=>(∃ r ok,v = .tuple #[Iv r,Bv ok])/\w' = ((w.alloc (.cells (qc p).toArray 88)).alloc (.cells (qc q).toArray 88)).alloc (.cells zq.toArray 88)) ?_ ?_
   ·refine run155 _ _ _ _ (zAb (fun _=>⟨⟨_,_,rfl⟩,rfl⟩) (fun _=>⟨⟨_,_,rfl⟩,rfl⟩))
   ·rintro v b9 ⟨⟨r,a6,rfl⟩,rfl⟩
    refine⟨_,_,rfl,?_⟩
    have:(a6&&a4&&a5&&b2)=false:=by
     cases h:(a6&&a4&&a5&&b2) with
     | false=>rfl
     | true =>
      rw [Bool.and_eq_true,Bool.and_eq_true,Bool.and_eq_true] at h;exact absurd ⟨h.1.1.2,h.1.2⟩ hok
    rw [this];exact big _ (yE _)
 refine⟨_,f.blk.cell (j:=2) rfl,?_⟩;rw [zBn];refine zAb (fun h1=>⟨_,g.blk.cell (j:=2) rfl,?_⟩) (fun h1=>main _ (by rw [h1];rfl));rw [zBn];exact main _ (by rw [h1];rfl)
set_option maxHeartbeats 1000000 in
theorem c113{p q:Rat}(hp:dg 90000000 p)(hq:dg 90000000 q)(w)(hg:Gl w):Ret prog 113 #[qv p,qv q] w fun v w'=>v=qv (p*q)/\Ext w w':=by
 have a6:=(yE w).alloc (.cells (qc p).toArray 88);have o:=(yE (w.alloc (.cells (qc p).toArray 88))).alloc (.cells (qc q).toArray 88);have x:=(yE ((w.alloc (.cells (qc p).toArray 88)).alloc (.cells (qc q).toArray 88))).alloc (.cells zq.toArray 88);have g:=((yN w (qc p) 88).ext o).ext x;have i:=(yN (w.alloc (.cells (qc p).toArray 88)) (qc q) 88).ext x;have a0:=yN ((w.alloc (.cells (qc p).toArray 88)).alloc (.cells (qc q).toArray 88)) zq 88;have a7:=(a6.trans o).trans x;have a5:=(a6.trans o).size;refine run113 _ _ _ _ _ _ _ _ fun K hK=>?_
 have big : ∀ w1,Ext ((((w.alloc (.cells (qc p).toArray 88)).alloc (.cells (qc q).toArray 88))).alloc (.cells zq.toArray 88)) w1->K [] w1:=by
  intro w1 k;have a8:=g.ext k.drew;have a9:=i.ext k.drew;have b0:=a0.ext k.drew;have hx:=(a7.trans k).drew;refine hK w1 fun K1 b1=>⟨_,_,_,a8.blk.all,_,_,_,a9.blk.all,yC (c76 (hp.mono (by decide)) _ (hg.ext hx)) ?_⟩;rintro v w3 ⟨⟨s,rfl,hs⟩,d⟩;refine⟨s,rfl,d,yC (c76 (hq.mono (by decide)) _ ((hg.ext hx).ext d)) ?_⟩;rintro v w4 ⟨⟨t,rfl,ht⟩,l⟩;have z1:=zBU hp hs;have z2:=zBU hq ht;refine⟨t,rfl,yC (c158 hs ht (by omega) _ (((hg.ext hx).ext d).ext l)) ?_⟩;rintro v w5 ⟨⟨u,rfl,hu⟩,n⟩;have z3:=zBU (hp.mul hq) hu;refine⟨u,rfl,yC (c104 hu (by omega) _ ((((hg.ext hx).ext d).ext l).ext n)) ?_⟩;rintro v w6 ⟨rfl,a1⟩;obtain⟨p1,p2,p3⟩:=qput (p*q) (b0.ext (((d.trans l).trans n).trans a1)) (hx.trans (((d.trans l).trans n).trans a1)) a5;exact⟨_,_,_,rfl,p1,b1 _ ⟨_,_,_,p2,rfl,p3⟩⟩
 intro K2 b2
 have main : ∀ b,b=(fitsQ p&&fitsQ q)->K2 [Bv b] (((w.alloc (.cells (qc p).toArray 88)).alloc (.cells (qc q).toArray 88)).alloc (.cells zq.toArray 88)):=by
  rintro b hb;refine b2 b (zAb (fun h=>?_) (fun _=>big _ (yE _)));rw [h] at hb
  have hb:fitsQ p=true/\fitsQ q=true:=by rw [<- Bool.and_eq_true];exact hb.symm
  obtain⟨e1,e2,e3⟩:=zAT hb.1;obtain⟨g1,g2,g3⟩:=zAT hb.2;obtain⟨f1,f2⟩:=zAN.1 hb.1;obtain⟨f3,f4⟩:=zAN.1 hb.2;have d1:=p.den_nz;have d2:=q.den_nz
  have a2:i64.wrap (ql p+1)=(p.den:Int):=by rw [e2,zAe (by omega) (by omega)];omega
  have a4:i64.wrap (ql q+1)=(q.den:Int):=by rw [g2,zAe (by omega) (by omega)];omega
  refine⟨_,g.blk.cell (j:=0) rfl,_,i.blk.cell (j:=0) rfl,?_⟩;refine yC (c154 (qn p) (qn q) (by rw [e1];omega) (by rw [g1];omega) _) ?_;rintro v w7 ⟨⟨a,b4,rfl,h1⟩,rfl⟩;refine⟨_,_,rfl,_,g.blk.cell (j:=1) rfl,_,i.blk.cell (j:=1) rfl,?_⟩;refine yC (c154 (i64.wrap (ql p+1)) (i64.wrap (ql q+1)) (by rw [a2];omega) (by rw [a4];omega) _) ?_;rintro v w9 ⟨⟨a3,b5,rfl,h3⟩,rfl⟩;rw [a2,a4] at h3;rw [e1,g1] at h1;refine⟨_,_,rfl,zAb (fun f=>?_) (fun _=>big _ (yE _))⟩;rw [Bool.and_eq_true] at f;obtain⟨rfl,i1⟩:=h1 f.1;obtain⟨rfl,i3⟩:=h3 f.2;have b3:((p.den:Int)*(q.den:Int))=((p.den*q.den:Nat):Int):=(Int.natCast_mul _ _).symm;rw [b3] at i3 ⊢;refine yC (c156 _ (p.den*q.den) (Nat.mul_ne_zero d1 d2) i1 (by omega) _) ?_;rintro v b6 ⟨rfl,m⟩;rw [<- Rat.mul_def'];obtain⟨p1,p2,p3⟩:=qput (p*q) (a0.ext m) (a7.trans m) a5;exact⟨_,_,_,rfl,p1,_,_,_,p2,rfl,p3⟩
 refine⟨_,g.blk.cell (j:=2) rfl,?_⟩;rw [zBn];refine zAb (fun h1=>⟨_,i.blk.cell (j:=2) rfl,?_⟩) (fun h1=>main _ (by rw [h1];rfl));rw [zBn];exact main _ (by rw [h1];rfl)
theorem c114{p q:Rat}(hp:dg 90000000 p)(hq:dg 90000000 q)(w)(hg:Gl w):Ret prog 114 #[qv p,qv q] w fun v w'=>v=qv (p - q)/\Ext w w':=by
 have i:=(yE w).alloc (.cells (qc p).toArray 88);have d:=(yE (w.alloc (.cells (qc p).toArray 88))).alloc (.cells (qc q).toArray 88);have f:=(yE ((w.alloc (.cells (qc p).toArray 88)).alloc (.cells (qc q).toArray 88))).alloc (.cells zq.toArray 88);have j:=((yN w (qc p) 88).ext d).ext f.drew;have k:=(yN (w.alloc (.cells (qc p).toArray 88)) (qc q) 88).ext f.drew;have l:=(yN ((w.alloc (.cells (qc p).toArray 88)).alloc (.cells (qc q).toArray 88)) zq 88).ext (yE _).drew;have g:=(i.trans d).trans f.drew;have m:=(i.trans d).size;refine run114 _ _ _ _ _ _ _ _ fun K hK=>⟨_,_,_,j.blk.all,_,_,_,k.blk.all,yC (c133 (hq.mono (by decide)) _ (hg.ext g)) ?_⟩;rintro v w2 ⟨rfl,b⟩;refine⟨_,_,_,rfl,b,yC (c112 hp hq.neg _ ((hg.ext g).ext b)) ?_⟩;rintro v w3 ⟨rfl,h⟩;rw [<- Rat.sub_eq_add_neg];obtain⟨p1,p2,p3⟩:=qput (p - q) (l.ext (b.trans h)) (g.trans (b.trans h)) m;exact⟨_,_,_,rfl,p1,hK _ ⟨_,_,_,p2,rfl,p3⟩⟩
theorem c122{q:Rat}(h:dg 90000000 q)(h0:q≠0)(w)(hg:Gl w):Ret prog 122 #[qv q] w fun v w'=>v=qv q⁻¹/\Ext w w':=by
 have l:=(yE w).alloc (.cells (qc q).toArray 88);have x:=(yE (w.alloc (.cells (qc q).toArray 88))).alloc (.cells zq.toArray 88);have b:=(yN w (qc q) 88).ext x;have m:=yN (w.alloc (.cells (qc q).toArray 88)) zq 88;have g:=l.trans x;have a0:q.num≠0:=fun e=>h0 (Rat.num_eq_zero.1 e);have a1:=q.den_nz;refine run122 _ _ _ _ _ ⟨_,b.blk.cell (j:=2) rfl,?_⟩;rw [zBn];refine zAb (fun hf=>?_) (fun hf=>?_)
 ·have hf:fitsQ q=false:=by simpa using hf
  obtain⟨e1,e2,e3⟩:=zCZ hf
  have o:bs (qb q)=txtQ q:=by rw [e3,bs_mk]
  have hz:=zBU h o
  have h1:bs ({ data:=#[49] } : BA)=txtQ 1:=by
   rw [zA2,if_neg (by decide),if_pos (show (1:Rat).den=1 from rfl)];show [49]=[]++dec 1++[];rw [zAu (by omega)];rfl
  have a2:({ data:=#[49] } : BA).size=1:=rfl;refine⟨_,b.blk.cell (j:=2) rfl,yC (c164 h1 o h0 (by omega) _ (hg.ext g)) ?_⟩;rintro v w1 ⟨⟨s,rfl,hs⟩,k⟩;rw [Rat.one_mul] at hs;have a3:=zBU h.inv hs;refine⟨s,rfl,yC (c104 hs (by omega) w1 ((hg.ext g).ext k)) ?_⟩;rintro v w2 ⟨rfl,p⟩;obtain⟨p1,p2,p3⟩:=qput q⁻¹ ((m.ext k).ext p) ((g.trans k).trans p) l.size;exact⟨_,_,_,rfl,p1,_,_,_,p2,rfl,p3⟩
 ·have hf:fitsQ q=true:=by simpa using hf
  obtain⟨e1,e2,e3⟩:=zAT hf;obtain⟨f1,f2⟩:=zAN.1 hf;have d:(q⁻¹).num=q.num.sign*q.den:=Rat.num_inv q
  have f:(q⁻¹).den=q.num.natAbs:=by rw [Rat.den_inv,if_neg a0]
  obtain⟨p1,p2,p3⟩:=qput q⁻¹ m g l.size;refine⟨_,b.blk.cell (j:=0) rfl,zAd (fun i=>?_) (fun u=>?_)⟩
  ·rw [e1] at i
   rw [Int.sign_eq_neg_one_of_neg i] at d
   have e:[Iv (i64.wrap (i64.wrap (0 - ql q) - 1)),Iv (i64.wrap (i64.wrap (0 - qn q) - 1)),S0]=qc q⁻¹:=by
    obtain⟨g1,g2,g3⟩:=zAT (q:=q⁻¹) (zAN.2 ⟨by rw [d];omega,by rw [f];omega⟩);unfold qc;rw [g1,g2,g3,e1,e2,d,f,zAe (n:=0 - ((q.den:Int) - 1)) (by omega) (by omega),zAe (n:=0 - q.num) (by omega) (by omega),zAe (by omega) (by omega),zAe (by omega) (by omega)]
    congr 2
    ·omega
    ·congr 2;omega
   refine⟨_,b.blk.cell (j:=1) rfl,_,b.blk.cell (j:=0) rfl,p1,?_⟩;rw [e];exact⟨_,_,_,p2,rfl,p3⟩
  ·rw [e1] at u
   rw [Int.sign_eq_one_of_pos (by omega)] at d
   have e:[Iv (i64.wrap (ql q+1)),Iv (i64.wrap (qn q - 1)),S0]=qc q⁻¹:=by
    obtain⟨g1,g2,g3⟩:=zAT (q:=q⁻¹) (zAN.2 ⟨by rw [d];omega,by rw [f];omega⟩);unfold qc;rw [g1,g2,g3,e1,e2,d,f,zAe (by omega) (by omega),zAe (by omega) (by omega)]
    congr 2
    ·omega
    ·congr 2;omega
   refine⟨_,b.blk.cell (j:=1) rfl,_,b.blk.cell (j:=0) rfl,p1,?_⟩;rw [e];exact⟨_,_,_,p2,rfl,p3⟩
theorem c75{q:Rat}(h:dg 400000000 q)(w)(hg:Gl w):Ret prog 75 #[qv q] w fun v w'=>v=Iv (Tb.sgnQ q)/\Ext w w':=by
 have hx:=(yE w).alloc (.cells (qc q).toArray 88);have hB:=yN w (qc q) 88
 have b:q.num.sign=Tb.sgnQ q:=by
  unfold Tb.sgnQ
  by_cases h1:q<0
  ·rw [if_pos h1,Int.sign_eq_neg_one_of_neg]
   have h2 : ¬ 0<=q:=Rat.not_le.2 h1;exact Int.not_le.1 fun h=>h2 (Rat.num_nonneg.1 h)
  ·rw [if_neg h1]
   have h2:0<=q.num:=Rat.num_nonneg.2 (Rat.not_lt.1 h1)
   by_cases h3:q=0
   ·rw [if_pos h3,h3];rfl
   ·rw [if_neg h3,Int.sign_eq_one_of_pos]
    have:q.num≠0:=fun e=>h3 (Rat.num_eq_zero.1 e);omega
 refine run75 _ _ _ _ _ ⟨_,hB.blk.cell (j:=2) rfl,?_⟩;rw [zBn];refine zAb (fun hf=>?_) (fun hf=>?_)
 ·have hf:fitsQ q=false:=by simpa using hf
  obtain⟨e1,e2,e3⟩:=zCZ hf
  have d:bs (qb q)=txtQ q:=by rw [e3,bs_mk]
  have hz:=zBU h d;refine⟨_,hB.blk.cell (j:=2) rfl,yC (c131 d (by omega) _ (hg.ext hx)) ?_⟩;rintro v w1 ⟨rfl,he⟩;exact⟨_,rfl,by rw [b],hx.trans he⟩
 ·have hf:fitsQ q=true:=by simpa using hf
  obtain⟨e1,e2,e3⟩:=zAT hf;refine⟨_,hB.blk.cell (j:=0) rfl,zAd (fun hn=>⟨?_,hx⟩) (fun hn=>⟨_,hB.blk.cell (j:=0) rfl,zAd (fun hp=>⟨?_,hx⟩) (fun hp=>⟨?_,hx⟩)⟩)⟩
  ·rw [e1] at hn
   rw [<- b,Int.sign_eq_neg_one_of_neg hn]
  ·rw [e1] at hp
   rw [<- b,Int.sign_eq_one_of_pos hp]
  ·rw [e1] at hn hp
   have:q.num=0:=by omega
   rw [<- b,this];rfl
theorem c67{p q:Rat}(hp:dg 90000000 p)(hq:dg 90000000 q)(w)(hg:Gl w):Ret prog 67 #[qv p,qv q] w fun v w'=>v=Iv (Tb.cmpQ p q)/\Ext w w':=by
 have j:=(yE w).alloc (.cells (qc p).toArray 88);have f:=(yE (w.alloc (.cells (qc p).toArray 88))).alloc (.cells (qc q).toArray 88);have g:=(yN w (qc p) 88).ext f;have h:=yN (w.alloc (.cells (qc p).toArray 88)) (qc q) 88;have b:=j.trans f;refine run67 _ _ _ _ _ _ _ _ ⟨_,_,_,g.blk.all,_,_,_,h.blk.all,yC (c114 hp hq _ (hg.ext b)) ?_⟩;rintro v w1 ⟨rfl,d⟩;refine⟨_,_,_,rfl,yC (c75 ((hp.sub hq).mono (by decide)) _ ((hg.ext b).ext d)) ?_⟩;rintro v w2 ⟨rfl,i⟩;exact⟨_,rfl,rfl,(b.trans d).trans i⟩
theorem c146{p q:Rat}(hp:dg 90000000 p)(hq:dg 89999999 q)(h0:q≠0)(w)(hg:Gl w):Ret prog 146 #[qv p,qv q] w fun v w'=>v=qv (p*q⁻¹)/\Ext w w':=by
 have i:=(yE w).alloc (.cells (qc p).toArray 88);have d:=(yE (w.alloc (.cells (qc p).toArray 88))).alloc (.cells (qc q).toArray 88);have f:=(yE ((w.alloc (.cells (qc p).toArray 88)).alloc (.cells (qc q).toArray 88))).alloc (.cells zq.toArray 88);have j:=((yN w (qc p) 88).ext d).ext f.drew;have k:=(yN (w.alloc (.cells (qc p).toArray 88)) (qc q) 88).ext f.drew;have l:=(yN ((w.alloc (.cells (qc p).toArray 88)).alloc (.cells (qc q).toArray 88)) zq 88).ext (yE _).drew;have g:=(i.trans d).trans f.drew;have m:=(i.trans d).size;refine run146 _ _ _ _ _ _ _ _ fun K hK=>⟨_,_,_,j.blk.all,_,_,_,k.blk.all,yC (c122 (hq.mono (by decide)) h0 _ (hg.ext g)) ?_⟩;rintro v w2 ⟨rfl,b⟩;refine⟨_,_,_,rfl,b,yC (c113 hp (hq.inv.mono (by decide)) _ ((hg.ext g).ext b)) ?_⟩;rintro v w3 ⟨rfl,h⟩;obtain⟨p1,p2,p3⟩:=qput (p*q⁻¹) (l.ext (b.trans h)) (g.trans (b.trans h)) m;exact⟨_,_,_,rfl,p1,hK _ ⟨_,_,_,p2,rfl,p3⟩⟩
theorem c130(n:Int)(h0:n.natAbs<=9223372036854775807)(w:World)(hg:Gl w):Ret prog 130 #[.int .i64 n] w fun v w'=>v=qv (n:Rat)/\Ext w w':=by
 have hx:=(yE w).alloc (.cells zq.toArray 88)
 have hB:=yN w zq 88
 refine run130 _ _ _ ?_
 unfold vc130
 have b:(n == -9223372036854775808)=false:=by rw [beq_eq_false_iff_ne];omega
 rw [b,cond_false]
 have e:[Value.int .i64 n,.int .i64 0,.string { data:=#[] }]=qc (n:Rat):=by
  obtain⟨g1,g2,g3⟩:=zAT (q:=(n:Rat)) (zAN.2 ⟨h0,by show 1<=_;omega⟩)
  unfold qc
  rw [g1,g2,g3];rfl
 obtain⟨p1,p2,p3⟩:=qput (n:Rat) hB hx yL
 refine⟨p1,?_⟩
 rw [e]
 exact⟨_,_,_,p2,rfl,p3⟩
end Go.Proofs.Si
namespace Go.Proofs.Si
open Go Go.V Go.Proofs Go.RowKit Go.Num Go.Tb Go.Proofs.Tryz
set_option maxRecDepth 100000
def QL(f:Nat->Rat):Nat->List Value
 | 0=>[]
 | n+1=>QL f n++qc (f n)
theorem zAM(f:Nat->Rat) : ∀ n,(QL f n).length=3*n
 | 0=>rfl
 | n+1=>by rw [QL,List.length_append,zAM f n];show 3*n+3=_;omega
theorem QL_get{f:Nat->Rat} : ∀ {n i:Nat},i<n->∀ j,j<3->(QL f n)[3*i+j]? = (qc (f i))[j]?
 | n+1,i,hi,j,hj=>by
  rw [QL]
  by_cases h:i<n
  ·rw [List.getElem?_append_left (by rw [zAM];omega)]
   exact QL_get h j hj
  ·have:i=n:=by omega
   subst this
   rw [List.getElem?_append_right (by rw [zAM];omega),zAM,Nat.add_sub_cancel_left]
theorem zAS{f g:Nat->Rat} : ∀ {n:Nat},(∀ i,i<n->f i=g i)->QL f n=QL g n
 | 0,_=>rfl
 | n+1,h=>by rw [QL,QL,zAS fun i hi=>h i (by omega),h n (by omega)]
theorem QL_ext{f:Nat->Rat}{n:Nat}{L:List Value}(hl:L.length=3*n)(h : ∀ i,i<n->∀ j,j<3->L[3*i+j]? = (qc (f i))[j]?):L=QL f n:=by
 apply List.ext_getElem?
 intro k
 by_cases hk:k<3*n
 ·have h1:=h (k / 3) (by omega) (k % 3) (by omega)
  have h2:=QL_get (f:=f) (show k / 3<n by omega) (k % 3) (by omega);rw [Nat.div_add_mod] at h1 h2;rw [h1,h2]
 ·rw [List.getElem?_eq_none (by omega),List.getElem?_eq_none (by rw [zAM];omega)]
theorem QL_set{f:Nat->Rat}{n i:Nat}(hi:i<n)(x:Rat):setL (QL f n) (3*i) (qc x)=QL (upd f i x) n:=by
 apply QL_ext (by rw [zCc,zAM])
 intro k hk j hj;rw [zDR _ _ _ _ (by rw [zAM];omega)];show (if 3*i<=3*k+j/\3*k+j<3*i+3 then _ else _)=_
 by_cases e:k=i
 ·subst e
  rw [if_pos (by omega),zA4,show 3*k+j - 3*k=j by omega]
 ·rw [if_neg (by omega),zAt _ e]
  exact QL_get hk j hj
theorem zDF(n:Nat):madeCells zq.toArray (n*3)=(QL (fun _=>0) n).toArray:=by
 apply Array.ext'
 show _=QL _ n
 apply QL_ext
 ·simp [madeCells];omega
 ·intro i hi j hj
  rw [qc_zero];simp only [madeCells]
  have:(3*i+j)<n*3:=by omega
  have h3:(3*i+j) % 3=j:=by omega
  match j,hj with
  | 0,_=>simp [show 3*i<n*3 by omega]
  | 1,_=>simp [this,h3]
  | 2,_=>simp [this,h3]
def QS(w:World)(a:OA)(f:Nat->Rat)(n:Nat):Prop:=SlAt w a (QL f n)
theorem QS.ext{w w' a}{f:Nat->Rat}{n:Nat}(h:QS w a f n)(he:Ext w w'):QS w' a f n:=SlAt.ext h he
theorem _root_.Go.V.SlAt.get{w:World}{a:OA}{L:List Value}(h:SlAt w a L){k:Nat}{v:Value}(hk:L[k]? = some v) : ∃ b o,a=some ⟨b,o,none⟩/\w.cell? ⟨b,o+k,none⟩=some v:=by
 rcases h with rfl | ⟨ad,h1,h2,h3⟩
 ·cases hk
 ·obtain⟨b,o,s⟩:=ad
  cases h2;have:=h3 k v hk;rw [zAi] at this;exact⟨b,o,h1,this⟩
theorem QS.get{w:World}{a:OA}{f:Nat->Rat}{n i:Nat}(h:QS w a f n)(hi:i<n) : ∃ b o,a=some ⟨b,o,none⟩/\vcells w ((⟨b,o,none⟩:Addr).add (i*3)) 0 (qc (f i)):=by
 obtain⟨b,o,ha,_⟩:=SlAt.get h (k:=3*i+0) (QL_get hi 0 (by omega));refine⟨b,o,ha,?_⟩;rw [zAH];intro j v hj;have g:j<3:=(List.getElem?_eq_some_iff.1 hj).1;obtain⟨b',o',d,hc⟩:=SlAt.get h (k:=3*i+j) ((QL_get hi j g).trans hj);rw [ha] at d;cases d;rw [zAi,zAi,Nat.zero_add,show o+i*3+j=o+(3*i+j) by omega];exact hc
theorem _root_.Go.V.Box.qget{w:World}{b ty:Nat}{f:Nat->Rat}{n i:Nat}(h:Box w b ty (QL f n))(hi:i<n):vcells w ((⟨b,0,none⟩:Addr).add (i*3)) 0 (qc (f i)):=by
 obtain⟨b',o',ha,hv⟩:=QS.get (a:=some ⟨b,0,none⟩) h.blk.sl hi;cases ha;exact hv
theorem _root_.Go.V.Box.qwr{w:World}{b ty:Nat}{f:Nat->Rat}{n i:Nat}(h:Box w b ty (QL f n))(hi:i<n):writable w ((⟨b,0,none⟩:Addr).add (i*3)) 3:=by
 rw [zAi];exact h.blk.writable (by rw [zAM];omega)
theorem _root_.Go.V.Box.qset{w:World}{b ty:Nat}{f:Nat->Rat}{n i:Nat}(h:Box w b ty (QL f n))(hi:i<n)(x:Rat):Box (setCells w ((⟨b,0,none⟩:Addr).add (i*3)) 0 (qc x)) b ty (QL (upd f i x) n):=by
 rw [zAi,<- QL_set hi];have:=h.setCells (o:=0+i*3) (qc x) 0
 rwa [show 0+i*3+0=3*i by omega] at this
theorem _root_.Go.V.Box.qs{w:World}{b ty:Nat}{f:Nat->Rat}{n:Nat}(h:Box w b ty (QL f n)):QS w (some ⟨b,0,none⟩) f n:=h.blk.sl
theorem zFh(n:Nat):n*siE.P.types[88].size=n*3:=rfl
theorem size9s(n:Nat):n*siE.P.types[9].size=n:=Nat.mul_one n
def SL(s:Nat->BA)(n:Nat):List Value:=upto (fun i=>Sv (s i)) n
theorem zBg{α:Type}{f:Nat->α}{n i:Nat}(h:i<n):(upto f n)[i]? = some (f i):=by
 unfold upto;rw [List.getElem?_map,List.getElem?_range h];rfl
theorem zE9{α:Type}{f:Nat->α}{n:Nat}{L:List α}(hl:L.length=n)(h : ∀ i,i<n->L[i]? = some (f i)):L=upto f n:=by
 apply List.ext_getElem?
 intro k
 by_cases hk:k<n
 ·rw [h k hk,zBg hk]
 ·rw [List.getElem?_eq_none (by omega),List.getElem?_eq_none (by rw [zAD];omega)]
theorem zC6{α:Type}{f:Nat->α}{n i:Nat}(hi:i<n)(x:α):(upto f n).set i x=upto (upd f i x) n:=by
 apply zE9 (by rw [List.length_set,zAD])
 intro k hk;rw [List.getElem?_set]
 by_cases e:i=k
 ·subst e
  rw [if_pos rfl,if_pos (by rw [zAD];exact hi),zA4]
 ·rw [if_neg e,zBg hk,zAt _ (fun e2=>e e2.symm)]
theorem zA5{α:Type}{f g:Nat->α}{n:Nat}(h : ∀ i,i<n->f i=g i):upto f n=upto g n :=
 zE9 (zAD _ _) fun i hi=>by rw [zBg hi,h i hi]
def SS(w:World)(a:OA)(s:Nat->BA)(n:Nat):Prop:=SlAt w a (SL s n)
theorem SS.ext{w w' a}{s:Nat->BA}{n:Nat}(h:SS w a s n)(he:Ext w w'):SS w' a s n:=SlAt.ext h he
theorem SS.get{w:World}{a:OA}{s:Nat->BA}{n i:Nat}(h:SS w a s n)(hi:i<n) : ∃ ad,a=some ad/\w.cell? (ad.add (i*1))=some (Sv (s i)):=by
 obtain⟨b,o,ha,hc⟩:=SlAt.get h (k:=i) (zBg hi);refine⟨_,ha,?_⟩;rw [zAi,Nat.mul_one];exact hc
theorem c62{a}{s:Nat->BA}{n c:Nat}(hn:n<=1099511627776)(w)(hs:SS w a s n)(hz : ∀ i,i<n->(s i).size<=1000000000)(hg:Gl w) :
  Ret prog 62 #[Lv a n c] w fun v w'=>(∃ b,v=Bv b/\(b=true↔∀ i,i<n->okQ (bs (s i))=true))/\Ext w w':=by
 refine run62 _ _ _ _ _ ⟨fun vals w1=>∃ i:Nat,vals=[Iv i]/\i<=n/\(∀ k,k<i->okQ (bs (s k))=true)/\Ext w w1,mu1 n,⟨0,rfl,Nat.zero_le _,fun k hk=>by omega,yE _⟩,?_⟩;rintro m w1 ⟨i,hv,hi,f,he⟩;cases hv;refine zAd (fun j=>?_) (fun l=>⟨⟨true,rfl,by simp only [true_iff];exact fun k hk=>f k (by omega)⟩,he⟩)
 have d:i<n:=by omega
 obtain⟨ad,ha,hc⟩:=(hs.ext he).get d;refine⟨ad,ha,⟨by omega,j⟩,_,hc,yC (c111 (s i) (hz i d) w1 (hg.ext he)) ?_⟩;rintro v w2 ⟨rfl,g⟩;refine⟨_,rfl,zAb (fun hb=>⟨⟨false,rfl,?_⟩,he.trans g⟩) (fun hb=>?_)⟩
 ·have hb:okQ (bs (s i))=false:=by simpa using hb
  constructor
  ·intro h;cases h
  ·intro h;rw [h i d] at hb;cases hb
 ·have hb:okQ (bs (s i))=true:=by simpa using hb
  rw [zAg (by omega)];refine⟨⟨i+1,rfl,d,fun k hk=>?_,he.trans g⟩,by simp only [mu1,yT];omega⟩
  by_cases e:k=i
  ·rw [e];exact hb
  ·exact f k (by omega)
theorem c64{a}{s:Nat->BA}{f:Nat->Rat}{n c:Nat}(hn:n<=1048576)(w)(hs:SS w a s n)(hz : ∀ i,i<n->(s i).size<=1000000000)(hf : ∀ i,i<n->bs (s i)=txtQ (f i))(hg:Gl w) :
  Ret prog 64 #[Lv a n c] w fun v w'=>v=Lv (some ⟨w.heap.size,0,none⟩) n n/\Box w' w.heap.size 88 (QL f n)/\Ext w w':=by
 refine run64 _ _ _ _ _ ⟨⟨by omega,by omega,by omega,by omega⟩,?_⟩;simp only [yT,zFh];have e0:madeCells (Value.agg #[Iv 0,Iv 0,S0]).cells (n*3)=(QL (fun _=>0) n).toArray:=zDF n;rw [e0];refine⟨fun vals w1=>∃ i:Nat,vals=[Iv i]/\i<=n/\Box w1 w.heap.size 88 (QL (fun k=>if k<i then f k else 0) n)/\Ext w w1,mu1 n,⟨0,rfl,Nat.zero_le _,?_,(yE w).alloc _⟩,?_⟩
 ·rw [zAS (g:=fun _=>0) fun i _=>if_neg (by omega)]
  exact yN w _ 88
 rintro m w1 ⟨i,hv,hi,hB,he⟩;cases hv;refine zAd (fun l=>?_) (fun o=>⟨trivial,?_,he⟩)
 ·have b:i<n:=by omega
  obtain⟨ad,ha,hc⟩:=(hs.ext he).get b;refine⟨ad,ha,⟨by omega,l⟩,_,hc,yC (c104 (hf i b) (hz i b) w1 (hg.ext he)) ?_⟩;rintro v w2 ⟨rfl,j⟩;have d:=hB.ext j;refine⟨_,_,_,rfl,_,rfl,⟨by omega,l⟩,d.qwr b,?_⟩;rw [zAg (by omega)];refine⟨⟨i+1,rfl,b,?_,?_⟩,by simp only [mu1,yT];omega⟩
  ·have:=d.qset b (f i)
   rw [zAS (g:=fun k=>if k<i+1 then f k else 0) fun k hk=>?_] at this
   ·exact this
   ·by_cases e:k=i
    ·subst e;rw [zA4,if_pos (by omega)]
    ·rw [zAt _ e]
     by_cases h:k<i
     ·rw [if_pos h,if_pos (by omega)]
     ·rw [if_neg h,if_neg (by omega)]
  ·rw [zAi]
   exact (he.trans j).put yL _ _
 ·rw [zAS (g:=f) fun k hk=>if_pos (by omega)] at hB
  exact hB
theorem made_str(n:Nat):madeCells (S0).cells n=(upto (fun _=>S0) n).toArray:=by
 apply Array.ext'
 show _=upto _ n
 apply zE9
 ·simp [madeCells]
 ·intro i hi
  simp [madeCells,Value.cells,hi,Nat.mod_one]
theorem c72{a}{f:Nat->Rat}{n c:Nat}(hn:n<=1048576)(w)(hs:QS w a f n)(hz : ∀ i,i<n->dg 400000000 (f i))(hg:Gl w) :
  Ret prog 72 #[Lv a n c] w fun v w'=>v=Lv (some ⟨w.heap.size,0,none⟩) n n/\Box w' w.heap.size 9 (SL (fun i=>mk (txtQ (f i))) n)/\Ext w w':=by
 refine run72 _ _ _ _ _ ⟨⟨by omega,by omega,by omega,by omega⟩,?_⟩;simp only [yT,size9s,made_str];refine⟨fun vals w1=>∃ i:Nat,vals=[Iv i]/\i<=n/\Box w1 w.heap.size 9 (SL (fun k=>if k<i then mk (txtQ (f k)) else { data:=#[] }) n)/\Ext w w1,mu1 n,⟨0,rfl,Nat.zero_le _,?_,(yE w).alloc _⟩,?_⟩
 ·have:SL (fun k=>if k<0 then mk (txtQ (f k)) else { data:=#[] }) n=upto (fun _=>S0) n:=zA5 fun i _=>by (show Sv (if i<0 then _ else _)=_;rw [if_neg (by omega)])
  rw [this];exact yN w _ 9
 rintro m w1 ⟨i,hv,hi,hB,he⟩;cases hv;refine zAd (fun p=>?_) (fun a1=>⟨trivial,?_,he⟩)
 ·have d:i<n:=by omega
  obtain⟨b,o,ha,hc⟩:=(hs.ext he).get d;have hN:=yN w1 zq 88;have x:=(hB.ext ((yE w1).alloc (.cells zq.toArray 88))).same (zAk (b:=w1.heap.size) (o:=0) (k:=w.heap.size) (by have:=hB.lt;omega) (qc (f i)) 0);have hx:Ext w (setCells (w1.alloc (.cells zq.toArray 88)) ⟨w1.heap.size,0,none⟩ 0 (qc (f i))):=(he.alloc _).put he.size _ _;refine⟨_,ha,⟨by omega,p⟩,_,_,_,hc,hN.blk.writable (by decide),_,_,_,(hN.put (qc (f i)) (by rfl)).blk.all,yC (c76 (hz i d) _ (hg.ext hx)) ?_⟩;rintro v w2 ⟨⟨s,rfl,a0⟩,l⟩;have g:=x.ext l
  have j:((⟨w.heap.size,0,none⟩:Addr).add (i*1))=⟨w.heap.size,i,none⟩:=by rw [zAi,Nat.mul_one,Nat.zero_add]
  refine⟨s,rfl,_,rfl,⟨by omega,p⟩,?_⟩;rw [yT,j,zAg (by omega)];refine⟨⟨⟨_,g.blk.cell (zBg d)⟩,g.blk.free⟩,⟨i+1,rfl,d,?_,(hx.trans l).setCell yL _⟩,by simp only [mu1,yT];omega⟩;have:=g.set i (Sv s);rw [SL,zC6 d] at this
  have e:upto (upd (fun u=>Sv (if u<i then mk (txtQ (f u)) else { data:=#[] })) i (Sv s)) n=SL (fun k=>if k<i+1 then mk (txtQ (f k)) else { data:=#[] }) n:=by
   refine zA5 fun k hk=>?_
   by_cases e:k=i
   ·subst e
    rw [zA4];show _=Sv (if k<k+1 then _ else _);rw [if_pos (by omega)]
    congr 1
    exact zDn (by rw [bs_mk,a0])
   ·rw [zAt _ e]
    show Sv (if k<i then _ else _)=Sv (if k<i+1 then _ else _)
    by_cases h:k<i
    ·rw [if_pos h,if_pos (by omega)]
    ·rw [if_neg h,if_neg (by omega)]
  rw [e] at this;exact this
 ·have e:SL (fun k=>if k<i then mk (txtQ (f k)) else { data:=#[] }) n=SL (fun i=>mk (txtQ (f i))) n:=zA5 fun k hk=>by (show Sv (if k<i then _ else _)=_;rw [if_pos (by omega)])
  rw [e] at hB;exact hB
end Go.Proofs.Si
