/- Part of the proof: TbG, TbH, SiK, SiK2, SiK3. -/
import Derived.Test.YtoaiappkhcjagaaGreatDoorMTbD
import Derived.Test.YtoaiappkhcjagaaGreatDoorMV8
import Derived.Test.YtoaiappkhcjagaaGreatDoorMSiO4
import Derived.Test.YtoaiappkhcjagaaGreatDoorSiV4
set_option linter.unusedVariables false
set_option linter.unusedSimpArgs false
namespace Go.Tb
def lhs (S:Sys) (x:Nat->Rat) (k:Nat):Rat:=sumN S.n fun j=>S.C k j*x j
def Sat (S:Sys) (x:Nat->Rat):Prop:=∀ k,k<S.m->lhs S x k<=S.K k/\(S.rel k=2->lhs S x k<S.K k)/\(S.rel k=3->lhs S x k=S.K k)
def Adm (S:Sys) (y:Nat->Rat):Prop:=∀ k,k<S.m->S.rel k≠3->0<=y k
def zEe (S:Sys) (y:Nat->Rat):Prop:=∃ k,k<S.m/\S.rel k=2/\0<y k
def comb (S:Sys) (y:Nat->Rat) (j:Nat):Rat:=sumN S.m fun k=>y k*S.C k j
def combK (S:Sys) (y:Nat->Rat):Rat:=sumN S.m fun k=>y k*S.K k
def zAQ (S:Sys) (y:Nat->Rat):Prop:=Adm S y/\(∀ j,j<S.n->comb S y j=0)/\(combK S y<0\/combK S y=0/\zEe S y)
theorem comb_dot (S:Sys) (y x:Nat->Rat):(sumN S.n fun j=>comb S y j*x j)=sumN S.m fun k=>y k*lhs S x k:=by
 have e1:(sumN S.n fun j=>comb S y j*x j)=sumN S.n fun j=>sumN S.m fun k=>y k*S.C k j*x j:=by
  refine zAi fun j _=>?_
  rw [comb,Rat.mul_comm,<- zBn]
  exact zAi fun k _=>by grind
 rw [e1,zDJ]
 refine zAi fun k _=>?_
 rw [lhs,<- zBn]
 exact zAi fun j _=>by grind
theorem weak {S:Sys} {y x:Nat->Rat} (hy:Adm S y) (hx:Sat S x):(sumN S.m fun k=>y k*lhs S x k)<=combK S y/\(zEe S y->(sumN S.m fun k=>y k*lhs S x k)<combK S y):=by
 have h1 : ∀ k,k<S.m->0<=y k*(S.K k - lhs S x k):=by
  intro k hk
  obtain⟨a,b,c⟩:=hx k hk
  by_cases h3:S.rel k=3
  ·rw [c h3];grind
  ·exact Rat.mul_nonneg (hy k hk h3) (by grind)
 have e:(sumN S.m fun k=>y k*(S.K k - lhs S x k))=combK S y - sumN S.m fun k=>y k*lhs S x k:=by
  rw [combK,<- zGv]
  exact zAi fun k _=>by grind
 have h2:=zBN h1
 rw [e] at h2
 refine⟨by grind,fun ⟨k,hk,hr,hp⟩=>?_⟩
 have h3:0<y k*(S.K k - lhs S x k):=Rat.mul_pos hp (by have:=(hx k hk).2.1 hr;grind)
 have h4:0<sumN S.m fun k=>y k*(S.K k - lhs S x k):=by
  rw [zCh hk]
  have:0<=sumN S.m fun i=>if i=k then 0 else y i*(S.K i - lhs S x i):=zBN fun i hi=>by
   split
   ·exact Rat.le_refl
   ·exact h1 i hi
  grind
 rw [e] at h4
 grind
theorem farkas {S:Sys} {y x:Nat->Rat} (hy:zAQ S y) (hx:Sat S x):False:=by
 obtain⟨h1,h2⟩:=weak hy.1 hx
 rw [<- comb_dot,zAM fun j hj=>by rw [hy.2.1 j hj,Rat.zero_mul]] at h1 h2
 rcases hy.2.2 with h3 | ⟨h3,h4⟩
 ·grind
 ·have:=h2 h4;grind
def init (S:Sys):Dy where
 basic i:=S.n+i
 cols j:=j
 line v:=if v<S.n then -1 else ((v - S.n:Nat):Int)
 a:=S.C
 val _:=zero2
theorem zDj (S:Sys):Inv S (init S):=by
 refine⟨⟨⟨fun i hi=>?_,fun j hj=>?_,fun j k _ _ e=>e,fun v hv=>?_⟩,fun x=>Iff.rfl⟩,?_,?_,fun j hj=>?_⟩
 ·simp only [init]
  refine⟨by omega,?_⟩
  rw [if_neg (by omega)];omega
 ·simp only [init]
  refine⟨by omega,?_⟩
  rw [if_pos hj]
 ·simp only [init]
  refine⟨fun h=>?_,fun h=>?_⟩
  ·by_cases e:v<S.n
   ·rw [if_pos e] at h;omega
   ·rw [if_neg e] at h ⊢;omega
  ·by_cases e:v<S.n
   ·rw [if_pos e] at h ⊢
    exact⟨rfl,v,e,rfl⟩
   ·rw [if_neg e] at h;omega
 ·intro i _
  show (0:Rat)=sumN S.n fun j=>S.C i j*0
  rw [zAM fun j _=>Rat.mul_zero _]
 ·intro i _
  show (0:Rat)=sumN S.n fun j=>S.C i j*0
  rw [zAM fun j _=>Rat.mul_zero _]
 ·exact (if_pos hj).symm
theorem zDa {S:Sys} : ∀ (f:Nat) {s s' : Dy} {r:Option (Nat × Bool)},Inv S s->zBz S f s=some (s',r)->Inv S s'/\(r=none->viol S s' = none)/\(∀ i up,r=some (i,up)->∃ b,viol S s' = some (i,b,up)/\zBy S s' i up=none)
 | f+1,s,s',r,h,he=>by
  rw [zBz] at he
  cases hs:stepS S s with
  | sat =>
   rw [hs] at he;cases he
   refine⟨h,fun _=>?_,fun i up e=>by cases e⟩
   unfold stepS at hs
   cases hv:viol S s with
   | none=>rfl
   | some r =>
    obtain⟨i,b,up⟩:=r
    rw [hv] at hs;simp only at hs
    cases hent:zBy S s i up <;> rw [hent] at hs <;> cases hs
  | unsat i up =>
   rw [hs] at he;cases he
   refine⟨h,fun e=>(by cases e),fun i' up' e=>?_⟩
   cases e
   unfold stepS at hs
   cases hv:viol S s with
   | none=>rw [hv] at hs;cases hs
   | some r =>
    obtain⟨i2,b,up2⟩:=r
    rw [hv] at hs;simp only at hs
    cases hent:zBy S s i2 up2 with
    | none=>rw [hent] at hs;cases hs;exact⟨b,rfl,hent⟩
    | some j=>rw [hent] at hs;cases hs
  | go i j s1 =>
   rw [hs] at he
   obtain⟨_,_,_,_,_,_,_,_,_,hI⟩:=zCr h hs
   exact zDa f hI he
theorem feas_of {S:Sys} {s:Dy} (h:Inv S s) (hv:viol S s=none):Feas S s:=by
 intro v h1 h2
 by_cases h0:0<=s.line v
 ·exact viol_none hv v h1 h2 h0
 ·have:=zCF h (v:=v) ⟨h2,by omega⟩
  rw [if_neg (by omega)] at this
  refine⟨?_,fun _=>this⟩
  rw [this];right;exact⟨rfl,Rat.le_refl⟩
def refF (S:Sys) (s:Dy) (i:Nat):Nat->Nat->Rat
 | 0=>upd (fun _=>0) (s.basic i - S.n) 1
 | j+1=>if s.a i j≠0 then upd (refF S s i j) (s.cols j - S.n) (- s.a i j) else refF S s i j
def refv (S:Sys) (s:Dy) (i:Nat) (up:Bool) (k:Nat):Rat:=if up then - refF S s i S.n k else refF S s i S.n k
theorem zFn {S:Sys} {s:Dy} (h:Inv S s) {i:Nat} {up:Bool} (he:zBy S s i up=none) : ∀ j,j<S.n->s.a i j≠0->S.n<=s.cols j/\(S.rel (s.cols j - S.n)≠3->(decide (0<s.a i j)==up)=true):=by
 intro j hj h0
 have hns:=zDk he j hj
 have hns' : ¬ (s.a i j≠0/\(S.n<=s.cols j->S.rel (s.cols j - S.n)≠3/\(decide (0<s.a i j)==up)=false)):=by
  rw [<- zDK h hj,hns];decide
 refine⟨Decidable.byContradiction fun h1=>hns' ⟨h0,fun h2=>absurd h2 h1⟩,fun h3=>?_⟩
 cases hd:(decide (0<s.a i j)==up) with
 | true=>rfl
 | false=>exact absurd ⟨h0,fun _=>⟨h3,hd⟩⟩ hns'
theorem refF_eq {S:Sys} {s:Dy} (h:Perm S s) {i:Nat} (hi:i<S.m) (hb:S.n<=s.basic i) (hc : ∀ j,j<S.n->s.a i j≠0->S.n<=s.cols j) (k:Nat) : ∀ J,J<=S.n ->
  refF S s i J k=(if s.basic i=S.n+k then 1 else 0)+sumN J fun j=>if s.cols j=S.n+k then - s.a i j else 0
 | 0,_=>by
  rw [refF,zAG]
  unfold upd
  by_cases e:k=s.basic i - S.n
  ·rw [if_pos e,if_pos (by omega)];grind
  ·rw [if_neg e,if_neg (by omega)];grind
 | J+1,hJ=>by
  have ih:=refF_eq h hi hb hc k J (by omega)
  rw [refF,zAo]
  by_cases h0:s.a i J=0
  ·rw [if_neg (fun e=>e h0),ih]
   split <;> grind
  ·rw [if_pos h0]
   have hJn:=hc J (by omega) h0
   by_cases e:k=s.cols J - S.n
   ·have e2:s.cols J=S.n+k:=by omega
    rw [e,zAy,<- e,if_pos e2,if_neg (fun e3=>h.ne hi (by omega:J<S.n) (by rw [e3,e2])),zAM fun j hj=>if_neg fun e3=>?_]
    ·grind
    ·have:=h.inj j J (by omega) (by omega) (by rw [e3,e2]);omega
   ·rw [zAu _ e,ih,if_neg (by omega : ¬ s.cols J=S.n+k)];grind
theorem refF_sum {S:Sys} {s:Dy} (h:Perm S s) {i:Nat} (hi:i<S.m) (hb:S.n<=s.basic i) (hc : ∀ j,j<S.n->s.a i j≠0->S.n<=s.cols j) (g:Nat->Rat) :
  (sumN S.m fun k=>refF S s i S.n k*g (S.n+k))=g (s.basic i) - sumN S.n fun j=>s.a i j*g (s.cols j):=by
 have e1:(sumN S.m fun k=>refF S s i S.n k*g (S.n+k))=(sumN S.m fun k=>if k=s.basic i - S.n then g (s.basic i) else 0)+sumN S.m fun k=>sumN S.n fun j=>if s.cols j=S.n+k then - s.a i j*g (s.cols j) else 0:=by
  rw [<- zB8]
  refine zAi fun k _=>?_
  rw [refF_eq h hi hb hc k S.n (Nat.le_refl _)]
  have e2:(sumN S.n fun j=>if s.cols j=S.n+k then - s.a i j*g (s.cols j) else 0)=g (S.n+k)*sumN S.n fun j=>if s.cols j=S.n+k then - s.a i j else 0:=by
   rw [<- zBn]
   refine zAi fun j _=>?_
   split
   ·rename_i e;rw [e];grind
   ·grind
  rw [e2]
  by_cases e:k=s.basic i - S.n
  ·rw [if_pos (by omega),if_pos e,show S.n+k=s.basic i by omega];grind
  ·rw [if_neg (by omega),if_neg e];grind
 have hbm:=(h.bas i hi).1
 rw [e1,zDJ,zAZ (j:=s.basic i - S.n) (by omega) _ (fun k _ hne=>if_neg hne),if_pos rfl,Rat.sub_eq_add_neg,<- zDH]
 congr 1
 refine zAi fun j hj=>?_
 by_cases h0:s.a i j=0
 ·rw [h0,zAM fun k _=>by split <;> grind];grind
 ·have hjn:=hc j hj h0
  have hjm:=(h.col j hj).1
  rw [zAZ (j:=s.cols j - S.n) (by omega) _ (fun k _ hne=>if_neg (by omega)),if_pos (by omega)];grind
theorem zFm {S:Sys} {s:Dy} (h:Inv S s) {i:Nat} {b:V2} {up:Bool} (hv:viol S s=some (i,b,up)) (he:zBy S s i up=none):zAQ S (refv S s i up):=by
 obtain⟨a1,a2,a3,a4,a5,a6⟩:=zB9 h.dict.perm hv
 have hcols:=zFn h he
 have hc : ∀ j,j<S.n->s.a i j≠0->S.n<=s.cols j:=fun j hj h0=>(hcols j hj h0).1
 have hsum:=refF_sum h.dict.perm a1 a2 hc
 have hsgn : ∀ g:Nat->Rat,(sumN S.m fun k=>refv S s i up k*g (S.n+k))=(if up then (-1:Rat) else 1)*(g (s.basic i) - sumN S.n fun j=>s.a i j*g (s.cols j)):=by
  intro g
  rw [<- hsum,<- zBn]
  refine zAi fun k _=>?_
  unfold refv
  split <;> grind
 have hval : ∀ k,k<S.m->refF S s i S.n k=(if s.basic i=S.n+k then 1 else 0)+sumN S.n fun j=>if s.cols j=S.n+k then - s.a i j else 0:=fun k hk=>refF_eq h.dict.perm a1 a2 hc k S.n (Nat.le_refl _)
 have hcase : ∀ k,k<S.m->(s.basic i=S.n+k/\refF S s i S.n k=1)\/(s.basic i≠S.n+k/\refF S s i S.n k=0)\/∃ j,j<S.n/\s.cols j=S.n+k/\refF S s i S.n k = - s.a i j:=by
  intro k hk
  rw [hval k hk]
  by_cases e:s.basic i=S.n+k
  ·left
   refine⟨e,?_⟩
   rw [if_pos e,zAM fun j hj=>if_neg fun e2=>h.dict.perm.ne a1 hj (by rw [e,e2])];grind
  ·right
   rw [if_neg e]
   by_cases hj : ∃ j,j<S.n/\s.cols j=S.n+k
   ·right
    obtain⟨j,hj,e2⟩:=hj
    exact⟨j,hj,e2,by rw [pick_cols h.dict.perm hj e2 fun j => - s.a i j];grind⟩
   ·left
    exact⟨e,by rw [zAM fun j hj'=>if_neg fun e2=>hj ⟨j,hj',e2⟩];grind⟩
 have hadm:Adm S (refv S s i up):=by
  intro k hk h3
  unfold refv
  rcases hcase k hk with ⟨e,e2⟩ | ⟨_,e2⟩ | ⟨j,hj,e,e2⟩
  ·rw [e2]
   cases hu:up with
   | false=>simp only [Bool.false_eq_true,if_false];grind
   | true =>
    have:=(a5 hu).1
    rw [e,Nat.add_sub_cancel_left] at this
    exact absurd this h3
  ·rw [e2];split <;> grind
  ·rw [e2]
   by_cases h0:s.a i j=0
   ·rw [h0];split <;> grind
   ·have:=(hcols j hj h0).2 (by rw [e,Nat.add_sub_cancel_left];exact h3)
    cases hu:up with
    | false =>
     rw [hu] at this
     have h4 : ¬ 0<s.a i j:=by simpa using this
     simp only [Bool.false_eq_true,if_false];grind
    | true =>
     rw [hu] at this
     have h4:0<s.a i j:=by simpa using this
     simp only [if_true];grind
 refine⟨hadm,fun j hj=>?_,?_⟩
 ·have hx:=zG9 S fun v=>if v=j then 1 else 0
  have h1:=(h.dict.sol _).1 hx i a1
  have h2:=hsgn (ext S fun v=>if v=j then 1 else 0)
  rw [h1] at h2
  have e3:comb S (refv S s i up) j=sumN S.m fun k=>refv S s i up k*ext S (fun v=>if v=j then 1 else 0) (S.n+k):=by
   rw [comb]
   refine zAi fun k hk=>?_
   rw [hx k hk,zAZ hj,show ext S (fun v=>if v=j then 1 else 0) j=1 from (zCN hj).trans (if_pos rfl),Rat.mul_one]
   intro v hv hne
   rw [show ext S (fun v=>if v=j then (1:Rat) else 0) v=0 from (zCN hv).trans (if_neg hne),Rat.mul_zero]
  rw [e3,h2];grind
 ·
  have hK:combK S (refv S s i up)=(if up then (-1:Rat) else 1)*((ub S (s.basic i)).1 - sumN S.n fun j=>s.a i j*(ub S (s.cols j)).1):=by
   rw [<- hsgn fun v=>(ub S v).1]
   exact zAi fun k _=>by rw [ub];simp only [Nat.add_sub_cancel_left]
  have hE:(sumN S.m fun k=>refv S s i up k*(ub S (S.n+k)).2)=(if up then (-1:Rat) else 1)*((ub S (s.basic i)).2 - sumN S.n fun j=>s.a i j*(ub S (s.cols j)).2):=hsgn fun v=>(ub S v).2
  have hb1:(s.val (s.basic i)).1=sumN S.n fun j=>s.a i j*(ub S (s.cols j)).1:=by
   have:=(h.dict.sol _).1 h.sol1 i a1
   rw [this]
   refine zAi fun j hj=>?_
   by_cases h0:s.a i j=0
   ·rw [h0];grind
   ·rw [h.non j hj,if_neg (by have:=hc j hj h0;omega)]
  have hb2:(s.val (s.basic i)).2=sumN S.n fun j=>s.a i j*(ub S (s.cols j)).2:=by
   have:=(h.dict.sol _).1 h.sol2 i a1
   rw [this]
   refine zAi fun j hj=>?_
   by_cases h0:s.a i j=0
   ·rw [h0];grind
   ·rw [h.non j hj,if_neg (by have:=hc j hj h0;omega)]
  rw [<- hb1] at hK
  rw [<- hb2] at hE
  have hstrict:(sumN S.m fun k=>refv S s i up k*(ub S (S.n+k)).2)<0->zEe S (refv S s i up):=by
   intro hneg
   have:0<sumN S.m fun k => - (refv S s i up k*(ub S (S.n+k)).2):=by rw [zDH];grind
   obtain⟨k,hk,hp⟩:=zDy this
   have h2:S.rel k=2:=by
    refine Decidable.byContradiction fun h2=>?_
    rw [ub] at hp
    simp only [Nat.add_sub_cancel_left,if_neg h2] at hp
    grind
   refine⟨k,hk,h2,?_⟩
   rw [ub] at hp
   simp only [Nat.add_sub_cancel_left,if_pos h2] at hp
   grind
  cases hu:up with
  | false =>
   have h1:=a4 hu
   rw [hu] at hK hE
   simp only [Bool.false_eq_true,if_false] at hK hE
   unfold lt2 at h1
   rcases h1 with h1 | ⟨h1,h2⟩
   ·left;grind
   ·right
    refine⟨by grind,?_⟩
    have:=hstrict (by rw [hu];grind)
    rwa [hu] at this
  | true =>
   have h1:=(a5 hu).2
   rw [hu] at hK hE
   simp only [if_true] at hK hE
   unfold lt2 at h1
   rcases h1 with h1 | ⟨h1,h2⟩
   ·left;grind
   ·right
    refine⟨by grind,?_⟩
    have:=hstrict (by rw [hu];grind)
    rwa [hu] at this
def below (eps:Rat) (a b:V2):Rat:=if a.1<b.1/\b.2<a.2 then (if (b.1 - a.1)*(a.2 - b.2)⁻¹<eps then (b.1 - a.1)*(a.2 - b.2)⁻¹ else eps) else eps
def zCe (S:Sys) (s:Dy) (eps:Rat) (v:Nat):Rat :=
 let e1:=match upper S v with | some u=>below eps (s.val v) u | none=>eps
 match lower S v with | some l=>below e1 l (s.val v) | none=>e1
def epsF (S:Sys) (s:Dy):Nat->Rat
 | 0=>1
 | k+1=>zCe S s (epsF S s k) (S.n+k)
def zBS (S:Sys) (s:Dy):Rat:=epsF S s S.m
theorem zEW (eps:Rat) (a b:V2):below eps a b<=eps:=by unfold below;grind
theorem zF7 {eps:Rat} (h:0<eps) (a b:V2):0<below eps a b:=by
 unfold below
 split
 ·rename_i h1
  split
  ·exact Rat.mul_pos (by grind) (Rat.inv_pos.2 (by grind))
  ·exact h
 ·exact h
theorem below_ok {eps e:Rat} {a b:V2} (hl:le2 a b) (h0:0<e) (he:e<=below eps a b):a.1+a.2*e<=b.1+b.2*e:=by
 unfold below at he
 unfold le2 at hl
 by_cases h1:a.1<b.1/\b.2<a.2
 ·rw [if_pos h1] at he
  have hd:0<a.2 - b.2:=by grind
  have he2:e<=(b.1 - a.1)*(a.2 - b.2)⁻¹:=by grind
  have:=Rat.mul_le_mul_of_nonneg_right he2 (Rat.le_of_lt hd)
  rw [Rat.mul_assoc,Rat.inv_mul_cancel _ (by grind),Rat.mul_one] at this
  grind
 ·rcases hl with h2 | ⟨h2,h3⟩
  ·have h4:a.2<=b.2:=by grind
   have:=Rat.mul_le_mul_of_nonneg_right h4 (Rat.le_of_lt h0)
   grind
  ·have:=Rat.mul_le_mul_of_nonneg_right h3 (Rat.le_of_lt h0)
   grind
theorem epsStep_le (S:Sys) (s:Dy) (eps:Rat) (v:Nat):zCe S s eps v<=eps:=by
 unfold zCe
 simp only
 split
 ·refine Rat.le_trans (zEW _ _ _) ?_
  split
  ·exact zEW _ _ _
  ·exact Rat.le_refl
 ·split
  ·exact zEW _ _ _
  ·exact Rat.le_refl
theorem epsStep_pos (S:Sys) (s:Dy) {eps:Rat} (h:0<eps) (v:Nat):0<zCe S s eps v:=by
 unfold zCe
 simp only
 split
 ·refine zF7 ?_ _ _
  split
  ·exact zF7 h _ _
  ·exact h
 ·split
  ·exact zF7 h _ _
  ·exact h
theorem epsF_pos (S:Sys) (s:Dy) : ∀ k,0<epsF S s k
 | 0=>by rw [epsF];grind
 | k+1=>epsStep_pos S s (epsF_pos S s k) _
theorem epsF_le (S:Sys) (s:Dy) {j k:Nat} (h:j<=k):epsF S s k<=epsF S s j:=by
 induction h with
 | refl=>exact Rat.le_refl
 | step _ ih=>exact Rat.le_trans (epsStep_le _ _ _ _) ih
def zB0 (s:Dy) (eps:Rat) (v:Nat):Rat:=(s.val v).1+(s.val v).2*eps
theorem point_lhs {S:Sys} {s:Dy} (h:Inv S s) (eps:Rat) {k:Nat} (hk:k<S.m):lhs S (zB0 s eps) k=zB0 s eps (S.n+k):=by
 have h1:=h.sol1 k hk
 have h2:=h.sol2 k hk
 simp only at h1 h2
 rw [lhs,zB0,h1,h2,Rat.mul_comm _ eps,<- zBn,<- zB8]
 exact zAi fun j _=>by rw [zB0];grind
theorem zDQ {S:Sys} {s:Dy} (h:Inv S s) (hF:Feas S s):Sat S (zB0 s (zBS S s)):=by
 intro k hk
 rw [point_lhs h _ hk,zB0]
 obtain⟨w1,w2⟩:=hF (S.n+k) (by omega) (by omega)
 have hp:0<zBS S s:=epsF_pos S s S.m
 have hle:zBS S s<=zCe S s (epsF S s k) (S.n+k):=epsF_le S s (j:=k+1) (by omega)
 have hb:zBS S s<=below (epsF S s k) (s.val (S.n+k)) (ub S (S.n+k)):=by
  refine Rat.le_trans hle ?_
  unfold zCe
  rw [upper,if_neg (by omega)]
  simp only
  split
  ·exact zEW _ _ _
  ·exact Rat.le_refl
 have hok:=below_ok w1 hp hb
 rw [Nat.add_sub_cancel_left] at w2
 have hub1:(ub S (S.n+k)).1=S.K k:=by rw [ub];simp only [Nat.add_sub_cancel_left]
 have hub2:(ub S (S.n+k)).2=if S.rel k=2 then -1 else 0:=by rw [ub];simp only [Nat.add_sub_cancel_left]
 rw [hub1,hub2] at hok
 refine⟨?_,fun h2=>?_,fun h3=>?_⟩
 ·split at hok <;> grind
 ·rw [if_pos h2] at hok;grind
 ·rw [w2 h3,hub1,hub2,if_neg (by omega)];grind
theorem zGz {S:Sys} {s:Dy} (h:Inv S s) (hF:Feas S s) : ∀ k,k<S.m->lhs S (zB0 s 0) k<=S.K k/\(S.rel k=3->lhs S (zB0 s 0) k=S.K k):=by
 intro k hk
 rw [point_lhs h _ hk,zB0]
 obtain⟨w1,w2⟩:=hF (S.n+k) (by omega) (by omega)
 rw [Nat.add_sub_cancel_left] at w2
 have hub1:(ub S (S.n+k)).1=S.K k:=by rw [ub];simp only [Nat.add_sub_cancel_left]
 unfold le2 at w1
 rw [hub1] at w1
 refine⟨by grind,fun h3=>?_⟩
 rw [w2 h3,hub1];grind
def dual (S:Sys) (s:Dy) (d:Nat->Rat) (k:Nat):Rat:=sumN S.n fun j=>if s.cols j=S.n+k then d j else 0
theorem dual_sum {S:Sys} {s:Dy} (h:Perm S s) {d:Nat->Rat} (hd : ∀ j,j<S.n->s.cols j<S.n->d j=0) (g:Nat->Rat):(sumN S.m fun k=>dual S s d k*g (S.n+k))=sumN S.n fun j=>d j*g (s.cols j):=by
 have e1:(sumN S.m fun k=>dual S s d k*g (S.n+k))=sumN S.m fun k=>sumN S.n fun j=>if s.cols j=S.n+k then d j*g (s.cols j) else 0:=by
  refine zAi fun k _=>?_
  rw [dual,Rat.mul_comm,<- zBn]
  refine zAi fun j _=>?_
  split
  ·rename_i e;rw [e];grind
  ·grind
 rw [e1,zDJ]
 refine zAi fun j hj=>?_
 have hjm:=(h.col j hj).1
 by_cases e:s.cols j<S.n
 ·rw [hd j hj e,zAM fun k _=>by split <;> grind];grind
 ·rw [zAZ (j:=s.cols j - S.n) (by omega) _ (fun k _ hne=>if_neg (by omega)),if_pos (by omega)]
theorem best_ok {S:Sys} {s:Dy} (h:Inv S s) {c:Nat->Rat} (hi:zBk S s (costs S s c)=none) :
  Adm S (dual S s (costs S s c))/\(∀ j,j<S.n->comb S (dual S s (costs S s c)) j=c j)/\combK S (dual S s (costs S s c))=(zval S s c).1/\((zval S s c).2≠0↔zEe S (dual S s (costs S s c))):=by
 have hno:=zDk hi
 have hno' : ∀ j,j<S.n->¬ (costs S s c j≠0/\(S.n<=s.cols j->S.rel (s.cols j - S.n)≠3/\costs S s c j<0)):=fun j hj=>by
  rw [<- zAJ h hj,hno j hj];decide
 have hd : ∀ j,j<S.n->s.cols j<S.n->costs S s c j=0:=fun j hj hc=>Decidable.byContradiction fun h0=>hno' j hj ⟨h0,fun h1=>by omega⟩
 have hnn : ∀ j,j<S.n->S.rel (s.cols j - S.n)≠3->0<=costs S s c j:=by
  intro j hj h3
  by_cases hc:s.cols j<S.n
  ·rw [hd j hj hc];exact Rat.le_refl
  ·have:=hno' j hj
   by_cases h0:costs S s c j<0
   ·exact absurd ⟨by grind,fun _=>⟨h3,h0⟩⟩ this
   ·grind
 have hsum:=fun g=>dual_sum (S:=S) h.dict.perm hd g
 have hadm:Adm S (dual S s (costs S s c)):=by
  intro k hk h3
  refine zBN fun j hj=>?_
  split
  ·rename_i e
   exact hnn j hj (by rw [e,Nat.add_sub_cancel_left];exact h3)
  ·exact Rat.le_refl
 refine⟨hadm,fun j hj=>?_,?_,?_⟩
 ·have hx:=zG9 S fun v=>if v=j then 1 else 0
  have h1:=zCS h.dict c hx
  rw [<- hsum,zAZ hj,show ext S (fun v=>if v=j then 1 else 0) j=1 from (zCN hj).trans (if_pos rfl),Rat.mul_one] at h1
  ·rw [h1,comb]
   refine zAi fun k hk=>?_
   rw [hx k hk,zAZ hj,show ext S (fun v=>if v=j then 1 else 0) j=1 from (zCN hj).trans (if_pos rfl),Rat.mul_one]
   intro v hv hne
   rw [show ext S (fun v=>if v=j then (1:Rat) else 0) v=0 from (zCN hv).trans (if_neg hne),Rat.mul_zero]
  ·intro v hv hne
   rw [show ext S (fun v=>if v=j then (1:Rat) else 0) v=0 from (zCN hv).trans (if_neg hne),Rat.mul_zero]
 ·show combK S _=sumN S.n fun v=>c v*(s.val v).1
  rw [zCS h.dict c h.sol1]
  have e:combK S (dual S s (costs S s c))=sumN S.m fun k=>dual S s (costs S s c) k*(ub S (S.n+k)).1:=zAi fun k _=>by rw [ub];simp only [Nat.add_sub_cancel_left]
  rw [e,hsum fun v=>(ub S v).1]
  refine zAi fun j hj=>?_
  by_cases hc:s.cols j<S.n
  ·rw [hd j hj hc];grind
  ·rw [h.non j hj,if_neg hc]
 ·have e2:(zval S s c).2=sumN S.m fun k=>dual S s (costs S s c) k*(ub S (S.n+k)).2:=by
   show (sumN S.n fun v=>c v*(s.val v).2)=_
   rw [zCS h.dict c h.sol2,hsum fun v=>(ub S v).2]
   refine zAi fun j hj=>?_
   by_cases hc:s.cols j<S.n
   ·rw [hd j hj hc];grind
   ·rw [h.non j hj,if_neg hc]
  have hterm : ∀ k,dual S s (costs S s c) k*(ub S (S.n+k)).2 = - (if S.rel k=2 then dual S s (costs S s c) k else 0):=by
   intro k
   rw [ub]
   simp only [Nat.add_sub_cancel_left]
   split <;> grind
  have hpos : ∀ k,k<S.m->0<=(if S.rel k=2 then dual S s (costs S s c) k else 0):=by
   intro k hk
   split
   ·exact hadm k hk (by omega)
   ·exact Rat.le_refl
  have e3:(zval S s c).2 = - sumN S.m fun k=>if S.rel k=2 then dual S s (costs S s c) k else 0:=by
   rw [e2,<- zDH]
   exact zAi fun k _=>hterm k
  constructor
  ·intro hne
   have h0:=zBN hpos
   have:0<sumN S.m fun k=>if S.rel k=2 then dual S s (costs S s c) k else 0:=by grind
   obtain⟨k,hk,hp⟩:=zDy this
   by_cases h2:S.rel k=2
   ·rw [if_pos h2] at hp;exact⟨k,hk,h2,hp⟩
   ·rw [if_neg h2] at hp;grind
  ·rintro⟨k,hk,h2,hp⟩
   have:0<sumN S.m fun k=>if S.rel k=2 then dual S s (costs S s c) k else 0:=by
    rw [zCh hk,if_pos h2]
    have:0<=sumN S.m fun i=>if i=k then 0 else if S.rel i=2 then dual S s (costs S s c) i else 0:=zBN fun i hi=>by
     split
     ·exact Rat.le_refl
     ·exact hpos i hi
    grind
   grind
theorem zFD (S:Sys) (s:Dy) (c:Nat->Rat) (eps:Rat):(sumN S.n fun v=>c v*zB0 s eps v)=(zval S s c).1+(zval S s c).2*eps:=by
 show _=(sumN S.n fun v=>c v*(s.val v).1)+(sumN S.n fun v=>c v*(s.val v).2)*eps
 rw [Rat.mul_comm _ eps,<- zBn,<- zB8]
 exact zAi fun v _=>by rw [zB0];grind
theorem ray_ok {S:Sys} {s:Dy} (h:Inv S s) {c:Nat->Rat} {j:Nat} (hi:zBk S s (costs S s c)=some j) (hl:zBE S s j (decide (0<costs S s c j))=none) :
  (0<sumN S.n fun v=>c v*delta s j (oneQ (decide (0<costs S s c j))) v)/\∀ k,k<S.m->lhs S (delta s j (oneQ (decide (0<costs S s c j)))) k<=0/\(S.rel k=3->lhs S (delta s j (oneQ (decide (0<costs S s c j)))) k=0):=by
 obtain⟨h1,h2,_⟩:=zAV hi
 obtain⟨h4,h5⟩:=(zAJ h h1).1 h2
 have h0:=self_none h h1 h2
 have hnone:=(zD5 h0 S.m).2 hl
 refine⟨by rw [zEz h.dict h1];exact one_pos h4,fun k hk=>?_⟩
 have hs:lhs S (delta s j (oneQ (decide (0<costs S s c j)))) k=delta s j (oneQ (decide (0<costs S s c j))) (S.n+k):=(zF0 h.dict h1 _ k hk).symm
 rw [hs]
 obtain⟨p1,p2⟩:=h.dict.perm.lin (S.n+k) (by omega)
 by_cases e:S.n+k=s.cols j
 ·obtain⟨g1,g2⟩:=h5 (by omega)
  unfold delta
  rw [if_pos e,show decide (0<costs S s c j)=false from decide_eq_false (by grind)]
  rw [<- e,Nat.add_sub_cancel_left] at g1
  exact⟨by unfold oneQ;grind,fun h3=>absurd h3 g1⟩
 ·by_cases h6:0<=s.line (S.n+k)
  ·obtain⟨h7,h8⟩:=p1 h6
   generalize hq:(s.line (S.n+k)).toNat=q at h8
   have hqm:q<S.m:=by omega
   rw [<- h8,zEa h.dict.perm hqm h1]
   by_cases ha:s.a q j=0
   ·rw [ha];grind
   ·have hr:=zD1 ha (decide (0<costs S s c j))
    have hc:=hnone q hqm ha
    rw [h8] at hc
    obtain⟨c1,c2,_⟩:=zEb (S:=S) (s:=s) (v:=S.n+k) (by omega) hr
    rw [Nat.add_sub_cancel_left] at c2
    refine⟨?_,fun h3=>?_⟩
    ·have : ¬ 0<s.a q j*oneQ (decide (0<costs S s c j)):=fun hp=>by rw [c1 hp] at hc;cases hc
     grind
    ·have g1 : ¬ 0<s.a q j*oneQ (decide (0<costs S s c j)):=fun hp=>by rw [c1 hp] at hc;cases hc
     have g2 : ¬ s.a q j*oneQ (decide (0<costs S s c j))<0:=fun hp=>by rw [c2 hp h3] at hc;cases hc
     grind
  ·unfold delta
   rw [if_neg e,if_neg h6]
   exact⟨Rat.le_refl,fun _=>rfl⟩
theorem maxN_inv {S:Sys} {c:Nat->Rat} : ∀ (f:Nat) {s s' : Dy} {r:ResM},Inv S s->Feas S s->maxN S c f s=some (s',r)->Inv S s'/\Feas S s'/\stepM S s' c=r/\((zBk S s' (costs S s' c)=none/\r = .best (costs S s' c))\/∃ j,zBk S s' (costs S s' c)=some j/\zBE S s' j (decide (0<costs S s' c j))=none/\r = .ray j (decide (0<costs S s' c j)))
 | f+1,s,s',r,h,hF,he=>by
  rw [maxN] at he
  cases hs:stepM S s c with
  | best d =>
   rw [hs] at he;cases he
   refine⟨h,hF,hs,.inl ?_⟩
   unfold stepM at hs
   cases hi:zBk S s (costs S s c) with
   | none=>rw [hi] at hs;cases hs;exact⟨rfl,rfl⟩
   | some j =>
    rw [hi] at hs;simp only at hs
    cases hl:zBE S s j (decide (0<costs S s c j)) with
    | none=>rw [hl] at hs;cases hs
    | some r=>rw [hl] at hs;simp only at hs;split at hs <;> cases hs
  | ray j up =>
   rw [hs] at he;cases he
   refine⟨h,hF,hs,.inr ?_⟩
   unfold stepM at hs
   cases hi:zBk S s (costs S s c) with
   | none=>rw [hi] at hs;cases hs
   | some j' =>
    rw [hi] at hs;simp only at hs
    cases hl:zBE S s j' (decide (0<costs S s c j')) with
    | none=>rw [hl] at hs;cases hs;exact⟨j,rfl,hl,rfl⟩
    | some r=>rw [hl] at hs;simp only at hs;split at hs <;> cases hs
  | self s1=>exact absurd hs ((zDL h).1 s1)
  | go i j s1 =>
   rw [hs] at he
   obtain⟨st,hst⟩:=(zDL h).2 i j s1 hs
   exact maxN_inv f (hst.inv h) (hst.feas h hF) he
theorem val_bound {H J:Nat} (hJ:1<=J) (h1:1<=H) {S:Sys} {s:Dy} (h:Inv S s) (hC : ∀ i j,i<S.m->j<S.n->hgt H (S.C i j)) (hK : ∀ i,i<S.m->hgt J (S.K i)) : ∀ v,v<S.n+S.m ->
  hgt (J*sbnd (bnd H S.n*J) S.n) (s.val v).1/\hgt (J*sbnd (bnd H S.n*J) S.n) (s.val v).2:=by
 have hs1 : ∀ k,1<=sbnd (bnd H S.n*J) k:=by
  intro k
  induction k with
  | zero=>exact Nat.le_refl _
  | succ k ih =>
   rw [sbnd]
   have:=Nat.mul_pos ih (Nat.mul_pos (bnd_ge h1 S.n) hJ)
   omega
 have hsn:=hs1 S.n
 have hcol : ∀ j,j<S.n->hgt J (s.val (s.cols j)).1/\hgt J (s.val (s.cols j)).2:=by
  intro j hj
  rw [h.non j hj]
  have hjm:=(h.dict.perm.col j hj).1
  split
  ·exact⟨zES hJ,zES hJ⟩
  ·refine⟨hK _ (by omega),?_⟩
   rw [ub]
   simp only
   split
   ·exact (hgt_one hJ).neg
   ·exact zES hJ
 have hA:=zGe h1 h.dict hC
 intro v hv
 obtain⟨p1,p2⟩:=h.dict.perm.lin v hv
 by_cases h0:0<=s.line v
 ·obtain⟨p3,p4⟩:=p1 h0
  generalize hq:(s.line v).toNat=q at p4
  have hqm:q<S.m:=by omega
  have e1:=(h.dict.sol _).1 h.sol1 q hqm
  have e2:=(h.dict.sol _).1 h.sol2 q hqm
  rw [p4] at e1 e2
  have hle:sbnd (bnd H S.n*J) S.n<=J*sbnd (bnd H S.n*J) S.n:=Nat.le_mul_of_pos_left _ hJ
  refine⟨?_,?_⟩
  ·rw [e1]
   exact (zG7 fun j hj=>(hA q j hqm hj).mul (hcol j hj).1).mono hle
  ·rw [e2]
   exact (zG7 fun j hj=>(hA q j hqm hj).mul (hcol j hj).2).mono hle
 ·obtain⟨_,j,hj,e⟩:=p2 (by omega)
  have hle:J<=J*sbnd (bnd H S.n*J) S.n:=Nat.le_mul_of_pos_right _ hsn
  rw [<- e]
  exact⟨(hcol j hj).1.mono hle,(hcol j hj).2.mono hle⟩
end Go.Tb
namespace Go.Tb
open Go.Num
def dg (k:Nat) (q:Rat):Prop:=(dec q.num.natAbs).length<=k/\(dec q.den).length<=k
theorem dg_hgt {k:Nat} (hk:0<k) {q:Rat} : dg k q↔q.num.natAbs<10 ^ k/\q.den<10 ^ k:=by
 unfold dg
 rw [zA9 hk,zA9 hk]
theorem dg.mono {j k:Nat} {q:Rat} (h:dg j q) (hj:j<=k):dg k q:=⟨Nat.le_trans h.1 hj,Nat.le_trans h.2 hj⟩
theorem hgt.dg {k:Nat} {q:Rat} (h:hgt (10 ^ k) q):dg (k+1) q:=by
 have h1:10 ^ k<10 ^ (k+1):=Nat.pow_lt_pow_right (by omega) (by omega)
 exact (dg_hgt (by omega)).2 ⟨Nat.lt_of_le_of_lt h.1 h1,Nat.lt_of_le_of_lt h.2 h1⟩
theorem dg.pos {k:Nat} {q:Rat} (h:dg k q):0<k:=by
 have:0<(dec q.den).length:=List.length_pos_iff.2 (zBm _)
 exact Nat.lt_of_lt_of_le this h.2
theorem dg.hgt {k:Nat} {q:Rat} (h:dg k q):hgt (10 ^ k) q:=by
 have h1:=(dg_hgt h.pos).1 h
 exact⟨Nat.le_of_lt h1.1,Nat.le_of_lt h1.2⟩
theorem dg.neg {k:Nat} {q:Rat} (h:dg k q):dg k (-q):=by
 unfold Tb.dg
 rw [Rat.neg_num,Rat.neg_den,Int.natAbs_neg]
 exact h
theorem dg.mul {j k:Nat} {p q:Rat} (hp:dg j p) (hq:dg k q):dg (j+k+1) (p*q):=by
 have:=hp.hgt.mul hq.hgt
 rw [<- Nat.pow_add] at this
 exact this.dg
theorem dg.add {j k:Nat} {p q:Rat} (hp:dg j p) (hq:dg k q):dg (j+k+2) (p+q):=by
 have:=hp.hgt.add hq.hgt
 rw [<- Nat.pow_add] at this
 refine (this.mono ?_).dg
 rw [Nat.pow_succ]
 omega
theorem dg.sub {j k:Nat} {p q:Rat} (hp:dg j p) (hq:dg k q):dg (j+k+2) (p - q):=by
 rw [Rat.sub_eq_add_neg];exact hp.add hq.neg
theorem dg.inv {k:Nat} {q:Rat} (h:dg k q):dg (k+1) q⁻¹:=h.hgt.inv.dg
theorem zCy {k:Nat} (h:0<k):dg k 0:=(dg_hgt h).2 ⟨Nat.pow_pos (by omega),by
 have:10 ^ 1<=10 ^ k:=Nat.pow_le_pow_right (by omega) h
 show 1<_
 omega⟩
theorem zCQ {k:Nat} (h:0<k):dg k 1:=(dg_hgt h).2 ⟨by
 have:10 ^ 1<=10 ^ k:=Nat.pow_le_pow_right (by omega) h
 show 1<_
 omega,by
 have:10 ^ 1<=10 ^ k:=Nat.pow_le_pow_right (by omega) h
 show 1<_
 omega⟩
theorem dg_txt {k:Nat} {q:Rat} (h:dg k q):(txtQ q).length<=2*k+2:=by
 have:=txt_len (decide (q.num<0)) q.num.natAbs q.den
 have h1:=h.1
 have h2:=h.2
 unfold txtQ
 omega
theorem zDY {k:Nat} {q:Rat} (h:(txtQ q).length<=k):dg (k+1) q:=by
 have h1:(dec q.num.natAbs).length<=(txtQ q).length:=by
  unfold txtQ txt3
  rw [List.length_append,List.length_append];omega
 have h2:(dec q.den).length<=(txtQ q).length+1:=by
  unfold txtQ txt3
  rw [List.length_append,List.length_append]
  by_cases e:q.den=1
  ·rw [e,zA5 (by omega)];simp
  ·rw [if_neg e,List.length_cons];omega
 exact⟨by omega,by omega⟩
def bd (h:Nat):Nat->Nat
 | 0=>h
 | k+1=>4*bd h k+1
theorem bnd_bd (h:Nat) : ∀ k,bnd (10 ^ h) k<=10 ^ bd h k
 | 0=>Nat.le_refl _
 | k+1=>by
  have ih:=bnd_bd h k
  have e:10 ^ bd h (k+1)=10*(10 ^ bd h k*(10 ^ bd h k*(10 ^ bd h k*10 ^ bd h k))):=by
   rw [<- Nat.pow_add,<- Nat.pow_add,<- Nat.pow_add,Nat.mul_comm,<- Nat.pow_succ,bd]
   congr 1;omega
  rw [e,bnd]
  have:bnd (10 ^ h) k*(bnd (10 ^ h) k*(bnd (10 ^ h) k*bnd (10 ^ h) k))<=10 ^ bd h k*(10 ^ bd h k*(10 ^ bd h k*10 ^ bd h k)):=Nat.mul_le_mul ih (Nat.mul_le_mul ih (Nat.mul_le_mul ih ih))
  omega
theorem sbnd_mono {H J:Nat} (h:H<=J) : ∀ k,sbnd H k<=sbnd J k
 | 0=>Nat.le_refl _
 | k+1=>by rw [sbnd,sbnd];exact Nat.mul_le_mul_left _ (Nat.mul_le_mul (sbnd_mono h k) h)
theorem sbnd_bd (h:Nat) : ∀ k,sbnd (10 ^ h) k<=10 ^ (k*(h+1))
 | 0=>by simp [sbnd]
 | k+1=>by
  have ih:=sbnd_bd h k
  rw [sbnd,Nat.add_mul,Nat.one_mul,Nat.pow_add,Nat.pow_succ]
  have:sbnd (10 ^ h) k*10 ^ h<=10 ^ (k*(h+1))*10 ^ h:=Nat.mul_le_mul_right _ ih
  have e:10 ^ (k*(h+1))*(10 ^ h*10)=10*(10 ^ (k*(h+1))*10 ^ h):=by rw [<- Nat.mul_assoc,Nat.mul_comm]
  rw [e]
  generalize 10 ^ (k*(h+1))*10 ^ h=x at this ⊢
  generalize sbnd (10 ^ h) k*10 ^ h=y at this ⊢
  omega
theorem dict_dg {h:Nat} {S:Sys} {s:Dy} (hd:Dict S s) (hC : ∀ i j,i<S.m->j<S.n->dg h (S.C i j)) : ∀ l c,l<S.m->c<S.n->dg (bd h S.n+1) (s.a l c):=fun l c hl hc =>
 ((zGe (Nat.pow_pos (by omega)) hd (fun i j hi hj=>(hC i j hi hj).hgt) l c hl hc).mono (bnd_bd h S.n)).dg
def vd (h k n:Nat):Nat:=k+n*(bd h n+k+1)+1
theorem val_dg {h k:Nat} {S:Sys} {s:Dy} (hI:Inv S s) (hC : ∀ i j,i<S.m->j<S.n->dg h (S.C i j)) (hK : ∀ i,i<S.m->dg k (S.K i)) : ∀ v,v<S.n+S.m->dg (vd h k S.n) (s.val v).1/\dg (vd h k S.n) (s.val v).2:=by
 intro v hv
 have hb:=val_bound (J:=10 ^ k) (H:=10 ^ h) (Nat.pow_pos (by omega)) (Nat.pow_pos (by omega)) hI (fun i j hi hj=>(hC i j hi hj).hgt) (fun i hi=>(hK i hi).hgt) v hv
 have hle:10 ^ k*sbnd (bnd (10 ^ h) S.n*10 ^ k) S.n<=10 ^ (k+S.n*(bd h S.n+k+1)):=by
  rw [Nat.pow_add]
  refine Nat.mul_le_mul_left _ (Nat.le_trans (sbnd_mono (J:=10 ^ (bd h S.n+k)) ?_ _) (sbnd_bd _ _))
  rw [Nat.pow_add]
  exact Nat.mul_le_mul_right _ (bnd_bd _ _)
 exact⟨(hb.1.mono hle).dg,(hb.2.mono hle).dg⟩
theorem zFL {h:Nat} {f:Nat->Rat} {k:Nat} (hf : ∀ i,i<k->dg h (f i)):dg (k*(h+1)+1) (sumN k f) :=
 ((zG7 fun i hi=>(hf i hi).hgt).mono (sbnd_bd h k)).dg
end Go.Tb
namespace Go.Proofs.Si
open Go Go.V Go.Proofs Go.RowKit Go.Num Go.Tb Go.Proofs.Tryz
set_option maxRecDepth 100000
def fitsQ (q:Rat):Bool:=decide (q.num.natAbs<=9223372036854775807)&&decide (q.den<=9223372036854775807)
def qn (q:Rat):Int:=if fitsQ q then q.num else 0
def ql (q:Rat):Int:=if fitsQ q then (q.den:Int) - 1 else 0
def qb (q:Rat):ByteArray:=if fitsQ q then { data:=#[] } else mk (txtQ q)
def qc (q:Rat):List Value:=[.int .i64 (qn q),.int .i64 (ql q),.string (qb q)]
def qv (q:Rat):Value := .agg #[.int .i64 (qn q),.int .i64 (ql q),.string (qb q)]
theorem zBb {q:Rat} : fitsQ q=true↔q.num.natAbs<=9223372036854775807/\q.den<=9223372036854775807:=by
 unfold fitsQ;rw [Bool.and_eq_true,decide_eq_true_eq,decide_eq_true_eq]
theorem zBj {q:Rat} (h:fitsQ q=true):qn q=q.num/\ql q=(q.den:Int) - 1/\qb q = { data:=#[] }:=by
 unfold qn ql qb;rw [h];exact⟨rfl,rfl,rfl⟩
theorem zE8 {q:Rat} (h:fitsQ q=false):qn q=0/\ql q=0/\qb q=mk (txtQ q):=by
 unfold qn ql qb;rw [h];exact⟨rfl,rfl,rfl⟩
theorem zBV (q:Rat):((qb q).toList==({ data:=#[] } : ByteArray).toList)=fitsQ q:=by
 rw [zAw]
 cases h:fitsQ q with
 | true=>rw [(zBj h).2.2];exact decide_eq_true rfl
 | false =>
  rw [(zE8 h).2.2,bs_mk]
  obtain⟨c,r,e,_⟩:=txt_head q
  rw [e]
  exact decide_eq_false (by intro e2;cases e2)
theorem zEp:qc 0=[.int .i64 0,.int .i64 0,.string { data:=#[] }]:=by
 have h:fitsQ 0=true:=by decide
 obtain⟨h1,h2,h3⟩:=zBj h
 unfold qc
 rw [h1,h2,h3];rfl
abbrev zq:List Value:=[.int .i64 0,.int .i64 0,.string { data:=#[] }]
theorem head_parse (q:Rat) {s:ByteArray} (hs:bs s=(if q.num<0 then [45] else [])++dec q.num.natAbs) :
  Lib.parseIntB 64 (bs s)=if q.num.natAbs<=(if q.num<0 then 9223372036854775808 else 9223372036854775807) then .ok q.num else .range:=by
 rw [hs]
 by_cases h:q.num<0
 ·rw [if_pos h,if_pos h]
  show Lib.parseIntB 64 (45::dec q.num.natAbs)=_
  rw [pib_minus (zBm _) (zAH _),zAF]
  split
  ·congr 1;omega
  ·rfl
 ·rw [if_neg h,if_neg h,List.nil_append,zFo (zBm _) (zAH _),zAF]
  split
  ·congr 1;omega
  ·rfl
theorem parseR (s:ByteArray) (n:Int) (c:Prop) [Decidable c] (h:Lib.parseIntB 64 (bs s)=if c then .ok n else .range) (hz:s.size<=281474976710656) (w:World) (hg:Gl w) :
  Ret prog 150 #[.string s,.int .i64 10,.int .i64 64] w fun u w'=>((c/\u = .tuple #[.int .i64 n,.nilIface])\/(¬ c/\∃ m t p,u = .tuple #[.int .i64 m,.iface t p]))/\Ext w w':=by
 by_cases hc:c
 ·rw [if_pos hc] at h
  exact (c150 s n h hz w).mono fun v w' hv=>⟨.inl ⟨hc,hv.1⟩,hv.2⟩
 ·rw [if_neg hc] at h
  exact (c150r s h hz w hg).mono fun v w' hv=>⟨.inr ⟨hc,hv.1⟩,hv.2⟩
theorem c104 {s:ByteArray} {q:Rat} (hs:bs s=txtQ q) (hz:s.size<=1000000000) (w:World) (hg:Gl w):Ret prog 104 #[.string s] w fun v w'=>v=qv q/\Ext w w':=by
 have hx0:=(Ext.refl w).alloc (.cells zq.toArray 88)
 have hB0:=Box.new w zq 88
 refine run104 _ _ _ (Called.of (c149 s (by omega) _ (hg.ext hx0)) ?_)
 rintro v w1 ⟨⟨t,u,rfl,ht,hu⟩,he1⟩
 have hx1:=hx0.trans he1
 obtain⟨p1,p2,p3,p4⟩:=txt_parts q
 have hd:q.den=1\/q.den≠1:=by omega
 have hparts:bs t=(if q.num<0 then [45] else [])++dec q.num.natAbs/\decide (((bs s).takeWhile (· != 47)).length<(bs s).length)=decide (q.den≠1)/\(q.den≠1->bs u=dec q.den):=by
  have hX:((if q.num<0 then [45] else [])++dec q.num.natAbs:List UInt8).takeWhile (· != 47)=(if q.num<0 then [45] else [])++dec q.num.natAbs:=by
   by_cases h:q.num<0
   ·rw [if_pos h]
    show (45::dec q.num.natAbs).takeWhile (· != 47)=_
    rw [List.takeWhile_cons,if_pos (by decide),zDF (zAH _)];rfl
   ·rw [if_neg h,List.nil_append,zDF (zAH _)]
  have hY : ∀ r:List UInt8,((if q.num<0 then [45] else [])++dec q.num.natAbs++47::r:List UInt8).takeWhile (· != 47)=(if q.num<0 then [45] else [])++dec q.num.natAbs:=by
   intro r
   by_cases h:q.num<0
   ·rw [if_pos h]
    show (45::(dec q.num.natAbs++47::r)).takeWhile (· != 47)=_
    rw [List.takeWhile_cons,if_pos (by decide),zEL (zAH _)];rfl
   ·rw [if_neg h,List.nil_append,zEL (zAH _)]
  have htx:=zA0 q
  rw [hs,htx] at ht hu ⊢
  unfold dqCut at ht hu
  rcases hd with h1 | h1
  ·rw [if_pos h1,List.append_nil,hX,if_neg (Nat.lt_irrefl _)] at ht
   rw [if_pos h1,List.append_nil,hX]
   refine⟨ht,?_,fun h=>absurd h1 h⟩
   rw [decide_eq_false (Nat.lt_irrefl _),decide_eq_false (fun h=>h h1)]
  ·rw [if_neg h1,hY] at ht hu
   have hl:((if q.num<0 then [45] else [])++dec q.num.natAbs:List UInt8).length<((if q.num<0 then [45] else [])++dec q.num.natAbs++47::dec q.den:List UInt8).length:=by
    rw [List.length_append (bs:=47::dec q.den),List.length_cons];omega
   rw [if_neg h1,hY]
   rw [if_pos hl] at ht
   rw [if_pos hl,if_pos hl] at hu
   refine⟨ht,by rw [decide_eq_true hl,decide_eq_true h1],fun _=>?_⟩
   rw [hu]
   show List.drop (_+1) _=_
   rw [<- List.drop_drop,List.drop_left];rfl
 obtain⟨htt,hdd,huu⟩:=hparts
 rw [hdd]
 have hlen:=zFz q
 rw [<- hs,<- zAg] at hlen
 have htz:t.size<=1000000001:=by
  rw [zAg,htt,List.length_append]
  have h1:(dec q.num.natAbs).length<=s.size:=hlen.1
  have:(if q.num<0 then [(45:UInt8)] else []).length<=1:=by split <;> simp
  omega
 refine⟨t,u,_,rfl,fun K hK=>?_⟩
 have main : ∀ x:ByteArray,bs x=dec q.den->K [.string x] w1:=by
  intro x hx
  have hxz:x.size<=1000000000:=by
   rw [zAg,hx]
   have h1:(dec q.den).length<=s.size:=hlen.2
   omega
  refine hK x (Called.of (parseR t q.num _ (head_parse q htt) (by omega) w1 (hg.ext hx1)) ?_)
  rintro v w2 ⟨hv,he2⟩
  have hdp:Lib.parseIntB 64 (bs x)=if q.den<=9223372036854775807 then .ok (q.den:Int) else .range:=by
   rw [hx,zFo (zBm _) (zAH _),zAF]
  have hend : ∀ w3,Ext w1 w3->∀ L:List Value,L.length=3->L=qc q->Ext w (setCells w3 ⟨w.heap.size,0,none⟩ 0 L)/\writable w3 ⟨w.heap.size,0,none⟩ 3/\vcells (setCells w3 ⟨w.heap.size,0,none⟩ 0 L) ⟨w.heap.size,0,none⟩ 0 L:=by
   intro w3 h3 L hL _
   have hB3:=(hB0.ext he1).ext h3
   exact⟨(hx1.trans h3).put (Nat.le_refl _) _ _,hB3.blk.writable (by decide),(hB3.put L hL).blk.all⟩
  have hsb:s=mk (txtQ q):=zGi (by rw [bs_mk,hs])
  rcases hv with ⟨hc,rfl⟩ | ⟨hc,m,t1,p1',rfl⟩
  ·refine⟨_,_,rfl,Called.of (parseR x (q.den:Int) _ hdp (by omega) w2 ((hg.ext hx1).ext he2)) ?_⟩
   rintro v w3 ⟨hv,he3⟩
   rcases hv with ⟨hc2,rfl⟩ | ⟨hc2,m2,t2,p2',rfl⟩
   ·refine⟨_,_,rfl,.inl ⟨rfl,.inl ⟨rfl,?_⟩⟩⟩
    rw [Bool.false_or]
    by_cases hmin:q.num = -9223372036854775808
    ·have hf:fitsQ q=false:=by
      unfold fitsQ;rw [decide_eq_false (by omega)];rfl
     obtain⟨e1,e2,e3⟩:=zE8 hf
     rw [hmin]
     obtain⟨h1,h2,h3⟩:=hend w3 (he2.trans he3) [.int .i64 0,.int .i64 0,.string s] rfl (by unfold qc;rw [e1,e2,e3,hsb])
     refine⟨h2,_,_,_,h3,?_,h1⟩
     unfold qv;rw [e1,e2,e3,hsb]
    ·have hf:fitsQ q=true:=zBb.2 ⟨by split at hc <;> omega,hc2⟩
     obtain⟨e1,e2,e3⟩:=zBj hf
     have hne:(q.num == -9223372036854775808)=false:=by rw [beq_eq_false_iff_ne];exact hmin
     have hd0:=q.den_nz
     rw [hne,cond_false,zAf (by omega) (by omega)]
     obtain⟨h1,h2,h3⟩:=hend w3 (he2.trans he3) [.int .i64 q.num,.int .i64 ((q.den:Int) - 1),.string { data:=#[] }] rfl (by unfold qc;rw [e1,e2,e3])
     refine⟨h2,_,_,_,h3,?_,h1⟩
     unfold qv;rw [e1,e2,e3]
   ·have hf:fitsQ q=false:=by
     cases h:fitsQ q with
     | false=>rfl
     | true=>exact absurd (zBb.1 h).2 hc2
    obtain⟨e1,e2,e3⟩:=zE8 hf
    refine⟨_,_,rfl,.inl ⟨rfl,.inr ⟨⟨_,_,rfl⟩,?_⟩⟩⟩
    obtain⟨h1,h2,h3⟩:=hend w3 (he2.trans he3) [.int .i64 0,.int .i64 0,.string s] rfl (by unfold qc;rw [e1,e2,e3,hsb])
    refine⟨h2,_,_,_,h3,?_,h1⟩
    unfold qv;rw [e1,e2,e3,hsb]
  ·have hf:fitsQ q=false:=by
    cases h:fitsQ q with
    | false=>rfl
    | true=>exact absurd (by have:=(zBb.1 h).1;split <;> omega) hc
   obtain⟨e1,e2,e3⟩:=zE8 hf
   refine⟨_,_,rfl,Called.of (parseR x (q.den:Int) _ hdp (by omega) w2 ((hg.ext hx1).ext he2)) ?_⟩
   rintro v w3 ⟨hv,he3⟩
   obtain⟨h1,h2,h3⟩:=hend w3 (he2.trans he3) [.int .i64 0,.int .i64 0,.string s] rfl (by unfold qc;rw [e1,e2,e3,hsb])
   have hshape : ∃ n1 v4,v = .tuple #[.int .i64 n1,v4]:=by
    rcases hv with ⟨_,rfl⟩ | ⟨_,m2,t2,p2',rfl⟩ <;> exact⟨_,_,rfl⟩
   obtain⟨n1,v4,rfl⟩:=hshape
   refine⟨_,_,rfl,.inr ⟨⟨_,_,rfl⟩,h2,_,_,_,h3,?_,h1⟩⟩
   unfold qv;rw [e1,e2,e3,hsb]
 rcases hd with h1 | h1
 ·rw [decide_eq_false (fun h=>h h1),Bool.not_false,cond_true]
  refine main _ ?_
  rw [h1,zA5 (by omega)];rfl
 ·rw [decide_eq_true h1,Bool.not_true,cond_false]
  exact main u (huu h1)
end Go.Proofs.Si
namespace Go.Proofs.Si
open Go Go.V Go.Proofs Go.RowKit Go.Num Go.Tb Go.Proofs.Tryz
open Go.IntKind (i64 u64 u32 u8)
set_option maxRecDepth 100000
theorem zC9 {k:Nat} {q:Rat} (h:dg k q) {s:ByteArray} (hs:bs s=txtQ q):s.size<=2*k+2:=by rw [zAg,hs];exact dg_txt h
theorem c76 {q:Rat} (h:dg 400000000 q) (w:World) (hg:Gl w):Ret prog 76 #[qv q] w fun v w'=>TxtV q v/\Ext w w':=by
 have hx:=(Ext.refl w).alloc (.cells (qc q).toArray 88)
 have hB:=Box.new w (qc q) 88
 have hBd:Box (w.alloc (.cells (qc q).toArray 88)).drew w.heap.size 88 (qc q):=hB
 refine run76 _ _ _ _ _ ⟨_,hB.blk.cell (j:=2) rfl,?_⟩
 rw [zBV]
 cases hf:fitsQ q with
 | false =>
  rw [Bool.not_false,cond_true]
  refine⟨_,hB.blk.cell (j:=2) rfl,⟨_,rfl,?_⟩,hx⟩
  rw [(zE8 hf).2.2,bs_mk]
 | true =>
  obtain⟨e1,e2,e3⟩:=zBj hf
  obtain⟨f1,f2⟩:=zBb.1 hf
  have hd0:=q.den_nz
  have zn:=h.1
  have zd:=h.2
  rw [Bool.not_true,cond_false]
  refine⟨_,hB.blk.cell (j:=1) rfl,zAa (fun h1=>?_) (fun h1=>?_)⟩
  ·have h1:q.den=1:=by
    rw [e2] at h1
    have:((q.den:Int) - 1)=0:=by simpa using h1
    omega
   refine⟨_,hB.blk.cell (j:=0) rfl,?_⟩
   refine Called.of (R:=fun v w'=>(∃ s,v = .string s/\bs s=txtQ q)/\Ext w w') ?_ (fun v w' hv=>?_)
   ·refine (c132 (qn q) (by rw [e1];omega) (by rw [e1];omega) _ (hg.ext hx).p10).mono ?_
    rintro v w1 ⟨⟨s,rfl,hs⟩,he⟩
    rw [e1] at hs
    refine⟨⟨s,rfl,?_⟩,hx.trans he⟩
    rw [hs,zA0,if_pos h1,List.append_nil]
   ·obtain⟨⟨s,rfl,hs⟩,he⟩:=hv
    exact⟨s,rfl,⟨s,rfl,hs⟩,he⟩
  ·have h1:q.den≠1:=by
    rintro e
    rw [e2,e] at h1
    exact absurd h1 (by decide)
   intro K hK
   refine⟨_,hBd.blk.cell (j:=0) rfl,_,hBd.blk.cell (j:=1) rfl,?_⟩
   have ew:i64.wrap (ql q+1)=(q.den:Int):=by rw [e2,zAf (by omega) (by omega)];omega
   rw [ew]
   refine Called.of (c132 (qn q) (by rw [e1];omega) (by rw [e1];omega) _ (hg.ext hx).drew.p10) ?_
   rintro v w1 ⟨⟨s,rfl,hs⟩,he⟩
   rw [e1] at hs
   have hss:s.size<=400000001:=by
    rw [zAg,hs,List.length_append]
    have:(if q.num<0 then [(45:UInt8)] else []).length<=1:=by split <;> simp
    omega
   refine⟨s,rfl,he,by omega,Called.of (c132 (q.den:Int) (by omega) (by omega) w1 ((hg.ext hx).drew.ext he).p10) ?_⟩
   rintro v w2 ⟨⟨u,rfl,hu⟩,he2⟩
   rw [if_neg (by omega),List.nil_append,Int.natAbs_natCast] at hu
   have huz:u.size<=400000000:=by rw [zAg,hu];exact zd
   refine⟨u,rfl,?_,hK _ _ ⟨⟨_,rfl,?_⟩,(hx.drew.trans he).trans he2⟩⟩
   ·rw [zDo]
    have:({ data:=#[47] } : ByteArray).size=1:=rfl
    omega
   ·rw [zAP,zAP,hs,hu,zA0,if_neg h1]
    simp [bs]
theorem c176 (n:Int) (h0:n.natAbs<=9223372036854775807) (w:World):Ret prog 176 #[.int .i64 n] w fun v w'=>v = .int .u64 (n.natAbs:Int)/\w' = w:=by
 refine run176 _ _ _ (zAd (fun h=>⟨?_,rfl⟩) (fun h=>⟨?_,rfl⟩))
 ·rw [zAf (by omega) (by omega),w64ui (by omega) (by omega)];congr 1;omega
 ·rw [w64ui (by omega) (by omega)];congr 1;omega
theorem mul64 (x y:Nat) (hx:x<18446744073709551616) (hy:y<18446744073709551616) (w:World):Ret prog 189 #[.int .u64 x,.int .u64 y] w fun v w' =>
  v = .tuple #[.int .u64 ((x*y / 18446744073709551616:Nat):Int),.int .u64 ((x*y % 18446744073709551616:Nat):Int)]/\w' = w :=
 Calls.mono (Tryz.bits_Mul64 x y hx hy w) fun e w' ⟨h1,h2⟩=>⟨_,h1,rfl,h2⟩
theorem c154 (a b:Int) (ha:a.natAbs<=9223372036854775807) (hb:b.natAbs<=9223372036854775807) (w:World) :
  Ret prog 154 #[.int .i64 a,.int .i64 b] w fun v w'=>(∃ r ok,v = .tuple #[.int .i64 r,.bool ok]/\(ok=true->r=a*b/\(a*b).natAbs<=9223372036854775807))/\w' = w:=by
 refine run154 _ _ _ _ (Called.of (c176 a ha w) ?_)
 rintro v w1 ⟨rfl,rfl⟩
 refine⟨_,rfl,Called.of (c176 b hb w1) ?_⟩
 rintro v w2 ⟨rfl,rfl⟩
 refine⟨_,rfl,Called.of (mul64 a.natAbs b.natAbs (by omega) (by omega) w2) ?_⟩
 rintro v w3 ⟨rfl,rfl⟩
 have hab:(a*b).natAbs=a.natAbs*b.natAbs:=Int.natAbs_mul a b
 refine⟨_,_,rfl,zAa (fun h=>⟨⟨_,_,rfl,fun h=>by cases h⟩,rfl⟩) (fun h=>?_)⟩
 rw [Bool.or_eq_false_iff] at h
 have h1:a.natAbs*b.natAbs / 18446744073709551616=0:=by
  have:(((a.natAbs*b.natAbs / 18446744073709551616:Nat):Int))=0:=by simpa using h.1
  omega
 have h2:a.natAbs*b.natAbs % 18446744073709551616<=9223372036854775807:=by
  have:=of_decide_eq_false h.2
  omega
 have h3:a.natAbs*b.natAbs % 18446744073709551616=(a*b).natAbs:=by rw [hab];omega
 rw [h3] at h2 ⊢
 rw [zAf (n:=((a*b).natAbs:Int)) (by omega) (by omega)]
 have hsg : ∀ x y:Int,decide (x<0)=false->decide (y<0)=false->0<=x*y:=fun x y h1 h2=>Int.mul_nonneg (by have:=of_decide_eq_false h1;omega) (by have:=of_decide_eq_false h2;omega)
 refine zAa (fun h4=>⟨⟨_,_,rfl,fun _=>⟨?_,h2⟩⟩,rfl⟩) (fun h4=>⟨⟨_,_,rfl,fun _=>⟨?_,h2⟩⟩,rfl⟩)
 ·rw [zAf (by omega) (by omega)]
  have:a*b<=0:=by
   by_cases c1:a<0 <;> by_cases c2:b<0
   ·rw [decide_eq_true c1,decide_eq_true c2] at h4;exact absurd h4 (by decide)
   ·exact Int.mul_nonpos_of_nonpos_of_nonneg (by omega) (by omega)
   ·exact Int.mul_nonpos_of_nonneg_of_nonpos (by omega) (by omega)
   ·rw [decide_eq_false c1,decide_eq_false c2] at h4;exact absurd h4 (by decide)
  omega
 ·have:0<=a*b:=by
   by_cases c1:a<0 <;> by_cases c2:b<0
   ·exact Int.mul_nonneg_of_nonpos_of_nonpos (by omega) (by omega)
   ·rw [decide_eq_true c1,decide_eq_false c2] at h4;exact absurd h4 (by decide)
   ·rw [decide_eq_false c1,decide_eq_true c2] at h4;exact absurd h4 (by decide)
   ·exact Int.mul_nonneg (by omega) (by omega)
  omega
theorem c155 (a b:Int) (ha:a.natAbs<=9223372036854775807) (hb:b.natAbs<=9223372036854775807) (w:World) :
  Ret prog 155 #[.int .i64 a,.int .i64 b] w fun v w'=>(∃ r ok,v = .tuple #[.int .i64 r,.bool ok]/\(ok=true->r=a+b/\(a+b).natAbs<=9223372036854775807))/\w' = w:=by
 refine run155 _ _ _ _ (zAa (fun h=>⟨⟨_,_,rfl,fun h=>by cases h⟩,rfl⟩) (fun h=>⟨⟨_,_,rfl,fun _=>?_⟩,rfl⟩))
 rw [Bool.or_eq_false_iff,Bool.or_eq_false_iff] at h
 have hw:i64.wrap (a+b)=(a+b+9223372036854775808) % 18446744073709551616 - 9223372036854775808:=by rw [IntKind.wrap_i64]
 have h1 : ¬ (a>0/\b>0/\i64.wrap (a+b)<0):=fun ⟨x,y,z⟩=>by
  have:=h.1.1
  rw [decide_eq_true x,decide_eq_true y,decide_eq_true z] at this
  exact absurd this (by decide)
 have h2 : ¬ (a<0/\b<0/\i64.wrap (a+b)>=0):=fun ⟨x,y,z⟩=>by
  have:=h.1.2
  rw [decide_eq_true x,decide_eq_true y,decide_eq_true z] at this
  exact absurd this (by decide)
 have h3:i64.wrap (a+b) ≠ -9223372036854775808:=fun e=>by rw [e] at h;exact absurd h.2 (by decide)
 omega
theorem c175 (a b:Nat) (w:World):Ret prog 175 #[.int .u64 a,.int .u64 b] w fun v w'=>v = .int .u64 (Nat.gcd a b:Nat)/\Ext w w':=by
 obtain⟨I',μ',hin,hout⟩:=ghost (G:=Nat × Nat) (fun g vals w1=>vals=[.int .u64 g.1,.int .u64 g.2]/\Nat.gcd g.1 g.2=Nat.gcd a b/\Ext w w1) (fun g=>g.2)
 refine run175 _ _ _ _ ⟨I',μ',hin (a,b) _ _ ⟨rfl,rfl,Ext.refl _⟩,fun n n1 w1 hI=>?_⟩
 obtain⟨⟨x,y⟩,⟨hv,hg,he⟩,fin⟩:=hout _ _ hI
 cases hv
 refine zAa (fun h=>?_) (fun h=>⟨?_,he⟩)
 ·have hy:y≠0:=by rintro rfl;simp at h
  refine zAd (fun h0=>absurd h0 (by omega)) (fun _=>fin (y,x % y) _ _ ⟨by rw [tmodN],?_,he.drew⟩ (Nat.mod_lt _ (by omega)))
  rw [<- hg]
  show Nat.gcd y (x % y)=Nat.gcd x y
  rw [Nat.gcd_comm x y,Nat.gcd_rec y x,Nat.gcd_comm]
 ·have hy:y=0:=by
   have:((y:Nat):Int)=0:=by simpa using h
   omega
  subst hy
  rw [<- hg];simp
theorem c156 (n:Int) (d:Nat) (hd:d≠0) (hn:n.natAbs<=9223372036854775807) (hd2:d<=9223372036854775807) (w:World) :
  Ret prog 156 #[.int .i64 n,.int .i64 (d:Int)] w fun v w'=>v=qv (mkRat n d)/\Ext w w':=by
 have hx:=(Ext.refl w).alloc (.cells zq.toArray 88)
 have hB:=Box.new w zq 88
 refine run156 _ _ _ _ (Called.of (c176 n hn _) ?_)
 rintro v w1 ⟨rfl,rfl⟩
 rw [w64ui (n:=(d:Int)) (by omega) (by omega)]
 refine⟨_,rfl,Called.of (c175 n.natAbs d _) ?_⟩
 rintro v w2 ⟨rfl,he2⟩
 obtain⟨G,hG⟩ : ∃ G,G=Nat.gcd n.natAbs d:=⟨_,rfl⟩
 have hGp:0<G:=by rw [hG];exact Nat.gcd_pos_of_pos_right _ (Nat.pos_of_ne_zero hd)
 have hGd:G<=d:=by rw [hG];exact Nat.le_of_dvd (Nat.pos_of_ne_zero hd) (Nat.gcd_dvd_right _ _)
 have hdm:((G:Nat):Int) ∣ n:=by rw [hG];exact Int.ofNat_dvd_left.2 (Nat.gcd_dvd_left _ _)
 have hnum:(mkRat n d).num=n.tdiv (G:Int):=by rw [Rat.num_mkRat,if_neg hd,Nat.gcd_comm,<- hG,Int.tdiv_eq_ediv_of_dvd hdm]
 have hden:(mkRat n d).den=d / G:=by rw [Rat.den_mkRat,if_neg hd,Nat.gcd_comm,<- hG]
 have hab:(mkRat n d).num.natAbs<=n.natAbs:=by
  rw [hnum,Int.tdiv_eq_ediv_of_dvd hdm,Int.natAbs_ediv_of_dvd hdm]
  exact Nat.div_le_self _ _
 have hdl:(mkRat n d).den<=d:=by rw [hden];exact Nat.div_le_self _ _
 have hd0:=(mkRat n d).den_nz
 rw [<- hG]
 refine⟨_,rfl,?_⟩
 rw [zAf (n:=(G:Int)) (by omega) (by omega),tdivN,<- hnum,<- hden,zAf (n:=(mkRat n d).num) (by omega) (by omega),zAf (n:=((mkRat n d).den:Int)) (by omega) (by omega),zAf (by omega) (by omega)]
 have hB2:Box w2.drew w.heap.size 88 zq:=hB.ext he2.drew
 obtain⟨e1,e2,e3⟩:=zBj (q:=mkRat n d) (zBb.2 ⟨by omega,by omega⟩)
 refine zAd (fun h=>absurd h (by omega)) (fun _=>zAd (fun h=>absurd h (by omega)) (fun _=>⟨hB2.blk.writable (by decide),_,_,_,(hB2.put _ (by rfl)).blk.all,?_,(hx.trans he2).drew.put (Nat.le_refl _) _ _⟩))
 unfold qv
 rw [e1,e2,e3]
theorem qput {w w' : World} {B:Nat} (q:Rat) (hB:Box w' B 88 zq) (hx:Ext w w') (hb:w.heap.size<=B) :
  writable w' ⟨B,0,none⟩ 3/\vcells (setCells w' ⟨B,0,none⟩ 0 (qc q)) ⟨B,0,none⟩ 0 (qc q)/\Ext w (setCells w' ⟨B,0,none⟩ 0 (qc q)) :=
 ⟨hB.blk.writable (by decide),(hB.put (qc q) (by rfl)).blk.all,hx.put hb _ _⟩
theorem neg_fits (q:Rat):fitsQ (-q)=fitsQ q:=by unfold fitsQ;rw [Rat.neg_num,Rat.neg_den,Int.natAbs_neg]
theorem c133 {q:Rat} (h:dg 400000000 q) (w:World) (hg:Gl w):Ret prog 133 #[qv q] w fun v w'=>v=qv (-q)/\Ext w w':=by
 have hx1:=(Ext.refl w).alloc (.cells (qc q).toArray 88)
 have hx2:=(Ext.refl (w.alloc (.cells (qc q).toArray 88))).alloc (.cells zq.toArray 88)
 have hB1:=(Box.new w (qc q) 88).ext hx2
 have hB2:=Box.new (w.alloc (.cells (qc q).toArray 88)) zq 88
 have hxx:=hx1.trans hx2
 refine run133 _ _ _ _ _ ⟨_,hB1.blk.cell (j:=2) rfl,?_⟩
 rw [zBV]
 refine zAa (fun hf=>?_) (fun hf=>?_)
 ·obtain⟨e1,e2,e3⟩:=zBj hf
  obtain⟨f1,f2⟩:=zBb.1 hf
  have e:[Value.int .i64 (i64.wrap (0 - qn q)),.int .i64 (ql q),.string { data:=#[] }]=qc (-q):=by
   obtain⟨g1,g2,g3⟩:=zBj (q := -q) (by rw [neg_fits];exact hf)
   unfold qc
   rw [g1,g2,g3,e1,e2,zAf (by omega) (by omega),Rat.neg_num,Rat.neg_den,Int.zero_sub]
  obtain⟨p1,p2,p3⟩:=qput (-q) hB2 hxx hx1.size
  refine⟨_,hB1.blk.cell (j:=0) rfl,_,hB1.blk.cell (j:=1) rfl,p1,?_⟩
  rw [e]
  exact⟨_,_,_,p2,rfl,p3⟩
 ·obtain⟨e1,e2,e3⟩:=zE8 hf
  have hbs:bs (qb q)=txtQ q:=by rw [e3,bs_mk]
  have hz:=zC9 h hbs
  refine⟨_,hB1.blk.cell (j:=2) rfl,Called.of (c169 hbs (by omega) _ (hg.ext hxx)) ?_⟩
  rintro v w1 ⟨⟨s,rfl,hs⟩,he1⟩
  have hz2:=zC9 h.neg hs
  refine⟨s,rfl,Called.of (c104 hs (by omega) w1 ((hg.ext hxx).ext he1)) ?_⟩
  rintro v w2 ⟨rfl,he2⟩
  obtain⟨p1,p2,p3⟩:=qput (-q) ((hB2.ext he1).ext he2) ((hxx.trans he1).trans he2) hx1.size
  exact⟨_,_,_,rfl,p1,_,_,_,p2,rfl,p3⟩
set_option maxHeartbeats 1000000 in
theorem c112 {p q:Rat} (hp:dg 90000000 p) (hq:dg 90000000 q) (w:World) (hg:Gl w):Ret prog 112 #[qv p,qv q] w fun v w'=>v=qv (p+q)/\Ext w w':=by
 have hx1:=(Ext.refl w).alloc (.cells (qc p).toArray 88)
 have hx2:=(Ext.refl (w.alloc (.cells (qc p).toArray 88))).alloc (.cells (qc q).toArray 88)
 have hx3:=(Ext.refl ((w.alloc (.cells (qc p).toArray 88)).alloc (.cells (qc q).toArray 88))).alloc (.cells zq.toArray 88)
 have hB1:=((Box.new w (qc p) 88).ext hx2).ext hx3
 have hB2:=(Box.new (w.alloc (.cells (qc p).toArray 88)) (qc q) 88).ext hx3
 have hB3:=Box.new ((w.alloc (.cells (qc p).toArray 88)).alloc (.cells (qc q).toArray 88)) zq 88
 have hxx:=(hx1.trans hx2).trans hx3
 have hsz:=(hx1.trans hx2).size
 refine run112 _ _ _ _ _ _ _ _ fun K hK=>?_
 have big : ∀ w1,Ext ((((w.alloc (.cells (qc p).toArray 88)).alloc (.cells (qc q).toArray 88))).alloc (.cells zq.toArray 88)) w1->K [] w1:=by
  intro w1 he1
  have hC1:=hB1.ext he1.drew
  have hC2:=hB2.ext he1.drew
  have hC3:=hB3.ext he1.drew
  have hx:=(hxx.trans he1).drew
  refine hK w1 fun K1 hK1=>⟨_,_,_,hC1.blk.all,_,_,_,hC2.blk.all,Called.of (c76 (hp.mono (by decide)) _ (hg.ext hx)) ?_⟩
  rintro v w3 ⟨⟨s,rfl,hs⟩,he3⟩
  refine⟨s,rfl,he3,Called.of (c76 (hq.mono (by decide)) _ ((hg.ext hx).ext he3)) ?_⟩
  rintro v w4 ⟨⟨t,rfl,ht⟩,he4⟩
  have z1:=zC9 hp hs
  have z2:=zC9 hq ht
  refine⟨t,rfl,Called.of (c157 hs ht (by omega) _ (((hg.ext hx).ext he3).ext he4)) ?_⟩
  rintro v w5 ⟨⟨u,rfl,hu⟩,he5⟩
  have z3:=zC9 (hp.add hq) hu
  refine⟨u,rfl,Called.of (c104 hu (by omega) _ ((((hg.ext hx).ext he3).ext he4).ext he5)) ?_⟩
  rintro v w6 ⟨rfl,he6⟩
  obtain⟨p1,p2,p3⟩:=qput (p+q) (hC3.ext (((he3.trans he4).trans he5).trans he6)) (hx.trans (((he3.trans he4).trans he5).trans he6)) hsz
  exact⟨_,_,_,rfl,p1,hK1 _ ⟨_,_,_,p2,rfl,p3⟩⟩
 intro K2 hK2
 have main : ∀ b,b=(fitsQ p&&fitsQ q)->K2 [.bool b] (((w.alloc (.cells (qc p).toArray 88)).alloc (.cells (qc q).toArray 88)).alloc (.cells zq.toArray 88)):=by
  rintro b hb
  refine hK2 b (zAa (fun h=>?_) (fun _=>big _ (Ext.refl _)))
  rw [h] at hb
  have hb:fitsQ p=true/\fitsQ q=true:=by rw [<- Bool.and_eq_true];exact hb.symm
  obtain⟨e1,e2,e3⟩:=zBj hb.1
  obtain⟨g1,g2,g3⟩:=zBj hb.2
  obtain⟨f1,f2⟩:=zBb.1 hb.1
  obtain⟨f3,f4⟩:=zBb.1 hb.2
  have d1:=p.den_nz
  have d2:=q.den_nz
  have hl1:i64.wrap (ql p+1)=(p.den:Int):=by rw [e2,zAf (by omega) (by omega)];omega
  have hl2:i64.wrap (ql q+1)=(q.den:Int):=by rw [g2,zAf (by omega) (by omega)];omega
  refine⟨_,hB1.blk.cell (j:=0) rfl,_,hB2.blk.cell (j:=1) rfl,?_⟩
  refine Called.of (c154 (qn p) (i64.wrap (ql q+1)) (by rw [e1];omega) (by rw [hl2];omega) _) ?_
  rintro v w7 ⟨⟨a,ok1,rfl,h1⟩,rfl⟩
  refine⟨_,_,rfl,_,hB2.blk.cell (j:=0) rfl,_,hB1.blk.cell (j:=1) rfl,?_⟩
  refine Called.of (c154 (qn q) (i64.wrap (ql p+1)) (by rw [g1];omega) (by rw [hl1];omega) _) ?_
  rintro v w8 ⟨⟨a2,ok2,rfl,h2⟩,rfl⟩
  refine⟨_,_,rfl,_,hB1.blk.cell (j:=1) rfl,_,hB2.blk.cell (j:=1) rfl,?_⟩
  refine Called.of (c154 (i64.wrap (ql p+1)) (i64.wrap (ql q+1)) (by rw [hl1];omega) (by rw [hl2];omega) _) ?_
  rintro v w9 ⟨⟨a3,ok3,rfl,h3⟩,rfl⟩
  refine⟨_,_,rfl,?_⟩
  rw [hl1] at h2 h3
  rw [hl2] at h1 h3
  rw [e1] at h1
  rw [g1] at h2
  by_cases hok:ok1=true/\ok2=true
  ·obtain⟨rfl,i1⟩:=h1 hok.1
   obtain⟨rfl,i2⟩:=h2 hok.2
   refine Called.of (c155 _ _ i1 i2 _) ?_
   rintro v w10 ⟨⟨r,ok4,rfl,h4⟩,rfl⟩
   refine⟨_,_,rfl,zAa (fun hall=>?_) (fun _=>big _ (Ext.refl _))⟩
   rw [Bool.and_eq_true,Bool.and_eq_true,Bool.and_eq_true] at hall
   obtain⟨rfl,i3⟩:=h3 hall.2
   obtain⟨rfl,i4⟩:=h4 hall.1.1.1
   have hdd:((p.den:Int)*(q.den:Int))=((p.den*q.den:Nat):Int):=(Int.natCast_mul _ _).symm
   rw [hdd] at i3 ⊢
   refine Called.of (c156 _ (p.den*q.den) (Nat.mul_ne_zero d1 d2) i4 (by omega) _) ?_
   rintro v w11 ⟨rfl,he11⟩
   rw [<- Rat.add_def']
   obtain⟨p1,p2,p3⟩:=qput (p+q) (hB3.ext he11) (hxx.trans he11) hsz
   exact⟨_,_,_,rfl,p1,_,_,_,p2,rfl,p3⟩
  ·refine Called.of (R:=fun v w'=>(∃ r ok,v = .tuple #[.int .i64 r,.bool ok])/\w' = ((w.alloc (.cells (qc p).toArray 88)).alloc (.cells (qc q).toArray 88)).alloc (.cells zq.toArray 88)) ?_ ?_
   ·refine run155 _ _ _ _ (zAa (fun _=>⟨⟨_,_,rfl⟩,rfl⟩) (fun _=>⟨⟨_,_,rfl⟩,rfl⟩))
   ·rintro v w10 ⟨⟨r,ok4,rfl⟩,rfl⟩
    refine⟨_,_,rfl,?_⟩
    have:(ok4&&ok1&&ok2&&ok3)=false:=by
     cases h:(ok4&&ok1&&ok2&&ok3) with
     | false=>rfl
     | true =>
      rw [Bool.and_eq_true,Bool.and_eq_true,Bool.and_eq_true] at h
      exact absurd ⟨h.1.1.2,h.1.2⟩ hok
    rw [this]
    exact big _ (Ext.refl _)
 refine⟨_,hB1.blk.cell (j:=2) rfl,?_⟩
 rw [zBV]
 refine zAa (fun h1=>⟨_,hB2.blk.cell (j:=2) rfl,?_⟩) (fun h1=>main _ (by rw [h1];rfl))
 rw [zBV]
 exact main _ (by rw [h1];rfl)
set_option maxHeartbeats 1000000 in
theorem c113 {p q:Rat} (hp:dg 90000000 p) (hq:dg 90000000 q) (w:World) (hg:Gl w):Ret prog 113 #[qv p,qv q] w fun v w'=>v=qv (p*q)/\Ext w w':=by
 have hx1:=(Ext.refl w).alloc (.cells (qc p).toArray 88)
 have hx2:=(Ext.refl (w.alloc (.cells (qc p).toArray 88))).alloc (.cells (qc q).toArray 88)
 have hx3:=(Ext.refl ((w.alloc (.cells (qc p).toArray 88)).alloc (.cells (qc q).toArray 88))).alloc (.cells zq.toArray 88)
 have hB1:=((Box.new w (qc p) 88).ext hx2).ext hx3
 have hB2:=(Box.new (w.alloc (.cells (qc p).toArray 88)) (qc q) 88).ext hx3
 have hB3:=Box.new ((w.alloc (.cells (qc p).toArray 88)).alloc (.cells (qc q).toArray 88)) zq 88
 have hxx:=(hx1.trans hx2).trans hx3
 have hsz:=(hx1.trans hx2).size
 refine run113 _ _ _ _ _ _ _ _ fun K hK=>?_
 have big : ∀ w1,Ext ((((w.alloc (.cells (qc p).toArray 88)).alloc (.cells (qc q).toArray 88))).alloc (.cells zq.toArray 88)) w1->K [] w1:=by
  intro w1 he1
  have hC1:=hB1.ext he1.drew
  have hC2:=hB2.ext he1.drew
  have hC3:=hB3.ext he1.drew
  have hx:=(hxx.trans he1).drew
  refine hK w1 fun K1 hK1=>⟨_,_,_,hC1.blk.all,_,_,_,hC2.blk.all,Called.of (c76 (hp.mono (by decide)) _ (hg.ext hx)) ?_⟩
  rintro v w3 ⟨⟨s,rfl,hs⟩,he3⟩
  refine⟨s,rfl,he3,Called.of (c76 (hq.mono (by decide)) _ ((hg.ext hx).ext he3)) ?_⟩
  rintro v w4 ⟨⟨t,rfl,ht⟩,he4⟩
  have z1:=zC9 hp hs
  have z2:=zC9 hq ht
  refine⟨t,rfl,Called.of (c158 hs ht (by omega) _ (((hg.ext hx).ext he3).ext he4)) ?_⟩
  rintro v w5 ⟨⟨u,rfl,hu⟩,he5⟩
  have z3:=zC9 (hp.mul hq) hu
  refine⟨u,rfl,Called.of (c104 hu (by omega) _ ((((hg.ext hx).ext he3).ext he4).ext he5)) ?_⟩
  rintro v w6 ⟨rfl,he6⟩
  obtain⟨p1,p2,p3⟩:=qput (p*q) (hC3.ext (((he3.trans he4).trans he5).trans he6)) (hx.trans (((he3.trans he4).trans he5).trans he6)) hsz
  exact⟨_,_,_,rfl,p1,hK1 _ ⟨_,_,_,p2,rfl,p3⟩⟩
 intro K2 hK2
 have main : ∀ b,b=(fitsQ p&&fitsQ q)->K2 [.bool b] (((w.alloc (.cells (qc p).toArray 88)).alloc (.cells (qc q).toArray 88)).alloc (.cells zq.toArray 88)):=by
  rintro b hb
  refine hK2 b (zAa (fun h=>?_) (fun _=>big _ (Ext.refl _)))
  rw [h] at hb
  have hb:fitsQ p=true/\fitsQ q=true:=by rw [<- Bool.and_eq_true];exact hb.symm
  obtain⟨e1,e2,e3⟩:=zBj hb.1
  obtain⟨g1,g2,g3⟩:=zBj hb.2
  obtain⟨f1,f2⟩:=zBb.1 hb.1
  obtain⟨f3,f4⟩:=zBb.1 hb.2
  have d1:=p.den_nz
  have d2:=q.den_nz
  have hl1:i64.wrap (ql p+1)=(p.den:Int):=by rw [e2,zAf (by omega) (by omega)];omega
  have hl2:i64.wrap (ql q+1)=(q.den:Int):=by rw [g2,zAf (by omega) (by omega)];omega
  refine⟨_,hB1.blk.cell (j:=0) rfl,_,hB2.blk.cell (j:=0) rfl,?_⟩
  refine Called.of (c154 (qn p) (qn q) (by rw [e1];omega) (by rw [g1];omega) _) ?_
  rintro v w7 ⟨⟨a,ok1,rfl,h1⟩,rfl⟩
  refine⟨_,_,rfl,_,hB1.blk.cell (j:=1) rfl,_,hB2.blk.cell (j:=1) rfl,?_⟩
  refine Called.of (c154 (i64.wrap (ql p+1)) (i64.wrap (ql q+1)) (by rw [hl1];omega) (by rw [hl2];omega) _) ?_
  rintro v w9 ⟨⟨a3,ok3,rfl,h3⟩,rfl⟩
  rw [hl1,hl2] at h3
  rw [e1,g1] at h1
  refine⟨_,_,rfl,zAa (fun hall=>?_) (fun _=>big _ (Ext.refl _))⟩
  rw [Bool.and_eq_true] at hall
  obtain⟨rfl,i1⟩:=h1 hall.1
  obtain⟨rfl,i3⟩:=h3 hall.2
  have hdd:((p.den:Int)*(q.den:Int))=((p.den*q.den:Nat):Int):=(Int.natCast_mul _ _).symm
  rw [hdd] at i3 ⊢
  refine Called.of (c156 _ (p.den*q.den) (Nat.mul_ne_zero d1 d2) i1 (by omega) _) ?_
  rintro v w11 ⟨rfl,he11⟩
  rw [<- Rat.mul_def']
  obtain⟨p1,p2,p3⟩:=qput (p*q) (hB3.ext he11) (hxx.trans he11) hsz
  exact⟨_,_,_,rfl,p1,_,_,_,p2,rfl,p3⟩
 refine⟨_,hB1.blk.cell (j:=2) rfl,?_⟩
 rw [zBV]
 refine zAa (fun h1=>⟨_,hB2.blk.cell (j:=2) rfl,?_⟩) (fun h1=>main _ (by rw [h1];rfl))
 rw [zBV]
 exact main _ (by rw [h1];rfl)
theorem c114 {p q:Rat} (hp:dg 90000000 p) (hq:dg 90000000 q) (w:World) (hg:Gl w):Ret prog 114 #[qv p,qv q] w fun v w'=>v=qv (p - q)/\Ext w w':=by
 have hx1:=(Ext.refl w).alloc (.cells (qc p).toArray 88)
 have hx2:=(Ext.refl (w.alloc (.cells (qc p).toArray 88))).alloc (.cells (qc q).toArray 88)
 have hx3:=(Ext.refl ((w.alloc (.cells (qc p).toArray 88)).alloc (.cells (qc q).toArray 88))).alloc (.cells zq.toArray 88)
 have hB1:=((Box.new w (qc p) 88).ext hx2).ext hx3.drew
 have hB2:=(Box.new (w.alloc (.cells (qc p).toArray 88)) (qc q) 88).ext hx3.drew
 have hB3:=(Box.new ((w.alloc (.cells (qc p).toArray 88)).alloc (.cells (qc q).toArray 88)) zq 88).ext (Ext.refl _).drew
 have hxx:=(hx1.trans hx2).trans hx3.drew
 have hsz:=(hx1.trans hx2).size
 refine run114 _ _ _ _ _ _ _ _ fun K hK=>⟨_,_,_,hB1.blk.all,_,_,_,hB2.blk.all,Called.of (c133 (hq.mono (by decide)) _ (hg.ext hxx)) ?_⟩
 rintro v w2 ⟨rfl,he2⟩
 refine⟨_,_,_,rfl,he2,Called.of (c112 hp hq.neg _ ((hg.ext hxx).ext he2)) ?_⟩
 rintro v w3 ⟨rfl,he3⟩
 rw [<- Rat.sub_eq_add_neg]
 obtain⟨p1,p2,p3⟩:=qput (p - q) (hB3.ext (he2.trans he3)) (hxx.trans (he2.trans he3)) hsz
 exact⟨_,_,_,rfl,p1,hK _ ⟨_,_,_,p2,rfl,p3⟩⟩
theorem c122 {q:Rat} (h:dg 90000000 q) (h0:q≠0) (w:World) (hg:Gl w):Ret prog 122 #[qv q] w fun v w'=>v=qv q⁻¹/\Ext w w':=by
 have hx1:=(Ext.refl w).alloc (.cells (qc q).toArray 88)
 have hx2:=(Ext.refl (w.alloc (.cells (qc q).toArray 88))).alloc (.cells zq.toArray 88)
 have hB1:=(Box.new w (qc q) 88).ext hx2
 have hB2:=Box.new (w.alloc (.cells (qc q).toArray 88)) zq 88
 have hxx:=hx1.trans hx2
 have hn0:q.num≠0:=fun e=>h0 (Rat.num_eq_zero.1 e)
 have hd0:=q.den_nz
 refine run122 _ _ _ _ _ ⟨_,hB1.blk.cell (j:=2) rfl,?_⟩
 rw [zBV]
 refine zAa (fun hf=>?_) (fun hf=>?_)
 ·have hf:fitsQ q=false:=by simpa using hf
  obtain⟨e1,e2,e3⟩:=zE8 hf
  have hbs:bs (qb q)=txtQ q:=by rw [e3,bs_mk]
  have hz:=zC9 h hbs
  have h1:bs ({ data:=#[49] } : ByteArray)=txtQ 1:=by
   rw [zA0,if_neg (by decide),if_pos (show (1:Rat).den=1 from rfl)]
   show [49]=[]++dec 1++[]
   rw [zA5 (by omega)];rfl
  have hs1:({ data:=#[49] } : ByteArray).size=1:=rfl
  refine⟨_,hB1.blk.cell (j:=2) rfl,Called.of (c164 h1 hbs h0 (by omega) _ (hg.ext hxx)) ?_⟩
  rintro v w1 ⟨⟨s,rfl,hs⟩,he1⟩
  rw [Rat.one_mul] at hs
  have hz2:=zC9 h.inv hs
  refine⟨s,rfl,Called.of (c104 hs (by omega) w1 ((hg.ext hxx).ext he1)) ?_⟩
  rintro v w2 ⟨rfl,he2⟩
  obtain⟨p1,p2,p3⟩:=qput q⁻¹ ((hB2.ext he1).ext he2) ((hxx.trans he1).trans he2) hx1.size
  exact⟨_,_,_,rfl,p1,_,_,_,p2,rfl,p3⟩
 ·have hf:fitsQ q=true:=by simpa using hf
  obtain⟨e1,e2,e3⟩:=zBj hf
  obtain⟨f1,f2⟩:=zBb.1 hf
  have hin:(q⁻¹).num=q.num.sign*q.den:=Rat.num_inv q
  have hid:(q⁻¹).den=q.num.natAbs:=by rw [Rat.den_inv,if_neg hn0]
  obtain⟨p1,p2,p3⟩:=qput q⁻¹ hB2 hxx hx1.size
  refine⟨_,hB1.blk.cell (j:=0) rfl,zAd (fun hneg=>?_) (fun hpos=>?_)⟩
  ·rw [e1] at hneg
   rw [Int.sign_eq_neg_one_of_neg hneg] at hin
   have e:[Value.int .i64 (i64.wrap (i64.wrap (0 - ql q) - 1)),.int .i64 (i64.wrap (i64.wrap (0 - qn q) - 1)),.string { data:=#[] }]=qc q⁻¹:=by
    obtain⟨g1,g2,g3⟩:=zBj (q:=q⁻¹) (zBb.2 ⟨by rw [hin];omega,by rw [hid];omega⟩)
    unfold qc
    rw [g1,g2,g3,e1,e2,hin,hid,zAf (n:=0 - ((q.den:Int) - 1)) (by omega) (by omega),zAf (n:=0 - q.num) (by omega) (by omega),zAf (by omega) (by omega),zAf (by omega) (by omega)]
    congr 2
    ·omega
    ·congr 2;omega
   refine⟨_,hB1.blk.cell (j:=1) rfl,_,hB1.blk.cell (j:=0) rfl,p1,?_⟩
   rw [e]
   exact⟨_,_,_,p2,rfl,p3⟩
  ·rw [e1] at hpos
   rw [Int.sign_eq_one_of_pos (by omega)] at hin
   have e:[Value.int .i64 (i64.wrap (ql q+1)),.int .i64 (i64.wrap (qn q - 1)),.string { data:=#[] }]=qc q⁻¹:=by
    obtain⟨g1,g2,g3⟩:=zBj (q:=q⁻¹) (zBb.2 ⟨by rw [hin];omega,by rw [hid];omega⟩)
    unfold qc
    rw [g1,g2,g3,e1,e2,hin,hid,zAf (by omega) (by omega),zAf (by omega) (by omega)]
    congr 2
    ·omega
    ·congr 2;omega
   refine⟨_,hB1.blk.cell (j:=1) rfl,_,hB1.blk.cell (j:=0) rfl,p1,?_⟩
   rw [e]
   exact⟨_,_,_,p2,rfl,p3⟩
theorem c75 {q:Rat} (h:dg 400000000 q) (w:World) (hg:Gl w):Ret prog 75 #[qv q] w fun v w'=>v = .int .i64 (Tb.sgnQ q)/\Ext w w':=by
 have hx:=(Ext.refl w).alloc (.cells (qc q).toArray 88)
 have hB:=Box.new w (qc q) 88
 have hsg:q.num.sign=Tb.sgnQ q:=by
  unfold Tb.sgnQ
  by_cases h1:q<0
  ·rw [if_pos h1,Int.sign_eq_neg_one_of_neg]
   have h2 : ¬ 0<=q:=Rat.not_le.2 h1
   exact Int.not_le.1 fun h=>h2 (Rat.num_nonneg.1 h)
  ·rw [if_neg h1]
   have h2:0<=q.num:=Rat.num_nonneg.2 (Rat.not_lt.1 h1)
   by_cases h3:q=0
   ·rw [if_pos h3,h3];rfl
   ·rw [if_neg h3,Int.sign_eq_one_of_pos]
    have:q.num≠0:=fun e=>h3 (Rat.num_eq_zero.1 e)
    omega
 refine run75 _ _ _ _ _ ⟨_,hB.blk.cell (j:=2) rfl,?_⟩
 rw [zBV]
 refine zAa (fun hf=>?_) (fun hf=>?_)
 ·have hf:fitsQ q=false:=by simpa using hf
  obtain⟨e1,e2,e3⟩:=zE8 hf
  have hbs:bs (qb q)=txtQ q:=by rw [e3,bs_mk]
  have hz:=zC9 h hbs
  refine⟨_,hB.blk.cell (j:=2) rfl,Called.of (c131 hbs (by omega) _ (hg.ext hx)) ?_⟩
  rintro v w1 ⟨rfl,he⟩
  exact⟨_,rfl,by rw [hsg],hx.trans he⟩
 ·have hf:fitsQ q=true:=by simpa using hf
  obtain⟨e1,e2,e3⟩:=zBj hf
  refine⟨_,hB.blk.cell (j:=0) rfl,zAd (fun hn=>⟨?_,hx⟩) (fun hn=>⟨_,hB.blk.cell (j:=0) rfl,zAd (fun hp=>⟨?_,hx⟩) (fun hp=>⟨?_,hx⟩)⟩)⟩
  ·rw [e1] at hn
   rw [<- hsg,Int.sign_eq_neg_one_of_neg hn]
  ·rw [e1] at hp
   rw [<- hsg,Int.sign_eq_one_of_pos hp]
  ·rw [e1] at hn hp
   have:q.num=0:=by omega
   rw [<- hsg,this];rfl
theorem c67 {p q:Rat} (hp:dg 90000000 p) (hq:dg 90000000 q) (w:World) (hg:Gl w):Ret prog 67 #[qv p,qv q] w fun v w'=>v = .int .i64 (Tb.cmpQ p q)/\Ext w w':=by
 have hx1:=(Ext.refl w).alloc (.cells (qc p).toArray 88)
 have hx2:=(Ext.refl (w.alloc (.cells (qc p).toArray 88))).alloc (.cells (qc q).toArray 88)
 have hB1:=(Box.new w (qc p) 88).ext hx2
 have hB2:=Box.new (w.alloc (.cells (qc p).toArray 88)) (qc q) 88
 have hxx:=hx1.trans hx2
 refine run67 _ _ _ _ _ _ _ _ ⟨_,_,_,hB1.blk.all,_,_,_,hB2.blk.all,Called.of (c114 hp hq _ (hg.ext hxx)) ?_⟩
 rintro v w1 ⟨rfl,he1⟩
 refine⟨_,_,_,rfl,Called.of (c75 ((hp.sub hq).mono (by decide)) _ ((hg.ext hxx).ext he1)) ?_⟩
 rintro v w2 ⟨rfl,he2⟩
 exact⟨_,rfl,rfl,(hxx.trans he1).trans he2⟩
theorem c146 {p q:Rat} (hp:dg 90000000 p) (hq:dg 89999999 q) (h0:q≠0) (w:World) (hg:Gl w):Ret prog 146 #[qv p,qv q] w fun v w'=>v=qv (p*q⁻¹)/\Ext w w':=by
 have hx1:=(Ext.refl w).alloc (.cells (qc p).toArray 88)
 have hx2:=(Ext.refl (w.alloc (.cells (qc p).toArray 88))).alloc (.cells (qc q).toArray 88)
 have hx3:=(Ext.refl ((w.alloc (.cells (qc p).toArray 88)).alloc (.cells (qc q).toArray 88))).alloc (.cells zq.toArray 88)
 have hB1:=((Box.new w (qc p) 88).ext hx2).ext hx3.drew
 have hB2:=(Box.new (w.alloc (.cells (qc p).toArray 88)) (qc q) 88).ext hx3.drew
 have hB3:=(Box.new ((w.alloc (.cells (qc p).toArray 88)).alloc (.cells (qc q).toArray 88)) zq 88).ext (Ext.refl _).drew
 have hxx:=(hx1.trans hx2).trans hx3.drew
 have hsz:=(hx1.trans hx2).size
 refine run146 _ _ _ _ _ _ _ _ fun K hK=>⟨_,_,_,hB1.blk.all,_,_,_,hB2.blk.all,Called.of (c122 (hq.mono (by decide)) h0 _ (hg.ext hxx)) ?_⟩
 rintro v w2 ⟨rfl,he2⟩
 refine⟨_,_,_,rfl,he2,Called.of (c113 hp (hq.inv.mono (by decide)) _ ((hg.ext hxx).ext he2)) ?_⟩
 rintro v w3 ⟨rfl,he3⟩
 obtain⟨p1,p2,p3⟩:=qput (p*q⁻¹) (hB3.ext (he2.trans he3)) (hxx.trans (he2.trans he3)) hsz
 exact⟨_,_,_,rfl,p1,hK _ ⟨_,_,_,p2,rfl,p3⟩⟩
theorem c130 (n:Int) (h0:n.natAbs<=9223372036854775807) (w:World) (hg:Gl w):Ret prog 130 #[.int .i64 n] w fun v w'=>v=qv (n:Rat)/\Ext w w':=by
 have hx:=(Ext.refl w).alloc (.cells zq.toArray 88)
 have hB:=Box.new w zq 88
 refine run130 _ _ _ ?_
 unfold vc130
 have hne:(n == -9223372036854775808)=false:=by rw [beq_eq_false_iff_ne];omega
 rw [hne,cond_false]
 have e:[Value.int .i64 n,.int .i64 0,.string { data:=#[] }]=qc (n:Rat):=by
  obtain⟨g1,g2,g3⟩:=zBj (q:=(n:Rat)) (zBb.2 ⟨h0,by show 1<=_;omega⟩)
  unfold qc
  rw [g1,g2,g3];rfl
 obtain⟨p1,p2,p3⟩:=qput (n:Rat) hB hx (Nat.le_refl _)
 refine⟨p1,?_⟩
 rw [e]
 exact⟨_,_,_,p2,rfl,p3⟩
end Go.Proofs.Si
