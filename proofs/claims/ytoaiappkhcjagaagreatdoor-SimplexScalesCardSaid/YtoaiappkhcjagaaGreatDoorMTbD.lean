/- Part of the proof: TbD, TbE, TbF. -/
import Derived.Test.YtoaiappkhcjagaaGreatDoorMSiO4
set_option linter.unusedVariables false
set_option linter.unusedSimpArgs false
namespace Go.Tb
def sgnQ (q:Rat):Int:=if q<0 then -1 else if q=0 then 0 else 1
def cmpQ (p q:Rat):Int:=sgnQ (p - q)
def cmp2 (v w:V2):Int:=if cmpQ v.1 w.1≠0 then cmpQ v.1 w.1 else cmpQ v.2 w.2
theorem sgnQ_neg {q:Rat} : sgnQ q<0↔q<0:=by unfold sgnQ;grind
theorem sgnQ_pos {q:Rat} : 0<sgnQ q↔0<q:=by unfold sgnQ;grind
theorem sgnQ_zero {q:Rat} : sgnQ q=0↔q=0:=by unfold sgnQ;grind
theorem zCT {p q:Rat} : cmpQ p q<0↔p<q:=by unfold cmpQ;rw [sgnQ_neg];grind
theorem zE0 {p q:Rat} : 0<cmpQ p q↔q<p:=by unfold cmpQ;rw [sgnQ_pos];grind
theorem zE1 {p q:Rat} : cmpQ p q=0↔p=q:=by unfold cmpQ;rw [sgnQ_zero];grind
theorem cmp2_lt {v w:V2} : cmp2 v w<0↔lt2 v w:=by
 unfold cmp2 lt2
 have h1 := @zCT v.1 w.1
 have h2 := @zE1 v.1 w.1
 have h3 := @zCT v.2 w.2
 split <;> grind
theorem cmp2_gt {v w:V2} : 0<cmp2 v w↔lt2 w v:=by
 unfold cmp2 lt2
 have h1 := @zE0 v.1 w.1
 have h2 := @zE1 v.1 w.1
 have h3 := @zE0 v.2 w.2
 split <;> grind
theorem zF4 {v w:V2} : cmp2 v w=0↔v=w:=by
 unfold cmp2
 have h2 := @zE1 v.1 w.1
 have h3 := @zE1 v.2 w.2
 rw [Prod.ext_iff]
 split <;> grind
def add2 (v w:V2):V2:=(v.1+w.1,v.2+w.2)
def sub2 (v w:V2):V2:=(v.1 - w.1,v.2 - w.2)
def zAn (v:V2) (q:Rat):V2:=(v.1*q,v.2*q)
def ub (S:Sys) (v:Nat):V2:=(S.K (v - S.n),if S.rel (v - S.n)=2 then -1 else 0)
def upper (S:Sys) (v:Nat):Option V2:=if v<S.n then none else some (ub S v)
def lower (S:Sys) (v:Nat):Option V2:=if v<S.n\/S.rel (v - S.n)≠3 then none else some (S.K (v - S.n),0)
def free (S:Sys) (val:Nat->V2) (v:Nat) (up:Bool):Bool :=
 if up then (match upper S v with | none=>true | some u=>decide (cmp2 (val v) u<0))
 else (match lower S v with | none=>true | some l=>decide (cmp2 (val v) l>0))
def move (s:Dy) (j:Nat) (d:V2):Dy :=
 { s with val:=fun u=>if u=s.cols j then add2 (s.val u) d else if 0<=s.line u then add2 (s.val u) (zAn d (s.a (s.line u).toNat j)) else s.val u }
def zCj (S:Sys) (s:Dy) (v:Nat):Option (V2 × Bool) :=
 match upper S v with
 | some u=>if cmp2 (s.val v) u>0 then some (u,false) else (match lower S v with
  | some l=>if cmp2 (s.val v) l<0 then some (l,true) else none
  | none=>none)
 | none=>(match lower S v with
  | some l=>if cmp2 (s.val v) l<0 then some (l,true) else none
  | none=>none)
def violF (S:Sys) (s:Dy):Nat->Nat->Option (Nat × V2 × Bool)
 | 0,_=>none
 | f+1,v=>if s.line v<0 then violF S s f (v+1) else match zCj S s v with
  | some (b,up)=>some ((s.line v).toNat,b,up)
  | none=>violF S s f (v+1)
def viol (S:Sys) (s:Dy):Option (Nat × V2 × Bool):=violF S s S.m S.n
def suits (S:Sys) (s:Dy) (i:Nat) (up:Bool) (k:Nat):Bool:=decide (s.a i k≠0)&&free S s.val (s.cols k) (decide (0<s.a i k)==up)
def zCW (cols:Nat->Nat) (k:Nat) (b:Option Nat):Bool:=match b with | none=>true | some b=>decide (cols k<cols b)
def first (cols:Nat->Nat) (p:Nat->Bool):Nat->Option Nat
 | 0=>none
 | k+1=>bif p k&&zCW cols k (first cols p k) then some k else first cols p k
def zBy (S:Sys) (s:Dy) (i:Nat) (up:Bool):Option Nat:=first s.cols (suits S s i up) S.n
inductive Res | sat | unsat (i:Nat) (up:Bool) | go (i j:Nat) (s:Dy)
def stepS (S:Sys) (s:Dy):Res :=
 match viol S s with
 | none => .sat
 | some (i,b,up)=>match zBy S s i up with
  | none => .unsat i up
  | some j => .go i j (pivot (move s j (zAn (sub2 b (s.val (s.basic i))) (s.a i j)⁻¹)) i j)
def zBz (S:Sys):Nat->Dy->Option (Dy × Option (Nat × Bool))
 | 0,_=>none
 | f+1,s=>match stepS S s with
  | .sat=>some (s,none)
  | .unsat i up=>some (s,some (i,up))
  | .go _ _ s'=>zBz S f s'
theorem zDk {cols:Nat->Nat} {p:Nat->Bool} : ∀ {k:Nat},first cols p k=none->∀ l,l<k->p l=false
 | k+1,h,l,hl=>by
  rw [first] at h
  cases hb:(p k&&zCW cols k (first cols p k)) with
  | true=>rw [hb] at h;cases h
  | false =>
   rw [hb,cond_false] at h
   by_cases e:l=k
   ·subst e
    rw [h,zCW,Bool.and_true] at hb
    exact hb
   ·exact zDk h l (by omega)
theorem zAV {cols:Nat->Nat} {p:Nat->Bool} : ∀ {k j:Nat},first cols p k=some j->j<k/\p j=true/\∀ l,l<k->p l=true->cols j<=cols l
 | k+1,j,h=>by
  rw [first] at h
  cases hb:(p k&&zCW cols k (first cols p k)) with
  | true =>
   rw [hb,cond_true] at h
   cases h
   rw [Bool.and_eq_true] at hb
   refine⟨by omega,hb.1,fun l hl hp=>?_⟩
   by_cases e:l=k
   ·subst e;exact Nat.le_refl _
   ·cases hf:first cols p k with
    | none=>rw [zDk hf l (by omega)] at hp;cases hp
    | some b =>
     have h3:=hb.2
     rw [hf,zCW,decide_eq_true_eq] at h3
     exact Nat.le_trans (Nat.le_of_lt h3) ((zAV hf).2.2 l (by omega) hp)
  | false =>
   rw [hb,cond_false] at h
   obtain⟨h1,h2,h3⟩:=zAV h
   refine⟨by omega,h2,fun l hl hp=>?_⟩
   by_cases e:l=k
   ·subst e
    rw [hp,h,zCW,Bool.true_and,decide_eq_false_iff_not] at hb
    omega
   ·exact h3 l (by omega) hp
structure Inv (S:Sys) (s:Dy):Prop where
 dict:Dict S s
 sol1:Sol S fun v=>(s.val v).1
 sol2:Sol S fun v=>(s.val v).2
 non : ∀ j,j<S.n->s.val (s.cols j)=if s.cols j<S.n then zero2 else ub S (s.cols j)
def zE2 (S:Sys) (s:Dy) (v:Nat):Prop:=le2 (s.val v) (ub S v)/\(S.rel (v - S.n)=3->s.val v=ub S v)
theorem passed_none {S:Sys} {s:Dy} {v:Nat} (hv:S.n<=v) (h:zCj S s v=none):zE2 S s v:=by
 unfold zCj at h
 rw [upper,if_neg (by omega)] at h
 simp only at h
 by_cases h1:cmp2 (s.val v) (ub S v)>0
 ·rw [if_pos h1] at h;cases h
 ·rw [if_neg h1] at h
  have h2:le2 (s.val v) (ub S v):=by
   rw [<- not_lt2,<- cmp2_gt];exact h1
  refine⟨h2,fun h3=>?_⟩
  have hl:lower S v=some (ub S v):=by
   rw [lower,if_neg (by omega),ub,if_neg (by omega)]
  rw [hl] at h
  simp only at h
  split at h
  ·cases h
  ·rename_i h4
   exact zF4.1 (by omega)
theorem passed_some {S:Sys} {s:Dy} {v:Nat} (hv:S.n<=v) {b:V2} {up:Bool} (h:zCj S s v=some (b,up)):b=ub S v/\(up=false->lt2 (ub S v) (s.val v))/\(up=true->S.rel (v - S.n)=3/\lt2 (s.val v) (ub S v)):=by
 unfold zCj at h
 rw [upper,if_neg (by omega)] at h
 simp only at h
 by_cases h1:cmp2 (s.val v) (ub S v)>0
 ·rw [if_pos h1] at h
  cases h
  exact⟨rfl,fun _=>cmp2_gt.1 h1,fun h=>by cases h⟩
 ·rw [if_neg h1] at h
  by_cases h3:S.rel (v - S.n)=3
  ·have hl:lower S v=some (ub S v):=by
    rw [lower,if_neg (by omega),ub,if_neg (by omega)]
   rw [hl] at h
   simp only at h
   split at h
   ·rename_i h4
    cases h
    exact⟨rfl,fun h=>by (cases h),fun _=>⟨h3,cmp2_lt.1 h4⟩⟩
   ·cases h
  ·rw [lower,if_pos (.inr h3)] at h
   cases h
theorem zEi {S:Sys} {s:Dy} : ∀ (f v:Nat),S.n<=v ->
  (∀ i b up,violF S s f v=some (i,b,up)->∃ u,v<=u/\u<v+f/\0<=s.line u/\i=(s.line u).toNat/\zCj S s u=some (b,up)/\∀ x,v<=x->x<u->0<=s.line x->zE2 S s x) /\
  (violF S s f v=none->∀ x,v<=x->x<v+f->0<=s.line x->zE2 S s x)
 | 0,v,_=>⟨fun i b up h=>(by cases h),fun _ x h1 h2=>by omega⟩
 | f+1,v,hv=>by
  obtain⟨h1,h2⟩:=zEi (S:=S) (s:=s) f (v+1) (by omega)
  unfold violF
  by_cases h0:s.line v<0
  ·rw [if_pos h0]
   refine⟨fun i b up h=>?_,fun h x h3 h4 h5=>?_⟩
   ·obtain⟨u,g1,g2,g3,g4,g5,g6⟩:=h1 i b up h
    refine⟨u,by omega,by omega,g3,g4,g5,fun x h3 h4 h5=>?_⟩
    by_cases e:x=v
    ·subst e;omega
    ·exact g6 x (by omega) h4 h5
   ·by_cases e:x=v
    ·subst e;omega
    ·exact h2 h x (by omega) (by omega) h5
  ·rw [if_neg h0]
   cases hp:zCj S s v with
   | some r =>
    obtain⟨b',up'⟩:=r
    refine⟨fun i b up h=>?_,fun h=>by cases h⟩
    cases h
    exact⟨v,Nat.le_refl _,by omega,by omega,rfl,hp,fun x h3 h4=>by omega⟩
   | none =>
    have hw:=passed_none hv hp
    refine⟨fun i b up h=>?_,fun h x h3 h4 h5=>?_⟩
    ·obtain⟨u,g1,g2,g3,g4,g5,g6⟩:=h1 i b up h
     refine⟨u,by omega,by omega,g3,g4,g5,fun x h3 h4 h5=>?_⟩
     by_cases e:x=v
     ·subst e;exact hw
     ·exact g6 x (by omega) h4 h5
    ·by_cases e:x=v
     ·subst e;exact hw
     ·exact h2 h x (by omega) (by omega) h5
theorem zB9 {S:Sys} {s:Dy} (hp:Perm S s) {i:Nat} {b:V2} {up:Bool} (h:viol S s=some (i,b,up)) :
  i<S.m/\S.n<=s.basic i/\b=ub S (s.basic i)/\(up=false->lt2 (ub S (s.basic i)) (s.val (s.basic i)))/\(up=true->S.rel (s.basic i - S.n)=3/\lt2 (s.val (s.basic i)) (ub S (s.basic i))) /\
   ∀ x,S.n<=x->x<s.basic i->0<=s.line x->zE2 S s x:=by
 obtain⟨u,g1,g2,g3,g4,g5,g6⟩:=(zEi _ _ (Nat.le_refl _)).1 i b up h
 obtain⟨h1,h2⟩:=(hp.lin u (by omega)).1 g3
 rw [<- g4] at h2
 subst h2
 obtain⟨k1,k2,k3⟩:=passed_some g1 g5
 exact⟨by omega,g1,k1,k2,k3,g6⟩
theorem viol_none {S:Sys} {s:Dy} (h:viol S s=none) : ∀ x,S.n<=x->x<S.n+S.m->0<=s.line x->zE2 S s x :=
 (zEi _ _ (Nat.le_refl _)).2 h
theorem zDK {S:Sys} {s:Dy} (h:Inv S s) {i k:Nat} (hk:k<S.n) {up:Bool} : suits S s i up k=true↔s.a i k≠0/\(S.n<=s.cols k->S.rel (s.cols k - S.n)≠3/\(decide (0<s.a i k)==up)=false):=by
 unfold suits
 rw [Bool.and_eq_true,decide_eq_true_eq]
 refine and_congr_right fun h0=>?_
 by_cases hn:s.cols k<S.n
 ·refine⟨fun _ h2=>by omega,fun _=>?_⟩
  unfold free
  rw [upper,if_pos hn,lower,if_pos (Or.inl hn)]
  cases (decide (0<s.a i k)==up) <;> rfl
 ·have hval:=h.non k hk
  rw [if_neg hn] at hval
  have hz:cmp2 (ub S (s.cols k)) (ub S (s.cols k))=0:=zF4.2 rfl
  unfold free
  rw [hval,upper,if_neg hn]
  generalize hd:(decide (0<s.a i k)==up)=d
  cases d with
  | true =>
   simp only [if_true,hz]
   refine⟨fun h2=>by simp at h2,fun h2=>absurd (h2 (by omega)).2 (by simp)⟩
  | false =>
   simp only [Bool.false_eq_true,if_false]
   by_cases h3:S.rel (s.cols k - S.n)=3
   ·have hl:lower S (s.cols k)=some (ub S (s.cols k)):=by
     rw [lower,if_neg (by omega),ub,if_neg (by omega)]
    rw [hl]
    simp only [hz]
    refine⟨fun h2=>by simp at h2,fun h2=>absurd h3 (h2 (by omega)).1⟩
   ·rw [lower,if_pos (.inr h3)]
    exact⟨fun _ _=>⟨h3,trivial⟩,fun _=>rfl⟩
theorem move_sol {S:Sys} {s:Dy} (h:Dict S s) {j:Nat} (hj:j<S.n) (d:V2):(Sol S (fun v=>(s.val v).1)->Sol S fun v=>((move s j d).val v).1)/\(Sol S (fun v=>(s.val v).2)->Sol S fun v=>((move s j d).val v).2):=by
 have key : ∀ (x:Nat->Rat) (e:Rat) (y:Nat->Rat),(∀ v,y v=if v=s.cols j then x v+e else if 0<=s.line v then x v+e*s.a (s.line v).toNat j else x v)->Sol S x->Sol S y:=by
  intro x e y hy hx
  rw [h.sol] at hx ⊢
  intro i hi
  have h1:=hx i hi
  have hb:=(h.perm.bas i hi).2
  rw [hy,if_neg (h.perm.ne hi hj),hb,if_pos (by omega),h1,Int.toNat_natCast]
  have e1:(sumN S.n fun k=>s.a i k*y (s.cols k))=(sumN S.n fun k=>s.a i k*x (s.cols k))+sumN S.n fun k=>if k=j then e*s.a i j else 0:=by
   rw [<- zB8]
   refine zAi fun k hk=>?_
   rw [hy]
   by_cases ek:k=j
   ·subst ek;rw [if_pos rfl,if_pos rfl];grind
   ·rw [if_neg (fun e2=>ek (h.perm.inj k j hk hj e2)),(h.perm.col k hk).2,if_neg (by omega),if_neg ek];grind
  rw [e1,zAZ (j:=j) hj (fun k=>if k=j then e*s.a i j else 0) (fun k _ hne=>if_neg hne),if_pos rfl]
 refine⟨key _ d.1 _ fun v=>?_,key _ d.2 _ fun v=>?_⟩ <;>
 ·simp only [move]
  split
  ·rfl
  ·split <;> rfl
def nextS (S:Sys) (s:Dy) (b:V2) (i j:Nat):Dy:=pivot (move s j (zAn (sub2 b (s.val (s.basic i))) (s.a i j)⁻¹)) i j
theorem next_inv {S:Sys} {s:Dy} (h:Inv S s) {i j:Nat} (hi:i<S.m) (hj:j<S.n) (h0:s.a i j≠0) (hb:S.n<=s.basic i):Inv S (nextS S s (ub S (s.basic i)) i j):=by
 have hm:Dict S (move s j (zAn (sub2 (ub S (s.basic i)) (s.val (s.basic i))) (s.a i j)⁻¹)):=⟨⟨h.dict.perm.bas,h.dict.perm.col,h.dict.perm.inj,h.dict.perm.lin⟩,h.dict.sol⟩
 have hs:=move_sol h.dict hj (zAn (sub2 (ub S (s.basic i)) (s.val (s.basic i))) (s.a i j)⁻¹)
 refine⟨zFS hm hi hj h0,hs.1 h.sol1,hs.2 h.sol2,fun k hk=>?_⟩
 have hij:=h.dict.perm.ne hi hj
 show (move s j _).val (upd s.cols j (s.basic i) k)=if upd s.cols j (s.basic i) k<S.n then zero2 else ub S (upd s.cols j (s.basic i) k)
 by_cases e:k=j
 ·subst e
  rw [zAy,if_neg (by omega)]
  simp only [move]
  rw [if_neg hij,(h.dict.perm.bas i hi).2,if_pos (by omega),Int.toNat_natCast]
  have h1:=Rat.inv_mul_cancel _ h0
  simp only [add2,zAn,sub2]
  refine Prod.ext ?_ ?_ <;> simp only <;> grind
 ·rw [zAu _ e,<- h.non k hk]
  simp only [move]
  rw [if_neg (fun e2=>e (h.dict.perm.inj k j hk hj e2)),(h.dict.perm.col k hk).2,if_neg (by omega)]
theorem zCr {S:Sys} {s s' : Dy} (h:Inv S s) {i j:Nat} (hg:stepS S s = .go i j s') : ∃ b up,viol S s=some (i,b,up)/\zBy S s i up=some j/\i<S.m/\j<S.n/\S.n<=s.basic i/\s.a i j≠0/\s' = nextS S s (ub S (s.basic i)) i j/\Inv S s':=by
 unfold stepS at hg
 cases hv:viol S s with
 | none=>rw [hv] at hg;cases hg
 | some r =>
  obtain⟨i',b,up⟩:=r
  rw [hv] at hg
  simp only at hg
  cases he:zBy S s i' up with
  | none=>rw [he] at hg;cases hg
  | some j' =>
   rw [he] at hg
   simp only at hg
   cases hg
   obtain⟨h1,h2,h3,_⟩:=zB9 h.dict.perm hv
   obtain⟨h4,h5,_⟩:=zAV he
   have h6:=((zDK h h4).1 h5).1
   subst h3
   exact⟨_,up,rfl,he,h1,h4,h2,h6,rfl,next_inv h h1 h4 h6 h2⟩
def nbv (S:Sys) (s:Dy) (v:Nat):Prop:=v<S.n+S.m/\s.line v<0
theorem zFs {S:Sys} {s:Dy} (h:Perm S s) {j:Nat} (hj:j<S.n):nbv S s (s.cols j):=⟨(h.col j hj).1,by rw [(h.col j hj).2];decide⟩
theorem zCF {S:Sys} {s:Dy} (h:Inv S s) {v:Nat} (hv:nbv S s v):s.val v=if v<S.n then zero2 else ub S v:=by
 obtain⟨_,j,hj,e⟩:=(h.dict.perm.lin v hv.1).2 hv.2
 rw [<- e];exact h.non j hj
theorem pivot_nbv {S:Sys} {s:Dy} (h:Perm S s) {i j:Nat} (hi:i<S.m) (hj:j<S.n) (v:Nat):nbv S (pivot s i j) v↔(nbv S s v/\v≠s.cols j)\/v=s.basic i:=by
 have h1:=h.bas i hi
 have h2:=h.col j hj
 unfold nbv
 simp only [pivot]
 by_cases e1:v=s.cols j
 ·subst e1
  rw [zAy]
  constructor
  ·intro h3;omega
  ·rintro (h3 | h3)
   ·exact absurd rfl h3.2
   ·exact absurd h3.symm (h.ne hi hj)
 ·rw [zAu _ e1]
  by_cases e2:v=s.basic i
  ·subst e2
   rw [zAy]
   exact⟨fun _ => .inr rfl,fun _=>⟨h1.1,by decide⟩⟩
  ·rw [zAu _ e2]
   constructor
   ·exact fun h3 => .inl ⟨h3,e1⟩
   ·rintro (h3 | h3)
    ·exact h3.1
    ·exact absurd h3 e2
theorem solve_bland {S:Sys} {s1 s2:Dy} (h1:Inv S s1) (h2:Inv S s2) {i1 i2 j2:Nat} {b1 b2:V2} {up1 up2:Bool} (hv1:viol S s1=some (i1,b1,up1)) (hv2:viol S s2=some (i2,b2,up2))
  (he2:zBy S s2 i2 up2=some j2) (hr:s1.basic i1=s2.cols j2) (hl:s2.basic i2<s2.cols j2) (hsame : ∀ v,s2.cols j2<v->(nbv S s1 v↔nbv S s2 v)):False:=by
 obtain⟨a1,a2,a3,a4,a5,a6⟩:=zB9 h1.dict.perm hv1
 obtain⟨c1,c2,c3,c4,c5,c6⟩:=zB9 h2.dict.perm hv2
 obtain⟨d1,d2,d3⟩:=zAV he2
 obtain⟨d4,d5⟩:=(zDK h2 d1).1 d2
 rw [hr] at a2 a4 a5 a6
 obtain⟨d6,d7⟩:=d5 a2
 have hup1:up1=false:=by
  cases hu:up1 with
  | false=>rfl
  | true=>exact absurd (a5 hu).1 d6
 have hgt:=a4 hup1
 have hval2:s2.val (s2.cols j2)=ub S (s2.cols j2):=by rw [h2.non j2 d1,if_neg (by omega)]
 have hin : ∀ v,S.n<=v->v<s2.cols j2->zE2 S s1 v:=by
  intro v hv hlt
  by_cases h0:0<=s1.line v
  ·exact a6 v hv hlt h0
  ·have hN:v<S.n+S.m:=by have:=(h2.dict.perm.col j2 d1).1;omega
   have:=zCF h1 (v:=v) ⟨hN,by omega⟩
   rw [if_neg (by omega)] at this
   refine⟨?_,fun _=>this⟩
   rw [this];right;exact⟨rfl,Rat.le_refl⟩
 let D:Nat->V2:=fun k=>sub2 (s1.val (s2.cols k)) (s2.val (s2.cols k))
 have hline : ∀ (c:Nat->Rat),Sol S c->c (s2.basic i2)=sumN S.n fun k=>s2.a i2 k*c (s2.cols k):=fun c hc=>(h2.dict.sol c).1 hc i2 c1
 have hsum:sub2 (s1.val (s2.basic i2)) (s2.val (s2.basic i2))=sum2 S.n fun k=>zAn (D k) (s2.a i2 k):=by
  refine Prod.ext ?_ ?_
  ·show (s1.val _).1 - (s2.val _).1=sumN S.n _
   rw [hline _ h1.sol1,hline _ h2.sol1,<- zGv]
   refine zAi fun k _=>?_
   show _=((s1.val _).1 - (s2.val _).1)*_
   grind
  ·show (s1.val _).2 - (s2.val _).2=sumN S.n _
   rw [hline _ h1.sol2,hline _ h2.sol2,<- zGv]
   refine zAi fun k _=>?_
   show _=((s1.val _).2 - (s2.val _).2)*_
   grind
 have hterm : ∀ k,k<S.n->k≠j2->s2.a i2 k=0\/D k=zero2\/(le2 (D k) zero2/\(up2=false->s2.a i2 k<0)/\(up2=true->0<s2.a i2 k)):=by
  intro k hk hne
  by_cases ha:s2.a i2 k=0
  ·exact .inl ha
  right
  have hcol:=h2.dict.perm.col k hk
  have hnb:=zFs h2.dict.perm hk
  by_cases hgt2:s2.cols j2<s2.cols k
  ·left
   have hnb1:=(hsame _ hgt2).2 hnb
   show sub2 _ _=_
   rw [zCF h1 hnb1,zCF h2 hnb]
   exact Prod.ext (by show _ - _=(0:Rat);grind) (by show _ - _=(0:Rat);grind)
  ·have hlt:s2.cols k<s2.cols j2:=by
    have:s2.cols k≠s2.cols j2:=fun e=>hne (h2.dict.perm.inj k j2 hk d1 e)
    omega
   have hns:suits S s2 i2 up2 k=false:=by
    cases hs:suits S s2 i2 up2 k with
    | false=>rfl
    | true=>have:=d3 k hk hs;omega
   have hns' : ¬ (s2.a i2 k≠0/\(S.n<=s2.cols k->S.rel (s2.cols k - S.n)≠3/\(decide (0<s2.a i2 k)==up2)=false)):=by
    rw [<- zDK h2 hk,hns];decide
   have hrow:S.n<=s2.cols k:=by
    refine Decidable.byContradiction fun h3=>hns' ⟨ha,fun h4=>absurd h4 h3⟩
   have hv2':=zCF h2 hnb
   rw [if_neg (by omega)] at hv2'
   obtain⟨w1,w2⟩:=hin _ hrow hlt
   by_cases heq:S.rel (s2.cols k - S.n)=3
   ·left
    show sub2 _ _=_
    rw [w2 heq,hv2']
    exact Prod.ext (by show _ - _=(0:Rat);grind) (by show _ - _=(0:Rat);grind)
   ·right
    have hdir:(decide (0<s2.a i2 k)==up2)=true:=by
     cases hd:(decide (0<s2.a i2 k)==up2) with
     | true=>rfl
     | false=>exact absurd ⟨ha,fun _=>⟨heq,hd⟩⟩ hns'
    refine⟨?_,fun hu=>?_,fun hu=>?_⟩
    ·show le2 (sub2 _ _) _
     rw [hv2']
     unfold le2 at w1 ⊢
     simp only [sub2,zero2]
     grind
    ·subst hu
     have : ¬ 0<s2.a i2 k:=by simpa using hdir
     grind
    ·subst hu
     simpa using hdir
 have hDj:lt2 zero2 (D j2):=by
  show lt2 _ (sub2 _ _)
  rw [hval2]
  unfold lt2 at hgt ⊢
  simp only [sub2,zero2]
  grind
 have hl1:=hin _ c2 hl
 cases hu:up2 with
 | false =>
  have haj:0<s2.a i2 j2:=by
   rw [hu] at d7
   have : ¬ ¬ 0<s2.a i2 j2:=by simpa using d7
   grind
  have hpos:lt2 zero2 (sum2 S.n fun k=>zAn (D k) (s2.a i2 k)):=by
   refine sum2_pos (j:=j2) (fun k hk=>?_) d1 ?_
   ·by_cases e:k=j2
    ·subst e
     have:=hDj
     unfold lt2 at this
     unfold le2
     simp only [zAn,zero2] at this ⊢
     rcases this with h3 | ⟨h3,h4⟩
     ·left;exact Rat.mul_pos h3 haj
     ·right
      rw [<- h3,Rat.zero_mul]
      exact⟨rfl,Rat.le_of_lt (Rat.mul_pos h4 haj)⟩
    ·rcases hterm k hk e with h3 | h3 | ⟨h3,h4,_⟩
     ·right;simp only [zAn,zero2,h3,Rat.mul_zero];exact⟨trivial,Rat.le_refl⟩
     ·right;simp only [zAn,h3,zero2,Rat.zero_mul];exact⟨trivial,Rat.le_refl⟩
     ·have h5:=h4 hu
      unfold le2 at h3 ⊢
      simp only [zAn,zero2] at h3 ⊢
      have g1:0 < - s2.a i2 k:=by grind
      rcases h3 with h6 | ⟨h6,h7⟩
      ·left
       have:=Rat.mul_pos (a := - (D k).1) (b := - s2.a i2 k) (by grind) g1
       grind
      ·right
       rw [h6,Rat.zero_mul]
       refine⟨rfl,?_⟩
       have:=Rat.mul_nonneg (a := - (D k).2) (b := - s2.a i2 k) (by grind) (by grind)
       grind
   ·unfold lt2 at hDj ⊢
    simp only [zAn,zero2] at hDj ⊢
    rcases hDj with h3 | ⟨h3,h4⟩
    ·left;exact Rat.mul_pos h3 haj
    ·right
     rw [<- h3,Rat.zero_mul]
     exact⟨rfl,Rat.mul_pos h4 haj⟩
  rw [<- hsum] at hpos
  have h3:=c4 hu
  have h4:=hl1.1
  unfold lt2 at hpos h3
  unfold le2 at h4
  simp only [sub2,zero2] at hpos
  grind
 | true =>
  have haj:s2.a i2 j2<0:=by
   rw [hu] at d7
   have : ¬ 0<s2.a i2 j2:=by simpa using d7
   grind
  have hpos:lt2 zero2 (sum2 S.n fun k=>zAn (D k) (- s2.a i2 k)):=by
   have gj:0 < - s2.a i2 j2:=by grind
   refine sum2_pos (j:=j2) (fun k hk=>?_) d1 ?_
   ·by_cases e:k=j2
    ·subst e
     have:=hDj
     unfold lt2 at this
     unfold le2
     simp only [zAn,zero2] at this ⊢
     rcases this with h3 | ⟨h3,h4⟩
     ·left;exact Rat.mul_pos h3 gj
     ·right
      rw [<- h3,Rat.zero_mul]
      exact⟨rfl,Rat.le_of_lt (Rat.mul_pos h4 gj)⟩
    ·rcases hterm k hk e with h3 | h3 | ⟨h3,_,h4⟩
     ·right;simp only [zAn,zero2,h3,Rat.neg_zero,Rat.mul_zero];exact⟨trivial,Rat.le_refl⟩
     ·right;simp only [zAn,h3,zero2,Rat.zero_mul];exact⟨trivial,Rat.le_refl⟩
     ·have h5:=h4 hu
      unfold le2 at h3 ⊢
      simp only [zAn,zero2] at h3 ⊢
      rcases h3 with h6 | ⟨h6,h7⟩
      ·left
       have:=Rat.mul_pos (a := - (D k).1) (b:=s2.a i2 k) (by grind) h5
       grind
      ·right
       rw [h6,Rat.zero_mul]
       refine⟨rfl,?_⟩
       have:=Rat.mul_nonneg (a := - (D k).2) (b:=s2.a i2 k) (by grind) (by grind)
       grind
   ·unfold lt2 at hDj ⊢
    simp only [zAn,zero2] at hDj ⊢
    rcases hDj with h3 | ⟨h3,h4⟩
    ·left;exact Rat.mul_pos h3 gj
    ·right
     rw [<- h3,Rat.zero_mul]
     exact⟨rfl,Rat.mul_pos h4 gj⟩
  have hneg:(sum2 S.n fun k=>zAn (D k) (- s2.a i2 k))=sub2 (s2.val (s2.basic i2)) (s1.val (s2.basic i2)):=by
   have e1:(sum2 S.n fun k=>zAn (D k) (- s2.a i2 k))=(- (sum2 S.n fun k=>zAn (D k) (s2.a i2 k)).1,- (sum2 S.n fun k=>zAn (D k) (s2.a i2 k)).2):=by
    refine Prod.ext ?_ ?_
    ·simp only [sum2,zAn]
     rw [<- zDH]
     exact zAi fun k _=>by grind
    ·simp only [sum2,zAn]
     rw [<- zDH]
     exact zAi fun k _=>by grind
   rw [e1,<- hsum]
   simp only [sub2]
   exact Prod.ext (by show _=_;grind) (by show _=_;grind)
  rw [hneg] at hpos
  obtain⟨h3,h4⟩:=c5 hu
  have h5:=hl1.2 h3
  rw [h5] at hpos
  unfold lt2 at hpos h4
  simp only [sub2,zero2] at hpos
  grind
theorem solve_ends {S:Sys} {s:Dy} (h:Inv S s) : ∃ f r,zBz S f s=some r:=by
 refine Classical.byContradiction fun hno=>?_
 have hnone : ∀ f,zBz S f s=none:=fun f=>by
  cases hf:zBz S f s with
  | none=>rfl
  | some r=>exact absurd ⟨f,r,hf⟩ hno
 let nx:Dy->Dy:=fun s=>match stepS S s with | .go _ _ s'=>s' | _=>s
 let run:Nat->Dy:=fun t=>Nat.rec s (fun _ s=>nx s) t
 have hrun : ∀ t,run (t+1)=nx (run t):=fun t=>rfl
 have hall : ∀ t,Inv S (run t)/\(∀ f,zBz S f (run t)=none)/\∃ i j,stepS S (run t) = .go i j (run (t+1)):=by
  have hone : ∀ u,Inv S u->(∀ f,zBz S f u=none)->∃ i j,stepS S u = .go i j (nx u)/\Inv S (nx u)/\∀ f,zBz S f (nx u)=none:=by
   intro u hu hf
   have h1:=hf 1
   cases hs:stepS S u with
   | sat=>simp only [zBz,hs] at h1;cases h1
   | unsat i up=>simp only [zBz,hs] at h1;cases h1
   | go i j u' =>
    have e:nx u=u':=by show (match stepS S u with | .go _ _ s'=>s' | _=>u)=_;rw [hs]
    rw [e]
    obtain⟨b,up,_,_,_,_,_,_,_,hi⟩:=zCr hu hs
    refine⟨i,j,rfl,hi,fun f=>?_⟩
    have h2:=hf (f+1)
    simp only [zBz,hs] at h2
    exact h2
  intro t
  induction t with
  | zero =>
   obtain⟨i,j,h1,h2,h3⟩:=hone s h hnone
   exact⟨h,hnone,i,j,h1⟩
  | succ t ih =>
   obtain⟨h1,h2,i,j,h3⟩:=ih
   obtain⟨i0,j0,k1,k2,k3⟩:=hone _ h1 h2
   rw [hrun]
   obtain⟨i',j',g1,g2,g3⟩:=hone _ k2 k3
   exact⟨k2,k3,i',j',g1⟩
 have hst : ∀ t,∃ i j,stepS S (run t) = .go i j (run (t+1)):=fun t=>(hall t).2.2
 obtain⟨fi,hst⟩:=Classical.axiomOfChoice hst
 obtain⟨fj,hst⟩:=Classical.axiomOfChoice hst
 have hw:Walk 0 (2 ^ (S.n+S.m)) (fun t=>(run t).cols (fj t)) (fun t=>(run t).basic (fi t)) (fun t v=>nbv S (run t) v):=by
  refine⟨fun t _ _=>?_,fun t _ _=>?_,fun t v _ _=>?_,fun t1 t2 _ _ _ _ e1 e2 e3 e4=>?_⟩
  ·obtain⟨b,up,_,_,h3,h4,_⟩:=zCr (hall t).1 (hst t)
   exact zFs (hall t).1.dict.perm h4
  ·obtain⟨b,up,_,_,h3,h4,_⟩:=zCr (hall t).1 (hst t)
   intro h5
   have:=((hall t).1.dict.perm.bas _ h3).2
   have:=h5.2
   omega
  ·obtain⟨b,up,_,_,h3,h4,_,_,h5,_⟩:=zCr (hall t).1 (hst t)
   have hm:Perm S (move (run t) (fj t) (zAn (sub2 (ub S ((run t).basic (fi t))) ((run t).val ((run t).basic (fi t)))) ((run t).a (fi t) (fj t))⁻¹)) :=
    ⟨(hall t).1.dict.perm.bas,(hall t).1.dict.perm.col,(hall t).1.dict.perm.inj,(hall t).1.dict.perm.lin⟩
   show nbv S (run (t+1)) v↔_
   rw [h5]
   exact pivot_nbv hm h3 h4 v
  ·obtain⟨b1,up1,h1,_⟩:=zCr (hall t1).1 (hst t1)
   obtain⟨b2,up2,h2,h3,_⟩:=zCr (hall t2).1 (hst t2)
   exact solve_bland (hall t1).1 (hall t2).1 h1 h2 h3 e1 e3 e4
 have:=hw.short (S.n+S.m) (Nat.zero_le _) fun t _ _=>by
  obtain⟨b,up,_,_,h3,h4,_⟩:=zCr (hall t).1 (hst t)
  exact⟨((hall t).1.dict.perm.col _ h4).1,((hall t).1.dict.perm.bas _ h3).1⟩
 omega
def costF (S:Sys) (s:Dy) (c:Nat->Rat):Nat->Nat->Rat
 | 0,j=>if s.cols j<S.n then c (s.cols j) else 0
 | k+1,j=>if s.line k<0 then costF S s c k j else costF S s c k j+c k*s.a (s.line k).toNat j
def costs (S:Sys) (s:Dy) (c:Nat->Rat) (j:Nat):Rat:=costF S s c S.n j
theorem pick_cols {S:Sys} {s:Dy} (h:Perm S s) {j v:Nat} (hj:j<S.n) (e:s.cols j=v) (f:Nat->Rat):(sumN S.n fun k=>if s.cols k=v then f k else 0)=f j:=by
 rw [zAZ hj,if_pos e]
 intro k hk hne
 exact if_neg fun e2=>hne (h.inj k j hk hj (by rw [e2,e]))
theorem zCS {S:Sys} {s:Dy} (h:Dict S s) (c:Nat->Rat) {x:Nat->Rat} (hx:Sol S x):(sumN S.n fun v=>c v*x v)=sumN S.n fun j=>costs S s c j*x (s.cols j):=by
 have h1 : ∀ k,k<=S.n->(sumN S.n fun j=>costF S s c k j*x (s.cols j))=(sumN S.n fun j=>costF S s c 0 j*x (s.cols j))+sumN k fun v=>if s.line v<0 then 0 else c v*x v:=by
  intro k
  induction k with
  | zero=>intro _;rw [zAG];grind
  | succ k ih =>
   intro hk
   have ih:=ih (by omega)
   rw [zAo]
   by_cases h0:s.line k<0
   ·rw [if_pos h0]
    have e:(sumN S.n fun j=>costF S s c (k+1) j*x (s.cols j))=sumN S.n fun j=>costF S s c k j*x (s.cols j):=zAi fun j _=>by rw [costF,if_pos h0]
    rw [e,ih];grind
   ·rw [if_neg h0]
    obtain⟨h3,h4⟩:=(h.perm.lin k (by omega)).1 (by omega)
    have h5:=(h.sol x).1 hx (s.line k).toNat (by omega)
    rw [h4] at h5
    have e:(sumN S.n fun j=>costF S s c (k+1) j*x (s.cols j))=(sumN S.n fun j=>costF S s c k j*x (s.cols j))+c k*x k:=by
     rw [h5,<- zBn,<- zB8]
     refine zAi fun j _=>?_
     rw [costF,if_neg h0];grind
    rw [e,ih];grind
 have h2:(sumN S.n fun j=>costF S s c 0 j*x (s.cols j))=sumN S.n fun v=>if s.line v<0 then c v*x v else 0:=by
  have e1:(sumN S.n fun j=>costF S s c 0 j*x (s.cols j))=sumN S.n fun j=>sumN S.n fun v=>if s.cols j=v then c v*x v else 0:=by
   refine zAi fun j hj=>?_
   rw [costF]
   by_cases e:s.cols j<S.n
   ·rw [if_pos e,zAZ e,if_pos rfl]
    exact fun v _ hne=>if_neg fun e2=>hne e2.symm
   ·rw [if_neg e,zAM fun v hv=>if_neg (by omega)];grind
  rw [e1,zDJ]
  refine zAi fun v hv=>?_
  by_cases h0:s.line v<0
  ·rw [if_pos h0]
   obtain⟨_,j,hj,e⟩:=(h.perm.lin v (by omega)).2 h0
   exact pick_cols h.perm hj e fun _=>c v*x v
  ·rw [if_neg h0]
   refine zAM fun j hj=>if_neg fun e=>?_
   have:=(h.perm.col j hj).2
   rw [e] at this
   omega
 show _=sumN S.n fun j=>costF S s c S.n j*x (s.cols j)
 rw [h1 S.n (Nat.le_refl _),h2,<- zB8]
 refine zAi fun v _=>?_
 split <;> grind
def zAS (S:Sys) (s:Dy) (d:Nat->Rat) (j:Nat):Bool:=decide (d j≠0)&&free S s.val (s.cols j) (decide (0<d j))
def zBk (S:Sys) (s:Dy) (d:Nat->Rat):Option Nat:=first s.cols (zAS S s d) S.n
def cand (S:Sys) (s:Dy) (v:Nat) (rate:Rat):Option V2 :=
 match (if rate<0 then lower S v else upper S v) with
 | none=>none
 | some b=>some (zAn (sub2 b (s.val v)) rate⁻¹)
def takes (s:Dy) (acc:Option (Int × V2)) (i:Int) (v:Nat) (x:V2):Bool :=
 match acc with
 | none=>true
 | some (l,st)=>decide (cmp2 x st<0)||(decide (cmp2 x st=0)&&(decide (0<=l)&&(decide (i<0)||decide (v<s.basic l.toNat))))
def stop (S:Sys) (s:Dy) (acc:Option (Int × V2)) (i:Int) (v:Nat) (rate:Rat):Option (Int × V2) :=
 match cand S s v rate with
 | none=>acc
 | some x=>bif takes s acc i v x then some (i,x) else acc
def oneQ (up:Bool):Rat:=if up then 1 else -1
def zBa (S:Sys) (s:Dy) (j:Nat) (up:Bool):Nat->Option (Int × V2)
 | 0=>stop S s none (-1) (s.cols j) (oneQ up)
 | k+1=>if s.a k j≠0 then stop S s (zBa S s j up k) k (s.basic k) (s.a k j*oneQ up) else zBa S s j up k
def zBE (S:Sys) (s:Dy) (j:Nat) (up:Bool):Option (Int × V2):=zBa S s j up S.m
def zDt (up:Bool) (st:V2):V2:=if up then st else zAn st (-1)
inductive ResM | best (d:Nat->Rat) | ray (j:Nat) (up:Bool) | self (s:Dy) | go (i j:Nat) (s:Dy)
def stepM (S:Sys) (s:Dy) (c:Nat->Rat):ResM :=
 match zBk S s (costs S s c) with
 | none => .best (costs S s c)
 | some j=>match zBE S s j (decide (0<costs S s c j)) with
  | none => .ray j (decide (0<costs S s c j))
  | some (i,st)=>if 0<=i then .go i.toNat j (pivot (move s j (zDt (decide (0<costs S s c j)) st)) i.toNat j) else .self (move s j (zDt (decide (0<costs S s c j)) st))
def maxN (S:Sys) (c:Nat->Rat):Nat->Dy->Option (Dy × ResM)
 | 0,_=>none
 | f+1,s=>match stepM S s c with
  | .go _ _ s'=>maxN S c f s'
  | .self s'=>maxN S c f s'
  | r=>some (s,r)
def Feas (S:Sys) (s:Dy):Prop:=∀ v,S.n<=v->v<S.n+S.m->zE2 S s v
theorem zAJ {S:Sys} {s:Dy} (h:Inv S s) {d:Nat->Rat} {j:Nat} (hj:j<S.n):zAS S s d j=true↔d j≠0/\(S.n<=s.cols j->S.rel (s.cols j - S.n)≠3/\d j<0):=by
 unfold zAS
 rw [Bool.and_eq_true,decide_eq_true_eq]
 refine and_congr_right fun h0=>?_
 by_cases hn:s.cols j<S.n
 ·refine⟨fun _ h2=>by omega,fun _=>?_⟩
  unfold free
  rw [upper,if_pos hn,lower,if_pos (Or.inl hn)]
  cases decide (0<d j) <;> rfl
 ·have hval:=h.non j hj
  rw [if_neg hn] at hval
  have hz:cmp2 (ub S (s.cols j)) (ub S (s.cols j))=0:=zF4.2 rfl
  unfold free
  rw [hval,upper,if_neg hn]
  by_cases hp:0<d j
  ·rw [decide_eq_true hp]
   simp only [if_true,hz]
   refine⟨fun h2=>by simp at h2,fun h2=>?_⟩
   have:=(h2 (by omega)).2
   grind
  ·rw [decide_eq_false hp]
   simp only [Bool.false_eq_true,if_false]
   by_cases h3:S.rel (s.cols j - S.n)=3
   ·have hl:lower S (s.cols j)=some (ub S (s.cols j)):=by
     rw [lower,if_neg (by omega),ub,if_neg (by omega)]
    rw [hl]
    simp only [hz]
    refine⟨fun h2=>by simp at h2,fun h2=>absurd h3 (h2 (by omega)).1⟩
   ·rw [lower,if_pos (.inr h3)]
    exact⟨fun _ _=>⟨h3,by grind⟩,fun _=>rfl⟩
theorem zEb {S:Sys} {s:Dy} {v:Nat} (hv:S.n<=v) {r:Rat} (hr:r≠0):(0<r->cand S s v r=some (zAn (sub2 (ub S v) (s.val v)) r⁻¹))/\(r<0->S.rel (v - S.n)=3->cand S s v r=some (zAn (sub2 (ub S v) (s.val v)) r⁻¹))/\(r<0->S.rel (v - S.n)≠3->cand S s v r=none):=by
 unfold cand
 refine⟨fun h=>?_,fun h h3=>?_,fun h h3=>?_⟩
 ·rw [if_neg (by grind),upper,if_neg (by omega)]
 ·have hl:lower S v=some (ub S v):=by
   rw [lower,if_neg (by omega),ub,if_neg (by omega)]
  rw [if_pos h,hl]
 ·rw [if_pos h,lower,if_pos (.inr h3)]
theorem cand_var {S:Sys} {s:Dy} {v:Nat} (hv:v<S.n) (r:Rat):cand S s v r=none:=by
 unfold cand
 rw [lower,if_pos (Or.inl hv),upper,if_pos hv,ite_self]
theorem zF5 {S:Sys} {s:Dy} {v:Nat} {r:Rat} (hr:r≠0) {x:V2} (h:cand S s v r=some x):S.n<=v/\x=zAn (sub2 (ub S v) (s.val v)) r⁻¹/\(r<0->S.rel (v - S.n)=3):=by
 by_cases hv:v<S.n
 ·rw [cand_var hv] at h;cases h
 ·have hv:S.n<=v:=by omega
  obtain⟨h1,h2,h3⟩:=zEb (S:=S) (s:=s) hv hr
  by_cases hp:0<r
  ·rw [h1 hp] at h;cases h
   exact⟨hv,rfl,fun h=>by grind⟩
  ·have hn:r<0:=by grind
   by_cases he:S.rel (v - S.n)=3
   ·rw [h2 hn he] at h;cases h
    exact⟨hv,rfl,fun _=>he⟩
   ·rw [h3 hn he] at h;cases h
theorem oneQ_ne (up:Bool):oneQ up≠0:=by unfold oneQ;split <;> grind
theorem zD1 {a:Rat} (h:a≠0) (up:Bool):a*oneQ up≠0:=by
 intro e
 rcases Rat.mul_eq_zero.1 e with h1 | h1
 ·exact h h1
 ·exact oneQ_ne up h1
theorem self_none {S:Sys} {s:Dy} (h:Inv S s) {d:Nat->Rat} {j:Nat} (hj:j<S.n) (hi:zAS S s d j=true):cand S s (s.cols j) (oneQ (decide (0<d j)))=none:=by
 obtain⟨h1,h2⟩:=(zAJ h hj).1 hi
 by_cases hv:s.cols j<S.n
 ·exact cand_var hv _
 ·obtain⟨h3,h4⟩:=h2 (by omega)
  have:decide (0<d j)=false:=decide_eq_false (by grind)
  rw [this]
  exact (zEb (by omega) (oneQ_ne _)).2.2 (by unfold oneQ;grind) h3
theorem zD5 {S:Sys} {s:Dy} {j:Nat} {up:Bool} (h0:cand S s (s.cols j) (oneQ up)=none) : ∀ k,
  (∀ l st,zBa S s j up k=some (l,st)->∃ i:Nat,l=(i:Int)/\i<k/\s.a i j≠0/\cand S s (s.basic i) (s.a i j*oneQ up)=some st/\∀ q x,q<k->s.a q j≠0->cand S s (s.basic q) (s.a q j*oneQ up)=some x->le2 st x/\(x=st->s.basic i<=s.basic q)) /\
  (zBa S s j up k=none->∀ q,q<k->s.a q j≠0->cand S s (s.basic q) (s.a q j*oneQ up)=none)
 | 0=>by
  have e:zBa S s j up 0=none:=by rw [zBa,stop,h0]
  rw [e]
  exact⟨fun l st h=>(by cases h),fun _ q hq=>by omega⟩
 | k+1=>by
  obtain⟨h1,h2⟩:=zD5 h0 k
  rw [zBa]
  by_cases ha:s.a k j≠0
  ·rw [if_pos ha]
   unfold stop
   cases hc:cand S s (s.basic k) (s.a k j*oneQ up) with
   | none =>
    refine⟨fun l st h=>?_,fun h q hq hq0=>?_⟩
    ·obtain⟨i,g1,g2,g3,g4,g5⟩:=h1 l st h
     refine⟨i,g1,by omega,g3,g4,fun q x hq hq0 hqx=>?_⟩
     by_cases e:q=k
     ·subst e;rw [hc] at hqx;cases hqx
     ·exact g5 q x (by omega) hq0 hqx
    ·by_cases e:q=k
     ·subst e;exact hc
     ·exact h2 h q (by omega) hq0
   | some y =>
    simp only
    cases hl:zBa S s j up k with
    | none =>
     rw [takes,cond_true]
     refine⟨fun l st h=>?_,fun h=>by cases h⟩
     cases h
     refine⟨k,rfl,by omega,ha,hc,fun q x hq hq0 hqx=>?_⟩
     by_cases e:q=k
     ·subst e
      rw [hc] at hqx;cases hqx
      exact⟨.inr ⟨rfl,Rat.le_refl⟩,fun _=>Nat.le_refl _⟩
     ·rw [h2 hl q (by omega) hq0] at hqx;cases hqx
    | some r =>
     obtain⟨l0,st0⟩:=r
     obtain⟨i,g1,g2,g3,g4,g5⟩:=h1 l0 st0 hl
     subst g1
     cases ht:takes s (some ((i:Int),st0)) (k:Int) (s.basic k) y with
     | true =>
      rw [cond_true]
      have ht2:lt2 y st0\/(y=st0/\s.basic k<s.basic i):=by
       rw [takes,Bool.or_eq_true,Bool.and_eq_true,Bool.and_eq_true,Bool.or_eq_true,decide_eq_true_eq,decide_eq_true_eq,decide_eq_true_eq,decide_eq_true_eq,decide_eq_true_eq,cmp2_lt,zF4,Int.toNat_natCast] at ht
       rcases ht with h3 | ⟨h3,h4,h5 | h5⟩
       ·exact .inl h3
       ·omega
       ·exact .inr ⟨h3,h5⟩
      refine⟨fun l st h=>?_,fun h=>by cases h⟩
      cases h
      refine⟨k,rfl,by omega,ha,hc,fun q x hq hq0 hqx=>?_⟩
      by_cases e:q=k
      ·subst e
       rw [hc] at hqx;cases hqx
       exact⟨.inr ⟨rfl,Rat.le_refl⟩,fun _=>Nat.le_refl _⟩
      ·obtain⟨k1,k2⟩:=g5 q x (by omega) hq0 hqx
       rcases ht2 with h3 | ⟨h3,h4⟩
       ·refine⟨?_,fun e2=>?_⟩
        ·unfold le2 at k1 ⊢;unfold lt2 at h3;grind
        ·subst e2
         exfalso
         unfold le2 at k1;unfold lt2 at h3;grind
       ·subst h3
        exact⟨k1,fun e2=>by have:=k2 e2;omega⟩
     | false =>
      rw [cond_false]
      have ht2:le2 st0 y/\(y=st0->s.basic i<=s.basic k):=by
       rw [takes,Bool.or_eq_false_iff,decide_eq_false_iff_not,cmp2_lt] at ht
       refine⟨not_lt2.1 ht.1,fun e=>?_⟩
       have h3:=ht.2
       rw [decide_eq_true (zF4.2 e),Bool.true_and,decide_eq_true (by omega:(0:Int)<=(i:Int)),Bool.true_and,decide_eq_false (by omega : ¬ (k:Int)<0),Bool.false_or,decide_eq_false_iff_not,Int.toNat_natCast] at h3
       omega
      refine⟨fun l st h=>?_,fun h=>by cases h⟩
      cases h
      refine⟨i,rfl,by omega,g3,g4,fun q x hq hq0 hqx=>?_⟩
      by_cases e:q=k
      ·subst e
       rw [hc] at hqx;cases hqx
       exact ht2
      ·exact g5 q x (by omega) hq0 hqx
  ·rw [if_neg ha]
   refine⟨fun l st h=>?_,fun h q hq hq0=>?_⟩
   ·obtain⟨i,g1,g2,g3,g4,g5⟩:=h1 l st h
    refine⟨i,g1,by omega,g3,g4,fun q x hq hq0 hqx=>?_⟩
    by_cases e:q=k
    ·subst e;exact absurd hq0 ha
    ·exact g5 q x (by omega) hq0 hqx
   ·by_cases e:q=k
    ·subst e;exact absurd hq0 ha
    ·exact h2 h q (by omega) hq0
structure StepM (S:Sys) (s:Dy) (c:Nat->Rat) (i j:Nat) (st:V2) (s' : Dy):Prop where
 hj:j<S.n
 imp:zAS S s (costs S s c) j=true
 low : ∀ k,k<S.n->zAS S s (costs S s c) k=true->s.cols j<=s.cols k
 hi:i<S.m
 ne:s.a i j≠0
 cnd:cand S s (s.basic i) (s.a i j*oneQ (decide (0<costs S s c j)))=some st
 min : ∀ q x,q<S.m->s.a q j≠0->cand S s (s.basic q) (s.a q j*oneQ (decide (0<costs S s c j)))=some x->le2 st x/\(x=st->s.basic i<=s.basic q)
 eq:s' = pivot (move s j (zDt (decide (0<costs S s c j)) st)) i j
theorem zDL {S:Sys} {s:Dy} (h:Inv S s) {c:Nat->Rat} : (∀ s',stepM S s c ≠ .self s')/\∀ i j s',stepM S s c = .go i j s'->∃ st,StepM S s c i j st s':=by
 unfold stepM
 cases hi:zBk S s (costs S s c) with
 | none=>exact⟨fun s' e=>(by cases e),fun i j s' e=>by cases e⟩
 | some j =>
  obtain⟨h1,h2,h3⟩:=zAV hi
  have h0:=self_none h h1 h2
  simp only
  cases hl:zBE S s j (decide (0<costs S s c j)) with
  | none=>exact⟨fun s' e=>(by cases e),fun i j s' e=>by cases e⟩
  | some r =>
   obtain⟨l,st⟩:=r
   obtain⟨i,g1,g2,g3,g4,g5⟩:=(zD5 h0 S.m).1 l st hl
   subst g1
   simp only
   rw [if_pos (by omega),Int.toNat_natCast]
   refine⟨fun s' e=>(by cases e),fun i' j' s' e=>?_⟩
   cases e
   exact⟨st,h1,h2,h3,g2,g3,g4,g5,rfl⟩
theorem inv_mul_one (a:Rat) (up:Bool):(a*oneQ up)⁻¹=a⁻¹*oneQ up:=by
 rw [Rat.inv_mul_rev]
 unfold oneQ
 split
 ·have:(1:Rat)⁻¹=1:=Rat.inv_eq_of_mul_eq_one (by grind)
  rw [this];grind
 ·have:(-1:Rat)⁻¹ = -1:=Rat.inv_eq_of_mul_eq_one (by grind)
  rw [this];grind
theorem oneQ_sq (up:Bool):oneQ up*oneQ up=1:=by unfold oneQ;split <;> grind
theorem zFe (up:Bool) (st:V2):zDt up st=zAn st (oneQ up):=by
 unfold zDt oneQ
 cases up
 ·rfl
 ·simp only [if_true,zAn]
  exact Prod.ext (by show _=_*(1:Rat);grind) (by show _=_*(1:Rat);grind)
theorem StepM.next {S:Sys} {s s' : Dy} {c:Nat->Rat} {i j:Nat} {st:V2} (h:StepM S s c i j st s'):S.n<=s.basic i/\s' = nextS S s (ub S (s.basic i)) i j:=by
 obtain⟨h1,h2,h3⟩:=zF5 (zD1 h.ne _) h.cnd
 refine⟨h1,?_⟩
 rw [h.eq,nextS]
 congr 2
 rw [zFe,h2]
 have e:(s.a i j*oneQ (decide (0<costs S s c j)))⁻¹*oneQ (decide (0<costs S s c j))=(s.a i j)⁻¹:=by
  rw [inv_mul_one,Rat.mul_assoc,oneQ_sq,Rat.mul_one]
 unfold zAn
 simp only
 rw [Rat.mul_assoc,Rat.mul_assoc,e]
theorem StepM.inv {S:Sys} {s s' : Dy} {c:Nat->Rat} {i j:Nat} {st:V2} (hI:Inv S s) (h:StepM S s c i j st s'):Inv S s':=by
 obtain⟨h1,h2⟩:=h.next
 rw [h2]
 exact next_inv hI h.hi h.hj h.ne h1
theorem StepM.nonneg {S:Sys} {s s' : Dy} {c:Nat->Rat} {i j:Nat} {st:V2} (hI:Inv S s) (hF:Feas S s) (h:StepM S s c i j st s'):le2 zero2 st:=by
 have hr:=zD1 h.ne (decide (0<costs S s c j))
 obtain⟨h1,h2,h3⟩:=zF5 hr h.cnd
 obtain⟨w1,w2⟩:=hF _ h1 (hI.dict.perm.bas i h.hi).1
 generalize hq:s.a i j*oneQ (decide (0<costs S s c j))=r at hr h2 h3
 by_cases hp:0<r
 ·have hp':=Rat.inv_pos.2 hp
  rw [h2]
  unfold le2 at w1 ⊢
  simp only [zAn,sub2,zero2]
  rcases w1 with w | ⟨w,w'⟩
  ·left;exact Rat.mul_pos (by grind) hp'
  ·right
   rw [w]
   refine⟨by grind,Rat.mul_nonneg (by grind) (Rat.le_of_lt hp')⟩
 ·rw [h2,w2 (h3 (by grind))]
  right
  simp only [zAn,sub2,zero2]
  exact⟨by grind,by grind⟩
theorem StepM.val {S:Sys} {s s' : Dy} {c:Nat->Rat} {i j:Nat} {st:V2} (h:StepM S s c i j st s') (v:Nat) :
  s'.val v=if v=s.cols j then add2 (s.val v) (zAn st (oneQ (decide (0<costs S s c j)))) else if 0<=s.line v then add2 (s.val v) (zAn st (s.a (s.line v).toNat j*oneQ (decide (0<costs S s c j)))) else s.val v:=by
 rw [h.eq,zFe]
 simp only [pivot,move]
 split
 ·rfl
 ·split
  ·simp only [zAn]
   refine Prod.ext ?_ ?_ <;> simp only [add2] <;> grind
  ·rfl
theorem StepM.feas {S:Sys} {s s' : Dy} {c:Nat->Rat} {i j:Nat} {st:V2} (hI:Inv S s) (hF:Feas S s) (h:StepM S s c i j st s'):Feas S s':=by
 intro v hv hvN
 have hst:=h.nonneg hI hF
 obtain⟨w1,w2⟩:=hF v hv hvN
 obtain⟨i1,i2⟩:=(zAJ hI h.hj).1 h.imp
 unfold zE2
 rw [h.val v]
 by_cases e1:v=s.cols j
 ·rw [if_pos e1]
  obtain⟨h3,h4⟩:=i2 (by omega)
  rw [<- e1] at h3
  rw [show decide (0<costs S s c j)=false from decide_eq_false (by grind)]
  refine⟨?_,fun h5=>absurd h5 h3⟩
  unfold le2 at w1 hst ⊢
  simp only [zero2,add2,zAn,oneQ,Bool.false_eq_true,if_false] at hst ⊢
  grind
 ·rw [if_neg e1]
  by_cases e2:0<=s.line v
  ·rw [if_pos e2]
   obtain⟨h3,h4⟩:=(hI.dict.perm.lin v hvN).1 e2
   generalize hk:(s.line v).toNat=k at h4
   have hkm:k<S.m:=by omega
   by_cases ha:s.a k j=0
   ·have e:add2 (s.val v) (zAn st (s.a k j*oneQ (decide (0<costs S s c j))))=s.val v:=by
     rw [ha]
     exact Prod.ext (by simp only [add2,zAn];grind) (by simp only [add2,zAn];grind)
    rw [e];exact⟨w1,w2⟩
   ·have hr:=zD1 ha (decide (0<costs S s c j))
    obtain⟨c1,c2,c3⟩:=zEb (S:=S) (s:=s) hv hr
    have hmin:=h.min k
    rw [h4] at hmin
    generalize hq:s.a k j*oneQ (decide (0<costs S s c j))=r at hr c1 c2 c3 hmin
    have hrr:=Rat.mul_inv_cancel r hr
    by_cases h3:S.rel (v - S.n)=3
    ·
     have hv0:=w2 h3
     have hz:zAn (sub2 (ub S v) (s.val v)) r⁻¹=zero2:=by
      rw [hv0]
      exact Prod.ext (by simp only [zAn,sub2,zero2];grind) (by simp only [zAn,sub2,zero2];grind)
     have hle:le2 st zero2:=by
      by_cases hp:0<r
      ·have:=(hmin _ hkm ha (c1 hp)).1;rwa [hz] at this
      ·have:=(hmin _ hkm ha (c2 (by grind) h3)).1;rwa [hz] at this
     have hs0:st=zero2:=by
      unfold le2 at hle hst
      simp only [zero2] at hle hst
      exact Prod.ext (by show _=(0:Rat);grind) (by show _=(0:Rat);grind)
     have e:add2 (s.val v) (zAn st r)=s.val v:=by
      rw [hs0]
      exact Prod.ext (by simp only [add2,zAn,zero2];grind) (by simp only [add2,zAn,zero2];grind)
     rw [e];exact⟨w1,w2⟩
    ·refine⟨?_,fun h5=>absurd h5 h3⟩
     by_cases hp:0<r
     ·have hle:=(hmin _ hkm ha (c1 hp)).1
      have hp':=Rat.inv_pos.2 hp
      unfold le2 at hle ⊢
      simp only [zAn,sub2,add2] at hle ⊢
      have m1 : ∀ p q:Rat,p<q*r⁻¹->p*r<q:=fun p q hlt=>by
       have:=Rat.mul_lt_mul_of_pos_right hlt hp
       rw [Rat.mul_assoc,Rat.mul_comm r⁻¹,hrr,Rat.mul_one] at this
       exact this
      have m2 : ∀ p q:Rat,p<=q*r⁻¹->p*r<=q:=fun p q hlt=>by
       have:=Rat.mul_le_mul_of_nonneg_right hlt (Rat.le_of_lt hp)
       rw [Rat.mul_assoc,Rat.mul_comm r⁻¹,hrr,Rat.mul_one] at this
       exact this
      rcases hle with h5 | ⟨h5,h6⟩
      ·left;have:=m1 _ _ h5;grind
      ·right
       have:=m2 _ _ h6
       refine⟨?_,by grind⟩
       rw [h5,Rat.mul_assoc,Rat.mul_comm r⁻¹,hrr];grind
     ·have hn:0 < - r:=by grind
      unfold le2 at w1 hst ⊢
      simp only [zero2] at hst
      simp only [zAn,add2]
      rcases hst with h5 | ⟨h5,h6⟩
      ·have:=Rat.mul_pos h5 hn
       left;grind
      ·have:=Rat.mul_nonneg h6 (Rat.le_of_lt hn)
       rw [<- h5]
       grind
  ·rw [if_neg e2];exact⟨w1,w2⟩
def delta (s:Dy) (j:Nat) (one:Rat):Nat->Rat:=fun v=>if v=s.cols j then one else if 0<=s.line v then s.a (s.line v).toNat j*one else 0
theorem zDZ {S:Sys} {s:Dy} (h:Perm S s) {j k:Nat} (hj:j<S.n) (hk:k<S.n) (one:Rat):delta s j one (s.cols k)=if k=j then one else 0:=by
 unfold delta
 by_cases e:k=j
 ·subst e;rw [if_pos rfl,if_pos rfl]
 ·rw [if_neg (fun e2=>e (h.inj k j hk hj e2)),(h.col k hk).2,if_neg (by omega),if_neg e]
theorem zEa {S:Sys} {s:Dy} (h:Perm S s) {i j:Nat} (hi:i<S.m) (hj:j<S.n) (one:Rat):delta s j one (s.basic i)=s.a i j*one:=by
 unfold delta
 rw [if_neg (h.ne hi hj),(h.bas i hi).2,if_pos (by omega),Int.toNat_natCast]
theorem zF0 {S:Sys} {s:Dy} (h:Dict S s) {j:Nat} (hj:j<S.n) (one:Rat):Sol S (delta s j one):=by
 rw [h.sol]
 intro i hi
 rw [zEa h.perm hi hj,zAZ hj,zDZ h.perm hj hj,if_pos rfl]
 intro k hk hne
 rw [zDZ h.perm hj hk,if_neg hne,Rat.mul_zero]
theorem zEz {S:Sys} {s:Dy} (h:Dict S s) {j:Nat} (hj:j<S.n) (one:Rat) (c:Nat->Rat):(sumN S.n fun v=>c v*delta s j one v)=costs S s c j*one:=by
 rw [zCS h c (zF0 h hj one),zAZ hj,zDZ h.perm hj hj,if_pos rfl]
 intro k hk hne
 rw [zDZ h.perm hj hk,if_neg hne,Rat.mul_zero]
theorem one_pos {d:Rat} (h:d≠0):0<d*oneQ (decide (0<d)):=by
 by_cases hp:0<d
 ·rw [decide_eq_true hp];unfold oneQ;grind
 ·rw [decide_eq_false hp];unfold oneQ;grind
theorem StepM.delta {S:Sys} {s s' : Dy} {c:Nat->Rat} {i j:Nat} {st:V2} (h:StepM S s c i j st s') (v:Nat):s'.val v=add2 (s.val v) (zAn st (delta s j (oneQ (decide (0<costs S s c j))) v)):=by
 rw [h.val v]
 unfold Tb.delta
 split
 ·rfl
 ·split
  ·rfl
  ·exact Prod.ext (by simp only [add2,zAn];grind) (by simp only [add2,zAn];grind)
def zval (S:Sys) (s:Dy) (c:Nat->Rat):V2:=(sumN S.n fun v=>c v*(s.val v).1,sumN S.n fun v=>c v*(s.val v).2)
theorem StepM.z {S:Sys} {s s' : Dy} {c:Nat->Rat} {i j:Nat} {st:V2} (hI:Inv S s) (h:StepM S s c i j st s'):zval S s' c=add2 (zval S s c) (zAn st (costs S s c j*oneQ (decide (0<costs S s c j)))):=by
 have hd:=zEz hI.dict h.hj (oneQ (decide (0<costs S s c j))) c
 refine Prod.ext ?_ ?_
 ·show (sumN S.n fun v=>c v*(s'.val v).1)=(sumN S.n fun v=>c v*(s.val v).1)+st.1*_
  rw [<- hd,<- zBn,<- zB8]
  refine zAi fun v _=>?_
  rw [h.delta v];simp only [add2,zAn];grind
 ·show (sumN S.n fun v=>c v*(s'.val v).2)=(sumN S.n fun v=>c v*(s.val v).2)+st.2*_
  rw [<- hd,<- zBn,<- zB8]
  refine zAi fun v _=>?_
  rw [h.delta v];simp only [add2,zAn];grind
theorem StepM.z_le {S:Sys} {s s' : Dy} {c:Nat->Rat} {i j:Nat} {st:V2} (hI:Inv S s) (hF:Feas S s) (h:StepM S s c i j st s'):le2 (zval S s c) (zval S s' c)/\(st≠zero2->lt2 (zval S s c) (zval S s' c)):=by
 have hst:=h.nonneg hI hF
 have hp:=one_pos ((zAJ hI h.hj).1 h.imp).1
 rw [h.z hI]
 generalize costs S s c j*oneQ (decide (0<costs S s c j))=p at hp
 generalize zval S s c=z
 have m1:0<st.1->0<st.1*p:=fun h=>Rat.mul_pos h hp
 have m2:0<st.2->0<st.2*p:=fun h=>Rat.mul_pos h hp
 have m3:0<=st.2->0<=st.2*p:=fun h=>Rat.mul_nonneg h (Rat.le_of_lt hp)
 have m4:st.1=0->st.1*p=0:=fun h=>by rw [h,Rat.zero_mul]
 refine⟨?_,fun hne=>?_⟩
 ·unfold le2 at hst ⊢
  simp only [zero2,add2,zAn] at hst ⊢
  grind
 ·have hne' : st.1≠0\/st.2≠0:=by
   refine Decidable.byContradiction fun hno=>hne ?_
   exact Prod.ext (by show _=(0:Rat);grind) (by show _=(0:Rat);grind)
  unfold le2 at hst
  unfold lt2
  simp only [zero2,add2,zAn] at hst ⊢
  grind
theorem StepM.same {S:Sys} {s s' : Dy} {c:Nat->Rat} {i j:Nat} (h:StepM S s c i j zero2 s') (v:Nat):s'.val v=s.val v:=by
 rw [h.delta v]
 exact Prod.ext (by simp only [add2,zAn,zero2];grind) (by simp only [add2,zAn,zero2];grind)
theorem max_bland {S:Sys} {s1 s2 s1' s2' : Dy} {c:Nat->Rat} (h1:Inv S s1) (h2:Inv S s2) {i1 j1 i2 j2:Nat} {st2:V2} (g1:StepM S s1 c i1 j1 zero2 s1') (g2:StepM S s2 c i2 j2 st2 s2')
  (hval : ∀ v,s1.val v=s2.val v) (hr:s1.basic i1=s2.cols j2) (hl:s1.cols j1<s2.cols j2) (hsame : ∀ v,s2.cols j2<v->(nbv S s1 v↔nbv S s2 v)):False:=by
 have hone:=one_pos ((zAJ h1 g1.hj).1 g1.imp).1
 have himp1:=((zAJ h1 g1.hj).1 g1.imp).2
 rw [<- zEz h1.dict g1.hj,zCS h2.dict c (zF0 h1.dict g1.hj _)] at hone
 obtain⟨k,hk,hpos⟩:=zDy hone
 have hd0:costs S s2 c k≠0:=fun e=>by rw [e,Rat.zero_mul] at hpos;grind
 have hδ0:delta s1 j1 (oneQ (decide (0<costs S s1 c j1))) (s2.cols k)≠0:=fun e=>by rw [e,Rat.mul_zero] at hpos;grind
 have hnb2:=zFs h2.dict.perm hk
 have hδ:s2.cols k=s1.cols j1\/(s2.cols k≠s1.cols j1/\0<=s1.line (s2.cols k)):=by
  by_cases e:s2.cols k=s1.cols j1
  ·exact .inl e
  ·right
   refine⟨e,?_⟩
   unfold delta at hδ0
   rw [if_neg e] at hδ0
   exact Decidable.byContradiction fun h0=>hδ0 (if_neg h0)
 have hneg : ∀ p q:Rat,0<p->q<0->¬ 0<p*q:=fun p q hp hq hpq=>by
  have:=Rat.mul_pos hp (show 0 < -q by grind)
  grind
 rcases Nat.lt_trichotomy (s2.cols j2) (s2.cols k) with hgt | heq | hlt
 ·
  have hn1:=(hsame _ hgt).2 hnb2
  rcases hδ with e | ⟨_,e⟩
  ·omega
  ·have:=hn1.2;omega
 ·
  have hkj:=h2.dict.perm.inj j2 k g2.hj hk heq
  subst hkj
  obtain⟨r1,r2,r3⟩:=zF5 (zD1 g1.ne _) g1.cnd
  rw [hr] at r1 r3
  obtain⟨q1,q2⟩:=((zAJ h2 g2.hj).1 g2.imp).2 r1
  have hrate:0<s1.a i1 j1*oneQ (decide (0<costs S s1 c j1)):=by
   have:=zD1 g1.ne (decide (0<costs S s1 c j1))
   have : ¬ s1.a i1 j1*oneQ (decide (0<costs S s1 c j1))<0:=fun hn=>q1 (r3 hn)
   grind
  rw [<- hr,zEa h1.dict.perm g1.hi g1.hj,Rat.mul_comm] at hpos
  exact hneg _ _ hrate q2 hpos
 ·
  have hni:zAS S s2 (costs S s2 c) k=false:=by
   cases hh:zAS S s2 (costs S s2 c) k with
   | false=>rfl
   | true=>have:=g2.low k hk hh;omega
  have hni' : ¬ (costs S s2 c k≠0/\(S.n<=s2.cols k->S.rel (s2.cols k - S.n)≠3/\costs S s2 c k<0)):=by
   rw [<- zAJ h2 hk,hni];decide
  have hrow:S.n<=s2.cols k:=Decidable.byContradiction fun h0=>hni' ⟨hd0,fun h3=>absurd h3 h0⟩
  have hd:S.rel (s2.cols k - S.n)≠3->0<costs S s2 c k:=fun h3=>by
   refine Decidable.byContradiction fun h0=>hni' ⟨hd0,fun _=>⟨h3,by grind⟩⟩
  rcases hδ with e | ⟨e,e2⟩
  ·
   rw [e] at hd hrow
   obtain⟨q1,q2⟩:=himp1 hrow
   have hdp:=hd q1
   unfold delta at hpos
   rw [if_pos e,show decide (0<costs S s1 c j1)=false from decide_eq_false (by grind)] at hpos
   exact hneg _ _ hdp (by unfold oneQ;grind) hpos
  ·obtain⟨p1,p2⟩:=(h1.dict.perm.lin _ hnb2.1).1 e2
   generalize hq:(s1.line (s2.cols k)).toNat=q at p2
   have hqm:q<S.m:=by omega
   rw [<- p2,zEa h1.dict.perm hqm g1.hj] at hpos hδ0
   have ha:s1.a q j1≠0:=fun e=>by rw [e,Rat.zero_mul] at hδ0;exact hδ0 rfl
   have hub:s1.val (s2.cols k)=ub S (s2.cols k):=by
    rw [hval,zCF h2 hnb2,if_neg (by omega)]
   obtain⟨c1,c2,c3⟩:=zEb (S:=S) (s:=s1) hrow hδ0
   have hz : ∀ r:Rat,zAn (sub2 (ub S (s2.cols k)) (s1.val (s2.cols k))) r=zero2:=fun r=>by
    rw [hub]
    exact Prod.ext (by simp only [zAn,sub2,zero2];grind) (by simp only [zAn,sub2,zero2];grind)
   have hmin:=g1.min q
   rw [p2] at hmin
   have hno : ∀ x,cand S s1 (s2.cols k) (s1.a q j1*oneQ (decide (0<costs S s1 c j1)))=some x->x=zero2->False:=fun x hx hx0=>by
    have:=(hmin x hqm ha hx).2 hx0
    omega
   by_cases hp:0<s1.a q j1*oneQ (decide (0<costs S s1 c j1))
   ·exact hno _ (c1 hp) (hz _)
   ·have hn:s1.a q j1*oneQ (decide (0<costs S s1 c j1))<0:=by grind
    by_cases h3:S.rel (s2.cols k - S.n)=3
    ·exact hno _ (c2 hn h3) (hz _)
    ·exact hneg _ _ (hd h3) hn hpos
theorem php : ∀ (M:Nat) (f:Nat->Nat),(∀ k,k<=M->f k<M)->∃ i j,i<j/\j<=M/\f i=f j
 | 0,f,h=>by have:=h 0 (Nat.le_refl _);omega
 | M+1,f,h=>by
  by_cases hc : ∃ k,k<=M/\f k=f (M+1)
  ·obtain⟨k,h1,h2⟩:=hc
   exact⟨k,M+1,by omega,Nat.le_refl _,h2⟩
  ·have hne : ∀ k,k<=M->f k≠f (M+1):=fun k h1 h2=>hc ⟨k,h1,h2⟩
   obtain⟨i,j,h1,h2,h3⟩:=php M (fun k=>if f k=M then f (M+1) else f k) fun k hk=>by
    have a:=h k (by omega)
    have b:=h (M+1) (Nat.le_refl _)
    have c:=hne k hk
    show (if _ then _ else _)<_
    split <;> omega
   refine⟨i,j,h1,by omega,?_⟩
   have a:=hne i (by omega)
   have b:=hne j h2
   split at h3 <;> split at h3 <;> omega
def mask (p:Nat->Bool):Nat->Nat
 | 0=>0
 | k+1=>mask p k+if p k then 2 ^ k else 0
theorem zG5 (p:Nat->Bool) : ∀ k,mask p k<2 ^ k
 | 0=>by simp [mask]
 | k+1=>by
  have:=zG5 p k
  rw [mask,Nat.pow_succ]
  split <;> omega
theorem mask_inj {p q:Nat->Bool} : ∀ {k:Nat},mask p k=mask q k->∀ v,v<k->p v=q v
 | k+1,h,v,hv=>by
  rw [mask,mask] at h
  have h1:=zG5 p k
  have h2:=zG5 q k
  have hk:p k=q k:=by
   cases hp:p k <;> cases hq:q k
   ·rfl
   ·rw [hp,hq] at h;simp at h;omega
   ·rw [hp,hq] at h;simp at h;omega
   ·rfl
  by_cases e:v=k
  ·rw [e,hk]
  ·rw [hk] at h
   exact mask_inj (k:=k) (by omega) v (by omega)
theorem le2_trans {a b c:V2} (h:le2 a b) (k:le2 b c):le2 a c:=by unfold le2 at *;grind
theorem lt2_le2 {a b c:V2} (h:lt2 a b) (k:le2 b c):lt2 a c:=by unfold lt2 le2 at *;grind
theorem le2_lt2 {a b c:V2} (h:le2 a b) (k:lt2 b c):lt2 a c:=by unfold lt2 le2 at *;grind
theorem max_ends {S:Sys} {s:Dy} (h:Inv S s) (hF:Feas S s) (c:Nat->Rat) : ∃ f r,maxN S c f s=some r:=by
 refine Classical.byContradiction fun hno=>?_
 have hnone : ∀ f,maxN S c f s=none:=fun f=>by
  cases hf:maxN S c f s with
  | none=>rfl
  | some r=>exact absurd ⟨f,r,hf⟩ hno
 let nx:Dy->Dy:=fun s=>match stepM S s c with | .go _ _ s'=>s' | _=>s
 let run:Nat->Dy:=fun t=>Nat.rec s (fun _ s=>nx s) t
 have hrun : ∀ t,run (t+1)=nx (run t):=fun t=>rfl
 have hone : ∀ u,Inv S u->Feas S u->(∀ f,maxN S c f u=none)->(∃ i j st,StepM S u c i j st (nx u))/\Inv S (nx u)/\Feas S (nx u)/\∀ f,maxN S c f (nx u)=none:=by
  intro u hu hfu hf
  have h1:=hf 1
  cases hs:stepM S u c with
  | best d=>simp only [maxN,hs] at h1;cases h1
  | ray j up=>simp only [maxN,hs] at h1;cases h1
  | self s'=>exact absurd hs ((zDL hu).1 s')
  | go i j u' =>
   have e:nx u=u':=by show (match stepM S u c with | .go _ _ s'=>s' | _=>u)=_;rw [hs]
   rw [e]
   obtain⟨st,hst⟩:=(zDL hu).2 i j u' hs
   refine⟨⟨i,j,st,hst⟩,hst.inv hu,hst.feas hu hfu,fun f=>?_⟩
   have h2:=hf (f+1)
   simp only [maxN,hs] at h2
   exact h2
 have hall : ∀ t,Inv S (run t)/\Feas S (run t)/\(∀ f,maxN S c f (run t)=none):=by
  intro t
  induction t with
  | zero=>exact⟨h,hF,hnone⟩
  | succ t ih =>
   obtain⟨_,k2,k3,k4⟩:=hone _ ih.1 ih.2.1 ih.2.2
   exact⟨k2,k3,k4⟩
 have hst : ∀ t,∃ i j st,StepM S (run t) c i j st (run (t+1)):=fun t=>(hone _ (hall t).1 (hall t).2.1 (hall t).2.2).1
 obtain⟨fi,hst⟩:=Classical.axiomOfChoice hst
 obtain⟨fj,hst⟩:=Classical.axiomOfChoice hst
 obtain⟨fs,hst⟩:=Classical.axiomOfChoice hst
 have hz : ∀ t,le2 (zval S (run t) c) (zval S (run (t+1)) c)/\(fs t≠zero2->lt2 (zval S (run t) c) (zval S (run (t+1)) c)):=fun t=>(hst t).z_le (hall t).1 (hall t).2.1
 have hmono : ∀ a b,a<=b->le2 (zval S (run a) c) (zval S (run b) c):=by
  intro a b hab
  induction hab with
  | refl=>right;exact⟨rfl,Rat.le_refl⟩
  | step _ ih=>exact le2_trans ih (hz _).1
 have hmove : ∀ p,∃ t,p<=t/\t<p+2 ^ (S.n+S.m)/\fs t≠zero2:=by
  intro p
  refine Classical.byContradiction fun hn=>?_
  have h0 : ∀ t,p<=t->t<p+2 ^ (S.n+S.m)->fs t=zero2:=fun t h1 h2=>Classical.byContradiction fun h3=>hn ⟨t,h1,h2,h3⟩
  have hv : ∀ t,p<=t->t<=p+2 ^ (S.n+S.m)->∀ v,(run t).val v=(run p).val v:=by
   intro t h1
   induction h1 with
   | refl=>intro _ v;rfl
   | step h1 ih =>
    rename_i t
    intro h2 v
    have h1' : p<=t:=h1
    rw [<- ih (by omega) v]
    have hs:=hst t
    rw [h0 t h1' (by omega)] at hs
    exact hs.same v
  have hw:Walk p (p+2 ^ (S.n+S.m)) (fun t=>(run t).cols (fj t)) (fun t=>(run t).basic (fi t)) (fun t v=>nbv S (run t) v):=by
   refine⟨fun t _ _=>zFs (hall t).1.dict.perm (hst t).hj,fun t _ _ h5=>?_,fun t v _ _=>?_,fun t1 t2 a1 a2 a3 a4 e1 e2 e3 e4=>?_⟩
   ·have:=((hall t).1.dict.perm.bas _ (hst t).hi).2
    have:=h5.2
    omega
   ·show nbv S (run (t+1)) v↔_
    rw [(hst t).next.2]
    have hm:Perm S (move (run t) (fj t) (zAn (sub2 (ub S ((run t).basic (fi t))) ((run t).val ((run t).basic (fi t)))) ((run t).a (fi t) (fj t))⁻¹)) :=
     ⟨(hall t).1.dict.perm.bas,(hall t).1.dict.perm.col,(hall t).1.dict.perm.inj,(hall t).1.dict.perm.lin⟩
    exact pivot_nbv hm (hst t).hi (hst t).hj v
   ·have g1:=hst t1
    rw [h0 t1 a1 a2] at g1
    exact max_bland (hall t1).1 (hall t2).1 g1 (hst t2) (fun v=>by rw [hv t1 a1 (by omega),hv t2 a3 (by omega)]) e1 e2 e4
  have:=hw.short (S.n+S.m) (Nat.le_add_right _ _) fun t _ _=>⟨((hall t).1.dict.perm.col _ (hst t).hj).1,((hall t).1.dict.perm.bas _ (hst t).hi).1⟩
  omega
 have hgrow : ∀ a b,a+2 ^ (S.n+S.m)<=b->lt2 (zval S (run a) c) (zval S (run b) c):=by
  intro a b hab
  obtain⟨t,h1,h2,h3⟩:=hmove a
  exact le2_lt2 (hmono a t h1) (lt2_le2 ((hz t).2 h3) (hmono (t+1) b (by omega)))
 obtain⟨i,j,hij,hj,he⟩:=php (2 ^ (S.n+S.m)) (fun k=>mask (fun v=>decide ((run (k*2 ^ (S.n+S.m))).line v<0)) (S.n+S.m)) fun k _=>zG5 _ _
 have hb:=mask_inj he
 have hlt:=hgrow (i*2 ^ (S.n+S.m)) (j*2 ^ (S.n+S.m)) (by
  have:(i+1)*2 ^ (S.n+S.m)<=j*2 ^ (S.n+S.m):=Nat.mul_le_mul_right _ hij
  rw [Nat.add_mul] at this
  omega)
 generalize hu:run (i*2 ^ (S.n+S.m))=u at hb hlt
 generalize hu2:run (j*2 ^ (S.n+S.m))=u2 at hb hlt
 have hI:Inv S u:=by rw [<- hu];exact (hall _).1
 have hI2:Inv S u2:=by rw [<- hu2];exact (hall _).1
 have hcol : ∀ k,k<S.n->u.val (u.cols k)=u2.val (u.cols k):=by
  intro k hk
  have h1:=zFs hI.dict.perm hk
  have h2:nbv S u2 (u.cols k):=⟨h1.1,by
   have:=hb _ h1.1
   rw [decide_eq_true h1.2] at this
   exact of_decide_eq_true this.symm⟩
  rw [zCF hI h1,zCF hI2 h2]
 have h1:=sol_ext hI.dict hI.sol1 hI2.sol1 fun k hk=>by rw [hcol k hk]
 have h2:=sol_ext hI.dict hI.sol2 hI2.sol2 fun k hk=>by rw [hcol k hk]
 have hzz:zval S u c=zval S u2 c:=by
  refine Prod.ext ?_ ?_
  ·exact zAi fun v hv=>by rw [h1 v (by omega)]
  ·exact zAi fun v hv=>by rw [h2 v (by omega)]
 rw [hzz] at hlt
 unfold lt2 at hlt
 grind
end Go.Tb
