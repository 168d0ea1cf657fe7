/- Part of the proof: TbD, TbE, TbF, TbG, TbH, SiK, SiK2. -/
import Derived.Test.YtoaiappkhcjagaaGreatDoorMSiO4
import Derived.Test.YtoaiappkhcjagaaGreatDoorMV7s
import Derived.Test.YtoaiappkhcjagaaGreatDoorSiV4
set_option linter.unusedVariables false
set_option linter.unusedSimpArgs false
namespace Go.Tb
def sgnQ (q:Rat):Int:=if q<0 then -1 else if q=0 then 0 else 1
def cmpQ (p q:Rat):Int:=sgnQ (p - q)
def cmp2 (v w:V2):Int:=if cmpQ v.1 w.1≠0 then cmpQ v.1 w.1 else cmpQ v.2 w.2
theorem sgnQ_neg {q:Rat} : sgnQ q<0↔q<0:=by unfold sgnQ;grind
theorem sgnQ_pos {q:Rat} : 0<sgnQ q↔0<q:=by unfold sgnQ;grind
theorem sgnQ_zero {q:Rat} : sgnQ q=0↔q=0:=by unfold sgnQ;grind
theorem zDs {p q:Rat} : cmpQ p q<0↔p<q:=by unfold cmpQ;rw [sgnQ_neg];grind
theorem zFi {p q:Rat} : 0<cmpQ p q↔q<p:=by unfold cmpQ;rw [sgnQ_pos];grind
theorem zFj {p q:Rat} : cmpQ p q=0↔p=q:=by unfold cmpQ;rw [sgnQ_zero];grind
theorem cmp2_lt {v w:V2} : cmp2 v w<0↔lt2 v w:=by
 unfold cmp2 lt2
 have h1 := @zDs v.1 w.1
 have h2 := @zFj v.1 w.1
 have h3 := @zDs v.2 w.2
 split <;> grind
theorem cmp2_gt {v w:V2} : 0<cmp2 v w↔lt2 w v:=by
 unfold cmp2 lt2
 have h1 := @zFi v.1 w.1
 have h2 := @zFj v.1 w.1
 have h3 := @zFi v.2 w.2
 split <;> grind
theorem cmp2_eq {v w:V2} : cmp2 v w=0↔v=w:=by
 unfold cmp2
 have h2 := @zFj v.1 w.1
 have h3 := @zFj v.2 w.2
 rw [Prod.ext_iff]
 split <;> grind
def add2 (v w:V2):V2:=(v.1+w.1,v.2+w.2)
def sub2 (v w:V2):V2:=(v.1 - w.1,v.2 - w.2)
def zAA (v:V2) (q:Rat):V2:=(v.1*q,v.2*q)
def ub (S:Sys) (v:Nat):V2:=(S.K (v - S.n),if S.rel (v - S.n)=2 then -1 else 0)
def upper (S:Sys) (v:Nat):Option V2:=if v<S.n then none else some (ub S v)
def lower (S:Sys) (v:Nat):Option V2:=if v<S.n\/S.rel (v - S.n)≠3 then none else some (S.K (v - S.n),0)
def free (S:Sys) (val:Nat->V2) (v:Nat) (up:Bool):Bool :=
 if up then (match upper S v with | none=>true | some u=>decide (cmp2 (val v) u<0))
 else (match lower S v with | none=>true | some l=>decide (cmp2 (val v) l>0))
def move (s:Dy) (j:Nat) (d:V2):Dy :=
 { s with val:=fun u=>if u=s.cols j then add2 (s.val u) d else if 0<=s.line u then add2 (s.val u) (zAA d (s.a (s.line u).toNat j)) else s.val u }
def zCa (S:Sys) (s:Dy) (v:Nat):Option (V2 × Bool) :=
 match upper S v with
 | some u=>if cmp2 (s.val v) u>0 then some (u,false) else (match lower S v with
  | some l=>if cmp2 (s.val v) l<0 then some (l,true) else none
  | none=>none)
 | none=>(match lower S v with
  | some l=>if cmp2 (s.val v) l<0 then some (l,true) else none
  | none=>none)
def violF (S:Sys) (s:Dy):Nat->Nat->Option (Nat × V2 × Bool)
 | 0,_=>none
 | f+1,v=>if s.line v<0 then violF S s f (v+1) else match zCa S s v with
  | some (b,up)=>some ((s.line v).toNat,b,up)
  | none=>violF S s f (v+1)
def viol (S:Sys) (s:Dy):Option (Nat × V2 × Bool):=violF S s S.m S.n
def suits (S:Sys) (s:Dy) (i:Nat) (up:Bool) (k:Nat):Bool:=decide (s.a i k≠0)&&free S s.val (s.cols k) (decide (0<s.a i k)==up)
def zDG (cols:Nat->Nat) (k:Nat) (b:Option Nat):Bool:=match b with | none=>true | some b=>decide (cols k<cols b)
def first (cols:Nat->Nat) (p:Nat->Bool):Nat->Option Nat
 | 0=>none
 | k+1=>bif p k&&zDG cols k (first cols p k) then some k else first cols p k
def zBr (S:Sys) (s:Dy) (i:Nat) (up:Bool):Option Nat:=first s.cols (suits S s i up) S.n
inductive Res | sat | unsat (i:Nat) (up:Bool) | go (i j:Nat) (s:Dy)
def stepS (S:Sys) (s:Dy):Res :=
 match viol S s with
 | none => .sat
 | some (i,b,up)=>match zBr S s i up with
  | none => .unsat i up
  | some j => .go i j (pivot (move s j (zAA (sub2 b (s.val (s.basic i))) (s.a i j)⁻¹)) i j)
def zAS (S:Sys):Nat->Dy->Option (Dy × Option (Nat × Bool))
 | 0,_=>none
 | f+1,s=>match stepS S s with
  | .sat=>some (s,none)
  | .unsat i up=>some (s,some (i,up))
  | .go _ _ s'=>zAS S f s'
theorem zEa {cols:Nat->Nat} {p:Nat->Bool} : ∀ {k:Nat},first cols p k=none->∀ l,l<k->p l=false
 | k+1,h,l,hl=>by
  rw [first] at h
  cases hb:(p k&&zDG cols k (first cols p k)) with
  | true=>rw [hb] at h;cases h
  | false =>
   rw [hb,cond_false] at h
   by_cases e:l=k
   ·subst e
    rw [h,zDG,Bool.and_true] at hb
    exact hb
   ·exact zEa h l (by omega)
theorem zCc {cols:Nat->Nat} {p:Nat->Bool} : ∀ {k j:Nat},first cols p k=some j->j<k/\p j=true/\∀ l,l<k->p l=true->cols j<=cols l
 | k+1,j,h=>by
  rw [first] at h
  cases hb:(p k&&zDG cols k (first cols p k)) with
  | true =>
   rw [hb,cond_true] at h
   cases h
   rw [Bool.and_eq_true] at hb
   refine⟨by omega,hb.1,fun l hl hp=>?_⟩
   by_cases e:l=k
   ·subst e;exact Nat.le_refl _
   ·cases hf:first cols p k with
    | none=>rw [zEa hf l (by omega)] at hp;cases hp
    | some b =>
     have h3:=hb.2
     rw [hf,zDG,decide_eq_true_eq] at h3
     exact Nat.le_trans (Nat.le_of_lt h3) ((zCc hf).2.2 l (by omega) hp)
  | false =>
   rw [hb,cond_false] at h
   obtain⟨h1,h2,h3⟩:=zCc h
   refine⟨by omega,h2,fun l hl hp=>?_⟩
   by_cases e:l=k
   ·subst e
    rw [hp,h,zDG,Bool.true_and,decide_eq_false_iff_not] at hb
    omega
   ·exact h3 l (by omega) hp
structure Inv (S:Sys) (s:Dy):Prop where
 dict:Dict S s
 sol1:Sol S fun v=>(s.val v).1
 sol2:Sol S fun v=>(s.val v).2
 non : ∀ j,j<S.n->s.val (s.cols j)=if s.cols j<S.n then zero2 else ub S (s.cols j)
def zE7 (S:Sys) (s:Dy) (v:Nat):Prop:=le2 (s.val v) (ub S v)/\(S.rel (v - S.n)=3->s.val v=ub S v)
theorem passed_none {S:Sys} {s:Dy} {v:Nat} (hv:S.n<=v) (h:zCa S s v=none):zE7 S s v:=by
 unfold zCa at h
 rw [upper,if_neg (by omega)] at h
 simp only at h
 by_cases h1:cmp2 (s.val v) (ub S v)>0
 ·rw [if_pos h1] at h;cases h
 ·rw [if_neg h1] at h
  have h2:le2 (s.val v) (ub S v):=by
   rw [<- not_lt2,<- cmp2_gt];exact h1
  refine⟨h2,fun h3=>?_⟩
  have hl:lower S v=some (ub S v):=by
   rw [lower,if_neg (by omega),ub,if_neg (by omega)]
  rw [hl] at h
  simp only at h
  split at h
  ·cases h
  ·rename_i h4
   exact cmp2_eq.1 (by omega)
theorem passed_some {S:Sys} {s:Dy} {v:Nat} (hv:S.n<=v) {b:V2} {up:Bool} (h:zCa S s v=some (b,up)):b=ub S v/\(up=false->lt2 (ub S v) (s.val v))/\(up=true->S.rel (v - S.n)=3/\lt2 (s.val v) (ub S v)):=by
 unfold zCa at h
 rw [upper,if_neg (by omega)] at h
 simp only at h
 by_cases h1:cmp2 (s.val v) (ub S v)>0
 ·rw [if_pos h1] at h
  cases h
  exact⟨rfl,fun _=>cmp2_gt.1 h1,fun h=>by cases h⟩
 ·rw [if_neg h1] at h
  by_cases h3:S.rel (v - S.n)=3
  ·have hl:lower S v=some (ub S v):=by
    rw [lower,if_neg (by omega),ub,if_neg (by omega)]
   rw [hl] at h
   simp only at h
   split at h
   ·rename_i h4
    cases h
    exact⟨rfl,fun h=>by (cases h),fun _=>⟨h3,cmp2_lt.1 h4⟩⟩
   ·cases h
  ·rw [lower,if_pos (.inr h3)] at h
   cases h
theorem zDM {S:Sys} {s:Dy} : ∀ (f v:Nat),S.n<=v ->
  (∀ i b up,violF S s f v=some (i,b,up)->∃ u,v<=u/\u<v+f/\0<=s.line u/\i=(s.line u).toNat/\zCa S s u=some (b,up)/\∀ x,v<=x->x<u->0<=s.line x->zE7 S s x) /\
  (violF S s f v=none->∀ x,v<=x->x<v+f->0<=s.line x->zE7 S s x)
 | 0,v,_=>⟨fun i b up h=>(by cases h),fun _ x h1 h2=>by omega⟩
 | f+1,v,hv=>by
  obtain⟨h1,h2⟩:=zDM (S:=S) (s:=s) f (v+1) (by omega)
  unfold violF
  by_cases h0:s.line v<0
  ·rw [if_pos h0]
   refine⟨fun i b up h=>?_,fun h x h3 h4 h5=>?_⟩
   ·obtain⟨u,g1,g2,g3,g4,g5,g6⟩:=h1 i b up h
    refine⟨u,by omega,by omega,g3,g4,g5,fun x h3 h4 h5=>?_⟩
    by_cases e:x=v
    ·subst e;omega
    ·exact g6 x (by omega) h4 h5
   ·by_cases e:x=v
    ·subst e;omega
    ·exact h2 h x (by omega) (by omega) h5
  ·rw [if_neg h0]
   cases hp:zCa S s v with
   | some r =>
    obtain⟨b',up'⟩:=r
    refine⟨fun i b up h=>?_,fun h=>by cases h⟩
    cases h
    exact⟨v,Nat.le_refl _,by omega,by omega,rfl,hp,fun x h3 h4=>by omega⟩
   | none =>
    have hw:=passed_none hv hp
    refine⟨fun i b up h=>?_,fun h x h3 h4 h5=>?_⟩
    ·obtain⟨u,g1,g2,g3,g4,g5,g6⟩:=h1 i b up h
     refine⟨u,by omega,by omega,g3,g4,g5,fun x h3 h4 h5=>?_⟩
     by_cases e:x=v
     ·subst e;exact hw
     ·exact g6 x (by omega) h4 h5
    ·by_cases e:x=v
     ·subst e;exact hw
     ·exact h2 h x (by omega) (by omega) h5
theorem zBF {S:Sys} {s:Dy} (hp:Perm S s) {i:Nat} {b:V2} {up:Bool} (h:viol S s=some (i,b,up)) :
  i<S.m/\S.n<=s.basic i/\b=ub S (s.basic i)/\(up=false->lt2 (ub S (s.basic i)) (s.val (s.basic i)))/\(up=true->S.rel (s.basic i - S.n)=3/\lt2 (s.val (s.basic i)) (ub S (s.basic i))) /\
   ∀ x,S.n<=x->x<s.basic i->0<=s.line x->zE7 S s x:=by
 obtain⟨u,g1,g2,g3,g4,g5,g6⟩:=(zDM _ _ (Nat.le_refl _)).1 i b up h
 obtain⟨h1,h2⟩:=(hp.lin u (by omega)).1 g3
 rw [<- g4] at h2
 subst h2
 obtain⟨k1,k2,k3⟩:=passed_some g1 g5
 exact⟨by omega,g1,k1,k2,k3,g6⟩
theorem viol_none {S:Sys} {s:Dy} (h:viol S s=none) : ∀ x,S.n<=x->x<S.n+S.m->0<=s.line x->zE7 S s x :=
 (zDM _ _ (Nat.le_refl _)).2 h
theorem zD2 {S:Sys} {s:Dy} (h:Inv S s) {i k:Nat} (hk:k<S.n) {up:Bool} : suits S s i up k=true↔s.a i k≠0/\(S.n<=s.cols k->S.rel (s.cols k - S.n)≠3/\(decide (0<s.a i k)==up)=false):=by
 unfold suits
 rw [Bool.and_eq_true,decide_eq_true_eq]
 refine and_congr_right fun h0=>?_
 by_cases hn:s.cols k<S.n
 ·refine⟨fun _ h2=>by omega,fun _=>?_⟩
  unfold free
  rw [upper,if_pos hn,lower,if_pos (Or.inl hn)]
  cases (decide (0<s.a i k)==up) <;> rfl
 ·have b:=h.non k hk
  rw [if_neg hn] at b
  have hz:cmp2 (ub S (s.cols k)) (ub S (s.cols k))=0:=cmp2_eq.2 rfl
  unfold free
  rw [b,upper,if_neg hn]
  generalize hd:(decide (0<s.a i k)==up)=d
  cases d with
  | true =>
   simp only [if_true,hz]
   refine⟨fun h2=>by simp at h2,fun h2=>absurd (h2 (by omega)).2 (by simp)⟩
  | false =>
   simp only [Bool.false_eq_true,if_false]
   by_cases h3:S.rel (s.cols k - S.n)=3
   ·have hl:lower S (s.cols k)=some (ub S (s.cols k)):=by
     rw [lower,if_neg (by omega),ub,if_neg (by omega)]
    rw [hl]
    simp only [hz]
    refine⟨fun h2=>by simp at h2,fun h2=>absurd h3 (h2 (by omega)).1⟩
   ·rw [lower,if_pos (.inr h3)]
    exact⟨fun _ _=>⟨h3,trivial⟩,fun _=>rfl⟩
theorem move_sol {S:Sys} {s:Dy} (h:Dict S s) {j:Nat} (hj:j<S.n) (d:V2):(Sol S (fun v=>(s.val v).1)->Sol S fun v=>((move s j d).val v).1)/\(Sol S (fun v=>(s.val v).2)->Sol S fun v=>((move s j d).val v).2):=by
 have key : ∀ (x:Nat->Rat) (e:Rat) (y:Nat->Rat),(∀ v,y v=if v=s.cols j then x v+e else if 0<=s.line v then x v+e*s.a (s.line v).toNat j else x v)->Sol S x->Sol S y:=by
  intro x e y hy hx
  rw [h.sol] at hx ⊢
  intro i hi
  have h1:=hx i hi
  have hb:=(h.perm.bas i hi).2
  rw [hy,if_neg (h.perm.ne hi hj),hb,if_pos (by omega),h1,Int.toNat_natCast]
  have e1:(sumN S.n fun k=>s.a i k*y (s.cols k))=(sumN S.n fun k=>s.a i k*x (s.cols k))+sumN S.n fun k=>if k=j then e*s.a i j else 0:=by
   rw [<- zD1]
   refine zAn fun k hk=>?_
   rw [hy]
   by_cases ek:k=j
   ·subst ek;rw [if_pos rfl,if_pos rfl];grind
   ·rw [if_neg (fun e2=>ek (h.perm.inj k j hk hj e2)),(h.perm.col k hk).2,if_neg (by omega),if_neg ek];grind
  rw [e1,zCo (j:=j) hj (fun k=>if k=j then e*s.a i j else 0) (fun k _ b=>if_neg b),if_pos rfl]
 refine⟨key _ d.1 _ fun v=>?_,key _ d.2 _ fun v=>?_⟩ <;>
 ·simp only [move]
  split
  ·rfl
  ·split <;> rfl
def nextS (S:Sys) (s:Dy) (b:V2) (i j:Nat):Dy:=pivot (move s j (zAA (sub2 b (s.val (s.basic i))) (s.a i j)⁻¹)) i j
theorem next_inv {S:Sys} {s:Dy} (h:Inv S s) {i j:Nat} (hi:i<S.m) (hj:j<S.n) (h0:s.a i j≠0) (hb:S.n<=s.basic i):Inv S (nextS S s (ub S (s.basic i)) i j):=by
 have hm:Dict S (move s j (zAA (sub2 (ub S (s.basic i)) (s.val (s.basic i))) (s.a i j)⁻¹)):=⟨⟨h.dict.perm.bas,h.dict.perm.col,h.dict.perm.inj,h.dict.perm.lin⟩,h.dict.sol⟩
 have hs:=move_sol h.dict hj (zAA (sub2 (ub S (s.basic i)) (s.val (s.basic i))) (s.a i j)⁻¹)
 refine⟨zF4 hm hi hj h0,hs.1 h.sol1,hs.2 h.sol2,fun k hk=>?_⟩
 have b:=h.dict.perm.ne hi hj
 show (move s j _).val (upd s.cols j (s.basic i) k)=if upd s.cols j (s.basic i) k<S.n then zero2 else ub S (upd s.cols j (s.basic i) k)
 by_cases e:k=j
 ·subst e
  rw [zA1,if_neg (by omega)]
  simp only [move]
  rw [if_neg b,(h.dict.perm.bas i hi).2,if_pos (by omega),Int.toNat_natCast]
  have h1:=Rat.inv_mul_cancel _ h0
  simp only [add2,zAA,sub2]
  refine Prod.ext ?_ ?_ <;> simp only <;> grind
 ·rw [zAs _ e,<- h.non k hk]
  simp only [move]
  rw [if_neg (fun e2=>e (h.dict.perm.inj k j hk hj e2)),(h.dict.perm.col k hk).2,if_neg (by omega)]
theorem zCp {S:Sys} {s s' : Dy} (h:Inv S s) {i j:Nat} (hg:stepS S s = .go i j s') : ∃ b up,viol S s=some (i,b,up)/\zBr S s i up=some j/\i<S.m/\j<S.n/\S.n<=s.basic i/\s.a i j≠0/\s' = nextS S s (ub S (s.basic i)) i j/\Inv S s':=by
 unfold stepS at hg
 cases hv:viol S s with
 | none=>rw [hv] at hg;cases hg
 | some r =>
  obtain⟨i',b,up⟩:=r
  rw [hv] at hg
  simp only at hg
  cases he:zBr S s i' up with
  | none=>rw [he] at hg;cases hg
  | some j' =>
   rw [he] at hg
   simp only at hg
   cases hg
   obtain⟨h1,h2,h3,_⟩:=zBF h.dict.perm hv
   obtain⟨h4,h5,_⟩:=zCc he
   have h6:=((zD2 h h4).1 h5).1
   subst h3
   exact⟨_,up,rfl,he,h1,h4,h2,h6,rfl,next_inv h h1 h4 h6 h2⟩
def nbv (S:Sys) (s:Dy) (v:Nat):Prop:=v<S.n+S.m/\s.line v<0
theorem nbv_col {S:Sys} {s:Dy} (h:Perm S s) {j:Nat} (hj:j<S.n):nbv S s (s.cols j):=⟨(h.col j hj).1,by rw [(h.col j hj).2];decide⟩
theorem zEX {S:Sys} {s:Dy} (h:Inv S s) {v:Nat} (hv:nbv S s v):s.val v=if v<S.n then zero2 else ub S v:=by
 obtain⟨_,j,hj,e⟩:=(h.dict.perm.lin v hv.1).2 hv.2
 rw [<- e];exact h.non j hj
theorem pivot_nbv {S:Sys} {s:Dy} (h:Perm S s) {i j:Nat} (hi:i<S.m) (hj:j<S.n) (v:Nat):nbv S (pivot s i j) v↔(nbv S s v/\v≠s.cols j)\/v=s.basic i:=by
 have h1:=h.bas i hi
 have h2:=h.col j hj
 unfold nbv
 simp only [pivot]
 by_cases e1:v=s.cols j
 ·subst e1
  rw [zA1]
  constructor
  ·intro h3;omega
  ·rintro (h3 | h3)
   ·exact absurd rfl h3.2
   ·exact absurd h3.symm (h.ne hi hj)
 ·rw [zAs _ e1]
  by_cases e2:v=s.basic i
  ·subst e2
   rw [zA1]
   exact⟨fun _ => .inr rfl,fun _=>⟨h1.1,by decide⟩⟩
  ·rw [zAs _ e2]
   constructor
   ·exact fun h3 => .inl ⟨h3,e1⟩
   ·rintro (h3 | h3)
    ·exact h3.1
    ·exact absurd h3 e2
theorem solve_bland {S:Sys} {s1 s2:Dy} (h1:Inv S s1) (h2:Inv S s2) {i1 i2 j2:Nat} {b1 b2:V2} {up1 up2:Bool} (hv1:viol S s1=some (i1,b1,up1)) (hv2:viol S s2=some (i2,b2,up2))
  (he2:zBr S s2 i2 up2=some j2) (hr:s1.basic i1=s2.cols j2) (hl:s2.basic i2<s2.cols j2) (hsame : ∀ v,s2.cols j2<v->(nbv S s1 v↔nbv S s2 v)):False:=by
 obtain⟨a1,a2,a3,a4,a5,a6⟩:=zBF h1.dict.perm hv1
 obtain⟨c1,c2,c3,c4,c5,c6⟩:=zBF h2.dict.perm hv2
 obtain⟨d1,d2,d3⟩:=zCc he2
 obtain⟨d4,d5⟩:=(zD2 h2 d1).1 d2
 rw [hr] at a2 a4 a5 a6
 obtain⟨d6,d7⟩:=d5 a2
 have b4:up1=false:=by
  cases hu:up1 with
  | false=>rfl
  | true=>exact absurd (a5 hu).1 d6
 have hgt:=a4 b4
 have a0:s2.val (s2.cols j2)=ub S (s2.cols j2):=by rw [h2.non j2 d1,if_neg (by omega)]
 have a7 : ∀ v,S.n<=v->v<s2.cols j2->zE7 S s1 v:=by
  intro v hv u
  by_cases h0:0<=s1.line v
  ·exact a6 v hv u h0
  ·have hN:v<S.n+S.m:=by have:=(h2.dict.perm.col j2 d1).1;omega
   have:=zEX h1 (v:=v) ⟨hN,by omega⟩
   rw [if_neg (by omega)] at this
   refine⟨?_,fun _=>this⟩
   rw [this];right;exact⟨rfl,Rat.le_refl⟩
 let D:Nat->V2:=fun k=>sub2 (s1.val (s2.cols k)) (s2.val (s2.cols k))
 have f : ∀ (c:Nat->Rat),Sol S c->c (s2.basic i2)=sumN S.n fun k=>s2.a i2 k*c (s2.cols k):=fun c hc=>(h2.dict.sol c).1 hc i2 c1
 have s:sub2 (s1.val (s2.basic i2)) (s2.val (s2.basic i2))=sum2 S.n fun k=>zAA (D k) (s2.a i2 k):=by
  refine Prod.ext ?_ ?_
  ·show (s1.val _).1 - (s2.val _).1=sumN S.n _
   rw [f _ h1.sol1,f _ h2.sol1,<- zFS]
   refine zAn fun k _=>?_
   show _=((s1.val _).1 - (s2.val _).1)*_
   grind
  ·show (s1.val _).2 - (s2.val _).2=sumN S.n _
   rw [f _ h1.sol2,f _ h2.sol2,<- zFS]
   refine zAn fun k _=>?_
   show _=((s1.val _).2 - (s2.val _).2)*_
   grind
 have i : ∀ k,k<S.n->k≠j2->s2.a i2 k=0\/D k=zero2\/(le2 (D k) zero2/\(up2=false->s2.a i2 k<0)/\(up2=true->0<s2.a i2 k)):=by
  intro k hk b5
  by_cases ha:s2.a i2 k=0
  ·exact .inl ha
  right
  have b7:=h2.dict.perm.col k hk
  have x:=nbv_col h2.dict.perm hk
  by_cases hgt2:s2.cols j2<s2.cols k
  ·left
   have a9:=(hsame _ hgt2).2 x
   show sub2 _ _=_
   rw [zEX h1 a9,zEX h2 x]
   exact Prod.ext (by show _ - _=(0:Rat);grind) (by show _ - _=(0:Rat);grind)
  ·have u:s2.cols k<s2.cols j2:=by
    have:s2.cols k≠s2.cols j2:=fun e=>b5 (h2.dict.perm.inj k j2 hk d1 e)
    omega
   have b6:suits S s2 i2 up2 k=false:=by
    cases hs:suits S s2 i2 up2 k with
    | false=>rfl
    | true=>have:=d3 k hk hs;omega
   have p : ¬ (s2.a i2 k≠0/\(S.n<=s2.cols k->S.rel (s2.cols k - S.n)≠3/\(decide (0<s2.a i2 k)==up2)=false)):=by
    rw [<- zD2 h2 hk,b6];decide
   have b3:S.n<=s2.cols k:=by
    refine Decidable.byContradiction fun h3=>p ⟨ha,fun h4=>absurd h4 h3⟩
   have l:=zEX h2 x
   rw [if_neg (by omega)] at l
   obtain⟨w1,w2⟩:=a7 _ b3 u
   by_cases heq:S.rel (s2.cols k - S.n)=3
   ·left
    show sub2 _ _=_
    rw [w2 heq,l]
    exact Prod.ext (by show _ - _=(0:Rat);grind) (by show _ - _=(0:Rat);grind)
   ·right
    have o:(decide (0<s2.a i2 k)==up2)=true:=by
     cases hd:(decide (0<s2.a i2 k)==up2) with
     | true=>rfl
     | false=>exact absurd ⟨ha,fun _=>⟨heq,hd⟩⟩ p
    refine⟨?_,fun hu=>?_,fun hu=>?_⟩
    ·show le2 (sub2 _ _) _
     rw [l]
     unfold le2 at w1 ⊢
     simp only [sub2,zero2]
     grind
    ·subst hu
     have : ¬ 0<s2.a i2 k:=by simpa using o
     grind
    ·subst hu
     simpa using o
 have g:lt2 zero2 (D j2):=by
  show lt2 _ (sub2 _ _)
  rw [a0]
  unfold lt2 at hgt ⊢
  simp only [sub2,zero2]
  grind
 have a8:=a7 _ c2 hl
 cases hu:up2 with
 | false =>
  have h:0<s2.a i2 j2:=by
   rw [hu] at d7
   have : ¬ ¬ 0<s2.a i2 j2:=by simpa using d7
   grind
  have d:lt2 zero2 (sum2 S.n fun k=>zAA (D k) (s2.a i2 k)):=by
   refine sum2_pos (j:=j2) (fun k hk=>?_) d1 ?_
   ·by_cases e:k=j2
    ·subst e
     have:=g
     unfold lt2 at this
     unfold le2
     simp only [zAA,zero2] at this ⊢
     rcases this with h3 | ⟨h3,h4⟩
     ·left;exact Rat.mul_pos h3 h
     ·right
      rw [<- h3,Rat.zero_mul]
      exact⟨rfl,Rat.le_of_lt (Rat.mul_pos h4 h)⟩
    ·rcases i k hk e with h3 | h3 | ⟨h3,h4,_⟩
     ·right;simp only [zAA,zero2,h3,Rat.mul_zero];exact⟨trivial,Rat.le_refl⟩
     ·right;simp only [zAA,h3,zero2,Rat.zero_mul];exact⟨trivial,Rat.le_refl⟩
     ·have h5:=h4 hu
      unfold le2 at h3 ⊢
      simp only [zAA,zero2] at h3 ⊢
      have g1:0 < - s2.a i2 k:=by grind
      rcases h3 with h6 | ⟨h6,h7⟩
      ·left
       have:=Rat.mul_pos (a := - (D k).1) (b := - s2.a i2 k) (by grind) g1
       grind
      ·right
       rw [h6,Rat.zero_mul]
       refine⟨rfl,?_⟩
       have:=Rat.mul_nonneg (a := - (D k).2) (b := - s2.a i2 k) (by grind) (by grind)
       grind
   ·unfold lt2 at g ⊢
    simp only [zAA,zero2] at g ⊢
    rcases g with h3 | ⟨h3,h4⟩
    ·left;exact Rat.mul_pos h3 h
    ·right
     rw [<- h3,Rat.zero_mul]
     exact⟨rfl,Rat.mul_pos h4 h⟩
  rw [<- s] at d
  have h3:=c4 hu
  have h4:=a8.1
  unfold lt2 at d h3
  unfold le2 at h4
  simp only [sub2,zero2] at d
  grind
 | true =>
  have h:s2.a i2 j2<0:=by
   rw [hu] at d7
   have : ¬ 0<s2.a i2 j2:=by simpa using d7
   grind
  have d:lt2 zero2 (sum2 S.n fun k=>zAA (D k) (- s2.a i2 k)):=by
   have gj:0 < - s2.a i2 j2:=by grind
   refine sum2_pos (j:=j2) (fun k hk=>?_) d1 ?_
   ·by_cases e:k=j2
    ·subst e
     have:=g
     unfold lt2 at this
     unfold le2
     simp only [zAA,zero2] at this ⊢
     rcases this with h3 | ⟨h3,h4⟩
     ·left;exact Rat.mul_pos h3 gj
     ·right
      rw [<- h3,Rat.zero_mul]
      exact⟨rfl,Rat.le_of_lt (Rat.mul_pos h4 gj)⟩
    ·rcases i k hk e with h3 | h3 | ⟨h3,_,h4⟩
     ·right;simp only [zAA,zero2,h3,Rat.neg_zero,Rat.mul_zero];exact⟨trivial,Rat.le_refl⟩
     ·right;simp only [zAA,h3,zero2,Rat.zero_mul];exact⟨trivial,Rat.le_refl⟩
     ·have h5:=h4 hu
      unfold le2 at h3 ⊢
      simp only [zAA,zero2] at h3 ⊢
      rcases h3 with h6 | ⟨h6,h7⟩
      ·left
       have:=Rat.mul_pos (a := - (D k).1) (b:=s2.a i2 k) (by grind) h5
       grind
      ·right
       rw [h6,Rat.zero_mul]
       refine⟨rfl,?_⟩
       have:=Rat.mul_nonneg (a := - (D k).2) (b:=s2.a i2 k) (by grind) (by grind)
       grind
   ·unfold lt2 at g ⊢
    simp only [zAA,zero2] at g ⊢
    rcases g with h3 | ⟨h3,h4⟩
    ·left;exact Rat.mul_pos h3 gj
    ·right
     rw [<- h3,Rat.zero_mul]
     exact⟨rfl,Rat.mul_pos h4 gj⟩
  have b0:(sum2 S.n fun k=>zAA (D k) (- s2.a i2 k))=sub2 (s2.val (s2.basic i2)) (s1.val (s2.basic i2)):=by
   have e1:(sum2 S.n fun k=>zAA (D k) (- s2.a i2 k))=(- (sum2 S.n fun k=>zAA (D k) (s2.a i2 k)).1,- (sum2 S.n fun k=>zAA (D k) (s2.a i2 k)).2):=by
    refine Prod.ext ?_ ?_
    ·simp only [sum2,zAA]
     rw [<- zEs]
     exact zAn fun k _=>by grind
    ·simp only [sum2,zAA]
     rw [<- zEs]
     exact zAn fun k _=>by grind
   rw [e1,<- s]
   simp only [sub2]
   exact Prod.ext (by show _=_;grind) (by show _=_;grind)
  rw [b0] at d
  obtain⟨h3,h4⟩:=c5 hu
  have h5:=a8.2 h3
  rw [h5] at d
  unfold lt2 at d h4
  simp only [sub2,zero2] at d
  grind
theorem solve_ends {S:Sys} {s:Dy} (h:Inv S s) : ∃ f r,zAS S f s=some r:=by
 refine Classical.byContradiction fun p=>?_
 have k : ∀ f,zAS S f s=none:=fun f=>by
  cases hf:zAS S f s with
  | none=>rfl
  | some r=>exact absurd ⟨f,r,hf⟩ p
 let nx:Dy->Dy:=fun s=>match stepS S s with | .go _ _ s'=>s' | _=>s
 let run:Nat->Dy:=fun t=>Nat.rec s (fun _ s=>nx s) t
 have o : ∀ t,run (t+1)=nx (run t):=fun t=>rfl
 have d : ∀ t,Inv S (run t)/\(∀ f,zAS S f (run t)=none)/\∃ i j,stepS S (run t) = .go i j (run (t+1)):=by
  have l : ∀ u,Inv S u->(∀ f,zAS S f u=none)->∃ i j,stepS S u = .go i j (nx u)/\Inv S (nx u)/\∀ f,zAS S f (nx u)=none:=by
   intro u hu hf
   have h1:=hf 1
   cases hs:stepS S u with
   | sat=>simp only [zAS,hs] at h1;cases h1
   | unsat i up=>simp only [zAS,hs] at h1;cases h1
   | go i j u' =>
    have e:nx u=u':=by show (match stepS S u with | .go _ _ s'=>s' | _=>u)=_;rw [hs]
    rw [e]
    obtain⟨b,up,_,_,_,_,_,_,_,hi⟩:=zCp hu hs
    refine⟨i,j,rfl,hi,fun f=>?_⟩
    have h2:=hf (f+1)
    simp only [zAS,hs] at h2
    exact h2
  intro t
  induction t with
  | zero =>
   obtain⟨i,j,h1,h2,h3⟩:=l s h k
   exact⟨h,k,i,j,h1⟩
  | succ t ih =>
   obtain⟨h1,h2,i,j,h3⟩:=ih
   obtain⟨i0,j0,k1,k2,k3⟩:=l _ h1 h2
   rw [o]
   obtain⟨i',j',g1,g2,g3⟩:=l _ k2 k3
   exact⟨k2,k3,i',j',g1⟩
 have g : ∀ t,∃ i j,stepS S (run t) = .go i j (run (t+1)):=fun t=>(d t).2.2
 obtain⟨fi,g⟩:=Classical.axiomOfChoice g
 obtain⟨fj,g⟩:=Classical.axiomOfChoice g
 have hw:Walk 0 (2 ^ (S.n+S.m)) (fun t=>(run t).cols (fj t)) (fun t=>(run t).basic (fi t)) (fun t v=>nbv S (run t) v):=by
  refine⟨fun t _ _=>?_,fun t _ _=>?_,fun t v _ _=>?_,fun t1 t2 _ _ _ _ e1 e2 e3 e4=>?_⟩
  ·obtain⟨b,up,_,_,h3,h4,_⟩:=zCp (d t).1 (g t)
   exact nbv_col (d t).1.dict.perm h4
  ·obtain⟨b,up,_,_,h3,h4,_⟩:=zCp (d t).1 (g t)
   intro h5
   have:=((d t).1.dict.perm.bas _ h3).2
   have:=h5.2
   omega
  ·obtain⟨b,up,_,_,h3,h4,_,_,h5,_⟩:=zCp (d t).1 (g t)
   have hm:Perm S (move (run t) (fj t) (zAA (sub2 (ub S ((run t).basic (fi t))) ((run t).val ((run t).basic (fi t)))) ((run t).a (fi t) (fj t))⁻¹)) :=
    ⟨(d t).1.dict.perm.bas,(d t).1.dict.perm.col,(d t).1.dict.perm.inj,(d t).1.dict.perm.lin⟩
   show nbv S (run (t+1)) v↔_
   rw [h5]
   exact pivot_nbv hm h3 h4 v
  ·obtain⟨b1,x,h1,_⟩:=zCp (d t1).1 (g t1)
   obtain⟨b2,a0,h2,h3,_⟩:=zCp (d t2).1 (g t2)
   exact solve_bland (d t1).1 (d t2).1 h1 h2 h3 e1 e3 e4
 have:=hw.short (S.n+S.m) (Nat.zero_le _) fun t _ _=>by
  obtain⟨b,up,_,_,h3,h4,_⟩:=zCp (d t).1 (g t)
  exact⟨((d t).1.dict.perm.col _ h4).1,((d t).1.dict.perm.bas _ h3).1⟩
 omega
def costF (S:Sys) (s:Dy) (c:Nat->Rat):Nat->Nat->Rat
 | 0,j=>if s.cols j<S.n then c (s.cols j) else 0
 | k+1,j=>if s.line k<0 then costF S s c k j else costF S s c k j+c k*s.a (s.line k).toNat j
def costs (S:Sys) (s:Dy) (c:Nat->Rat) (j:Nat):Rat:=costF S s c S.n j
theorem pick_cols {S:Sys} {s:Dy} (h:Perm S s) {j v:Nat} (hj:j<S.n) (e:s.cols j=v) (f:Nat->Rat):(sumN S.n fun k=>if s.cols k=v then f k else 0)=f j:=by
 rw [zCo hj,if_pos e]
 intro k hk b
 exact if_neg fun e2=>b (h.inj k j hk hj (by rw [e2,e]))
def improves (S:Sys) (s:Dy) (d:Nat->Rat) (j:Nat):Bool:=decide (d j≠0)&&free S s.val (s.cols j) (decide (0<d j))
def cand (S:Sys) (s:Dy) (v:Nat) (rate:Rat):Option V2 :=
 match (if rate<0 then lower S v else upper S v) with
 | none=>none
 | some b=>some (zAA (sub2 b (s.val v)) rate⁻¹)
def oneQ (up:Bool):Rat:=if up then 1 else -1
def stepOf (up:Bool) (st:V2):V2:=if up then st else zAA st (-1)
inductive ResM | best (d:Nat->Rat) | ray (j:Nat) (up:Bool) | self (s:Dy) | go (i j:Nat) (s:Dy)
def Feas (S:Sys) (s:Dy):Prop:=∀ v,S.n<=v->v<S.n+S.m->zE7 S s v
structure StepM (S:Sys) (s:Dy) (c:Nat->Rat) (i j:Nat) (st:V2) (s' : Dy):Prop where
 hj:j<S.n
 imp:improves S s (costs S s c) j=true
 low : ∀ k,k<S.n->improves S s (costs S s c) k=true->s.cols j<=s.cols k
 hi:i<S.m
 ne:s.a i j≠0
 cnd:cand S s (s.basic i) (s.a i j*oneQ (decide (0<costs S s c j)))=some st
 min : ∀ q x,q<S.m->s.a q j≠0->cand S s (s.basic q) (s.a q j*oneQ (decide (0<costs S s c j)))=some x->le2 st x/\(x=st->s.basic i<=s.basic q)
 eq:s' = pivot (move s j (stepOf (decide (0<costs S s c j)) st)) i j
def lhs (S:Sys) (x:Nat->Rat) (k:Nat):Rat:=sumN S.n fun j=>S.C k j*x j
def Sat (S:Sys) (x:Nat->Rat):Prop:=∀ k,k<S.m->lhs S x k<=S.K k/\(S.rel k=2->lhs S x k<S.K k)/\(S.rel k=3->lhs S x k=S.K k)
def Adm (S:Sys) (y:Nat->Rat):Prop:=∀ k,k<S.m->S.rel k≠3->0<=y k
def Strict (S:Sys) (y:Nat->Rat):Prop:=∃ k,k<S.m/\S.rel k=2/\0<y k
def comb (S:Sys) (y:Nat->Rat) (j:Nat):Rat:=sumN S.m fun k=>y k*S.C k j
def combK (S:Sys) (y:Nat->Rat):Rat:=sumN S.m fun k=>y k*S.K k
def zBg (S:Sys) (y:Nat->Rat):Prop:=Adm S y/\(∀ j,j<S.n->comb S y j=0)/\(combK S y<0\/combK S y=0/\Strict S y)
theorem comb_dot (S:Sys) (y x:Nat->Rat):(sumN S.n fun j=>comb S y j*x j)=sumN S.m fun k=>y k*lhs S x k:=by
 have e1:(sumN S.n fun j=>comb S y j*x j)=sumN S.n fun j=>sumN S.m fun k=>y k*S.C k j*x j:=by
  refine zAn fun j _=>?_
  rw [comb,Rat.mul_comm,<- zBK]
  exact zAn fun k _=>by grind
 rw [e1,sumN_comm]
 refine zAn fun k _=>?_
 rw [lhs,<- zBK]
 exact zAn fun j _=>by grind
theorem weak {S:Sys} {y x:Nat->Rat} (hy:Adm S y) (hx:Sat S x):(sumN S.m fun k=>y k*lhs S x k)<=combK S y/\(Strict S y->(sumN S.m fun k=>y k*lhs S x k)<combK S y):=by
 have h1 : ∀ k,k<S.m->0<=y k*(S.K k - lhs S x k):=by
  intro k hk
  obtain⟨a,b,c⟩:=hx k hk
  by_cases h3:S.rel k=3
  ·rw [c h3];grind
  ·exact Rat.mul_nonneg (hy k hk h3) (by grind)
 have e:(sumN S.m fun k=>y k*(S.K k - lhs S x k))=combK S y - sumN S.m fun k=>y k*lhs S x k:=by
  rw [combK,<- zFS]
  exact zAn fun k _=>by grind
 have h2:=zEK h1
 rw [e] at h2
 refine⟨by grind,fun ⟨k,hk,hr,hp⟩=>?_⟩
 have h3:0<y k*(S.K k - lhs S x k):=Rat.mul_pos hp (by have:=(hx k hk).2.1 hr;grind)
 have h4:0<sumN S.m fun k=>y k*(S.K k - lhs S x k):=by
  rw [zC8 hk]
  have:0<=sumN S.m fun i=>if i=k then 0 else y i*(S.K i - lhs S x i):=zEK fun i hi=>by
   split
   ·exact Rat.le_refl
   ·exact h1 i hi
  grind
 rw [e] at h4
 grind
theorem farkas {S:Sys} {y x:Nat->Rat} (hy:zBg S y) (hx:Sat S x):False:=by
 obtain⟨h1,h2⟩:=weak hy.1 hx
 rw [<- comb_dot,zAY fun j hj=>by rw [hy.2.1 j hj,Rat.zero_mul]] at h1 h2
 rcases hy.2.2 with h3 | ⟨h3,h4⟩
 ·grind
 ·have:=h2 h4;grind
def init (S:Sys):Dy where
 basic i:=S.n+i
 cols j:=j
 line v:=if v<S.n then -1 else ((v - S.n:Nat):Int)
 a:=S.C
 val _:=zero2
theorem zE0 (S:Sys):Inv S (init S):=by
 refine⟨⟨⟨fun i hi=>?_,fun j hj=>?_,fun j k _ _ e=>e,fun v hv=>?_⟩,fun x=>Iff.rfl⟩,?_,?_,fun j hj=>?_⟩
 ·simp only [init]
  refine⟨by omega,?_⟩
  rw [if_neg (by omega)];omega
 ·simp only [init]
  refine⟨by omega,?_⟩
  rw [if_pos hj]
 ·simp only [init]
  refine⟨fun h=>?_,fun h=>?_⟩
  ·by_cases e:v<S.n
   ·rw [if_pos e] at h;omega
   ·rw [if_neg e] at h ⊢;omega
  ·by_cases e:v<S.n
   ·rw [if_pos e] at h ⊢
    exact⟨rfl,v,e,rfl⟩
   ·rw [if_neg e] at h;omega
 ·intro i _
  show (0:Rat)=sumN S.n fun j=>S.C i j*0
  rw [zAY fun j _=>Rat.mul_zero _]
 ·intro i _
  show (0:Rat)=sumN S.n fun j=>S.C i j*0
  rw [zAY fun j _=>Rat.mul_zero _]
 ·exact (if_pos hj).symm
theorem zDN {S:Sys} : ∀ (f:Nat) {s s' : Dy} {r:Option (Nat × Bool)},Inv S s->zAS S f s=some (s',r)->Inv S s'/\(r=none->viol S s' = none)/\(∀ i up,r=some (i,up)->∃ b,viol S s' = some (i,b,up)/\zBr S s' i up=none)
 | f+1,s,s',r,h,he=>by
  rw [zAS] at he
  cases hs:stepS S s with
  | sat =>
   rw [hs] at he;cases he
   refine⟨h,fun _=>?_,fun i up e=>by cases e⟩
   unfold stepS at hs
   cases hv:viol S s with
   | none=>rfl
   | some r =>
    obtain⟨i,b,up⟩:=r
    rw [hv] at hs;simp only at hs
    cases hent:zBr S s i up <;> rw [hent] at hs <;> cases hs
  | unsat i up =>
   rw [hs] at he;cases he
   refine⟨h,fun e=>(by cases e),fun i' up' e=>?_⟩
   cases e
   unfold stepS at hs
   cases hv:viol S s with
   | none=>rw [hv] at hs;cases hs
   | some r =>
    obtain⟨i2,b,up2⟩:=r
    rw [hv] at hs;simp only at hs
    cases hent:zBr S s i2 up2 with
    | none=>rw [hent] at hs;cases hs;exact⟨b,rfl,hent⟩
    | some j=>rw [hent] at hs;cases hs
  | go i j s1 =>
   rw [hs] at he
   obtain⟨_,_,_,_,_,_,_,_,_,hI⟩:=zCp h hs
   exact zDN f hI he
theorem feas_of {S:Sys} {s:Dy} (h:Inv S s) (hv:viol S s=none):Feas S s:=by
 intro v h1 h2
 by_cases h0:0<=s.line v
 ·exact viol_none hv v h1 h2 h0
 ·have:=zEX h (v:=v) ⟨h2,by omega⟩
  rw [if_neg (by omega)] at this
  refine⟨?_,fun _=>this⟩
  rw [this];right;exact⟨rfl,Rat.le_refl⟩
def refF (S:Sys) (s:Dy) (i:Nat):Nat->Nat->Rat
 | 0=>upd (fun _=>0) (s.basic i - S.n) 1
 | j+1=>if s.a i j≠0 then upd (refF S s i j) (s.cols j - S.n) (- s.a i j) else refF S s i j
def refv (S:Sys) (s:Dy) (i:Nat) (up:Bool) (k:Nat):Rat:=if up then - refF S s i S.n k else refF S s i S.n k
theorem zEP {S:Sys} {s:Dy} (h:Inv S s) {i:Nat} {up:Bool} (he:zBr S s i up=none) : ∀ j,j<S.n->s.a i j≠0->S.n<=s.cols j/\(S.rel (s.cols j - S.n)≠3->(decide (0<s.a i j)==up)=true):=by
 intro j hj h0
 have d:=zEa he j hj
 have b : ¬ (s.a i j≠0/\(S.n<=s.cols j->S.rel (s.cols j - S.n)≠3/\(decide (0<s.a i j)==up)=false)):=by
  rw [<- zD2 h hj,d];decide
 refine⟨Decidable.byContradiction fun h1=>b ⟨h0,fun h2=>absurd h2 h1⟩,fun h3=>?_⟩
 cases hd:(decide (0<s.a i j)==up) with
 | true=>rfl
 | false=>exact absurd ⟨h0,fun _=>⟨h3,hd⟩⟩ b
theorem refF_eq {S:Sys} {s:Dy} (h:Perm S s) {i:Nat} (hi:i<S.m) (hb:S.n<=s.basic i) (hc : ∀ j,j<S.n->s.a i j≠0->S.n<=s.cols j) (k:Nat) : ∀ J,J<=S.n ->
  refF S s i J k=(if s.basic i=S.n+k then 1 else 0)+sumN J fun j=>if s.cols j=S.n+k then - s.a i j else 0
 | 0,_=>by
  rw [refF,zB2]
  unfold upd
  by_cases e:k=s.basic i - S.n
  ·rw [if_pos e,if_pos (by omega)];grind
  ·rw [if_neg e,if_neg (by omega)];grind
 | J+1,hJ=>by
  have ih:=refF_eq h hi hb hc k J (by omega)
  rw [refF,zAp]
  by_cases h0:s.a i J=0
  ·rw [if_neg (fun e=>e h0),ih]
   split <;> grind
  ·rw [if_pos h0]
   have hJn:=hc J (by omega) h0
   by_cases e:k=s.cols J - S.n
   ·have e2:s.cols J=S.n+k:=by omega
    rw [e,zA1,<- e,if_pos e2,if_neg (fun e3=>h.ne hi (by omega:J<S.n) (by rw [e3,e2])),zAY fun j hj=>if_neg fun e3=>?_]
    ·grind
    ·have:=h.inj j J (by omega) (by omega) (by rw [e3,e2]);omega
   ·rw [zAs _ e,ih,if_neg (by omega : ¬ s.cols J=S.n+k)];grind
theorem refF_sum {S:Sys} {s:Dy} (h:Perm S s) {i:Nat} (hi:i<S.m) (hb:S.n<=s.basic i) (hc : ∀ j,j<S.n->s.a i j≠0->S.n<=s.cols j) (g:Nat->Rat) :
  (sumN S.m fun k=>refF S s i S.n k*g (S.n+k))=g (s.basic i) - sumN S.n fun j=>s.a i j*g (s.cols j):=by
 have e1:(sumN S.m fun k=>refF S s i S.n k*g (S.n+k))=(sumN S.m fun k=>if k=s.basic i - S.n then g (s.basic i) else 0)+sumN S.m fun k=>sumN S.n fun j=>if s.cols j=S.n+k then - s.a i j*g (s.cols j) else 0:=by
  rw [<- zD1]
  refine zAn fun k _=>?_
  rw [refF_eq h hi hb hc k S.n (Nat.le_refl _)]
  have e2:(sumN S.n fun j=>if s.cols j=S.n+k then - s.a i j*g (s.cols j) else 0)=g (S.n+k)*sumN S.n fun j=>if s.cols j=S.n+k then - s.a i j else 0:=by
   rw [<- zBK]
   refine zAn fun j _=>?_
   split
   ·rename_i e;rw [e];grind
   ·grind
  rw [e2]
  by_cases e:k=s.basic i - S.n
  ·rw [if_pos (by omega),if_pos e,show S.n+k=s.basic i by omega];grind
  ·rw [if_neg (by omega),if_neg e];grind
 have d:=(h.bas i hi).1
 rw [e1,sumN_comm,zCo (j:=s.basic i - S.n) (by omega) _ (fun k _ b=>if_neg b),if_pos rfl,Rat.sub_eq_add_neg,<- zEs]
 congr 1
 refine zAn fun j hj=>?_
 by_cases h0:s.a i j=0
 ·rw [h0,zAY fun k _=>by split <;> grind];grind
 ·have l:=hc j hj h0
  have f:=(h.col j hj).1
  rw [zCo (j:=s.cols j - S.n) (by omega) _ (fun k _ b=>if_neg (by omega)),if_pos (by omega)];grind
theorem refute_ok {S:Sys} {s:Dy} (h:Inv S s) {i:Nat} {b:V2} {up:Bool} (hv:viol S s=some (i,b,up)) (he:zBr S s i up=none):zBg S (refv S s i up):=by
 obtain⟨a1,a2,a3,a4,a5,a6⟩:=zBF h.dict.perm hv
 have f:=zEP h he
 have hc : ∀ j,j<S.n->s.a i j≠0->S.n<=s.cols j:=fun j hj h0=>(f j hj h0).1
 have u:=refF_sum h.dict.perm a1 a2 hc
 have l : ∀ g:Nat->Rat,(sumN S.m fun k=>refv S s i up k*g (S.n+k))=(if up then (-1:Rat) else 1)*(g (s.basic i) - sumN S.n fun j=>s.a i j*g (s.cols j)):=by
  intro g
  rw [<- u,<- zBK]
  refine zAn fun k _=>?_
  unfold refv
  split <;> grind
 have x : ∀ k,k<S.m->refF S s i S.n k=(if s.basic i=S.n+k then 1 else 0)+sumN S.n fun j=>if s.cols j=S.n+k then - s.a i j else 0:=fun k hk=>refF_eq h.dict.perm a1 a2 hc k S.n (Nat.le_refl _)
 have o : ∀ k,k<S.m->(s.basic i=S.n+k/\refF S s i S.n k=1)\/(s.basic i≠S.n+k/\refF S s i S.n k=0)\/∃ j,j<S.n/\s.cols j=S.n+k/\refF S s i S.n k = - s.a i j:=by
  intro k hk
  rw [x k hk]
  by_cases e:s.basic i=S.n+k
  ·left
   refine⟨e,?_⟩
   rw [if_pos e,zAY fun j hj=>if_neg fun e2=>h.dict.perm.ne a1 hj (by rw [e,e2])];grind
  ·right
   rw [if_neg e]
   by_cases hj : ∃ j,j<S.n/\s.cols j=S.n+k
   ·right
    obtain⟨j,hj,e2⟩:=hj
    exact⟨j,hj,e2,by rw [pick_cols h.dict.perm hj e2 fun j => - s.a i j];grind⟩
   ·left
    exact⟨e,by rw [zAY fun j a8=>if_neg fun e2=>hj ⟨j,a8,e2⟩];grind⟩
 have p:Adm S (refv S s i up):=by
  intro k hk h3
  unfold refv
  rcases o k hk with ⟨e,e2⟩ | ⟨_,e2⟩ | ⟨j,hj,e,e2⟩
  ·rw [e2]
   cases hu:up with
   | false=>simp only [Bool.false_eq_true,if_false];grind
   | true =>
    have:=(a5 hu).1
    rw [e,Nat.add_sub_cancel_left] at this
    exact absurd this h3
  ·rw [e2];split <;> grind
  ·rw [e2]
   by_cases h0:s.a i j=0
   ·rw [h0];split <;> grind
   ·have:=(f j hj h0).2 (by rw [e,Nat.add_sub_cancel_left];exact h3)
    cases hu:up with
    | false =>
     rw [hu] at this
     have h4 : ¬ 0<s.a i j:=by simpa using this
     simp only [Bool.false_eq_true,if_false];grind
    | true =>
     rw [hu] at this
     have h4:0<s.a i j:=by simpa using this
     simp only [if_true];grind
 refine⟨p,fun j hj=>?_,?_⟩
 ·have hx:=ext_sol S fun v=>if v=j then 1 else 0
  have h1:=(h.dict.sol _).1 hx i a1
  have h2:=l (ext S fun v=>if v=j then 1 else 0)
  rw [h1] at h2
  have e3:comb S (refv S s i up) j=sumN S.m fun k=>refv S s i up k*ext S (fun v=>if v=j then 1 else 0) (S.n+k):=by
   rw [comb]
   refine zAn fun k hk=>?_
   rw [hx k hk,zCo hj,show ext S (fun v=>if v=j then 1 else 0) j=1 from (zFc hj).trans (if_pos rfl),Rat.mul_one]
   intro v hv a9
   rw [show ext S (fun v=>if v=j then (1:Rat) else 0) v=0 from (zFc hv).trans (if_neg a9),Rat.mul_zero]
  rw [e3,h2];grind
 ·
  have hK:combK S (refv S s i up)=(if up then (-1:Rat) else 1)*((ub S (s.basic i)).1 - sumN S.n fun j=>s.a i j*(ub S (s.cols j)).1):=by
   rw [<- l fun v=>(ub S v).1]
   exact zAn fun k _=>by rw [ub];simp only [Nat.add_sub_cancel_left]
  have hE:(sumN S.m fun k=>refv S s i up k*(ub S (S.n+k)).2)=(if up then (-1:Rat) else 1)*((ub S (s.basic i)).2 - sumN S.n fun j=>s.a i j*(ub S (s.cols j)).2):=l fun v=>(ub S v).2
  have a0:(s.val (s.basic i)).1=sumN S.n fun j=>s.a i j*(ub S (s.cols j)).1:=by
   have:=(h.dict.sol _).1 h.sol1 i a1
   rw [this]
   refine zAn fun j hj=>?_
   by_cases h0:s.a i j=0
   ·rw [h0];grind
   ·rw [h.non j hj,if_neg (by have:=hc j hj h0;omega)]
  have a7:(s.val (s.basic i)).2=sumN S.n fun j=>s.a i j*(ub S (s.cols j)).2:=by
   have:=(h.dict.sol _).1 h.sol2 i a1
   rw [this]
   refine zAn fun j hj=>?_
   by_cases h0:s.a i j=0
   ·rw [h0];grind
   ·rw [h.non j hj,if_neg (by have:=hc j hj h0;omega)]
  rw [<- a0] at hK
  rw [<- a7] at hE
  have d:(sumN S.m fun k=>refv S s i up k*(ub S (S.n+k)).2)<0->Strict S (refv S s i up):=by
   intro b0
   have:0<sumN S.m fun k => - (refv S s i up k*(ub S (S.n+k)).2):=by rw [zEs];grind
   obtain⟨k,hk,hp⟩:=sumN_pos_ex this
   have h2:S.rel k=2:=by
    refine Decidable.byContradiction fun h2=>?_
    rw [ub] at hp
    simp only [Nat.add_sub_cancel_left,if_neg h2] at hp
    grind
   refine⟨k,hk,h2,?_⟩
   rw [ub] at hp
   simp only [Nat.add_sub_cancel_left,if_pos h2] at hp
   grind
  cases hu:up with
  | false =>
   have h1:=a4 hu
   rw [hu] at hK hE
   simp only [Bool.false_eq_true,if_false] at hK hE
   unfold lt2 at h1
   rcases h1 with h1 | ⟨h1,h2⟩
   ·left;grind
   ·right
    refine⟨by grind,?_⟩
    have:=d (by rw [hu];grind)
    rwa [hu] at this
  | true =>
   have h1:=(a5 hu).2
   rw [hu] at hK hE
   simp only [if_true] at hK hE
   unfold lt2 at h1
   rcases h1 with h1 | ⟨h1,h2⟩
   ·left;grind
   ·right
    refine⟨by grind,?_⟩
    have:=d (by rw [hu];grind)
    rwa [hu] at this
def below (eps:Rat) (a b:V2):Rat:=if a.1<b.1/\b.2<a.2 then (if (b.1 - a.1)*(a.2 - b.2)⁻¹<eps then (b.1 - a.1)*(a.2 - b.2)⁻¹ else eps) else eps
def zBU (S:Sys) (s:Dy) (eps:Rat) (v:Nat):Rat :=
 let e1:=match upper S v with | some u=>below eps (s.val v) u | none=>eps
 match lower S v with | some l=>below e1 l (s.val v) | none=>e1
def epsF (S:Sys) (s:Dy):Nat->Rat
 | 0=>1
 | k+1=>zBU S s (epsF S s k) (S.n+k)
def zBj (S:Sys) (s:Dy):Rat:=epsF S s S.m
theorem zE6 (eps:Rat) (a b:V2):below eps a b<=eps:=by unfold below;grind
theorem zFn {eps:Rat} (h:0<eps) (a b:V2):0<below eps a b:=by
 unfold below
 split
 ·rename_i h1
  split
  ·exact Rat.mul_pos (by grind) (Rat.inv_pos.2 (by grind))
  ·exact h
 ·exact h
theorem below_ok {eps e:Rat} {a b:V2} (hl:le2 a b) (h0:0<e) (he:e<=below eps a b):a.1+a.2*e<=b.1+b.2*e:=by
 unfold below at he
 unfold le2 at hl
 by_cases h1:a.1<b.1/\b.2<a.2
 ·rw [if_pos h1] at he
  have hd:0<a.2 - b.2:=by grind
  have d:e<=(b.1 - a.1)*(a.2 - b.2)⁻¹:=by grind
  have:=Rat.mul_le_mul_of_nonneg_right d (Rat.le_of_lt hd)
  rw [Rat.mul_assoc,Rat.inv_mul_cancel _ (by grind),Rat.mul_one] at this
  grind
 ·rcases hl with h2 | ⟨h2,h3⟩
  ·have h4:a.2<=b.2:=by grind
   have:=Rat.mul_le_mul_of_nonneg_right h4 (Rat.le_of_lt h0)
   grind
  ·have:=Rat.mul_le_mul_of_nonneg_right h3 (Rat.le_of_lt h0)
   grind
theorem epsStep_le (S:Sys) (s:Dy) (eps:Rat) (v:Nat):zBU S s eps v<=eps:=by
 unfold zBU
 simp only
 split
 ·refine Rat.le_trans (zE6 _ _ _) ?_
  split
  ·exact zE6 _ _ _
  ·exact Rat.le_refl
 ·split
  ·exact zE6 _ _ _
  ·exact Rat.le_refl
theorem epsStep_pos (S:Sys) (s:Dy) {eps:Rat} (h:0<eps) (v:Nat):0<zBU S s eps v:=by
 unfold zBU
 simp only
 split
 ·refine zFn ?_ _ _
  split
  ·exact zFn h _ _
  ·exact h
 ·split
  ·exact zFn h _ _
  ·exact h
theorem epsF_pos (S:Sys) (s:Dy) : ∀ k,0<epsF S s k
 | 0=>by rw [epsF];grind
 | k+1=>epsStep_pos S s (epsF_pos S s k) _
theorem epsF_le (S:Sys) (s:Dy) {j k:Nat} (h:j<=k):epsF S s k<=epsF S s j:=by
 induction h with
 | refl=>exact Rat.le_refl
 | step _ ih=>exact Rat.le_trans (epsStep_le _ _ _ _) ih
def zB4 (s:Dy) (eps:Rat) (v:Nat):Rat:=(s.val v).1+(s.val v).2*eps
theorem point_lhs {S:Sys} {s:Dy} (h:Inv S s) (eps:Rat) {k:Nat} (hk:k<S.m):lhs S (zB4 s eps) k=zB4 s eps (S.n+k):=by
 have h1:=h.sol1 k hk
 have h2:=h.sol2 k hk
 simp only at h1 h2
 rw [lhs,zB4,h1,h2,Rat.mul_comm _ eps,<- zBK,<- zD1]
 exact zAn fun j _=>by rw [zB4];grind
theorem point_sat {S:Sys} {s:Dy} (h:Inv S s) (hF:Feas S s):Sat S (zB4 s (zBj S s)):=by
 intro k hk
 rw [point_lhs h _ hk,zB4]
 obtain⟨w1,w2⟩:=hF (S.n+k) (by omega) (by omega)
 have hp:0<zBj S s:=epsF_pos S s S.m
 have g:zBj S s<=zBU S s (epsF S s k) (S.n+k):=epsF_le S s (j:=k+1) (by omega)
 have hb:zBj S s<=below (epsF S s k) (s.val (S.n+k)) (ub S (S.n+k)):=by
  refine Rat.le_trans g ?_
  unfold zBU
  rw [upper,if_neg (by omega)]
  simp only
  split
  ·exact zE6 _ _ _
  ·exact Rat.le_refl
 have f:=below_ok w1 hp hb
 rw [Nat.add_sub_cancel_left] at w2
 have b:(ub S (S.n+k)).1=S.K k:=by rw [ub];simp only [Nat.add_sub_cancel_left]
 have d:(ub S (S.n+k)).2=if S.rel k=2 then -1 else 0:=by rw [ub];simp only [Nat.add_sub_cancel_left]
 rw [b,d] at f
 refine⟨?_,fun h2=>?_,fun h3=>?_⟩
 ·split at f <;> grind
 ·rw [if_pos h2] at f;grind
 ·rw [w2 h3,b,d,if_neg (by omega)];grind
end Go.Tb
namespace Go.Tb
open Go.Num
def dg (k:Nat) (q:Rat):Prop:=(dec q.num.natAbs).length<=k/\(dec q.den).length<=k
theorem dg_hgt {k:Nat} (hk:0<k) {q:Rat} : dg k q↔q.num.natAbs<10 ^ k/\q.den<10 ^ k:=by
 unfold dg
 rw [zA8 hk,zA8 hk]
theorem dg.mono {j k:Nat} {q:Rat} (h:dg j q) (hj:j<=k):dg k q:=⟨Nat.le_trans h.1 hj,Nat.le_trans h.2 hj⟩
theorem hgt.dg {k:Nat} {q:Rat} (h:hgt (10 ^ k) q):dg (k+1) q:=by
 have h1:10 ^ k<10 ^ (k+1):=Nat.pow_lt_pow_right (by omega) (by omega)
 exact (dg_hgt (by omega)).2 ⟨Nat.lt_of_le_of_lt h.1 h1,Nat.lt_of_le_of_lt h.2 h1⟩
theorem dg.pos {k:Nat} {q:Rat} (h:dg k q):0<k:=by
 have:0<(dec q.den).length:=List.length_pos_iff.2 (zBa _)
 exact Nat.lt_of_lt_of_le this h.2
theorem dg.hgt {k:Nat} {q:Rat} (h:dg k q):hgt (10 ^ k) q:=by
 have h1:=(dg_hgt h.pos).1 h
 exact⟨Nat.le_of_lt h1.1,Nat.le_of_lt h1.2⟩
theorem dg.neg {k:Nat} {q:Rat} (h:dg k q):dg k (-q):=by
 unfold Tb.dg
 rw [Rat.neg_num,Rat.neg_den,Int.natAbs_neg]
 exact h
theorem dg.mul {j k:Nat} {p q:Rat} (hp:dg j p) (hq:dg k q):dg (j+k+1) (p*q):=by
 have:=hp.hgt.mul hq.hgt
 rw [<- Nat.pow_add] at this
 exact this.dg
theorem dg.add {j k:Nat} {p q:Rat} (hp:dg j p) (hq:dg k q):dg (j+k+2) (p+q):=by
 have:=hp.hgt.add hq.hgt
 rw [<- Nat.pow_add] at this
 refine (this.mono ?_).dg
 rw [Nat.pow_succ]
 omega
theorem dg.sub {j k:Nat} {p q:Rat} (hp:dg j p) (hq:dg k q):dg (j+k+2) (p - q):=by
 rw [Rat.sub_eq_add_neg];exact hp.add hq.neg
theorem dg.inv {k:Nat} {q:Rat} (h:dg k q):dg (k+1) q⁻¹:=h.hgt.inv.dg
theorem zBs {k:Nat} (h:0<k):dg k 0:=(dg_hgt h).2 ⟨Nat.pow_pos (by omega),by
 have:10 ^ 1<=10 ^ k:=Nat.pow_le_pow_right (by omega) h
 show 1<_
 omega⟩
theorem dg_one {k:Nat} (h:0<k):dg k 1:=(dg_hgt h).2 ⟨by
 have:10 ^ 1<=10 ^ k:=Nat.pow_le_pow_right (by omega) h
 show 1<_
 omega,by
 have:10 ^ 1<=10 ^ k:=Nat.pow_le_pow_right (by omega) h
 show 1<_
 omega⟩
theorem dg_txt {k:Nat} {q:Rat} (h:dg k q):(txtQ q).length<=2*k+2:=by
 have:=txt_len (decide (q.num<0)) q.num.natAbs q.den
 have h1:=h.1
 have h2:=h.2
 unfold txtQ
 omega
theorem dg_of_txt {k:Nat} {q:Rat} (h:(txtQ q).length<=k):dg (k+1) q:=by
 have h1:(dec q.num.natAbs).length<=(txtQ q).length:=by
  unfold txtQ txt3
  rw [List.length_append,List.length_append];omega
 have h2:(dec q.den).length<=(txtQ q).length+1:=by
  unfold txtQ txt3
  rw [List.length_append,List.length_append]
  by_cases e:q.den=1
  ·rw [e,zAv (by omega)];simp
  ·rw [if_neg e,List.length_cons];omega
 exact⟨by omega,by omega⟩
def bd (h:Nat):Nat->Nat
 | 0=>h
 | k+1=>4*bd h k+1
theorem bnd_bd (h:Nat) : ∀ k,bnd (10 ^ h) k<=10 ^ bd h k
 | 0=>Nat.le_refl _
 | k+1=>by
  have ih:=bnd_bd h k
  have e:10 ^ bd h (k+1)=10*(10 ^ bd h k*(10 ^ bd h k*(10 ^ bd h k*10 ^ bd h k))):=by
   rw [<- Nat.pow_add,<- Nat.pow_add,<- Nat.pow_add,Nat.mul_comm,<- Nat.pow_succ,bd]
   congr 1;omega
  rw [e,bnd]
  have:bnd (10 ^ h) k*(bnd (10 ^ h) k*(bnd (10 ^ h) k*bnd (10 ^ h) k))<=10 ^ bd h k*(10 ^ bd h k*(10 ^ bd h k*10 ^ bd h k)):=Nat.mul_le_mul ih (Nat.mul_le_mul ih (Nat.mul_le_mul ih ih))
  omega
theorem sbnd_bd (h:Nat) : ∀ k,sbnd (10 ^ h) k<=10 ^ (k*(h+1))
 | 0=>by simp [sbnd]
 | k+1=>by
  have ih:=sbnd_bd h k
  rw [sbnd,Nat.add_mul,Nat.one_mul,Nat.pow_add,Nat.pow_succ]
  have:sbnd (10 ^ h) k*10 ^ h<=10 ^ (k*(h+1))*10 ^ h:=Nat.mul_le_mul_right _ ih
  have e:10 ^ (k*(h+1))*(10 ^ h*10)=10*(10 ^ (k*(h+1))*10 ^ h):=by rw [<- Nat.mul_assoc,Nat.mul_comm]
  rw [e]
  generalize 10 ^ (k*(h+1))*10 ^ h=x at this ⊢
  generalize sbnd (10 ^ h) k*10 ^ h=y at this ⊢
  omega
theorem dict_dg {h:Nat} {S:Sys} {s:Dy} (hd:Dict S s) (hC : ∀ i j,i<S.m->j<S.n->dg h (S.C i j)) : ∀ l c,l<S.m->c<S.n->dg (bd h S.n+1) (s.a l c):=fun l c hl hc =>
 ((dict_bound (Nat.pow_pos (by omega)) hd (fun i j hi hj=>(hC i j hi hj).hgt) l c hl hc).mono (bnd_bd h S.n)).dg
theorem sum_dg {h:Nat} {f:Nat->Rat} {k:Nat} (hf : ∀ i,i<k->dg h (f i)):dg (k*(h+1)+1) (sumN k f) :=
 ((hgt_sum fun i hi=>(hf i hi).hgt).mono (sbnd_bd h k)).dg
end Go.Tb
namespace Go.Proofs.Si
open Go Go.V Go.Proofs Go.RowKit Go.Num Go.Tb Go.Proofs.Tryz
set_option maxRecDepth 100000
def fitsQ (q:Rat):Bool:=decide (q.num.natAbs<=9223372036854775807)&&decide (q.den<=9223372036854775807)
def qn (q:Rat):Int:=if fitsQ q then q.num else 0
def ql (q:Rat):Int:=if fitsQ q then (q.den:Int) - 1 else 0
def qb (q:Rat):BA:=if fitsQ q then { data:=#[] } else mk (txtQ q)
def qc (q:Rat):List Value:=[.int .i64 (qn q),.int .i64 (ql q),.string (qb q)]
def qv (q:Rat):Value := .agg #[.int .i64 (qn q),.int .i64 (ql q),.string (qb q)]
theorem zAF {q:Rat} : fitsQ q=true↔q.num.natAbs<=9223372036854775807/\q.den<=9223372036854775807:=by
 unfold fitsQ;rw [Bool.and_eq_true,decide_eq_true_eq,decide_eq_true_eq]
theorem zAM {q:Rat} (h:fitsQ q=true):qn q=q.num/\ql q=(q.den:Int) - 1/\qb q = { data:=#[] }:=by
 unfold qn ql qb;rw [h];exact⟨rfl,rfl,rfl⟩
theorem zCB {q:Rat} (h:fitsQ q=false):qn q=0/\ql q=0/\qb q=mk (txtQ q):=by
 unfold qn ql qb;rw [h];exact⟨rfl,rfl,rfl⟩
theorem zBf (q:Rat):((qb q).toList==({ data:=#[] } : BA).toList)=fitsQ q:=by
 rw [zAt]
 cases h:fitsQ q with
 | true=>rw [(zAM h).2.2];exact decide_eq_true rfl
 | false =>
  rw [(zCB h).2.2,bs_mk]
  obtain⟨c,r,e,_⟩:=txt_head q
  rw [e]
  exact decide_eq_false (by intro e2;cases e2)
theorem qc_zero:qc 0=[.int .i64 0,.int .i64 0,.string { data:=#[] }]:=by
 have h:fitsQ 0=true:=by decide
 obtain⟨h1,h2,h3⟩:=zAM h
 unfold qc
 rw [h1,h2,h3];rfl
abbrev zq:List Value:=[.int .i64 0,.int .i64 0,.string { data:=#[] }]
theorem head_parse (q:Rat) {s:BA} (hs:bs s=(if q.num<0 then [45] else [])++dec q.num.natAbs) :
  Lib.parseIntB 64 (bs s)=if q.num.natAbs<=(if q.num<0 then 9223372036854775808 else 9223372036854775807) then .ok q.num else .range:=by
 rw [hs]
 by_cases h:q.num<0
 ·rw [if_pos h,if_pos h]
  show Lib.parseIntB 64 (45::dec q.num.natAbs)=_
  rw [pib_minus (zBa _) (zAC _),zAH]
  split
  ·congr 1;omega
  ·rfl
 ·rw [if_neg h,if_neg h,List.nil_append,zEQ (zBa _) (zAC _),zAH]
  split
  ·congr 1;omega
  ·rfl
theorem parseR (s:BA) (n:Int) (c:Prop) [Decidable c] (h:Lib.parseIntB 64 (bs s)=if c then .ok n else .range) (hz:s.size<=281474976710656) (w:World) (hg:Gl w) :
  Ret prog 150 #[.string s,.int .i64 10,.int .i64 64] w fun u w'=>((c/\u = .tuple #[.int .i64 n,.nilIface])\/(¬ c/\∃ m t p,u = .tuple #[.int .i64 m,.iface t p]))/\Ext w w':=by
 by_cases hc:c
 ·rw [if_pos hc] at h
  exact (c150 s n h hz w).mono fun v w' hv=>⟨.inl ⟨hc,hv.1⟩,hv.2⟩
 ·rw [if_neg hc] at h
  exact (c150r s h hz w hg).mono fun v w' hv=>⟨.inr ⟨hc,hv.1⟩,hv.2⟩
theorem c104 {s:BA} {q:Rat} (hs:bs s=txtQ q) (hz:s.size<=1000000000) (w:World) (hg:Gl w):Ret prog 104 #[.string s] w fun v w'=>v=qv q/\Ext w w':=by
 have a1:=(yE w).alloc (.cells zq.toArray 88)
 have a2:=yN w zq 88
 refine run104 _ _ _ (yC (c149 s (by omega) _ (hg.ext a1)) ?_)
 rintro v w1 ⟨⟨t,u,rfl,ht,hu⟩,p⟩
 have l:=a1.trans p
 obtain⟨p1,p2,p3,p4⟩:=zEH q
 have hd:q.den=1\/q.den≠1:=by omega
 have j:bs t=(if q.num<0 then [45] else [])++dec q.num.natAbs/\decide (((bs s).takeWhile (· != 47)).length<(bs s).length)=decide (q.den≠1)/\(q.den≠1->bs u=dec q.den):=by
  have hX:((if q.num<0 then [45] else [])++dec q.num.natAbs:List UInt8).takeWhile (· != 47)=(if q.num<0 then [45] else [])++dec q.num.natAbs:=by
   by_cases h:q.num<0
   ·rw [if_pos h]
    show (45::dec q.num.natAbs).takeWhile (· != 47)=_
    rw [List.takeWhile_cons,if_pos (by decide),zBY (zAC _)];rfl
   ·rw [if_neg h,List.nil_append,zBY (zAC _)]
  have hY : ∀ r:List UInt8,((if q.num<0 then [45] else [])++dec q.num.natAbs++47::r:List UInt8).takeWhile (· != 47)=(if q.num<0 then [45] else [])++dec q.num.natAbs:=by
   intro r
   by_cases h:q.num<0
   ·rw [if_pos h]
    show (45::(dec q.num.natAbs++47::r)).takeWhile (· != 47)=_
    rw [List.takeWhile_cons,if_pos (by decide),zCV (zAC _)];rfl
   ·rw [if_neg h,List.nil_append,zCV (zAC _)]
  have a5:=zA3 q
  rw [hs,a5] at ht hu ⊢
  unfold dqCut at ht hu
  rcases hd with h1 | h1
  ·rw [if_pos h1,List.append_nil,hX,if_neg (Nat.lt_irrefl _)] at ht
   rw [if_pos h1,List.append_nil,hX]
   refine⟨ht,?_,fun h=>absurd h1 h⟩
   rw [decide_eq_false (Nat.lt_irrefl _),decide_eq_false (fun h=>h h1)]
  ·rw [if_neg h1,hY] at ht hu
   have hl:((if q.num<0 then [45] else [])++dec q.num.natAbs:List UInt8).length<((if q.num<0 then [45] else [])++dec q.num.natAbs++47::dec q.den:List UInt8).length:=by
    rw [List.length_append (bs:=47::dec q.den),List.length_cons];omega
   rw [if_neg h1,hY]
   rw [if_pos hl] at ht
   rw [if_pos hl,if_pos hl] at hu
   refine⟨ht,by rw [decide_eq_true hl,decide_eq_true h1],fun _=>?_⟩
   rw [hu]
   show List.drop (_+1) _=_
   rw [<- List.drop_drop,List.drop_left];rfl
 obtain⟨a0,a3,a6⟩:=j
 rw [a3]
 have i:=zFg q
 rw [<- hs,<- zAc] at i
 have a8:t.size<=1000000001:=by
  rw [zAc,a0,List.length_append]
  have h1:(dec q.num.natAbs).length<=s.size:=i.1
  have:(if q.num<0 then [(45:UInt8)] else []).length<=1:=by split <;> simp
  omega
 refine⟨t,u,_,rfl,fun K hK=>?_⟩
 have main : ∀ x:BA,bs x=dec q.den->K [.string x] w1:=by
  intro x hx
  have a9:x.size<=1000000000:=by
   rw [zAc,hx]
   have h1:(dec q.den).length<=s.size:=i.2
   omega
  refine hK x (yC (parseR t q.num _ (head_parse q a0) (by omega) w1 (hg.ext l)) ?_)
  rintro v w2 ⟨hv,d⟩
  have o:Lib.parseIntB 64 (bs x)=if q.den<=9223372036854775807 then .ok (q.den:Int) else .range:=by
   rw [hx,zEQ (zBa _) (zAC _),zAH]
  have b : ∀ w3,Ext w1 w3->∀ L:List Value,L.length=3->L=qc q->Ext w (setCells w3 ⟨w.heap.size,0,none⟩ 0 L)/\writable w3 ⟨w.heap.size,0,none⟩ 3/\vcells (setCells w3 ⟨w.heap.size,0,none⟩ 0 L) ⟨w.heap.size,0,none⟩ 0 L:=by
   intro w3 h3 L hL _
   have n:=(a2.ext p).ext h3
   exact⟨(l.trans h3).put yL _ _,n.blk.writable (by decide),(n.put L hL).blk.all⟩
  have f:s=mk (txtQ q):=zDF (by rw [bs_mk,hs])
  rcases hv with ⟨hc,rfl⟩ | ⟨hc,m,t1,p1',rfl⟩
  ·refine⟨_,_,rfl,yC (parseR x (q.den:Int) _ o (by omega) w2 ((hg.ext l).ext d)) ?_⟩
   rintro v w3 ⟨hv,g⟩
   rcases hv with ⟨hc2,rfl⟩ | ⟨hc2,m2,t2,p2',rfl⟩
   ·refine⟨_,_,rfl,.inl ⟨rfl,.inl ⟨rfl,?_⟩⟩⟩
    rw [Bool.false_or]
    by_cases hmin:q.num = -9223372036854775808
    ·have hf:fitsQ q=false:=by
      unfold fitsQ;rw [decide_eq_false (by omega)];rfl
     obtain⟨e1,e2,e3⟩:=zCB hf
     rw [hmin]
     obtain⟨h1,h2,h3⟩:=b w3 (d.trans g) [.int .i64 0,.int .i64 0,.string s] rfl (by unfold qc;rw [e1,e2,e3,f])
     refine⟨h2,_,_,_,h3,?_,h1⟩
     unfold qv;rw [e1,e2,e3,f]
    ·have hf:fitsQ q=true:=zAF.2 ⟨by split at hc <;> omega,hc2⟩
     obtain⟨e1,e2,e3⟩:=zAM hf
     have a4:(q.num == -9223372036854775808)=false:=by rw [beq_eq_false_iff_ne];exact hmin
     have a7:=q.den_nz
     rw [a4,cond_false,zAd (by omega) (by omega)]
     obtain⟨h1,h2,h3⟩:=b w3 (d.trans g) [.int .i64 q.num,.int .i64 ((q.den:Int) - 1),.string { data:=#[] }] rfl (by unfold qc;rw [e1,e2,e3])
     refine⟨h2,_,_,_,h3,?_,h1⟩
     unfold qv;rw [e1,e2,e3]
   ·have hf:fitsQ q=false:=by
     cases h:fitsQ q with
     | false=>rfl
     | true=>exact absurd (zAF.1 h).2 hc2
    obtain⟨e1,e2,e3⟩:=zCB hf
    refine⟨_,_,rfl,.inl ⟨rfl,.inr ⟨⟨_,_,rfl⟩,?_⟩⟩⟩
    obtain⟨h1,h2,h3⟩:=b w3 (d.trans g) [.int .i64 0,.int .i64 0,.string s] rfl (by unfold qc;rw [e1,e2,e3,f])
    refine⟨h2,_,_,_,h3,?_,h1⟩
    unfold qv;rw [e1,e2,e3,f]
  ·have hf:fitsQ q=false:=by
    cases h:fitsQ q with
    | false=>rfl
    | true=>exact absurd (by have:=(zAF.1 h).1;split <;> omega) hc
   obtain⟨e1,e2,e3⟩:=zCB hf
   refine⟨_,_,rfl,yC (parseR x (q.den:Int) _ o (by omega) w2 ((hg.ext l).ext d)) ?_⟩
   rintro v w3 ⟨hv,g⟩
   obtain⟨h1,h2,h3⟩:=b w3 (d.trans g) [.int .i64 0,.int .i64 0,.string s] rfl (by unfold qc;rw [e1,e2,e3,f])
   have k : ∃ n1 v4,v = .tuple #[.int .i64 n1,v4]:=by
    rcases hv with ⟨_,rfl⟩ | ⟨_,m2,t2,p2',rfl⟩ <;> exact⟨_,_,rfl⟩
   obtain⟨n1,v4,rfl⟩:=k
   refine⟨_,_,rfl,.inr ⟨⟨_,_,rfl⟩,h2,_,_,_,h3,?_,h1⟩⟩
   unfold qv;rw [e1,e2,e3,f]
 rcases hd with h1 | h1
 ·rw [decide_eq_false (fun h=>h h1),Bool.not_false,cond_true]
  refine main _ ?_
  rw [h1,zAv (by omega)];rfl
 ·rw [decide_eq_true h1,Bool.not_true,cond_false]
  exact main u (a6 h1)
end Go.Proofs.Si
namespace Go.Proofs.Si
open Go Go.V Go.Proofs Go.RowKit Go.Num Go.Tb Go.Proofs.Tryz
open Go.IntKind (i64 u64 u32 u8)
set_option maxRecDepth 100000
theorem zB8 {k:Nat} {q:Rat} (h:dg k q) {s:BA} (hs:bs s=txtQ q):s.size<=2*k+2:=by rw [zAc,hs];exact dg_txt h
theorem c76 {q:Rat} (h:dg 400000000 q) (w:World) (hg:Gl w):Ret prog 76 #[qv q] w fun v w'=>TxtV q v/\Ext w w':=by
 have hx:=(yE w).alloc (.cells (qc q).toArray 88)
 have hB:=yN w (qc q) 88
 have b:Box (w.alloc (.cells (qc q).toArray 88)).drew w.heap.size 88 (qc q):=hB
 refine run76 _ _ _ _ _ ⟨_,hB.blk.cell (j:=2) rfl,?_⟩
 rw [zBf]
 cases hf:fitsQ q with
 | false =>
  rw [Bool.not_false,cond_true]
  refine⟨_,hB.blk.cell (j:=2) rfl,⟨_,rfl,?_⟩,hx⟩
  rw [(zCB hf).2.2,bs_mk]
 | true =>
  obtain⟨e1,e2,e3⟩:=zAM hf
  obtain⟨f1,f2⟩:=zAF.1 hf
  have f:=q.den_nz
  have zn:=h.1
  have zd:=h.2
  rw [Bool.not_true,cond_false]
  refine⟨_,hB.blk.cell (j:=1) rfl,zAb (fun h1=>?_) (fun h1=>?_)⟩
  ·have h1:q.den=1:=by
    rw [e2] at h1
    have:((q.den:Int) - 1)=0:=by simpa using h1
    omega
   refine⟨_,hB.blk.cell (j:=0) rfl,?_⟩
   refine yC (R:=fun v w'=>(∃ s,v = .string s/\bs s=txtQ q)/\Ext w w') ?_ (fun v w' hv=>?_)
   ·refine (c132 (qn q) (by rw [e1];omega) (by rw [e1];omega) _ (hg.ext hx).p10).mono ?_
    rintro v w1 ⟨⟨s,rfl,hs⟩,he⟩
    rw [e1] at hs
    refine⟨⟨s,rfl,?_⟩,hx.trans he⟩
    rw [hs,zA3,if_pos h1,List.append_nil]
   ·obtain⟨⟨s,rfl,hs⟩,he⟩:=hv
    exact⟨s,rfl,⟨s,rfl,hs⟩,he⟩
  ·have h1:q.den≠1:=by
    rintro e
    rw [e2,e] at h1
    exact absurd h1 (by decide)
   intro K hK
   refine⟨_,b.blk.cell (j:=0) rfl,_,b.blk.cell (j:=1) rfl,?_⟩
   have ew:i64.wrap (ql q+1)=(q.den:Int):=by rw [e2,zAd (by omega) (by omega)];omega
   rw [ew]
   refine yC (c132 (qn q) (by rw [e1];omega) (by rw [e1];omega) _ (hg.ext hx).drew.p10) ?_
   rintro v w1 ⟨⟨s,rfl,hs⟩,he⟩
   rw [e1] at hs
   have g:s.size<=400000001:=by
    rw [zAc,hs,List.length_append]
    have:(if q.num<0 then [(45:UInt8)] else []).length<=1:=by split <;> simp
    omega
   refine⟨s,rfl,he,by omega,yC (c132 (q.den:Int) (by omega) (by omega) w1 ((hg.ext hx).drew.ext he).p10) ?_⟩
   rintro v w2 ⟨⟨u,rfl,hu⟩,d⟩
   rw [if_neg (by omega),List.nil_append,Int.natAbs_natCast] at hu
   have i:u.size<=400000000:=by rw [zAc,hu];exact zd
   refine⟨u,rfl,?_,hK _ _ ⟨⟨_,rfl,?_⟩,(hx.drew.trans he).trans d⟩⟩
   ·rw [zDc]
    have:({ data:=#[47] } : BA).size=1:=rfl
    omega
   ·rw [zAN,zAN,hs,hu,zA3,if_neg h1]
    simp [bs]
theorem c176 (n:Int) (h0:n.natAbs<=9223372036854775807) (w:World):Ret prog 176 #[.int .i64 n] w fun v w'=>v = .int .u64 (n.natAbs:Int)/\w' = w:=by
 refine run176 _ _ _ (zAe (fun h=>⟨?_,rfl⟩) (fun h=>⟨?_,rfl⟩))
 ·rw [zAd (by omega) (by omega),w64ui (by omega) (by omega)];congr 1;omega
 ·rw [w64ui (by omega) (by omega)];congr 1;omega
theorem mul64 (x y:Nat) (hx:x<18446744073709551616) (hy:y<18446744073709551616) (w:World):Ret prog 189 #[.int .u64 x,.int .u64 y] w fun v w' =>
  v = .tuple #[.int .u64 ((x*y / 18446744073709551616:Nat):Int),.int .u64 ((x*y % 18446744073709551616:Nat):Int)]/\w' = w :=
 Calls.mono (Tryz.bits_Mul64 x y hx hy w) fun e w' ⟨h1,h2⟩=>⟨_,h1,rfl,h2⟩
theorem c154 (a b:Int) (ha:a.natAbs<=9223372036854775807) (hb:b.natAbs<=9223372036854775807) (w:World) :
  Ret prog 154 #[.int .i64 a,.int .i64 b] w fun v w'=>(∃ r ok,v = .tuple #[.int .i64 r,.bool ok]/\(ok=true->r=a*b/\(a*b).natAbs<=9223372036854775807))/\w' = w:=by
 refine run154 _ _ _ _ (yC (c176 a ha w) ?_)
 rintro v w1 ⟨rfl,rfl⟩
 refine⟨_,rfl,yC (c176 b hb w1) ?_⟩
 rintro v w2 ⟨rfl,rfl⟩
 refine⟨_,rfl,yC (mul64 a.natAbs b.natAbs (by omega) (by omega) w2) ?_⟩
 rintro v w3 ⟨rfl,rfl⟩
 have d:(a*b).natAbs=a.natAbs*b.natAbs:=Int.natAbs_mul a b
 refine⟨_,_,rfl,zAb (fun h=>⟨⟨_,_,rfl,fun h=>by cases h⟩,rfl⟩) (fun h=>?_)⟩
 rw [Bool.or_eq_false_iff] at h
 have h1:a.natAbs*b.natAbs / 18446744073709551616=0:=by
  have:(((a.natAbs*b.natAbs / 18446744073709551616:Nat):Int))=0:=by simpa using h.1
  omega
 have h2:a.natAbs*b.natAbs % 18446744073709551616<=9223372036854775807:=by
  have:=of_decide_eq_false h.2
  omega
 have h3:a.natAbs*b.natAbs % 18446744073709551616=(a*b).natAbs:=by rw [d];omega
 rw [h3] at h2 ⊢
 rw [zAd (n:=((a*b).natAbs:Int)) (by omega) (by omega)]
 have f : ∀ x y:Int,decide (x<0)=false->decide (y<0)=false->0<=x*y:=fun x y h1 h2=>Int.mul_nonneg (by have:=of_decide_eq_false h1;omega) (by have:=of_decide_eq_false h2;omega)
 refine zAb (fun h4=>⟨⟨_,_,rfl,fun _=>⟨?_,h2⟩⟩,rfl⟩) (fun h4=>⟨⟨_,_,rfl,fun _=>⟨?_,h2⟩⟩,rfl⟩)
 ·rw [zAd (by omega) (by omega)]
  have:a*b<=0:=by
   by_cases c1:a<0 <;> by_cases c2:b<0
   ·rw [decide_eq_true c1,decide_eq_true c2] at h4;exact absurd h4 (by decide)
   ·exact Int.mul_nonpos_of_nonpos_of_nonneg (by omega) (by omega)
   ·exact Int.mul_nonpos_of_nonneg_of_nonpos (by omega) (by omega)
   ·rw [decide_eq_false c1,decide_eq_false c2] at h4;exact absurd h4 (by decide)
  omega
 ·have:0<=a*b:=by
   by_cases c1:a<0 <;> by_cases c2:b<0
   ·exact Int.mul_nonneg_of_nonpos_of_nonpos (by omega) (by omega)
   ·rw [decide_eq_true c1,decide_eq_false c2] at h4;exact absurd h4 (by decide)
   ·rw [decide_eq_false c1,decide_eq_true c2] at h4;exact absurd h4 (by decide)
   ·exact Int.mul_nonneg (by omega) (by omega)
  omega
theorem c155 (a b:Int) (ha:a.natAbs<=9223372036854775807) (hb:b.natAbs<=9223372036854775807) (w:World) :
  Ret prog 155 #[.int .i64 a,.int .i64 b] w fun v w'=>(∃ r ok,v = .tuple #[.int .i64 r,.bool ok]/\(ok=true->r=a+b/\(a+b).natAbs<=9223372036854775807))/\w' = w:=by
 refine run155 _ _ _ _ (zAb (fun h=>⟨⟨_,_,rfl,fun h=>by cases h⟩,rfl⟩) (fun h=>⟨⟨_,_,rfl,fun _=>?_⟩,rfl⟩))
 rw [Bool.or_eq_false_iff,Bool.or_eq_false_iff] at h
 have hw:i64.wrap (a+b)=(a+b+9223372036854775808) % 18446744073709551616 - 9223372036854775808:=by rw [IntKind.wrap_i64]
 have h1 : ¬ (a>0/\b>0/\i64.wrap (a+b)<0):=fun ⟨x,y,z⟩=>by
  have:=h.1.1
  rw [decide_eq_true x,decide_eq_true y,decide_eq_true z] at this
  exact absurd this (by decide)
 have h2 : ¬ (a<0/\b<0/\i64.wrap (a+b)>=0):=fun ⟨x,y,z⟩=>by
  have:=h.1.2
  rw [decide_eq_true x,decide_eq_true y,decide_eq_true z] at this
  exact absurd this (by decide)
 have h3:i64.wrap (a+b) ≠ -9223372036854775808:=fun e=>by rw [e] at h;exact absurd h.2 (by decide)
 omega
theorem c175 (a b:Nat) (w:World):Ret prog 175 #[.int .u64 a,.int .u64 b] w fun v w'=>v = .int .u64 (Nat.gcd a b:Nat)/\Ext w w':=by
 obtain⟨I',μ',f,d⟩:=ghost (G:=Nat × Nat) (fun g vals w1=>vals=[.int .u64 g.1,.int .u64 g.2]/\Nat.gcd g.1 g.2=Nat.gcd a b/\Ext w w1) (fun g=>g.2)
 refine run175 _ _ _ _ ⟨I',μ',f (a,b) _ _ ⟨rfl,rfl,yE _⟩,fun n n1 w1 hI=>?_⟩
 obtain⟨⟨x,y⟩,⟨hv,hg,he⟩,fin⟩:=d _ _ hI
 cases hv
 refine zAb (fun h=>?_) (fun h=>⟨?_,he⟩)
 ·have hy:y≠0:=by rintro rfl;simp at h
  refine zAe (fun h0=>absurd h0 (by omega)) (fun _=>fin (y,x % y) _ _ ⟨by rw [tmodN],?_,he.drew⟩ (Nat.mod_lt _ (by omega)))
  rw [<- hg]
  show Nat.gcd y (x % y)=Nat.gcd x y
  rw [Nat.gcd_comm x y,Nat.gcd_rec y x,Nat.gcd_comm]
 ·have hy:y=0:=by
   have:((y:Nat):Int)=0:=by simpa using h
   omega
  subst hy
  rw [<- hg];simp
theorem c156 (n:Int) (d:Nat) (hd:d≠0) (hn:n.natAbs<=9223372036854775807) (hd2:d<=9223372036854775807) (w:World) :
  Ret prog 156 #[.int .i64 n,.int .i64 (d:Int)] w fun v w'=>v=qv (mkRat n d)/\Ext w w':=by
 have hx:=(yE w).alloc (.cells zq.toArray 88)
 have hB:=yN w zq 88
 refine run156 _ _ _ _ (yC (c176 n hn _) ?_)
 rintro v w1 ⟨rfl,rfl⟩
 rw [w64ui (n:=(d:Int)) (by omega) (by omega)]
 refine⟨_,rfl,yC (c175 n.natAbs d _) ?_⟩
 rintro v w2 ⟨rfl,j⟩
 obtain⟨G,hG⟩ : ∃ G,G=Nat.gcd n.natAbs d:=⟨_,rfl⟩
 have l:0<G:=by rw [hG];exact Nat.gcd_pos_of_pos_right _ (Nat.pos_of_ne_zero hd)
 have k:G<=d:=by rw [hG];exact Nat.le_of_dvd (Nat.pos_of_ne_zero hd) (Nat.gcd_dvd_right _ _)
 have g:((G:Nat):Int) ∣ n:=by rw [hG];exact Int.ofNat_dvd_left.2 (Nat.gcd_dvd_left _ _)
 have f:(mkRat n d).num=n.tdiv (G:Int):=by rw [Rat.num_mkRat,if_neg hd,Nat.gcd_comm,<- hG,Int.tdiv_eq_ediv_of_dvd g]
 have b:(mkRat n d).den=d / G:=by rw [Rat.den_mkRat,if_neg hd,Nat.gcd_comm,<- hG]
 have m:(mkRat n d).num.natAbs<=n.natAbs:=by
  rw [f,Int.tdiv_eq_ediv_of_dvd g,Int.natAbs_ediv_of_dvd g]
  exact Nat.div_le_self _ _
 have p:(mkRat n d).den<=d:=by rw [b];exact Nat.div_le_self _ _
 have o:=(mkRat n d).den_nz
 rw [<- hG]
 refine⟨_,rfl,?_⟩
 rw [zAd (n:=(G:Int)) (by omega) (by omega),tdivN,<- f,<- b,zAd (n:=(mkRat n d).num) (by omega) (by omega),zAd (n:=((mkRat n d).den:Int)) (by omega) (by omega),zAd (by omega) (by omega)]
 have i:Box w2.drew w.heap.size 88 zq:=hB.ext j.drew
 obtain⟨e1,e2,e3⟩:=zAM (q:=mkRat n d) (zAF.2 ⟨by omega,by omega⟩)
 refine zAe (fun h=>absurd h (by omega)) (fun _=>zAe (fun h=>absurd h (by omega)) (fun _=>⟨i.blk.writable (by decide),_,_,_,(i.put _ (by rfl)).blk.all,?_,(hx.trans j).drew.put yL _ _⟩))
 unfold qv
 rw [e1,e2,e3]
end Go.Proofs.Si
