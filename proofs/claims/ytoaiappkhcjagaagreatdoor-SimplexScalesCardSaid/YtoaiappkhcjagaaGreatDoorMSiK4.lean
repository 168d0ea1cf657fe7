/- Part of the proof: SiK4, SiM, SiW1, SiW2. -/
import Derived.Test.YtoaiappkhcjagaaGreatDoorMTbG
import Derived.Test.YtoaiappkhcjagaaGreatDoorSiV5
set_option linter.unusedVariables false
set_option linter.unusedSimpArgs false
namespace Go.Proofs.Si
open Go Go.V Go.Proofs Go.RowKit Go.Num Go.Tb Go.Proofs.Tryz
set_option maxRecDepth 100000
def QL (f:Nat->Rat):Nat->List Value
 | 0=>[]
 | n+1=>QL f n++qc (f n)
theorem zAR (f:Nat->Rat) : ∀ n,(QL f n).length=3*n
 | 0=>rfl
 | n+1=>by rw [QL,List.length_append,zAR f n];show 3*n+3=_;omega
theorem QL_get {f:Nat->Rat} : ∀ {n i:Nat},i<n->∀ j,j<3->(QL f n)[3*i+j]? = (qc (f i))[j]?
 | n+1,i,hi,j,hj=>by
  rw [QL]
  by_cases h:i<n
  ·rw [List.getElem?_append_left (by rw [zAR];omega)]
   exact QL_get h j hj
  ·have:i=n:=by omega
   subst this
   rw [List.getElem?_append_right (by rw [zAR];omega),zAR,Nat.add_sub_cancel_left]
theorem zAT {f g:Nat->Rat} : ∀ {n:Nat},(∀ i,i<n->f i=g i)->QL f n=QL g n
 | 0,_=>rfl
 | n+1,h=>by rw [QL,QL,zAT fun i hi=>h i (by omega),h n (by omega)]
theorem QL_ext {f:Nat->Rat} {n:Nat} {L:List Value} (hl:L.length=3*n) (h : ∀ i,i<n->∀ j,j<3->L[3*i+j]? = (qc (f i))[j]?):L=QL f n:=by
 apply List.ext_getElem?
 intro k
 by_cases hk:k<3*n
 ·have h1:=h (k / 3) (by omega) (k % 3) (by omega)
  have h2:=QL_get (f:=f) (show k / 3<n by omega) (k % 3) (by omega)
  rw [Nat.div_add_mod] at h1 h2
  rw [h1,h2]
 ·rw [List.getElem?_eq_none (by omega),List.getElem?_eq_none (by rw [zAR];omega)]
theorem QL_set {f:Nat->Rat} {n i:Nat} (hi:i<n) (x:Rat):setL (QL f n) (3*i) (qc x)=QL (upd f i x) n:=by
 apply QL_ext (by rw [zBP,zAR])
 intro k hk j hj
 rw [zDM _ _ _ _ (by rw [zAR];omega)]
 show (if 3*i<=3*k+j/\3*k+j<3*i+3 then _ else _)=_
 by_cases e:k=i
 ·subst e
  rw [if_pos (by omega),zAy,show 3*k+j - 3*k=j by omega]
 ·rw [if_neg (by omega),zAu _ e]
  exact QL_get hk j hj
theorem zD8 (n:Nat):madeCells zq.toArray (n*3)=(QL (fun _=>0) n).toArray:=by
 apply Array.ext'
 show _=QL _ n
 apply QL_ext
 ·simp [madeCells];omega
 ·intro i hi j hj
  rw [zEp]
  simp only [madeCells]
  have:(3*i+j)<n*3:=by omega
  have h3:(3*i+j) % 3=j:=by omega
  match j,hj with
  | 0,_=>simp [show 3*i<n*3 by omega]
  | 1,_=>simp [this,h3]
  | 2,_=>simp [this,h3]
def QS (w:World) (a:Option Addr) (f:Nat->Rat) (n:Nat):Prop:=SlAt w a (QL f n)
theorem QS.ext {w w' : World} {a:Option Addr} {f:Nat->Rat} {n:Nat} (h:QS w a f n) (he:Ext w w'):QS w' a f n:=SlAt.ext h he
theorem _root_.Go.V.SlAt.get {w:World} {a:Option Addr} {L:List Value} (h:SlAt w a L) {k:Nat} {v:Value} (hk:L[k]? = some v) : ∃ b o,a=some ⟨b,o,none⟩/\w.cell? ⟨b,o+k,none⟩=some v:=by
 rcases h with rfl | ⟨ad,h1,h2,h3⟩
 ·cases hk
 ·obtain⟨b,o,s⟩:=ad
  cases h2
  have:=h3 k v hk
  rw [zAk] at this
  exact⟨b,o,h1,this⟩
theorem QS.get {w:World} {a:Option Addr} {f:Nat->Rat} {n i:Nat} (h:QS w a f n) (hi:i<n) : ∃ b o,a=some ⟨b,o,none⟩/\vcells w ((⟨b,o,none⟩:Addr).add (i*3)) 0 (qc (f i)):=by
 obtain⟨b,o,ha,_⟩:=SlAt.get h (k:=3*i+0) (QL_get hi 0 (by omega))
 refine⟨b,o,ha,?_⟩
 rw [zAC]
 intro j v hj
 have hj3:j<3:=(List.getElem?_eq_some_iff.1 hj).1
 obtain⟨b',o',ha',hc⟩:=SlAt.get h (k:=3*i+j) ((QL_get hi j hj3).trans hj)
 rw [ha] at ha'
 cases ha'
 rw [zAk,zAk,Nat.zero_add,show o+i*3+j=o+(3*i+j) by omega]
 exact hc
theorem _root_.Go.V.Box.qget {w:World} {b ty:Nat} {f:Nat->Rat} {n i:Nat} (h:Box w b ty (QL f n)) (hi:i<n):vcells w ((⟨b,0,none⟩:Addr).add (i*3)) 0 (qc (f i)):=by
 obtain⟨b',o',ha,hv⟩:=QS.get (a:=some ⟨b,0,none⟩) h.blk.sl hi
 cases ha
 exact hv
theorem _root_.Go.V.Box.qwr {w:World} {b ty:Nat} {f:Nat->Rat} {n i:Nat} (h:Box w b ty (QL f n)) (hi:i<n):writable w ((⟨b,0,none⟩:Addr).add (i*3)) 3:=by
 rw [zAk]
 exact h.blk.writable (by rw [zAR];omega)
theorem _root_.Go.V.Box.qset {w:World} {b ty:Nat} {f:Nat->Rat} {n i:Nat} (h:Box w b ty (QL f n)) (hi:i<n) (x:Rat):Box (setCells w ((⟨b,0,none⟩:Addr).add (i*3)) 0 (qc x)) b ty (QL (upd f i x) n):=by
 rw [zAk,<- QL_set hi]
 have:=h.setCells (o:=0+i*3) (qc x) 0
 rwa [show 0+i*3+0=3*i by omega] at this
theorem _root_.Go.V.Box.qs {w:World} {b ty:Nat} {f:Nat->Rat} {n:Nat} (h:Box w b ty (QL f n)):QS w (some ⟨b,0,none⟩) f n:=h.blk.sl
theorem zFf (n:Nat):n*siE.P.types[88].size=n*3:=rfl
theorem size9s (n:Nat):n*siE.P.types[9].size=n:=Nat.mul_one n
def SL (s:Nat->ByteArray) (n:Nat):List Value:=upto (fun i => .string (s i)) n
theorem zBg {α:Type} {f:Nat->α} {n i:Nat} (h:i<n):(upto f n)[i]? = some (f i):=by
 unfold upto
 rw [List.getElem?_map,List.getElem?_range h];rfl
theorem zEG {α:Type} {f:Nat->α} {n:Nat} {L:List α} (hl:L.length=n) (h : ∀ i,i<n->L[i]? = some (f i)):L=upto f n:=by
 apply List.ext_getElem?
 intro k
 by_cases hk:k<n
 ·rw [h k hk,zBg hk]
 ·rw [List.getElem?_eq_none (by omega),List.getElem?_eq_none (by rw [zA7];omega)]
theorem zCq {α:Type} {f:Nat->α} {n i:Nat} (hi:i<n) (x:α):(upto f n).set i x=upto (upd f i x) n:=by
 apply zEG (by rw [List.length_set,zA7])
 intro k hk
 rw [List.getElem?_set]
 by_cases e:i=k
 ·subst e
  rw [if_pos rfl,if_pos (by rw [zA7];exact hi),zAy]
 ·rw [if_neg e,zBg hk,zAu _ (fun e2=>e e2.symm)]
theorem zA3 {α:Type} {f g:Nat->α} {n:Nat} (h : ∀ i,i<n->f i=g i):upto f n=upto g n :=
 zEG (zA7 _ _) fun i hi=>by rw [zBg hi,h i hi]
def SS (w:World) (a:Option Addr) (s:Nat->ByteArray) (n:Nat):Prop:=SlAt w a (SL s n)
theorem SS.ext {w w' : World} {a:Option Addr} {s:Nat->ByteArray} {n:Nat} (h:SS w a s n) (he:Ext w w'):SS w' a s n:=SlAt.ext h he
theorem SS.get {w:World} {a:Option Addr} {s:Nat->ByteArray} {n i:Nat} (h:SS w a s n) (hi:i<n) : ∃ ad,a=some ad/\w.cell? (ad.add (i*1))=some (.string (s i)):=by
 obtain⟨b,o,ha,hc⟩:=SlAt.get h (k:=i) (zBg hi)
 refine⟨_,ha,?_⟩
 rw [zAk,Nat.mul_one]
 exact hc
theorem c62 {a:Option Addr} {s:Nat->ByteArray} {n c:Nat} (hn:n<=1099511627776) (w:World) (hs:SS w a s n) (hz : ∀ i,i<n->(s i).size<=1000000000) (hg:Gl w) :
  Ret prog 62 #[.slice a n c] w fun v w'=>(∃ b,v = .bool b/\(b=true↔∀ i,i<n->okQ (bs (s i))=true))/\Ext w w':=by
 refine run62 _ _ _ _ _ ⟨fun vals w1=>∃ i:Nat,vals=[.int .i64 i]/\i<=n/\(∀ k,k<i->okQ (bs (s k))=true)/\Ext w w1,mu1 n,⟨0,rfl,Nat.zero_le _,fun k hk=>by omega,Ext.refl _⟩,?_⟩
 rintro m w1 ⟨i,hv,hi,hall,he⟩
 cases hv
 refine zAd (fun hlt=>?_) (fun hge=>⟨⟨true,rfl,by simp only [true_iff];exact fun k hk=>hall k (by omega)⟩,he⟩)
 have hin:i<n:=by omega
 obtain⟨ad,ha,hc⟩:=(hs.ext he).get hin
 refine⟨ad,ha,⟨by omega,hlt⟩,_,hc,Called.of (c111 (s i) (hz i hin) w1 (hg.ext he)) ?_⟩
 rintro v w2 ⟨rfl,he2⟩
 refine⟨_,rfl,zAa (fun hb=>⟨⟨false,rfl,?_⟩,he.trans he2⟩) (fun hb=>?_)⟩
 ·have hb:okQ (bs (s i))=false:=by simpa using hb
  constructor
  ·intro h;cases h
  ·intro h;rw [h i hin] at hb;cases hb
 ·have hb:okQ (bs (s i))=true:=by simpa using hb
  rw [zAh (by omega)]
  refine⟨⟨i+1,rfl,hin,fun k hk=>?_,he.trans he2⟩,by simp only [mu1,Int.toNat_natCast];omega⟩
  by_cases e:k=i
  ·rw [e];exact hb
  ·exact hall k (by omega)
theorem c64 {a:Option Addr} {s:Nat->ByteArray} {f:Nat->Rat} {n c:Nat} (hn:n<=1048576) (w:World) (hs:SS w a s n) (hz : ∀ i,i<n->(s i).size<=1000000000) (hf : ∀ i,i<n->bs (s i)=txtQ (f i)) (hg:Gl w) :
  Ret prog 64 #[.slice a n c] w fun v w'=>v = .slice (some ⟨w.heap.size,0,none⟩) n n/\Box w' w.heap.size 88 (QL f n)/\Ext w w':=by
 refine run64 _ _ _ _ _ ⟨⟨by omega,by omega,by omega,by omega⟩,?_⟩
 simp only [Int.toNat_natCast,zFf]
 have e0:madeCells (Value.agg #[Value.int .i64 0,.int .i64 0,.string { data:=#[] }]).cells (n*3)=(QL (fun _=>0) n).toArray:=zD8 n
 rw [e0]
 refine⟨fun vals w1=>∃ i:Nat,vals=[.int .i64 i]/\i<=n/\Box w1 w.heap.size 88 (QL (fun k=>if k<i then f k else 0) n)/\Ext w w1,mu1 n,⟨0,rfl,Nat.zero_le _,?_,(Ext.refl w).alloc _⟩,?_⟩
 ·rw [zAT (g:=fun _=>0) fun i _=>if_neg (by omega)]
  exact Box.new w _ 88
 rintro m w1 ⟨i,hv,hi,hB,he⟩
 cases hv
 refine zAd (fun hlt=>?_) (fun hge=>⟨trivial,?_,he⟩)
 ·have hin:i<n:=by omega
  obtain⟨ad,ha,hc⟩:=(hs.ext he).get hin
  refine⟨ad,ha,⟨by omega,hlt⟩,_,hc,Called.of (c104 (hf i hin) (hz i hin) w1 (hg.ext he)) ?_⟩
  rintro v w2 ⟨rfl,he2⟩
  have hB2:=hB.ext he2
  refine⟨_,_,_,rfl,_,rfl,⟨by omega,hlt⟩,hB2.qwr hin,?_⟩
  rw [zAh (by omega)]
  refine⟨⟨i+1,rfl,hin,?_,?_⟩,by simp only [mu1,Int.toNat_natCast];omega⟩
  ·have:=hB2.qset hin (f i)
   rw [zAT (g:=fun k=>if k<i+1 then f k else 0) fun k hk=>?_] at this
   ·exact this
   ·by_cases e:k=i
    ·subst e;rw [zAy,if_pos (by omega)]
    ·rw [zAu _ e]
     by_cases h:k<i
     ·rw [if_pos h,if_pos (by omega)]
     ·rw [if_neg h,if_neg (by omega)]
  ·rw [zAk]
   exact (he.trans he2).put (Nat.le_refl _) _ _
 ·rw [zAT (g:=f) fun k hk=>if_pos (by omega)] at hB
  exact hB
theorem made_str (n:Nat):madeCells (Value.string { data:=#[] }).cells n=(upto (fun _=>Value.string { data:=#[] }) n).toArray:=by
 apply Array.ext'
 show _=upto _ n
 apply zEG
 ·simp [madeCells]
 ·intro i hi
  simp [madeCells,Value.cells,hi,Nat.mod_one]
theorem c72 {a:Option Addr} {f:Nat->Rat} {n c:Nat} (hn:n<=1048576) (w:World) (hs:QS w a f n) (hz : ∀ i,i<n->dg 400000000 (f i)) (hg:Gl w) :
  Ret prog 72 #[.slice a n c] w fun v w'=>v = .slice (some ⟨w.heap.size,0,none⟩) n n/\Box w' w.heap.size 9 (SL (fun i=>mk (txtQ (f i))) n)/\Ext w w':=by
 refine run72 _ _ _ _ _ ⟨⟨by omega,by omega,by omega,by omega⟩,?_⟩
 simp only [Int.toNat_natCast,size9s,made_str]
 refine⟨fun vals w1=>∃ i:Nat,vals=[.int .i64 i]/\i<=n/\Box w1 w.heap.size 9 (SL (fun k=>if k<i then mk (txtQ (f k)) else { data:=#[] }) n)/\Ext w w1,mu1 n,⟨0,rfl,Nat.zero_le _,?_,(Ext.refl w).alloc _⟩,?_⟩
 ·have:SL (fun k=>if k<0 then mk (txtQ (f k)) else { data:=#[] }) n=upto (fun _=>Value.string { data:=#[] }) n:=zA3 fun i _=>by (show Value.string (if i<0 then _ else _)=_;rw [if_neg (by omega)])
  rw [this]
  exact Box.new w _ 9
 rintro m w1 ⟨i,hv,hi,hB,he⟩
 cases hv
 refine zAd (fun hlt=>?_) (fun hge=>⟨trivial,?_,he⟩)
 ·have hin:i<n:=by omega
  obtain⟨b,o,ha,hc⟩:=(hs.ext he).get hin
  have hN:=Box.new w1 zq 88
  have hBx:=(hB.ext ((Ext.refl w1).alloc (.cells zq.toArray 88))).same (zAx (b:=w1.heap.size) (o:=0) (k:=w.heap.size) (by have:=hB.lt;omega) (qc (f i)) 0)
  have hx:Ext w (setCells (w1.alloc (.cells zq.toArray 88)) ⟨w1.heap.size,0,none⟩ 0 (qc (f i))):=(he.alloc _).put he.size _ _
  refine⟨_,ha,⟨by omega,hlt⟩,_,_,_,hc,hN.blk.writable (by decide),_,_,_,(hN.put (qc (f i)) (by rfl)).blk.all,Called.of (c76 (hz i hin) _ (hg.ext hx)) ?_⟩
  rintro v w2 ⟨⟨s,rfl,hs2⟩,he2⟩
  have hB2:=hBx.ext he2
  have hadd:((⟨w.heap.size,0,none⟩:Addr).add (i*1))=⟨w.heap.size,i,none⟩:=by rw [zAk,Nat.mul_one,Nat.zero_add]
  refine⟨s,rfl,_,rfl,⟨by omega,hlt⟩,?_⟩
  rw [Int.toNat_natCast,hadd,zAh (by omega)]
  refine⟨⟨⟨_,hB2.blk.cell (zBg hin)⟩,hB2.blk.free⟩,⟨i+1,rfl,hin,?_,(hx.trans he2).setCell (Nat.le_refl _) _⟩,by simp only [mu1,Int.toNat_natCast];omega⟩
  have:=hB2.set i (.string s)
  rw [SL,zCq hin] at this
  have e:upto (upd (fun i_1=>Value.string (if i_1<i then mk (txtQ (f i_1)) else { data:=#[] })) i (Value.string s)) n=SL (fun k=>if k<i+1 then mk (txtQ (f k)) else { data:=#[] }) n:=by
   refine zA3 fun k hk=>?_
   by_cases e:k=i
   ·subst e
    rw [zAy]
    show _=Value.string (if k<k+1 then _ else _)
    rw [if_pos (by omega)]
    congr 1
    exact zGi (by rw [bs_mk,hs2])
   ·rw [zAu _ e]
    show Value.string (if k<i then _ else _)=Value.string (if k<i+1 then _ else _)
    by_cases h:k<i
    ·rw [if_pos h,if_pos (by omega)]
    ·rw [if_neg h,if_neg (by omega)]
  rw [e] at this
  exact this
 ·have e:SL (fun k=>if k<i then mk (txtQ (f k)) else { data:=#[] }) n=SL (fun i=>mk (txtQ (f i))) n:=zA3 fun k hk=>by (show Value.string (if k<i then _ else _)=_;rw [if_pos (by omega)])
  rw [e] at hB
  exact hB
end Go.Proofs.Si
namespace Go.Proofs.Si
open Go Go.V Go.Proofs Go.RowKit Go.Num Go.Tb
set_option maxRecDepth 100000
def GL (g:Nat->List Value):Nat->List Value
 | 0=>[]
 | n+1=>GL g n++g n
theorem zAU {g:Nat->List Value} {m:Nat} (hm : ∀ i,(g i).length=m) : ∀ n,(GL g n).length=m*n
 | 0=>rfl
 | n+1=>by rw [GL,List.length_append,zAU hm n,hm,Nat.mul_succ]
theorem zGm {g:Nat->List Value} {m:Nat} (hm : ∀ i,(g i).length=m) : ∀ {n i:Nat},i<n->∀ j,j<m->(GL g n)[m*i+j]? = (g i)[j]?
 | n+1,i,hi,j,hj=>by
  rw [GL]
  by_cases h:i<n
  ·have:m*i+m<=m*n:=by rw [<- Nat.mul_succ];exact Nat.mul_le_mul_left _ h
   rw [List.getElem?_append_left (by rw [zAU hm];omega)]
   exact zGm hm h j hj
  ·have:i=n:=by omega
   subst this
   rw [List.getElem?_append_right (by rw [zAU hm];omega),zAU hm,Nat.add_sub_cancel_left]
theorem GL_ext {g:Nat->List Value} {m n:Nat} (hm0:0<m) (hm : ∀ i,(g i).length=m) {L:List Value} (hl:L.length=m*n) (h : ∀ i,i<n->∀ j,j<m->L[m*i+j]? = (g i)[j]?):L=GL g n:=by
 apply List.ext_getElem?
 intro k
 by_cases hk:k<m*n
 ·have hd:k / m<n:=Nat.div_lt_of_lt_mul hk
  have h1:=h (k / m) hd (k % m) (Nat.mod_lt _ hm0)
  have h2:=zGm hm hd (k % m) (Nat.mod_lt _ hm0)
  rw [Nat.div_add_mod] at h1 h2
  rw [h1,h2]
 ·rw [List.getElem?_eq_none (by omega),List.getElem?_eq_none (by rw [zAU hm];omega)]
theorem zCb {f g:Nat->List Value} : ∀ {n:Nat},(∀ i,i<n->f i=g i)->GL f n=GL g n
 | 0,_=>rfl
 | n+1,h=>by rw [GL,GL,zCb fun i hi=>h i (by omega),h n (by omega)]
theorem GL_set {g:Nat->List Value} {m n i:Nat} (hm0:0<m) (hm : ∀ i,(g i).length=m) (hi:i<n) (x:List Value) (hx:x.length=m):setL (GL g n) (m*i) x=GL (upd g i x) n:=by
 have hm' : ∀ k,(upd g i x k).length=m:=fun k=>by
  unfold upd;split
  ·exact hx
  ·exact hm k
 apply GL_ext hm0 hm' (by rw [zBP,zAU hm])
 intro k hk j hj
 have hkm:m*k+m<=m*n:=by rw [<- Nat.mul_succ];exact Nat.mul_le_mul_left _ hk
 rw [zDM _ _ _ _ (by rw [zAU hm];omega),hx]
 by_cases e:k=i
 ·subst e
  rw [if_pos (by omega),zAy,show m*k+j - m*k=j by omega]
 ·have hne : ¬ (m*i<=m*k+j/\m*k+j<m*i+m):=by
   rintro⟨h1,h2⟩
   rcases Nat.lt_or_gt_of_ne e with h3 | h3
   ·have:m*k+m<=m*i:=by rw [<- Nat.mul_succ];exact Nat.mul_le_mul_left _ h3
    omega
   ·have:m*i+m<=m*k:=by rw [<- Nat.mul_succ];exact Nat.mul_le_mul_left _ h3
    omega
  rw [if_neg hne,zAu _ e]
  exact zGm hm hk j hj
theorem _root_.Go.V.SlAt.gget {w:World} {a:Option Addr} {g:Nat->List Value} {m n i:Nat} (hm0:0<m) (hm : ∀ i,(g i).length=m) (h:SlAt w a (GL g n)) (hi:i<n) : ∃ b o,a=some ⟨b,o,none⟩/\vcells w ((⟨b,o,none⟩:Addr).add (i*m)) 0 (g i):=by
 have h0:(g i)[0]? = some ((g i)[0]'(by rw [hm];exact hm0)):=List.getElem?_eq_getElem (by rw [hm];exact hm0)
 obtain⟨b,o,ha,_⟩:=SlAt.get h (k:=m*i+0) ((zGm hm hi 0 hm0).trans h0)
 refine⟨b,o,ha,?_⟩
 rw [zAC]
 intro j v hj
 have hjm:j<m:=by rw [<- hm i];exact (List.getElem?_eq_some_iff.1 hj).1
 obtain⟨b',o',ha',hc⟩:=SlAt.get h (k:=m*i+j) ((zGm hm hi j hjm).trans hj)
 rw [ha] at ha'
 cases ha'
 rw [zAk,zAk,Nat.zero_add,show o+i*m+j=o+(m*i+j) by rw [Nat.mul_comm i m,Nat.add_assoc]]
 exact hc
def vc2 (v:V2):List Value:=[.int .i64 (qn v.1),.int .i64 (ql v.1),.string (qb v.1),.int .i64 (qn v.2),.int .i64 (ql v.2),.string (qb v.2)]
def vv (v:V2):Value := .agg #[.int .i64 (qn v.1),.int .i64 (ql v.1),.string (qb v.1),.int .i64 (qn v.2),.int .i64 (ql v.2),.string (qb v.2)]
abbrev zv:List Value:=[.int .i64 0,.int .i64 0,.string { data:=#[] },.int .i64 0,.int .i64 0,.string { data:=#[] }]
theorem vc2_zero:vc2 zero2=zv:=by
 have:=zEp
 unfold qc at this
 injection this with h1 h2
 injection h2 with h2 h3
 injection h3 with h3 h4
 unfold vc2 zero2
 simp only [h1,h2,h3]
theorem _root_.Go.V.Box.r {w:World} {b ty:Nat} {v:V2} (h:Box w b ty (vc2 v)):vcells w ⟨b,0,none⟩ 0 (qc v.1):=h.blk.vcells fun j hj=>by
 have:j<3:=hj
 match j,this with
 | 0,_=>rfl
 | 1,_=>rfl
 | 2,_=>rfl
theorem _root_.Go.V.Box.e {w:World} {b ty:Nat} {v:V2} (h:Box w b ty (vc2 v)):vcells w ⟨b,3,none⟩ 0 (qc v.2):=h.blk.vcells fun j hj=>by
 have:j<3:=hj
 match j,this with
 | 0,_=>rfl
 | 1,_=>rfl
 | 2,_=>rfl
def dg2 (k:Nat) (v:V2):Prop:=dg k v.1/\dg k v.2
theorem dg2.mono {j k:Nat} {v:V2} (h:dg2 j v) (hj:j<=k):dg2 k v:=⟨h.1.mono hj,h.2.mono hj⟩
def VL (f:Nat->V2) (n:Nat):List Value:=GL (fun i=>vc2 (f i)) n
structure RowL where
 cA:Nat->Option Addr
 cC:Nat->Nat
def rowc (S:Tb.Sys) (R:RowL) (i:Nat):List Value:=[.slice (R.cA i) S.n (R.cC i),.int .i64 (S.rel i:Int),.int .i64 (qn (S.K i)),.int .i64 (ql (S.K i)),.string (qb (S.K i))]
def RowsR (w:World) (a:Option Addr) (S:Tb.Sys) (R:RowL):Prop:=SlAt w a (GL (rowc S R) S.m)/\∀ i,i<S.m->QS w (R.cA i) (S.C i) S.n
theorem RowsR.ext {w w' : World} {a:Option Addr} {S:Tb.Sys} {R:RowL} (h:RowsR w a S R) (he:Ext w w'):RowsR w' a S R:=⟨SlAt.ext h.1 he,fun i hi=>(h.2 i hi).ext he⟩
theorem RowsR.get {w:World} {a:Option Addr} {S:Tb.Sys} {R:RowL} (h:RowsR w a S R) {i:Nat} (hi:i<S.m) : ∃ ad,a=some ad/\vcells w (ad.add (i*5)) 0 (rowc S R i)/\(∃ b o,ad=⟨b,o,none⟩):=by
 obtain⟨b,o,ha,hv⟩:=SlAt.gget (m:=5) (by omega) (fun _=>rfl) h.1 hi
 exact⟨_,ha,hv,b,o,rfl⟩
structure Lay where
 bt:Nat
 ra:Option Addr
 rc:Nat
 R:RowL
 ba:Option Addr
 bc:Nat
 ca:Option Addr
 cc:Nat
 la:Nat
 aa:Option Addr
 ac:Nat
 va:Nat
 rowA:Nat->Option Addr
 rowC:Nat->Nat
 xb:Nat
 xl:List Value
 yb:Nat
 yl:List Value
def OwnB (w:World) (B ty:Nat) (a:Option Addr) (L:List Value):Prop:=L=[]\/∃ b,a=some ⟨b,0,none⟩/\B<=b/\Blk w b ty L
theorem OwnB.sl {w:World} {B ty:Nat} {a:Option Addr} {L:List Value} (h:OwnB w B ty a L):SlAt w a L:=h.imp id fun ⟨b,h1,_,h2⟩=>⟨_,h1,rfl,h2.row⟩
theorem OwnB.ext {w w' : World} {B ty:Nat} {a:Option Addr} {L:List Value} (h:OwnB w B ty a L) (he:Ext w w'):OwnB w' B ty a L:=h.imp id fun ⟨b,h1,hb,h2⟩=>⟨b,h1,hb,h2.ext he⟩
def lInt (f:Nat->Nat) (n:Nat):List Value:=upto (fun i => .int .i64 (f i:Int)) n
def lLine (f:Nat->Int) (n:Nat):List Value:=upto (fun i => .int .i64 (f i)) n
def lRow (T:Lay) (n m:Nat):List Value:=upto (fun i => .slice (T.rowA i) n (T.rowC i)) m
def tbox (S:Tb.Sys) (T:Lay):List Value:=[.int .i64 (S.n:Int),.slice T.ra S.m T.rc,.slice T.ba S.m T.bc,.slice T.ca S.n T.cc,.slice (some ⟨T.la,0,none⟩) (S.n+S.m) (S.n+S.m),.slice T.aa S.m T.ac,.slice (some ⟨T.va,0,none⟩) (S.n+S.m) (S.n+S.m)]
structure TabAt (S:Tb.Sys) (B:Nat) (w:World) (T:Lay) (s:Dy):Prop where
 box:Box w T.bt 140 (tbox S T)
 bt:B<=T.bt
 line:Box w T.la 3 (lLine s.line (S.n+S.m))
 la:B<=T.la
 val:Box w T.va 101 (VL s.val (S.n+S.m))
 va:B<=T.va
 basic:OwnB w B 3 T.ba (lInt s.basic S.m)
 cols:OwnB w B 3 T.ca (lInt s.cols S.n)
 a:OwnB w B 83 T.aa (lRow T S.n S.m)
 row : ∀ i,i<S.m->OwnB w B 88 (T.rowA i) (QL (s.a i) S.n)
 rows : ∀ w',Below B w w'->RowsR w' T.ra S T.R
 gl : ∀ w',Below B w w'->Gl w'
 xt:T.xl=[]\/Blk w T.xb 88 T.xl
 yt:T.yl=[]\/Blk w T.yb 103 T.yl
 d4 : ∀ i,i<S.m->T.xl≠[]->T.rowA i≠some ⟨T.xb,0,none⟩
 d1 : ∀ b,T.ba=some ⟨b,0,none⟩->T.ca≠some ⟨b,0,none⟩/\b≠T.la
 d2 : ∀ b,T.ca=some ⟨b,0,none⟩->b≠T.la
 d3 : ∀ i k b,i<S.m->k<S.m->i≠k->T.rowA i=some ⟨b,0,none⟩->T.rowA k≠some ⟨b,0,none⟩
theorem TabAt.ext {S:Tb.Sys} {B:Nat} {w w' : World} {T:Lay} {s:Dy} (h:TabAt S B w T s) (he:Ext w w') (hB:B<=w.heap.size):TabAt S B w' T s :=
 { h with box:=h.box.ext he,line:=h.line.ext he,val:=h.val.ext he,basic:=h.basic.ext he,cols:=h.cols.ext he,a:=h.a.ext he,row:=fun i hi=>(h.row i hi).ext he,rows:=fun w2 h2=>h.rows w2 (Below.trans (Below.mono he hB) h2),gl:=fun w2 h2=>h.gl w2 (Below.trans (Below.mono he hB) h2),xt:=h.xt.imp id fun hx=>hx.ext he,yt:=h.yt.imp id fun hx=>hx.ext he }
theorem TabAt.hB {S:Tb.Sys} {B:Nat} {w:World} {T:Lay} {s:Dy} (h:TabAt S B w T s):B<=w.heap.size:=Nat.le_trans h.bt (Nat.le_of_lt h.box.lt)
theorem TabAt.gg {S:Tb.Sys} {B:Nat} {w:World} {T:Lay} {s:Dy} (h:TabAt S B w T s):Gl w:=h.gl w (Below.refl _ _)
theorem TabAt.congr {S:Tb.Sys} {B:Nat} {w:World} {T:Lay} {s s' : Dy} (h:TabAt S B w T s) (h1 : ∀ i,i<S.m->s'.basic i=s.basic i) (h2 : ∀ j,j<S.n->s'.cols j=s.cols j) (h3 : ∀ v,v<S.n+S.m->s'.line v=s.line v) (h4 : ∀ i,i<S.m->∀ j,j<S.n->s'.a i j=s.a i j) (h5 : ∀ v,v<S.n+S.m->s'.val v=s.val v):TabAt S B w T s':=by
 have e1:lInt s'.basic S.m=lInt s.basic S.m:=zA3 fun i hi=>by rw [h1 i hi]
 have e2:lInt s'.cols S.n=lInt s.cols S.n:=zA3 fun i hi=>by rw [h2 i hi]
 have e3:lLine s'.line (S.n+S.m)=lLine s.line (S.n+S.m):=zA3 fun i hi=>by rw [h3 i hi]
 have e5:VL s'.val (S.n+S.m)=VL s.val (S.n+S.m):=zCb fun i hi=>by rw [h5 i hi]
 exact { h with
  line:=e3▸h.line
  val:=e5▸h.val
  basic:=e1▸h.basic
  cols:=e2▸h.cols
  row:=fun i hi=>by rw [zAT fun j hj=>h4 i hi j hj];exact h.row i hi }
theorem TabAt.drew {S:Tb.Sys} {B:Nat} {w:World} {T:Lay} {s:Dy} (h:TabAt S B w T s) (hB:B<=w.heap.size):TabAt S B w.drew T s:=h.ext (Ext.refl w).drew hB
section
variable {S:Tb.Sys} {B:Nat} {w:World} {T:Lay} {s:Dy}
theorem TabAt.f0 (h:TabAt S B w T s):w.cell? ⟨T.bt,0,none⟩=some (.int .i64 (S.n:Int)):=h.box.blk.cell (j:=0) rfl
theorem TabAt.f1 (h:TabAt S B w T s):w.cell? ((⟨T.bt,0,none⟩:Addr).add 1)=some (.slice T.ra S.m T.rc):=h.box.blk.cell (j:=1) rfl
theorem TabAt.f2 (h:TabAt S B w T s):w.cell? ((⟨T.bt,0,none⟩:Addr).add 2)=some (.slice T.ba S.m T.bc):=h.box.blk.cell (j:=2) rfl
theorem TabAt.f3 (h:TabAt S B w T s):w.cell? ((⟨T.bt,0,none⟩:Addr).add 3)=some (.slice T.ca S.n T.cc):=h.box.blk.cell (j:=3) rfl
theorem TabAt.f4 (h:TabAt S B w T s):w.cell? ((⟨T.bt,0,none⟩:Addr).add 4)=some (.slice (some ⟨T.la,0,none⟩) (S.n+S.m) (S.n+S.m)):=h.box.blk.cell (j:=4) rfl
theorem TabAt.f5 (h:TabAt S B w T s):w.cell? ((⟨T.bt,0,none⟩:Addr).add 5)=some (.slice T.aa S.m T.ac):=h.box.blk.cell (j:=5) rfl
theorem TabAt.f6 (h:TabAt S B w T s):w.cell? ((⟨T.bt,0,none⟩:Addr).add 6)=some (.slice (some ⟨T.va,0,none⟩) (S.n+S.m) (S.n+S.m)):=h.box.blk.cell (j:=6) rfl
theorem slGet {w:World} {a:Option Addr} {f:Nat->Value} {n i:Nat} (h:SlAt w a (upto f n)) (hi:i<n) : ∃ ad,a=some ad/\w.cell? (ad.add (i*1))=some (f i):=by
 obtain⟨b,o,ha,hc⟩:=SlAt.get h (k:=i) (zBg hi)
 refine⟨_,ha,?_⟩
 rw [zAk,Nat.mul_one]
 exact hc
theorem TabAt.basicAt (h:TabAt S B w T s) {i:Nat} (hi:i<S.m) : ∃ ad,T.ba=some ad/\w.cell? (ad.add (i*1))=some (.int .i64 (s.basic i:Int)):=slGet h.basic.sl hi
theorem TabAt.colsAt (h:TabAt S B w T s) {j:Nat} (hj:j<S.n) : ∃ ad,T.ca=some ad/\w.cell? (ad.add (j*1))=some (.int .i64 (s.cols j:Int)):=slGet h.cols.sl hj
theorem TabAt.lineAt (h:TabAt S B w T s) {v:Nat} (hv:v<S.n+S.m):w.cell? ((⟨T.la,0,none⟩:Addr).add (v*1))=some (.int .i64 (s.line v)):=by
 obtain⟨ad,ha,hc⟩:=slGet (a:=some ⟨T.la,0,none⟩) h.line.blk.sl hv
 cases ha;exact hc
theorem TabAt.aAt (h:TabAt S B w T s) {i:Nat} (hi:i<S.m) : ∃ ad,T.aa=some ad/\w.cell? (ad.add (i*1))=some (.slice (T.rowA i) S.n (T.rowC i)):=slGet h.a.sl hi
theorem TabAt.qAt (h:TabAt S B w T s) {i j:Nat} (hi:i<S.m) (hj:j<S.n) : ∃ ad,T.rowA i=some ad/\vcells w (ad.add (j*3)) 0 (qc (s.a i j)):=by
 obtain⟨b,o,ha,hv⟩:=QS.get (h.row i hi).sl hj
 exact⟨_,ha,hv⟩
theorem TabAt.valAt (h:TabAt S B w T s) {v:Nat} (hv:v<S.n+S.m):vcells w ((⟨T.va,0,none⟩:Addr).add (v*6)) 0 (vc2 (s.val v)):=by
 obtain⟨b,o,ha,hc⟩:=SlAt.gget (m:=6) (by omega) (fun _=>rfl) (a:=some ⟨T.va,0,none⟩) h.val.blk.sl hv
 cases ha;exact hc
theorem TabAt.valWr (h:TabAt S B w T s) {v:Nat} (hv:v<S.n+S.m):writable w ((⟨T.va,0,none⟩:Addr).add (v*6)) 6:=by
 rw [zAk]
 exact h.val.blk.writable (by rw [VL,zAU (m:=6) fun _=>rfl];omega)
theorem TabAt.rowAt (h:TabAt S B w T s) {i:Nat} (hi:i<S.m) : ∃ ad,T.ra=some ad/\vcells w (ad.add (i*5)) 0 (rowc S T.R i)/\∃ b o,ad=⟨b,o,none⟩:=(h.rows w (Below.refl _ _)).get hi
end
theorem boxNe {w:World} {b c ty ty' : Nat} {L L' : List Value} (h:Blk w b ty L) (h' : Blk w c ty' L') (hne:ty≠ty'):b≠c:=by
 rintro rfl
 obtain⟨t1,h1⟩:=h
 obtain⟨t2,h2⟩:=h'
 rw [h1] at h2
 injection h2 with h2
 injection h2 with _ h2
 exact hne h2
theorem _root_.Go.V.Box.away {w w' : World} {b c ty:Nat} {L:List Value} (h:Box w b ty L) (hw : ∀ k,k≠c->w'.heap[k]? = w.heap[k]?) (hne:b≠c):Box w' b ty L:=h.same (hw b hne)
theorem OwnB.away {w w' : World} {B c ty:Nat} {a:Option Addr} {L:List Value} (h:OwnB w B ty a L) (hw : ∀ k,k≠c->w'.heap[k]? = w.heap[k]?) (hne : ∀ b,a=some ⟨b,0,none⟩->Blk w b ty L->b≠c):OwnB w' B ty a L :=
 h.imp id fun ⟨b,h1,hb,h2⟩=>⟨b,h1,hb,h2.same (hw b (hne b h1 h2))⟩
theorem zAb {w:World} {b o i:Nat} {L:List Value} : ∀ k,k≠b->(setCells w ⟨b,o,none⟩ i L).heap[k]? = w.heap[k]?:=fun k hk=>zAx hk L i
theorem TabAt.valSet {S:Tb.Sys} {B:Nat} {w:World} {T:Lay} {s:Dy} (h:TabAt S B w T s) {v:Nat} (hv:v<S.n+S.m) (x:V2) :
  TabAt S B (setCells w ((⟨T.va,0,none⟩:Addr).add (v*6)) 0 (vc2 x)) T { s with val:=upd s.val v x }:=by
 rw [zAk]
 have hb:=h.val.blk
 have hval:Box (setCells w ⟨T.va,0+v*6,none⟩ 0 (vc2 x)) T.va 101 (VL (upd s.val v x) (S.n+S.m)):=by
  have h1:=h.val.setCells (o:=0+v*6) (vc2 x) 0
  rw [VL,show 0+v*6+0=6*v by omega,GL_set (m:=6) (by omega) (fun _=>rfl) hv (vc2 x) rfl] at h1
  have e:GL (upd (fun i=>vc2 (s.val i)) v (vc2 x)) (S.n+S.m)=VL (upd s.val v x) (S.n+S.m):=zCb fun k _=>by
   unfold upd;split <;> rfl
  rw [e] at h1
  exact h1
 exact { h with
  box:=h.box.away zAb (boxNe h.box.blk hb (by decide))
  line:=h.line.away zAb (boxNe h.line.blk hb (by decide))
  val:=hval
  basic:=h.basic.away zAb fun b _ hx=>boxNe hx hb (by decide)
  cols:=h.cols.away zAb fun b _ hx=>boxNe hx hb (by decide)
  a:=h.a.away zAb fun b _ hx=>boxNe hx hb (by decide)
  row:=fun i hi=>(h.row i hi).away zAb fun b _ hx=>boxNe hx hb (by decide)
  rows:=fun w2 h2=>h.rows w2 (Below.trans (zAr h.va _ _) h2)
  xt:=h.xt.imp id fun hx=>hx.same (zAb _ (boxNe hx hb (by decide)))
  yt:=h.yt.imp id fun hx=>hx.same (zAb _ (boxNe hx hb (by decide)))
  gl:=fun w2 h2=>h.gl w2 (Below.trans (zAr h.va _ _) h2) }
theorem zAe {w:World} {b o:Nat} {v:Value} : ∀ k,k≠b->(w.setCell ⟨b,o,none⟩ v).heap[k]? = w.heap[k]?:=fun k hk=>zAx (L:=[v]) (i:=0) (o:=o) hk
theorem TabAt.rowBlk {S:Tb.Sys} {B:Nat} {w:World} {T:Lay} {s:Dy} (h:TabAt S B w T s) {i j:Nat} (hi:i<S.m) (hj:j<S.n) : ∃ b,T.rowA i=some ⟨b,0,none⟩/\B<=b/\Blk w b 88 (QL (s.a i) S.n):=by
 rcases h.row i hi with h1 | h1
 ·have:=congrArg List.length h1
  rw [zAR] at this
  simp only [List.length_nil] at this
  omega
 ·exact h1
theorem TabAt.qSet {S:Tb.Sys} {B:Nat} {w:World} {T:Lay} {s:Dy} (h:TabAt S B w T s) {i j b:Nat} (hi:i<S.m) (hj:j<S.n) (hb:T.rowA i=some ⟨b,0,none⟩) (x:Rat) :
  TabAt S B (setCells w ((⟨b,0,none⟩:Addr).add (j*3)) 0 (qc x)) T { s with a:=upd s.a i (upd (s.a i) j x) }:=by
 obtain⟨b',hb',hB,hk⟩:=h.rowBlk hi hj
 rw [hb] at hb';cases hb'
 rw [zAk]
 have hnew:Blk (setCells w ⟨b,0+j*3,none⟩ 0 (qc x)) b 88 (QL (upd (s.a i) j x) S.n):=by
  have h1:=hk.setCells (o:=0+j*3) (qc x) 0 (by rw [zAR];show 0+j*3+0+3<=_;omega)
  rw [show 0+j*3+0=3*j by omega,QL_set hj] at h1
  exact h1
 exact { h with
  box:=h.box.away zAb (boxNe h.box.blk hk (by decide))
  line:=h.line.away zAb (boxNe h.line.blk hk (by decide))
  val:=h.val.away zAb (boxNe h.val.blk hk (by decide))
  basic:=h.basic.away zAb fun b _ hx=>boxNe hx hk (by decide)
  cols:=h.cols.away zAb fun b _ hx=>boxNe hx hk (by decide)
  a:=h.a.away zAb fun b _ hx=>boxNe hx hk (by decide)
  row:=fun k hk2=>by
   by_cases e:k=i
   ·subst e
    exact .inr ⟨b,hb,hB,by
     show Blk _ b 88 (QL (upd s.a k (upd (s.a k) j x) k) S.n)
     rw [zAy];exact hnew⟩
   ·show OwnB _ B 88 (T.rowA k) (QL (upd s.a i (upd (s.a i) j x) k) S.n)
    rw [zAu _ e]
    exact (h.row k hk2).away zAb fun b2 h2 _ hx=>by
     subst hx
     exact h.d3 k i b2 hk2 hi e h2 hb
  rows:=fun w2 h2=>h.rows w2 (Below.trans (zAr hB _ _) h2)
  xt:=by
   by_cases e:T.xl=[]
   ·exact .inl e
   ·rcases h.xt with e1 | hx
    ·exact .inl e1
    ·exact .inr (hx.same (zAb _ (fun e2=>h.d4 i hi e (by rw [e2];exact hb))))
  yt:=h.yt.imp id fun hx=>hx.same (zAb _ (boxNe hx hk (by decide)))
  gl:=fun w2 h2=>h.gl w2 (Below.trans (zAr hB _ _) h2) }
theorem TabAt.qWr {S:Tb.Sys} {B:Nat} {w:World} {T:Lay} {s:Dy} (h:TabAt S B w T s) {i j b:Nat} (hi:i<S.m) (hj:j<S.n) (hb:T.rowA i=some ⟨b,0,none⟩):writable w ((⟨b,0,none⟩:Addr).add (j*3)) 3:=by
 obtain⟨b',hb',hB,hk⟩:=h.rowBlk hi hj
 rw [hb] at hb';cases hb'
 rw [zAk]
 exact hk.writable (by rw [zAR];omega)
theorem TabAt.basicSet {S:Tb.Sys} {B:Nat} {w:World} {T:Lay} {s:Dy} (h:TabAt S B w T s) {i:Nat} (hi:i<S.m) (x:Nat) :
  ∃ b,T.ba=some ⟨b,0,none⟩/\B<=b/\((∃ v,w.cell? ((⟨b,0,none⟩:Addr).add (i*1))=some v)/\w.frozen? ((⟨b,0,none⟩:Addr).add (i*1))=false) /\
   TabAt S B (w.setCell ((⟨b,0,none⟩:Addr).add (i*1)) (.int .i64 x)) T { s with basic:=upd s.basic i x }:=by
 rcases h.basic with h1 | ⟨b,hb,hB,hk⟩
 ·have:=congrArg List.length h1
  rw [lInt,zA7] at this
  simp only [List.length_nil] at this
  omega
 refine⟨b,hb,hB,?_,?_⟩
 ·rw [zAk,Nat.zero_add,Nat.mul_one]
  exact⟨⟨_,hk.cell (zBg hi)⟩,hk.free⟩
 rw [zAk,Nat.zero_add,Nat.mul_one]
 have hnew:=hk.set i (.int .i64 x) (by rw [lInt,zA7];exact hi)
 rw [lInt,zCq hi] at hnew
 have e:upto (upd (fun i=>Value.int .i64 (s.basic i:Int)) i (.int .i64 x)) S.m=lInt (upd s.basic i x) S.m:=zA3 fun k _=>by unfold upd;split <;> rfl
 rw [e] at hnew
 exact { h with
  box:=h.box.away zAe (boxNe h.box.blk hk (by decide))
  line:=h.line.away zAe fun e=>(h.d1 b hb).2 e.symm
  val:=h.val.away zAe (boxNe h.val.blk hk (by decide))
  basic := .inr ⟨b,hb,hB,hnew⟩
  cols:=h.cols.away zAe fun b2 h2 _ hx=>by subst hx;exact (h.d1 b2 hb).1 h2
  a:=h.a.away zAe fun b _ hx=>boxNe hx hk (by decide)
  row:=fun k hk2=>(h.row k hk2).away zAe fun b _ hx=>boxNe hx hk (by decide)
  rows:=fun w2 h2=>h.rows w2 (Below.trans (Below.setCell (Below.refl _ _) (p:=⟨b,i,none⟩) hB _) h2)
  xt:=h.xt.imp id fun hx=>hx.same (zAe _ (boxNe hx hk (by decide)))
  yt:=h.yt.imp id fun hx=>hx.same (zAe _ (boxNe hx hk (by decide)))
  gl:=fun w2 h2=>h.gl w2 (Below.trans (Below.setCell (Below.refl _ _) (p:=⟨b,i,none⟩) hB _) h2) }
theorem TabAt.colsSet {S:Tb.Sys} {B:Nat} {w:World} {T:Lay} {s:Dy} (h:TabAt S B w T s) {i:Nat} (hi:i<S.n) (x:Nat) :
  ∃ b,T.ca=some ⟨b,0,none⟩/\B<=b/\((∃ v,w.cell? ((⟨b,0,none⟩:Addr).add (i*1))=some v)/\w.frozen? ((⟨b,0,none⟩:Addr).add (i*1))=false) /\
   TabAt S B (w.setCell ((⟨b,0,none⟩:Addr).add (i*1)) (.int .i64 x)) T { s with cols:=upd s.cols i x }:=by
 rcases h.cols with h1 | ⟨b,hb,hB,hk⟩
 ·have:=congrArg List.length h1
  rw [lInt,zA7] at this
  simp only [List.length_nil] at this
  omega
 refine⟨b,hb,hB,?_,?_⟩
 ·rw [zAk,Nat.zero_add,Nat.mul_one]
  exact⟨⟨_,hk.cell (zBg hi)⟩,hk.free⟩
 rw [zAk,Nat.zero_add,Nat.mul_one]
 have hnew:=hk.set i (.int .i64 x) (by rw [lInt,zA7];exact hi)
 rw [lInt,zCq hi] at hnew
 have e:upto (upd (fun i=>Value.int .i64 (s.cols i:Int)) i (.int .i64 x)) S.n=lInt (upd s.cols i x) S.n:=zA3 fun k _=>by unfold upd;split <;> rfl
 rw [e] at hnew
 exact { h with
  box:=h.box.away zAe (boxNe h.box.blk hk (by decide))
  line:=h.line.away zAe fun e=>(h.d2 b hb) e.symm
  val:=h.val.away zAe (boxNe h.val.blk hk (by decide))
  cols := .inr ⟨b,hb,hB,hnew⟩
  basic:=h.basic.away zAe fun b2 h2 _ hx=>by subst hx;exact (h.d1 b2 h2).1 hb
  a:=h.a.away zAe fun b _ hx=>boxNe hx hk (by decide)
  row:=fun k hk2=>(h.row k hk2).away zAe fun b _ hx=>boxNe hx hk (by decide)
  rows:=fun w2 h2=>h.rows w2 (Below.trans (Below.setCell (Below.refl _ _) (p:=⟨b,i,none⟩) hB _) h2)
  xt:=h.xt.imp id fun hx=>hx.same (zAe _ (boxNe hx hk (by decide)))
  yt:=h.yt.imp id fun hx=>hx.same (zAe _ (boxNe hx hk (by decide)))
  gl:=fun w2 h2=>h.gl w2 (Below.trans (Below.setCell (Below.refl _ _) (p:=⟨b,i,none⟩) hB _) h2) }
theorem TabAt.lineSet {S:Tb.Sys} {B:Nat} {w:World} {T:Lay} {s:Dy} (h:TabAt S B w T s) {i:Nat} (hi:i<S.n+S.m) (x:Int) :
  ((∃ v,w.cell? ((⟨T.la,0,none⟩:Addr).add (i*1))=some v)/\w.frozen? ((⟨T.la,0,none⟩:Addr).add (i*1))=false) /\
   TabAt S B (w.setCell ((⟨T.la,0,none⟩:Addr).add (i*1)) (.int .i64 x)) T { s with line:=upd s.line i x }:=by
 have hk:=h.line.blk
 rw [zAk,Nat.zero_add,Nat.mul_one]
 refine⟨⟨⟨_,hk.cell (zBg hi)⟩,hk.free⟩,?_⟩
 have hnew:=h.line.set i (.int .i64 x)
 rw [lLine,zCq hi] at hnew
 have e:upto (upd (fun i=>Value.int .i64 (s.line i)) i (.int .i64 x)) (S.n+S.m)=lLine (upd s.line i x) (S.n+S.m):=zA3 fun k _=>by unfold upd;split <;> rfl
 rw [e] at hnew
 exact { h with
  box:=h.box.away zAe (boxNe h.box.blk hk (by decide))
  line:=hnew
  val:=h.val.away zAe (boxNe h.val.blk hk (by decide))
  cols:=h.cols.away zAe fun b2 h2 _ hx=>by subst hx;exact h.d2 _ h2 rfl
  basic:=h.basic.away zAe fun b2 h2 _ hx=>by subst hx;exact (h.d1 _ h2).2 rfl
  a:=h.a.away zAe fun b _ hx=>boxNe hx hk (by decide)
  row:=fun k hk2=>(h.row k hk2).away zAe fun b _ hx=>boxNe hx hk (by decide)
  rows:=fun w2 h2=>h.rows w2 (Below.trans (Below.setCell (Below.refl _ _) (p:=⟨T.la,i,none⟩) h.la _) h2)
  xt:=h.xt.imp id fun hx=>hx.same (zAe _ (boxNe hx hk (by decide)))
  yt:=h.yt.imp id fun hx=>hx.same (zAe _ (boxNe hx hk (by decide)))
  gl:=fun w2 h2=>h.gl w2 (Below.trans (Below.setCell (Below.refl _ _) (p:=⟨T.la,i,none⟩) h.la _) h2) }
theorem TabAt.withX {S:Tb.Sys} {B:Nat} {w1 w:World} {T:Lay} {s:Dy} (h:TabAt S B w1 T s) (he:Ext w1 w) {xb:Nat} {c:Nat->Rat} (hx:w1.heap.size<=xb) (hb:Blk w xb 88 (QL c S.n)):TabAt S B w { T with xb:=xb,xl:=QL c S.n } s :=
 { h.ext he h.hB with
  xt := .inr hb
  d4:=fun i hi hne e=>by
   by_cases hn:0<S.n
   ·obtain⟨b,hb',_,hk⟩:=h.rowBlk hi hn
    replace e:T.rowA i=some ⟨xb,0,none⟩:=e
    rw [hb'] at e
    cases e
    have:=hk.lt
    omega
   ·apply hne
    show QL c S.n=[]
    rw [show S.n=0 by omega];rfl }
theorem TabAt.withY {S:Tb.Sys} {B:Nat} {w:World} {T:Lay} {s:Dy} (h:TabAt S B w T s) {yb:Nat} {L:List Value} (hb:Blk w yb 103 L):TabAt S B w { T with yb:=yb,yl:=L } s :=
 { h with yt := .inr hb }
theorem TabAt.qx {S:Tb.Sys} {B:Nat} {w:World} {T:Lay} {s:Dy} (h:TabAt S B w T s) {c:Nat->Rat} (e:T.xl=QL c S.n):QS w (some ⟨T.xb,0,none⟩) c S.n:=by
 rcases h.xt with e1 | hx
 ·left;rw [<- e];exact e1
 ·rw [e] at hx;exact hx.sl
end Go.Proofs.Si
namespace Go.Proofs.Si
open Go Go.V Go.Proofs Go.RowKit Go.Num Go.Tb Go.Proofs.Tryz
open Go.IntKind (i64 u64 u32 u8)
set_option maxRecDepth 100000
theorem vput {w w' : World} {B:Nat} (x:V2) (hB:Box w' B 101 zv) (hx:Ext w w') (hb:w.heap.size<=B) :
  writable w' ⟨B,0,none⟩ 6/\vcells (setCells w' ⟨B,0,none⟩ 0 (vc2 x)) ⟨B,0,none⟩ 0 (vc2 x)/\Ext w (setCells w' ⟨B,0,none⟩ 0 (vc2 x)) :=
 ⟨hB.blk.writable (by decide),(hB.put (vc2 x) (by rfl)).blk.all,hx.put hb _ _⟩
theorem c163 {x y:V2} (hp:dg2 90000000 x) (hq:dg2 90000000 y) (w:World) (hg:Gl w):Ret prog 163 #[vv x,vv y] w fun v w'=>v=vv (add2 x y)/\Ext w w':=by
 have hx1:=(Ext.refl w).alloc (.cells (vc2 x).toArray 101)
 have hx2:=(Ext.refl (w.alloc (.cells (vc2 x).toArray 101))).alloc (.cells (vc2 y).toArray 101)
 have hx3:=(Ext.refl ((w.alloc (.cells (vc2 x).toArray 101)).alloc (.cells (vc2 y).toArray 101))).alloc (.cells zv.toArray 101)
 have hB1:=(((Box.new w (vc2 x) 101).ext hx2).ext hx3).ext (Ext.refl _).drew
 have hB2:=((Box.new (w.alloc (.cells (vc2 x).toArray 101)) (vc2 y) 101).ext hx3).ext (Ext.refl _).drew
 have hB3:=(Box.new ((w.alloc (.cells (vc2 x).toArray 101)).alloc (.cells (vc2 y).toArray 101)) zv 101).ext (Ext.refl _).drew
 have hxx:=((hx1.trans hx2).trans hx3).drew
 have hsz:=(hx1.trans hx2).size
 refine run163 _ _ _ _ _ _ _ _ _ _ _ _ _ _ fun K hK=>⟨_,_,_,hB1.r,_,_,_,hB2.r,_,_,_,hB1.e,_,_,_,hB2.e,Called.of (c112 hp.1 hq.1 _ (hg.ext hxx)) ?_⟩
 rintro v w2 ⟨rfl,he2⟩
 refine⟨_,_,_,rfl,he2,Called.of (c112 hp.2 hq.2 w2 ((hg.ext hxx).ext he2)) ?_⟩
 rintro v w3 ⟨rfl,he3⟩
 obtain⟨p1,p2,p3⟩:=vput (add2 x y) ((hB3.ext he2).ext he3) ((hxx.trans he2).trans he3) hsz
 exact⟨_,_,_,rfl,p1,hK _ ⟨_,_,_,_,_,_,p2,rfl,p3⟩⟩
theorem c120 {x y:V2} (hp:dg2 90000000 x) (hq:dg2 90000000 y) (w:World) (hg:Gl w):Ret prog 120 #[vv x,vv y] w fun v w'=>v=vv (sub2 x y)/\Ext w w':=by
 have hx1:=(Ext.refl w).alloc (.cells (vc2 x).toArray 101)
 have hx2:=(Ext.refl (w.alloc (.cells (vc2 x).toArray 101))).alloc (.cells (vc2 y).toArray 101)
 have hx3:=(Ext.refl ((w.alloc (.cells (vc2 x).toArray 101)).alloc (.cells (vc2 y).toArray 101))).alloc (.cells zv.toArray 101)
 have hB1:=(((Box.new w (vc2 x) 101).ext hx2).ext hx3).ext (Ext.refl _).drew
 have hB2:=((Box.new (w.alloc (.cells (vc2 x).toArray 101)) (vc2 y) 101).ext hx3).ext (Ext.refl _).drew
 have hB3:=(Box.new ((w.alloc (.cells (vc2 x).toArray 101)).alloc (.cells (vc2 y).toArray 101)) zv 101).ext (Ext.refl _).drew
 have hxx:=((hx1.trans hx2).trans hx3).drew
 have hsz:=(hx1.trans hx2).size
 refine run120 _ _ _ _ _ _ _ _ _ _ _ _ _ _ fun K hK=>⟨_,_,_,hB1.r,_,_,_,hB2.r,_,_,_,hB1.e,_,_,_,hB2.e,Called.of (c114 hp.1 hq.1 _ (hg.ext hxx)) ?_⟩
 rintro v w2 ⟨rfl,he2⟩
 refine⟨_,_,_,rfl,he2,Called.of (c114 hp.2 hq.2 w2 ((hg.ext hxx).ext he2)) ?_⟩
 rintro v w3 ⟨rfl,he3⟩
 obtain⟨p1,p2,p3⟩:=vput (sub2 x y) ((hB3.ext he2).ext he3) ((hxx.trans he2).trans he3) hsz
 exact⟨_,_,_,rfl,p1,hK _ ⟨_,_,_,_,_,_,p2,rfl,p3⟩⟩
theorem c121 {x:V2} {q:Rat} (hp:dg2 90000000 x) (hq:dg 90000000 q) (w:World) (hg:Gl w):Ret prog 121 #[vv x,qv q] w fun v w'=>v=vv (zAn x q)/\Ext w w':=by
 have hx1:=(Ext.refl w).alloc (.cells (vc2 x).toArray 101)
 have hx2:=(Ext.refl (w.alloc (.cells (vc2 x).toArray 101))).alloc (.cells (qc q).toArray 88)
 have hx3:=(Ext.refl ((w.alloc (.cells (vc2 x).toArray 101)).alloc (.cells (qc q).toArray 88))).alloc (.cells zv.toArray 101)
 have hB1:=(((Box.new w (vc2 x) 101).ext hx2).ext hx3).ext (Ext.refl _).drew
 have hB2:=((Box.new (w.alloc (.cells (vc2 x).toArray 101)) (qc q) 88).ext hx3).ext (Ext.refl _).drew
 have hB3:=(Box.new ((w.alloc (.cells (vc2 x).toArray 101)).alloc (.cells (qc q).toArray 88)) zv 101).ext (Ext.refl _).drew
 have hxx:=((hx1.trans hx2).trans hx3).drew
 have hsz:=(hx1.trans hx2).size
 refine run121 _ _ _ _ _ _ _ _ _ _ _ fun K hK=>⟨_,_,_,hB1.r,_,_,_,hB2.blk.all,_,_,_,hB1.e,_,_,_,hB2.blk.all,Called.of (c113 hp.1 hq _ (hg.ext hxx)) ?_⟩
 rintro v w2 ⟨rfl,he2⟩
 refine⟨_,_,_,rfl,he2,Called.of (c113 hp.2 hq w2 ((hg.ext hxx).ext he2)) ?_⟩
 rintro v w3 ⟨rfl,he3⟩
 obtain⟨p1,p2,p3⟩:=vput (zAn x q) ((hB3.ext he2).ext he3) ((hxx.trans he2).trans he3) hsz
 exact⟨_,_,_,rfl,p1,hK _ ⟨_,_,_,_,_,_,p2,rfl,p3⟩⟩
theorem c160 {x y:V2} (hp:dg2 90000000 x) (hq:dg2 90000000 y) (w:World) (hg:Gl w):Ret prog 160 #[vv x,vv y] w fun v w'=>v = .int .i64 (cmp2 x y)/\Ext w w':=by
 have hx1:=(Ext.refl w).alloc (.cells (vc2 x).toArray 101)
 have hx2:=(Ext.refl (w.alloc (.cells (vc2 x).toArray 101))).alloc (.cells (vc2 y).toArray 101)
 have hB1:=(Box.new w (vc2 x) 101).ext hx2
 have hB2:=Box.new (w.alloc (.cells (vc2 x).toArray 101)) (vc2 y) 101
 have hxx:=hx1.trans hx2
 refine run160 _ _ _ _ _ _ _ _ _ _ _ _ _ _ ⟨_,_,_,hB1.r,_,_,_,hB2.r,Called.of (c67 hp.1 hq.1 _ (hg.ext hxx)) ?_⟩
 rintro v w1 ⟨rfl,he1⟩
 refine⟨_,rfl,zAa (fun h=>⟨?_,hxx.trans he1⟩) (fun h=>?_)⟩
 ·rw [cmp2,if_pos (by simpa using h)]
 ·refine⟨_,_,_,(hB1.ext he1).e,_,_,_,(hB2.ext he1).e,Called.of (c67 hp.2 hq.2 _ ((hg.ext hxx).ext he1)) ?_⟩
  rintro v w2 ⟨rfl,he2⟩
  refine⟨_,rfl,?_,(hxx.trans he1).trans he2⟩
  rw [cmp2,if_neg (by simpa using h)]
def ov (o:Option V2):Value:=match o with | none => .tuple #[vv zero2,.bool false] | some x => .tuple #[vv x,.bool true]
theorem rowK {w:World} {b o k:Nat} {S:Tb.Sys} {R:RowL} {i:Nat} (h:vcells w ((⟨b,o,none⟩:Addr).add k) 0 (rowc S R i)):vcells w (((⟨b,o,none⟩:Addr).add k).add 2) 0 (qc (S.K i)):=by
 rw [zAk] at h ⊢
 rw [zAC] at h ⊢
 intro j v hj
 have hj3:j<3:=(List.getElem?_eq_some_iff.1 hj).1
 have:=h (2+j) v (by
  match j,hj3 with
  | 0,_=>exact hj
  | 1,_=>exact hj
  | 2,_=>exact hj)
 rw [<- this,zAk,zAk,zAk,show o+k+2+(0+j)=o+k+(0+(2+j)) by omega]
theorem rowRel {w:World} {ad:Addr} {S:Tb.Sys} {R:RowL} {i:Nat} (h:vcells w ad 0 (rowc S R i)):w.cell? (ad.add 1)=some (.int .i64 (S.rel i:Int)):=by
 rw [zAC] at h
 have:=h 1 _ rfl
 rw [Nat.zero_add] at this
 exact this
theorem rowC {w:World} {ad:Addr} {S:Tb.Sys} {R:RowL} {i:Nat} (h:vcells w ad 0 (rowc S R i)):w.cell? ad=some (.slice (R.cA i) S.n (R.cC i)):=by
 rw [zAC] at h
 have:=h 0 _ rfl
 rw [Nat.zero_add] at this
 exact this
def Few (S:Tb.Sys):Prop:=S.n+S.m<=1048576
theorem zFE {S:Tb.Sys} (hf:Few S) {v:Nat} (hv:S.n<=v) (hv2:v<S.n+S.m):i64.wrap ((v:Int) - (S.n:Int))=((v - S.n:Nat):Int):=by
 unfold Few at hf
 rw [zAf (by omega) (by omega)]
 omega
theorem zEf:vv zero2 = .agg #[.int .i64 0,.int .i64 0,.string { data:=#[] },.int .i64 0,.int .i64 0,.string { data:=#[] }]:=by
 have:=vc2_zero
 unfold vc2 at this
 unfold vv
 rw [this]
theorem vc2_real (q:Rat):vc2 (q,0)=[.int .i64 (qn q),.int .i64 (ql q),.string (qb q),.int .i64 0,.int .i64 0,.string { data:=#[] }]:=by
 have:=zEp
 unfold qc at this
 injection this with h1 h2
 injection h2 with h2 h3
 injection h3 with h3 h4
 unfold vc2
 simp only [h1,h2,h3]
theorem vv_real (q:Rat):vv (q,0) = .agg #[.int .i64 (qn q),.int .i64 (ql q),.string (qb q),.int .i64 0,.int .i64 0,.string { data:=#[] }]:=by
 have:=vc2_real q
 unfold vc2 at this
 unfold vv
 rw [this]
set_option maxHeartbeats 1000000 in
theorem c159 {S:Tb.Sys} {B:Nat} {T:Lay} {s:Dy} {v:Nat} (hf:Few S) (hv:v<S.n+S.m) (w:World) (hT:TabAt S B w T s) (hB:B<=w.heap.size) (hg:Gl w) :
  Ret prog 159 #[.pointer (some ⟨T.bt,0,none⟩),.int .i64 v] w fun r w'=>r=ov (upper S v)/\Ext w w':=by
 have hx1:=(Ext.refl w).alloc (.cells zv.toArray 101)
 have hB1:=Box.new w zv 101
 have hT1:=hT.ext hx1 hB
 refine run159 _ _ _ _ ⟨_,hT1.f0,zAd (fun hlt=>?_) (fun hge=>?_)⟩
 ·obtain⟨p1,p2,p3⟩:=vput zero2 hB1 hx1 (Nat.le_refl _)
  rw [vc2_zero] at p2 p3
  refine⟨p1,_,_,_,_,_,_,p2,?_,p3⟩
  rw [upper,if_pos (by omega),ov,zEf]
 ·have hge:S.n<=v:=by omega
  have hup:upper S v=some (ub S v):=by rw [upper,if_neg (by omega)]
  have hT2:=hT1.drew (Nat.le_trans hB hx1.size)
  have hi:v - S.n<S.m:=by omega
  obtain⟨ad,ha,hc,_⟩:=hT2.rowAt hi
  have hx2:=(Ext.refl (w.alloc (.cells zv.toArray 101)).drew).alloc (.cells [Value.slice none 0 0,.int .i64 0,.int .i64 0,.int .i64 0,.string { data:=#[] }].toArray 90)
  have hB3:=Box.new (w.alloc (.cells zv.toArray 101)).drew [Value.slice none 0 0,.int .i64 0,.int .i64 0,.int .i64 0,.string { data:=#[] }] 90
  have hB1':=(hB1.ext (Ext.refl _).drew).ext hx2
  have hxx:=hx1.drew.trans hx2
  refine fun K hK=>⟨_,_,_,hT2.f1,_,hT2.f0,ad,ha,?_⟩
  rw [zFE hf hge hv,Int.toNat_natCast]
  refine⟨⟨by omega,by omega⟩,_,_,_,_,_,_,_,hc,hx2,hB3.blk.writable (by decide),hK _ _ ?_⟩
  have hP:=hB3.put (rowc S T.R (v - S.n)) (by rfl)
  have hne:w.heap.size≠(w.alloc (.cells zv.toArray 101)).drew.heap.size:=by
   show w.heap.size≠(w.alloc (.cells zv.toArray 101)).heap.size
   rw [size_alloc];omega
  have hQ:=hB1'.same (zAx hne (rowc S T.R (v - S.n)) 0 (b:=(w.alloc (.cells zv.toArray 101)).drew.heap.size) (o:=0))
  have hxp:Ext w (setCells ((w.alloc (.cells zv.toArray 101)).drew.alloc (.cells [Value.slice none 0 0,.int .i64 0,.int .i64 0,.int .i64 0,.string { data:=#[] }].toArray 90)) ⟨(w.alloc (.cells zv.toArray 101)).drew.heap.size,0,none⟩ 0 (rowc S T.R (v - S.n))):=hxx.put hx1.drew.size _ _
  have hR:=hP.blk.all
  refine⟨_,rowRel hR,?_⟩
  refine zAa (fun h2=>?_) (fun h2=>?_)
  ·have h2:(S.rel (v - S.n):Int)=2:=by simpa using h2
   have h2:S.rel (v - S.n)=2:=by omega
   refine fun K1 hK1=>⟨_,_,_,rowK (k:=0) (hP.ext (Ext.refl _).drew).blk.all,Called.of (c130 (-1) (by decide) _ (hg.ext hxp.drew)) ?_⟩
   rintro r w3 ⟨rfl,he3⟩
   have hx3:=hxp.drew.trans he3
   obtain⟨p1,p2,p3⟩:=vput (S.K (v - S.n),-1) ((hQ.ext (Ext.refl _).drew).ext he3) hx3 (Nat.le_refl _)
   refine⟨_,_,_,rfl,he3,p1,hK1 _ _ ⟨_,_,_,_,_,_,p2,?_,p3⟩⟩
   rw [hup,ub,if_pos h2];rfl
  ·have h2 : ¬ (S.rel (v - S.n):Int)=2:=by simpa using h2
   have h2:S.rel (v - S.n)≠2:=by omega
   obtain⟨p1,p2,p3⟩:=vput (S.K (v - S.n),0) hQ hxp (Nat.le_refl _)
   have e:=vc2_real (S.K (v - S.n))
   rw [e] at p2 p3
   refine⟨_,_,_,rowK (k:=0) hR,p1,_,_,_,_,_,_,p2,?_,p3⟩
   rw [hup,ub,if_neg h2,ov,vv_real]
set_option maxHeartbeats 1000000 in
theorem c161 {S:Tb.Sys} {B:Nat} {T:Lay} {s:Dy} {v:Nat} (hf:Few S) (hv:v<S.n+S.m) (w:World) (hT:TabAt S B w T s) (hB:B<=w.heap.size) (hg:Gl w) :
  Ret prog 161 #[.pointer (some ⟨T.bt,0,none⟩),.int .i64 v] w fun r w'=>r=ov (lower S v)/\Ext w w':=by
 have hx1:=((Ext.refl w).alloc (.cells zv.toArray 101)).drew
 have hB1:=(Box.new w zv 101).ext (Ext.refl _).drew
 have hT1:=hT.ext hx1 hB
 refine run161 _ _ _ _ fun K hK=>⟨_,hT1.f0,?_⟩
 have miss:lower S v=none->K [.bool true] (w.alloc (.cells zv.toArray 101)).drew:=by
  intro hl
  refine hK true ?_
  rw [cond_true]
  obtain⟨p1,p2,p3⟩:=vput zero2 hB1 hx1 (Nat.le_refl _)
  rw [vc2_zero] at p2 p3
  refine⟨p1,_,_,_,_,_,_,p2,?_,p3⟩
  rw [hl,ov,zEf]
 refine zAd (fun hlt=>miss (by rw [lower,if_pos (.inl (by omega))])) (fun hge=>?_)
 have hge:S.n<=v:=by omega
 have hi:v - S.n<S.m:=by omega
 obtain⟨ad,ha,hc,_,_,rfl⟩:=hT1.rowAt hi
 have hx2:=hx1.drew
 have hT2:=hT.ext hx2 hB
 have hB2:=hB1.ext (Ext.refl _).drew
 obtain⟨ad2,ha2,hc2,_,_,rfl⟩:=hT2.rowAt hi
 refine⟨_,_,_,hT1.f1,_,hT1.f0,_,ha,?_⟩
 rw [zFE hf hge hv,Int.toNat_natCast]
 refine⟨⟨by omega,by omega⟩,_,rowRel hc,?_⟩
 by_cases h3:S.rel (v - S.n)=3
 ·have e:((S.rel (v - S.n):Int) != 3)=false:=by rw [h3];rfl
  rw [e]
  refine hK false ?_
  rw [cond_false]
  refine⟨_,_,_,hT2.f1,_,hT2.f0,_,ha2,?_⟩
  rw [zFE hf hge hv,Int.toNat_natCast]
  obtain⟨p1,p2,p3⟩:=vput (S.K (v - S.n),0) hB2 hx2 (Nat.le_refl _)
  rw [vc2_real] at p2 p3
  refine⟨⟨by omega,by omega⟩,_,_,_,rowK hc2,p1,_,_,_,_,_,_,p2,?_,p3⟩
  rw [lower,if_neg (by omega),ov,vv_real]
 ·have e:((S.rel (v - S.n):Int) != 3)=true:=by rw [bne_iff_ne];omega
  rw [e]
  exact miss (by rw [lower,if_pos (.inr h3)])
def Short (S:Tb.Sys) (k:Nat):Prop:=(∀ i,i<S.m->dg k (S.K i))/\1<=k
theorem ub_dg {S:Tb.Sys} {k v:Nat} (h:Short S k) (hv:S.n<=v) (hv2:v<S.n+S.m):dg2 k (ub S v):=by
 refine⟨h.1 _ (by omega),?_⟩
 unfold ub
 split
 ·exact (zCQ h.2).neg
 ·exact zCy h.2
theorem zEH {S:Tb.Sys} {k v:Nat} (h:Short S k) (hv2:v<S.n+S.m) {x:V2} (hx:upper S v=some x):dg2 k x:=by
 unfold upper at hx
 split at hx
 ·cases hx
 ·cases hx;exact ub_dg h (by omega) hv2
theorem zDh {S:Tb.Sys} {k v:Nat} (h:Short S k) (hv2:v<S.n+S.m) {x:V2} (hx:lower S v=some x):dg2 k x:=by
 unfold lower at hx
 split at hx
 ·cases hx
 ·cases hx;exact⟨h.1 _ (by omega),zCy h.2⟩
set_option maxHeartbeats 1000000 in
theorem c162 {S:Tb.Sys} {B:Nat} {T:Lay} {s:Dy} {v:Nat} {up:Bool} (hf:Few S) (hS:Short S 90000000) (hv:v<S.n+S.m) (hd:dg2 90000000 (s.val v)) (w:World) (hT:TabAt S B w T s) (hB:B<=w.heap.size) (hg:Gl w) :
  Ret prog 162 #[.pointer (some ⟨T.bt,0,none⟩),.int .i64 v,.bool up] w fun r w'=>r = .bool (free S s.val v up)/\Ext w w':=by
 have go : ∀ (o:Option V2) (w1:World),Ext w w1->∀ x,x=(match o with | none=>zero2 | some x=>x) ->
   Ext w (setCells (w1.alloc (.cells zv.toArray 101)) ⟨w1.heap.size,0,none⟩ 0 (vc2 x)).drew/\Box (setCells (w1.alloc (.cells zv.toArray 101)) ⟨w1.heap.size,0,none⟩ 0 (vc2 x)).drew w1.heap.size 101 (vc2 x):=by
  intro o w1 he1 x _
  exact⟨((he1.alloc _).put he1.size _ _).drew,((Box.new w1 zv 101).put (vc2 x) (by rfl)).ext (Ext.refl _).drew⟩
 refine run162 _ _ _ _ _ ?_
 cases up
 ·unfold vc162
  rw [cond_false]
  refine Called.of (c161 hf hv w hT hB hg) ?_
  rintro r w4 ⟨rfl,he4⟩
  cases hl:lower S v with
  | none =>
   obtain⟨h1,h2⟩:=go none w4 he4 zero2 rfl
   have:=vc2_zero
   rw [vc2_zero] at h1
   have h0:=(Box.new w4 zv 101).blk.writable (o:=0) (n:=6) (by decide)
   rw [ov,zEf]
   refine⟨_,_,_,_,_,_,_,rfl,h0,fun K hK=>?_⟩
   exact hK true _ ⟨by rw [free,hl];rfl,h1⟩
  | some x =>
   obtain⟨h1,h2⟩:=go (some x) w4 he4 x rfl
   have h0:=(Box.new w4 zv 101).blk.writable (o:=0) (n:=6) (by decide)
   refine⟨_,_,_,_,_,_,_,rfl,h0,fun K hK=>?_⟩
   have hT1:=hT.ext h1 hB
   refine⟨_,_,_,hT1.f6,_,rfl,⟨by omega,by omega⟩,_,_,_,_,_,_,hT1.valAt hv,_,_,_,_,_,_,h2.blk.all,Called.of (c160 hd (zDh hS hv hl) _ (hg.ext h1)) ?_⟩
   rintro r w6 ⟨rfl,he6⟩
   refine⟨_,rfl,hK _ _ ⟨?_,h1.trans he6⟩⟩
   rw [free,hl]
   congr 1
 ·unfold vc162
  rw [cond_true]
  refine Called.of (c159 hf hv w hT hB hg) ?_
  rintro r w4 ⟨rfl,he4⟩
  cases hl:upper S v with
  | none =>
   obtain⟨h1,h2⟩:=go none w4 he4 zero2 rfl
   rw [vc2_zero] at h1
   have h0:=(Box.new w4 zv 101).blk.writable (o:=0) (n:=6) (by decide)
   rw [ov,zEf]
   refine⟨_,_,_,_,_,_,_,rfl,h0,fun K hK=>?_⟩
   exact hK true _ ⟨by rw [free,hl];rfl,h1⟩
  | some x =>
   obtain⟨h1,h2⟩:=go (some x) w4 he4 x rfl
   have h0:=(Box.new w4 zv 101).blk.writable (o:=0) (n:=6) (by decide)
   refine⟨_,_,_,_,_,_,_,rfl,h0,fun K hK=>?_⟩
   have hT1:=hT.ext h1 hB
   refine⟨_,_,_,hT1.f6,_,rfl,⟨by omega,by omega⟩,_,_,_,_,_,_,hT1.valAt hv,_,_,_,_,_,_,h2.blk.all,Called.of (c160 hd (zEH hS hv hl) _ (hg.ext h1)) ?_⟩
   rintro r w6 ⟨rfl,he6⟩
   refine⟨_,rfl,hK _ _ ⟨?_,h1.trans he6⟩⟩
   rw [free,hl]
   congr 1
end Go.Proofs.Si
namespace Go.Proofs.Si
open Go Go.V Go.Proofs Go.RowKit Go.Num Go.Tb Go.Proofs.Tryz
set_option maxRecDepth 100000
def midM (s:Dy) (j:Nat) (d:V2) (i:Nat):Nat->V2 :=
 fun u=>if u=s.cols j then add2 (s.val u) d else if 0<=s.line u/\s.line u<i then add2 (s.val u) (zAn d (s.a (s.line u).toNat j)) else s.val u
theorem midM_zero {S:Tb.Sys} {s:Dy} {j:Nat} {d:V2} : midM s j d 0=upd s.val (s.cols j) (add2 (s.val (s.cols j)) d):=by
 funext u
 unfold midM upd
 by_cases e:u=s.cols j
 ·rw [if_pos e,if_pos e,e]
 ·rw [if_neg e,if_neg e,if_neg (by omega)]
theorem midM_at {S:Tb.Sys} {s:Dy} (hp:Perm S s) {j i:Nat} {d:V2} (hj:j<S.n) (hi:i<S.m):midM s j d i (s.basic i)=s.val (s.basic i):=by
 unfold midM
 rw [if_neg (hp.ne hi hj),if_neg (by rw [(hp.bas i hi).2];omega)]
theorem midM_succ {S:Tb.Sys} {s:Dy} (hp:Perm S s) {j i:Nat} {d:V2} (hj:j<S.n) (hi:i<S.m) : ∀ u,u<S.n+S.m->midM s j d (i+1) u=upd (midM s j d i) (s.basic i) (add2 (s.val (s.basic i)) (zAn d (s.a i j))) u:=by
 intro u hu
 unfold upd
 by_cases e:u=s.basic i
 ·subst e
  rw [if_pos rfl]
  unfold midM
  have:=(hp.bas i hi).2
  rw [if_neg (hp.ne hi hj),if_pos (by rw [this];omega),this]
  rfl
 ·rw [if_neg e]
  unfold midM
  by_cases e1:u=s.cols j
  ·rw [if_pos e1,if_pos e1]
  ·rw [if_neg e1,if_neg e1]
   have hne : ¬ (0<=s.line u/\s.line u=i):=by
    rintro⟨h1,h2⟩
    have:=((hp.lin u hu).1 h1).2
    rw [h2] at this
    exact e this.symm
   by_cases h:0<=s.line u/\s.line u<i
   ·rw [if_pos h,if_pos (by omega)]
   ·rw [if_neg h,if_neg (by omega)]
theorem midM_end {S:Tb.Sys} {s:Dy} (hp:Perm S s) {j:Nat} {d:V2} : ∀ u,u<S.n+S.m->(Tb.move s j d).val u=midM s j d S.m u:=by
 intro u hu
 unfold Tb.move midM
 simp only
 by_cases e1:u=s.cols j
 ·rw [if_pos e1,if_pos e1]
 ·rw [if_neg e1,if_neg e1]
  by_cases h:0<=s.line u
  ·rw [if_pos h,if_pos ⟨h,((hp.lin u hu).1 h).1⟩]
  ·rw [if_neg h,if_neg (fun x=>h x.1)]
theorem scale2_zero (d:V2):zAn d 0=zero2:=by unfold zAn zero2;rw [Rat.mul_zero,Rat.mul_zero]
theorem add2_zero (v:V2):add2 v zero2=v:=by unfold add2 zero2;rw [Rat.add_zero,Rat.add_zero]
theorem dg2.scale {j k:Nat} {d:V2} {q:Rat} (h:dg2 j d) (hq:dg k q):dg2 (j+k+1) (zAn d q):=⟨h.1.mul hq,h.2.mul hq⟩
theorem dg2.add {j k:Nat} {d e:V2} (h:dg2 j d) (hq:dg2 k e):dg2 (j+k+2) (add2 d e):=⟨h.1.add hq.1,h.2.add hq.2⟩
theorem dg2.sub {j k:Nat} {d e:V2} (h:dg2 j d) (hq:dg2 k e):dg2 (j+k+2) (sub2 d e):=⟨h.1.sub hq.1,h.2.sub hq.2⟩
set_option maxHeartbeats 4000000 in
theorem c119 {S:Tb.Sys} {B:Nat} {T:Lay} {s:Dy} {j:Nat} {d:V2} (hf:Few S) (hp:Perm S s) (hj:j<S.n) (hv : ∀ v,v<S.n+S.m->dg2 90000000 (s.val v)) (hd:dg2 44000000 d) (ha : ∀ i,i<S.m->dg 44000000 (s.a i j)) (w:World) (hT:TabAt S B w T s) :
  Ret prog 119 #[.pointer (some ⟨T.bt,0,none⟩),.int .i64 j,vv d] w fun r w'=>r = .tuple #[]/\TabAt S B w' T (Tb.move s j d)/\Below B w w':=by
 have hB:=hT.hB
 have hx1:=(Ext.refl w).alloc (.cells (vc2 d).toArray 101)
 have hBd:=Box.new w (vc2 d) 101
 have hT1:=hT.ext hx1 hB
 have hcol:=hp.col j hj
 have hvl:=hT.val.lt
 obtain⟨ac,hac,hcc⟩:=hT1.colsAt hj
 unfold Few at hf
 have hxd:=hx1.drew
 have hTd:=hT.ext hxd hB
 have hBdd:=hBd.ext (Ext.refl _).drew
 refine run119 _ _ _ _ _ _ _ _ _ _ ⟨_,_,_,hT1.f3,ac,hac,⟨by omega,by omega⟩,_,hcc,fun K hK=>?_⟩
 refine⟨_,_,_,hTd.f6,_,_,_,hTd.f6,_,rfl,⟨by omega,by omega⟩,_,_,_,_,_,_,hTd.valAt hcol.1,_,_,_,_,_,_,hBdd.blk.all,Called.of (c163 (hv _ hcol.1) (hd.mono (by decide)) _ hTd.gg) ?_⟩
 rintro r w7 ⟨rfl,he7⟩
 have hT7:=hTd.ext he7 hTd.hB
 refine⟨_,_,_,_,_,_,rfl,he7,_,rfl,⟨by omega,by omega⟩,hT7.valWr hcol.1,hK _ ?_⟩
 have hT8:=hT7.valSet hcol.1 (add2 (s.val (s.cols j)) d)
 have hne : ∀ k,w.heap.size<=k->k≠T.va:=fun k hk e=>by omega
 have hBd8:Box (setCells w7 ((⟨T.va,0,none⟩:Addr).add (s.cols j*6)) 0 (vc2 (add2 (s.val (s.cols j)) d))) w.heap.size 101 (vc2 d):=by
  rw [zAk];exact (hBdd.ext he7).away zAb (hne _ (Nat.le_refl _))
 have hbl8:Below B w (setCells w7 ((⟨T.va,0,none⟩:Addr).add (s.cols j*6)) 0 (vc2 (add2 (s.val (s.cols j)) d))):=by
  rw [zAk];exact Below.trans (Below.mono (hxd.trans he7) hB) (zAr hT.va _ _)
 refine⟨_,_,_,hT8.f2,fun vals w2=>∃ i:Nat,vals=[.int .i64 i]/\i<=S.m/\TabAt S B w2 T { s with val:=midM s j d i }/\Box w2 w.heap.size 101 (vc2 d)/\Below B w w2,mu1 S.m,⟨0,rfl,Nat.zero_le _,?_,hBd8,hbl8⟩,?_⟩
 ·rw [midM_zero (S:=S)];exact hT8
 rintro m w2 ⟨i,hvi,hi,hT2,hBx,hbl⟩
 cases hvi
 refine zAd (fun hlt=>?_) (fun hge=>⟨rfl,?_,hbl⟩)
 ·have hin:i<S.m:=by omega
  have hbi:=hp.bas i hin
  obtain⟨ab,hab,hcb⟩:=hT2.basicAt hin
  replace hcb:w2.cell? (ab.add (i*1))=some (.int .i64 (s.basic i:Int)):=hcb
  obtain⟨aa,haa,hca⟩:=hT2.aAt hin
  obtain⟨aq,haq,hcq⟩:=hT2.qAt hin hj
  refine⟨ab,hab,⟨by omega,hlt⟩,_,hcb,_,_,_,hT2.f5,aa,haa,⟨by omega,hlt⟩,_,_,_,hca,aq,haq,⟨by omega,by omega⟩,_,_,_,hcq,Called.of (c75 ((ha i hin).mono (by decide)) w2 hT2.gg) ?_⟩
  rintro r w3 ⟨rfl,he3⟩
  refine⟨_,rfl,?_⟩
  have hT3:=hT2.ext he3 hT2.hB
  have hbl3:=Below.trans hbl (Below.mono he3 hT2.hB)
  have step : ∀ w4,TabAt S B w4 T { s with val:=upd (midM s j d i) (s.basic i) (add2 (s.val (s.basic i)) (zAn d (s.a i j))) }->TabAt S B w4 T { s with val:=midM s j d (i+1) }:=fun w4 h4 =>
   h4.congr (fun _ _=>rfl) (fun _ _=>rfl) (fun _ _=>rfl) (fun _ _ _ _=>rfl) fun v hv=>midM_succ hp hj hin v hv
  refine zAa (fun hnz=>?_) (fun hz=>?_)
  ·intro K1 hK1
   have hT3d:=hT3.drew hT3.hB
   obtain⟨aa2,haa2,hca2⟩:=hT3d.aAt hin
   obtain⟨aq2,haq2,hcq2⟩:=hT3d.qAt hin hj
   have hB3d:=(hBx.ext he3).ext (Ext.refl _).drew
   have hval:=hT3d.valAt hbi.1
   have hval:vcells w3.drew ((⟨T.va,0,none⟩:Addr).add (s.basic i*6)) 0 (vc2 (s.val (s.basic i))):=by
    have:=hval
    simp only [midM_at hp hj hin] at this
    exact this
   refine⟨_,_,_,hT3d.f6,_,_,_,hT3d.f6,_,rfl,⟨by omega,by omega⟩,_,_,_,_,_,_,hval,_,_,_,_,_,_,hB3d.blk.all,_,_,_,hT3d.f5,aa2,haa2,⟨by omega,hlt⟩,_,_,_,hca2,aq2,haq2,⟨by omega,by omega⟩,_,_,_,hcq2,Called.of (c121 (hd.mono (by decide)) ((ha i hin).mono (by decide)) _ hT3d.gg) ?_⟩
   rintro r w5 ⟨rfl,he5⟩
   have hT5:=hT3d.ext he5 hT3d.hB
   refine⟨_,_,_,_,_,_,rfl,he5,Called.of (c163 (hv _ hbi.1) ((hd.scale (ha i hin)).mono (by decide)) _ hT5.gg) ?_⟩
   rintro r w6 ⟨rfl,he6⟩
   have hT6:=hT5.ext he6 hT5.hB
   refine⟨_,_,_,_,_,_,rfl,he5.trans he6,_,rfl,⟨by omega,by omega⟩,hT6.valWr hbi.1,hK1 _ ?_⟩
   rw [zAh (by omega)]
   refine⟨⟨i+1,rfl,hin,step _ (hT6.valSet hbi.1 _),?_,?_⟩,by simp only [mu1,Int.toNat_natCast];omega⟩
   ·rw [zAk];exact ((hB3d.ext he5).ext he6).away zAb (hne _ (Nat.le_refl _))
   ·rw [zAk]
    exact Below.trans (Below.trans (Below.trans hbl3.drew (Below.mono he5 hT3d.hB)) (Below.mono he6 hT5.hB)) (zAr hT.va _ _)
  ·have hz:s.a i j=0:=sgnQ_zero.1 (by simpa using hz)
   rw [zAh (by omega)]
   refine⟨⟨i+1,rfl,hin,hT3.congr (fun _ _=>rfl) (fun _ _=>rfl) (fun _ _=>rfl) (fun _ _ _ _=>rfl) fun v hv=>?_,hBx.ext he3,hbl3⟩,by simp only [mu1,Int.toNat_natCast];omega⟩
   show midM s j d (i+1) v=midM s j d i v
   rw [midM_succ hp hj hin v hv,hz,scale2_zero,add2_zero]
   by_cases e:v=s.basic i
   ·rw [e,zAy,midM_at hp hj hin]
   ·rw [zAu _ e]
 ·have e:i=S.m:=by omega
  subst e
  exact hT2.congr (fun _ _=>rfl) (fun _ _=>rfl) (fun _ _=>rfl) (fun _ _ _ _=>rfl) fun v hv=>midM_end hp v hv
end Go.Proofs.Si
