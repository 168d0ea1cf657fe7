/- Part of the proof: SiM, SiW1, SiW2, SiW3, SiW4, SiW5. -/
import Derived.Test.YtoaiappkhcjagaaGreatDoorMTbE
import Derived.Test.YtoaiappkhcjagaaGreatDoorSiV5
set_option linter.unusedVariables false
set_option linter.unusedSimpArgs false
namespace Go.Proofs.Si
open Go Go.V Go.Proofs Go.RowKit Go.Num Go.Tb
set_option maxRecDepth 100000
def GL(g:Nat->List Value):Nat->List Value
 | 0=>[]
 | n+1=>GL g n++g n
theorem zAR{g:Nat->List Value}{m:Nat}(hm : ∀ i,(g i).length=m) : ∀ n,(GL g n).length=m*n
 | 0=>rfl
 | n+1=>by rw [GL,List.length_append,zAR hm n,hm,Nat.mul_succ]
theorem zFF{g:Nat->List Value}{m:Nat}(hm : ∀ i,(g i).length=m) : ∀ {n i:Nat},i<n->∀ j,j<m->(GL g n)[m*i+j]? = (g i)[j]?
 | n+1,i,hi,j,hj=>by
  rw [GL]
  by_cases h:i<n
  ·have:m*i+m<=m*n:=by rw [<- Nat.mul_succ];exact Nat.mul_le_mul_left _ h
   rw [List.getElem?_append_left (by rw [zAR hm];omega)]
   exact zFF hm h j hj
  ·have:i=n:=by omega
   subst this
   rw [List.getElem?_append_right (by rw [zAR hm];omega),zAR hm,Nat.add_sub_cancel_left]
theorem GL_ext{g:Nat->List Value}{m n:Nat}(hm0:0<m)(hm : ∀ i,(g i).length=m){L:List Value}(hl:L.length=m*n)(h : ∀ i,i<n->∀ j,j<m->L[m*i+j]? = (g i)[j]?):L=GL g n:=by
 apply List.ext_getElem?
 intro k
 by_cases hk:k<m*n
 ·have hd:k / m<n:=Nat.div_lt_of_lt_mul hk
  have h1:=h (k / m) hd (k % m) (Nat.mod_lt _ hm0);have h2:=zFF hm hd (k % m) (Nat.mod_lt _ hm0);rw [Nat.div_add_mod] at h1 h2;rw [h1,h2]
 ·rw [List.getElem?_eq_none (by omega),List.getElem?_eq_none (by rw [zAR hm];omega)]
theorem zBL{f g:Nat->List Value} : ∀ {n:Nat},(∀ i,i<n->f i=g i)->GL f n=GL g n
 | 0,_=>rfl
 | n+1,h=>by rw [GL,GL,zBL fun i hi=>h i (by omega),h n (by omega)]
theorem GL_set{g:Nat->List Value}{m n i:Nat}(hm0:0<m)(hm : ∀ i,(g i).length=m)(hi:i<n)(x:List Value)(hx:x.length=m):setL (GL g n) (m*i) x=GL (upd g i x) n:=by
 have b : ∀ k,(upd g i x k).length=m:=fun k=>by
  unfold upd;split
  ·exact hx
  ·exact hm k
 apply GL_ext hm0 b (by rw [zCc,zAR hm])
 intro k hk j hj
 have f:m*k+m<=m*n:=by rw [<- Nat.mul_succ];exact Nat.mul_le_mul_left _ hk
 rw [zDR _ _ _ _ (by rw [zAR hm];omega),hx]
 by_cases e:k=i
 ·subst e
  rw [if_pos (by omega),zA4,show m*k+j - m*k=j by omega]
 ·have d : ¬ (m*i<=m*k+j/\m*k+j<m*i+m):=by
   rintro⟨h1,h2⟩
   rcases Nat.lt_or_gt_of_ne e with h3 | h3
   ·have:m*k+m<=m*i:=by rw [<- Nat.mul_succ];exact Nat.mul_le_mul_left _ h3
    omega
   ·have:m*i+m<=m*k:=by rw [<- Nat.mul_succ];exact Nat.mul_le_mul_left _ h3
    omega
  rw [if_neg d,zAt _ e];exact zFF hm hk j hj
theorem _root_.Go.V.SlAt.gget{w:World}{a:OA}{g:Nat->List Value}{m n i:Nat}(hm0:0<m)(hm : ∀ i,(g i).length=m)(h:SlAt w a (GL g n))(hi:i<n) : ∃ b o,a=some ⟨b,o,none⟩/\vcells w ((⟨b,o,none⟩:Addr).add (i*m)) 0 (g i):=by
 have h0:(g i)[0]? = some ((g i)[0]'(by rw [hm];exact hm0)):=List.getElem?_eq_getElem (by rw [hm];exact hm0);obtain⟨b,o,ha,_⟩:=SlAt.get h (k:=m*i+0) ((zFF hm hi 0 hm0).trans h0);refine⟨b,o,ha,?_⟩;rw [zAH];intro j v hj
 have f:j<m:=by rw [<- hm i];exact (List.getElem?_eq_some_iff.1 hj).1
 obtain⟨b',o',d,hc⟩:=SlAt.get h (k:=m*i+j) ((zFF hm hi j f).trans hj);rw [ha] at d;cases d;rw [zAi,zAi,Nat.zero_add,show o+i*m+j=o+(m*i+j) by rw [Nat.mul_comm i m,Nat.add_assoc]];exact hc
def vc2(v:V2):List Value:=[Iv (qn v.1),Iv (ql v.1),Sv (qb v.1),Iv (qn v.2),Iv (ql v.2),Sv (qb v.2)]
def vv(v:V2):Value := .agg #[Iv (qn v.1),Iv (ql v.1),Sv (qb v.1),Iv (qn v.2),Iv (ql v.2),Sv (qb v.2)]
abbrev zv:List Value:=[Iv 0,Iv 0,S0,Iv 0,Iv 0,S0]
theorem vc2_zero:vc2 zero2=zv:=by
 have:=qc_zero;unfold qc at this
 injection this with h1 h2
 injection h2 with h2 h3
 injection h3 with h3 h4
 unfold vc2 zero2;simp only [h1,h2,h3]
theorem _root_.Go.V.Box.r{w:World}{b ty:Nat}{v:V2}(h:Box w b ty (vc2 v)):vcells w ⟨b,0,none⟩ 0 (qc v.1):=h.blk.vcells fun j hj=>by
 have:j<3:=hj
 match j,this with
 | 0,_=>rfl
 | 1,_=>rfl
 | 2,_=>rfl
theorem _root_.Go.V.Box.e{w:World}{b ty:Nat}{v:V2}(h:Box w b ty (vc2 v)):vcells w ⟨b,3,none⟩ 0 (qc v.2):=h.blk.vcells fun j hj=>by
 have:j<3:=hj
 match j,this with
 | 0,_=>rfl
 | 1,_=>rfl
 | 2,_=>rfl
def dg2(k:Nat)(v:V2):Prop:=dg k v.1/\dg k v.2
theorem dg2.mono{j k:Nat}{v:V2}(h:dg2 j v)(hj:j<=k):dg2 k v:=⟨h.1.mono hj,h.2.mono hj⟩
def VL(f:Nat->V2)(n:Nat):List Value:=GL (fun i=>vc2 (f i)) n
structure RowL where
 cA:Nat->Option Addr
 cC:Nat->Nat
def rowc(S:Tb.Sys)(R:RowL)(i:Nat):List Value:=[Lv (R.cA i) S.n (R.cC i),Iv (S.rel i:Int),Iv (qn (S.K i)),Iv (ql (S.K i)),Sv (qb (S.K i))]
def RowsR(w:World)(a:OA)(S:Tb.Sys)(R:RowL):Prop:=SlAt w a (GL (rowc S R) S.m)/\∀ i,i<S.m->QS w (R.cA i) (S.C i) S.n
theorem RowsR.ext{w w' a S R}(h:RowsR w a S R)(he:Ext w w'):RowsR w' a S R:=⟨SlAt.ext h.1 he,fun i hi=>(h.2 i hi).ext he⟩
theorem RowsR.get{w a S R}(h:RowsR w a S R){i:Nat}(hi:i<S.m) : ∃ ad,a=some ad/\vcells w (ad.add (i*5)) 0 (rowc S R i)/\(∃ b o,ad=⟨b,o,none⟩):=by
 obtain⟨b,o,ha,hv⟩:=SlAt.gget (m:=5) (by omega) (fun _=>rfl) h.1 hi;exact⟨_,ha,hv,b,o,rfl⟩
structure Lay where
 bt:Nat
 ra:OA
 rc:Nat
 R:RowL
 ba:OA
 bc:Nat
 ca:OA
 cc:Nat
 la:Nat
 aa:OA
 ac:Nat
 va:Nat
 rowA:Nat->Option Addr
 rowC:Nat->Nat
 xb:Nat
 xl:List Value
 yb:Nat
 yl:List Value
def OwnB(w:World)(B ty:Nat)(a:OA)(L:List Value):Prop:=L=[]\/∃ b,a=some ⟨b,0,none⟩/\B<=b/\Blk w b ty L
theorem OwnB.sl{w:World}{B ty:Nat}{a:OA}{L:List Value}(h:OwnB w B ty a L):SlAt w a L:=h.imp id fun ⟨b,h1,_,h2⟩=>⟨_,h1,rfl,h2.row⟩
theorem OwnB.ext{w w'}{B ty:Nat}{a}{L:List Value}(h:OwnB w B ty a L)(he:Ext w w'):OwnB w' B ty a L:=h.imp id fun ⟨b,h1,hb,h2⟩=>⟨b,h1,hb,h2.ext he⟩
def lInt(f:Nat->Nat)(n:Nat):List Value:=upto (fun i=>Iv (f i:Int)) n
def lLine(f:Nat->Int)(n:Nat):List Value:=upto (fun i=>Iv (f i)) n
def lRow(T:Lay)(n m:Nat):List Value:=upto (fun i=>Lv (T.rowA i) n (T.rowC i)) m
def tbox(S:Tb.Sys)(T:Lay):List Value:=[Iv (S.n:Int),Lv T.ra S.m T.rc,Lv T.ba S.m T.bc,Lv T.ca S.n T.cc,Lv (some ⟨T.la,0,none⟩) (S.n+S.m) (S.n+S.m),Lv T.aa S.m T.ac,Lv (some ⟨T.va,0,none⟩) (S.n+S.m) (S.n+S.m)]
structure TabAt (S:Tb.Sys) (B:Nat) (w:World) (T:Lay) (s:Dy):Prop where
 box:Box w T.bt 140 (tbox S T)
 bt:B<=T.bt
 line:Box w T.la 3 (lLine s.line (S.n+S.m))
 la:B<=T.la
 val:Box w T.va 101 (VL s.val (S.n+S.m))
 va:B<=T.va
 basic:OwnB w B 3 T.ba (lInt s.basic S.m)
 cols:OwnB w B 3 T.ca (lInt s.cols S.n)
 a:OwnB w B 83 T.aa (lRow T S.n S.m)
 row : ∀ i,i<S.m->OwnB w B 88 (T.rowA i) (QL (s.a i) S.n)
 rows : ∀ w',Below B w w'->RowsR w' T.ra S T.R
 gl : ∀ w',Below B w w'->Gl w'
 xt:T.xl=[]\/Blk w T.xb 88 T.xl
 yt:T.yl=[]\/Blk w T.yb 103 T.yl
 d4 : ∀ i,i<S.m->T.xl≠[]->T.rowA i≠some ⟨T.xb,0,none⟩
 d1 : ∀ b,T.ba=some ⟨b,0,none⟩->T.ca≠some ⟨b,0,none⟩/\b≠T.la
 d2 : ∀ b,T.ca=some ⟨b,0,none⟩->b≠T.la
 d3 : ∀ i k b,i<S.m->k<S.m->i≠k->T.rowA i=some ⟨b,0,none⟩->T.rowA k≠some ⟨b,0,none⟩
theorem TabAt.ext{S}{B:Nat}{w w' T s}(h:TabAt S B w T s)(he:Ext w w')(hB:B<=w.heap.size):TabAt S B w' T s :=
 { h with box:=h.box.ext he,line:=h.line.ext he,val:=h.val.ext he,basic:=h.basic.ext he,cols:=h.cols.ext he,a:=h.a.ext he,row:=fun i hi=>(h.row i hi).ext he,rows:=fun w2 h2=>h.rows w2 (Below.trans (Below.mono he hB) h2),gl:=fun w2 h2=>h.gl w2 (Below.trans (Below.mono he hB) h2),xt:=h.xt.imp id fun hx=>hx.ext he,yt:=h.yt.imp id fun hx=>hx.ext he }
theorem TabAt.hB{S}{B:Nat}{w T s}(h:TabAt S B w T s):B<=w.heap.size:=Nat.le_trans h.bt (Nat.le_of_lt h.box.lt)
theorem TabAt.gg{S}{B:Nat}{w T s}(h:TabAt S B w T s):Gl w:=h.gl w (Below.refl _ _)
theorem TabAt.congr{S}{B:Nat}{w T}{s s' : Dy}(h:TabAt S B w T s)(h1 : ∀ i,i<S.m->s'.basic i=s.basic i)(h2 : ∀ j,j<S.n->s'.cols j=s.cols j)(h3 : ∀ v,v<S.n+S.m->s'.line v=s.line v)(h4 : ∀ i,i<S.m->∀ j,j<S.n->s'.a i j=s.a i j)(h5 : ∀ v,v<S.n+S.m->s'.val v=s.val v):TabAt S B w T s':=by
 have e1:lInt s'.basic S.m=lInt s.basic S.m:=zA5 fun i hi=>by rw [h1 i hi]
 have e2:lInt s'.cols S.n=lInt s.cols S.n:=zA5 fun i hi=>by rw [h2 i hi]
 have e3:lLine s'.line (S.n+S.m)=lLine s.line (S.n+S.m):=zA5 fun i hi=>by rw [h3 i hi]
 have e5:VL s'.val (S.n+S.m)=VL s.val (S.n+S.m):=zBL fun i hi=>by rw [h5 i hi]
 exact { h with
  line:=e3▸h.line
  val:=e5▸h.val
  basic:=e1▸h.basic
  cols:=e2▸h.cols
  row:=fun i hi=>by rw [zAS fun j hj=>h4 i hi j hj];exact h.row i hi }
theorem TabAt.drew{S}{B:Nat}{w T s}(h:TabAt S B w T s)(hB:B<=w.heap.size):TabAt S B w.drew T s:=h.ext (yE w).drew hB
section
variable {S:Tb.Sys} {B:Nat} {w:World} {T:Lay} {s:Dy}
theorem TabAt.f0(h:TabAt S B w T s):w.cell? ⟨T.bt,0,none⟩=some (Iv (S.n:Int)):=h.box.blk.cell (j:=0) rfl
theorem TabAt.f1(h:TabAt S B w T s):w.cell? ((⟨T.bt,0,none⟩:Addr).add 1)=some (Lv T.ra S.m T.rc):=h.box.blk.cell (j:=1) rfl
theorem TabAt.f2(h:TabAt S B w T s):w.cell? ((⟨T.bt,0,none⟩:Addr).add 2)=some (Lv T.ba S.m T.bc):=h.box.blk.cell (j:=2) rfl
theorem TabAt.f3(h:TabAt S B w T s):w.cell? ((⟨T.bt,0,none⟩:Addr).add 3)=some (Lv T.ca S.n T.cc):=h.box.blk.cell (j:=3) rfl
theorem TabAt.f4(h:TabAt S B w T s):w.cell? ((⟨T.bt,0,none⟩:Addr).add 4)=some (Lv (some ⟨T.la,0,none⟩) (S.n+S.m) (S.n+S.m)):=h.box.blk.cell (j:=4) rfl
theorem TabAt.f5(h:TabAt S B w T s):w.cell? ((⟨T.bt,0,none⟩:Addr).add 5)=some (Lv T.aa S.m T.ac):=h.box.blk.cell (j:=5) rfl
theorem TabAt.f6(h:TabAt S B w T s):w.cell? ((⟨T.bt,0,none⟩:Addr).add 6)=some (Lv (some ⟨T.va,0,none⟩) (S.n+S.m) (S.n+S.m)):=h.box.blk.cell (j:=6) rfl
theorem slGet{w:World}{a:OA}{f:Nat->Value}{n i:Nat}(h:SlAt w a (upto f n))(hi:i<n) : ∃ ad,a=some ad/\w.cell? (ad.add (i*1))=some (f i):=by
 obtain⟨b,o,ha,hc⟩:=SlAt.get h (k:=i) (zBg hi);refine⟨_,ha,?_⟩;rw [zAi,Nat.mul_one];exact hc
theorem TabAt.basicAt(h:TabAt S B w T s){i:Nat}(hi:i<S.m) : ∃ ad,T.ba=some ad/\w.cell? (ad.add (i*1))=some (Iv (s.basic i:Int)):=slGet h.basic.sl hi
theorem TabAt.colsAt(h:TabAt S B w T s){j:Nat}(hj:j<S.n) : ∃ ad,T.ca=some ad/\w.cell? (ad.add (j*1))=some (Iv (s.cols j:Int)):=slGet h.cols.sl hj
theorem TabAt.lineAt(h:TabAt S B w T s){v:Nat}(hv:v<S.n+S.m):w.cell? ((⟨T.la,0,none⟩:Addr).add (v*1))=some (Iv (s.line v)):=by
 obtain⟨ad,ha,hc⟩:=slGet (a:=some ⟨T.la,0,none⟩) h.line.blk.sl hv;cases ha;exact hc
theorem TabAt.aAt(h:TabAt S B w T s){i:Nat}(hi:i<S.m) : ∃ ad,T.aa=some ad/\w.cell? (ad.add (i*1))=some (Lv (T.rowA i) S.n (T.rowC i)):=slGet h.a.sl hi
theorem TabAt.qAt(h:TabAt S B w T s){i j:Nat}(hi:i<S.m)(hj:j<S.n) : ∃ ad,T.rowA i=some ad/\vcells w (ad.add (j*3)) 0 (qc (s.a i j)):=by
 obtain⟨b,o,ha,hv⟩:=QS.get (h.row i hi).sl hj;exact⟨_,ha,hv⟩
theorem TabAt.valAt(h:TabAt S B w T s){v:Nat}(hv:v<S.n+S.m):vcells w ((⟨T.va,0,none⟩:Addr).add (v*6)) 0 (vc2 (s.val v)):=by
 obtain⟨b,o,ha,hc⟩:=SlAt.gget (m:=6) (by omega) (fun _=>rfl) (a:=some ⟨T.va,0,none⟩) h.val.blk.sl hv;cases ha;exact hc
theorem TabAt.valWr(h:TabAt S B w T s){v:Nat}(hv:v<S.n+S.m):writable w ((⟨T.va,0,none⟩:Addr).add (v*6)) 6:=by
 rw [zAi];exact h.val.blk.writable (by rw [VL,zAR (m:=6) fun _=>rfl];omega)
theorem TabAt.rowAt(h:TabAt S B w T s){i:Nat}(hi:i<S.m) : ∃ ad,T.ra=some ad/\vcells w (ad.add (i*5)) 0 (rowc S T.R i)/\∃ b o,ad=⟨b,o,none⟩:=(h.rows w (Below.refl _ _)).get hi
end
theorem boxNe{w:World}{b c ty ty' : Nat}{L L' : List Value}(h:Blk w b ty L)(h' : Blk w c ty' L')(hne:ty≠ty'):b≠c:=by
 rintro rfl;obtain⟨t1,h1⟩:=h;obtain⟨t2,h2⟩:=h';rw [h1] at h2
 injection h2 with h2
 injection h2 with _ h2
 exact hne h2
theorem _root_.Go.V.Box.away{w w' : World}{b c ty:Nat}{L:List Value}(h:Box w b ty L)(hw : ∀ k,k≠c->w'.heap[k]? = w.heap[k]?)(hne:b≠c):Box w' b ty L:=h.same (hw b hne)
theorem OwnB.away{w w' : World}{B c ty:Nat}{a:OA}{L:List Value}(h:OwnB w B ty a L)(hw : ∀ k,k≠c->w'.heap[k]? = w.heap[k]?)(hne : ∀ b,a=some ⟨b,0,none⟩->Blk w b ty L->b≠c):OwnB w' B ty a L :=
 h.imp id fun ⟨b,h1,hb,h2⟩=>⟨b,h1,hb,h2.same (hw b (hne b h1 h2))⟩
theorem zAf{w:World}{b o i:Nat}{L:List Value} : ∀ k,k≠b->(setCells w ⟨b,o,none⟩ i L).heap[k]? = w.heap[k]?:=fun k hk=>zAk hk L i
theorem TabAt.valSet{S}{B:Nat}{w T s}(h:TabAt S B w T s){v:Nat}(hv:v<S.n+S.m)(x:V2) :
  TabAt S B (setCells w ((⟨T.va,0,none⟩:Addr).add (v*6)) 0 (vc2 x)) T { s with val:=upd s.val v x }:=by
 rw [zAi];have hb:=h.val.blk
 have d:Box (setCells w ⟨T.va,0+v*6,none⟩ 0 (vc2 x)) T.va 101 (VL (upd s.val v x) (S.n+S.m)):=by
  have h1:=h.val.setCells (o:=0+v*6) (vc2 x) 0;rw [VL,show 0+v*6+0=6*v by omega,GL_set (m:=6) (by omega) (fun _=>rfl) hv (vc2 x) rfl] at h1
  have e:GL (upd (fun i=>vc2 (s.val i)) v (vc2 x)) (S.n+S.m)=VL (upd s.val v x) (S.n+S.m):=zBL fun k _=>by
   unfold upd;split <;> rfl
  rw [e] at h1;exact h1
 exact { h with
  box:=h.box.away zAf (boxNe h.box.blk hb (by decide))
  line:=h.line.away zAf (boxNe h.line.blk hb (by decide))
  val:=d
  basic:=h.basic.away zAf fun b _ hx=>boxNe hx hb (by decide)
  cols:=h.cols.away zAf fun b _ hx=>boxNe hx hb (by decide)
  a:=h.a.away zAf fun b _ hx=>boxNe hx hb (by decide)
  row:=fun i hi=>(h.row i hi).away zAf fun b _ hx=>boxNe hx hb (by decide)
  rows:=fun w2 h2=>h.rows w2 (Below.trans (zAy h.va _ _) h2)
  xt:=h.xt.imp id fun hx=>hx.same (zAf _ (boxNe hx hb (by decide)))
  yt:=h.yt.imp id fun hx=>hx.same (zAf _ (boxNe hx hb (by decide)))
  gl:=fun w2 h2=>h.gl w2 (Below.trans (zAy h.va _ _) h2) }
theorem zAh{w:World}{b o:Nat}{v:Value} : ∀ k,k≠b->(w.setCell ⟨b,o,none⟩ v).heap[k]? = w.heap[k]?:=fun k hk=>zAk (L:=[v]) (i:=0) (o:=o) hk
theorem TabAt.rowBlk{S}{B:Nat}{w T s}(h:TabAt S B w T s){i j:Nat}(hi:i<S.m)(hj:j<S.n) : ∃ b,T.rowA i=some ⟨b,0,none⟩/\B<=b/\Blk w b 88 (QL (s.a i) S.n):=by
 rcases h.row i hi with h1 | h1
 ·have:=congrArg List.length h1
  rw [zAM] at this;simp only [List.length_nil] at this;omega
 ·exact h1
theorem TabAt.qSet{S}{B:Nat}{w T s}(h:TabAt S B w T s){i j b:Nat}(hi:i<S.m)(hj:j<S.n)(hb:T.rowA i=some ⟨b,0,none⟩)(x:Rat) :
  TabAt S B (setCells w ((⟨b,0,none⟩:Addr).add (j*3)) 0 (qc x)) T { s with a:=upd s.a i (upd (s.a i) j x) }:=by
 obtain⟨b',d,hB,hk⟩:=h.rowBlk hi hj;rw [hb] at d;cases d;rw [zAi]
 have g:Blk (setCells w ⟨b,0+j*3,none⟩ 0 (qc x)) b 88 (QL (upd (s.a i) j x) S.n):=by
  have h1:=hk.setCells (o:=0+j*3) (qc x) 0 (by rw [zAM];show 0+j*3+0+3<=_;omega);rw [show 0+j*3+0=3*j by omega,QL_set hj] at h1;exact h1
 exact { h with
  box:=h.box.away zAf (boxNe h.box.blk hk (by decide))
  line:=h.line.away zAf (boxNe h.line.blk hk (by decide))
  val:=h.val.away zAf (boxNe h.val.blk hk (by decide))
  basic:=h.basic.away zAf fun b _ hx=>boxNe hx hk (by decide)
  cols:=h.cols.away zAf fun b _ hx=>boxNe hx hk (by decide)
  a:=h.a.away zAf fun b _ hx=>boxNe hx hk (by decide)
  row:=fun k f=>by
   by_cases e:k=i
   ·subst e
    exact .inr ⟨b,hb,hB,by
     show Blk _ b 88 (QL (upd s.a k (upd (s.a k) j x) k) S.n)
     rw [zA4];exact g⟩
   ·show OwnB _ B 88 (T.rowA k) (QL (upd s.a i (upd (s.a i) j x) k) S.n)
    rw [zAt _ e]
    exact (h.row k f).away zAf fun b2 h2 _ hx=>by
     subst hx;exact h.d3 k i b2 f hi e h2 hb
  rows:=fun w2 h2=>h.rows w2 (Below.trans (zAy hB _ _) h2)
  xt:=by
   by_cases e:T.xl=[]
   ·exact .inl e
   ·rcases h.xt with e1 | hx
    ·exact .inl e1
    ·exact .inr (hx.same (zAf _ (fun e2=>h.d4 i hi e (by rw [e2];exact hb))))
  yt:=h.yt.imp id fun hx=>hx.same (zAf _ (boxNe hx hk (by decide)))
  gl:=fun w2 h2=>h.gl w2 (Below.trans (zAy hB _ _) h2) }
theorem TabAt.qWr{S}{B:Nat}{w T s}(h:TabAt S B w T s){i j b:Nat}(hi:i<S.m)(hj:j<S.n)(hb:T.rowA i=some ⟨b,0,none⟩):writable w ((⟨b,0,none⟩:Addr).add (j*3)) 3:=by
 obtain⟨b',d,hB,hk⟩:=h.rowBlk hi hj;rw [hb] at d;cases d;rw [zAi];exact hk.writable (by rw [zAM];omega)
theorem TabAt.basicSet{S}{B:Nat}{w T s}(h:TabAt S B w T s){i:Nat}(hi:i<S.m)(x:Nat) :
  ∃ b,T.ba=some ⟨b,0,none⟩/\B<=b/\((∃ v,w.cell? ((⟨b,0,none⟩:Addr).add (i*1))=some v)/\w.frozen? ((⟨b,0,none⟩:Addr).add (i*1))=false) /\
   TabAt S B (w.setCell ((⟨b,0,none⟩:Addr).add (i*1)) (Iv x)) T { s with basic:=upd s.basic i x }:=by
 rcases h.basic with h1 | ⟨b,hb,hB,hk⟩
 ·have:=congrArg List.length h1
  rw [lInt,zAD] at this;simp only [List.length_nil] at this;omega
 refine⟨b,hb,hB,?_,?_⟩
 ·rw [zAi,Nat.zero_add,Nat.mul_one]
  exact⟨⟨_,hk.cell (zBg hi)⟩,hk.free⟩
 rw [zAi,Nat.zero_add,Nat.mul_one];have d:=hk.set i (Iv x) (by rw [lInt,zAD];exact hi);rw [lInt,zC6 hi] at d
 have e:upto (upd (fun i=>Iv (s.basic i:Int)) i (Iv x)) S.m=lInt (upd s.basic i x) S.m:=zA5 fun k _=>by unfold upd;split <;> rfl
 rw [e] at d
 exact { h with
  box:=h.box.away zAh (boxNe h.box.blk hk (by decide))
  line:=h.line.away zAh fun e=>(h.d1 b hb).2 e.symm
  val:=h.val.away zAh (boxNe h.val.blk hk (by decide))
  basic := .inr ⟨b,hb,hB,d⟩
  cols:=h.cols.away zAh fun b2 h2 _ hx=>by subst hx;exact (h.d1 b2 hb).1 h2
  a:=h.a.away zAh fun b _ hx=>boxNe hx hk (by decide)
  row:=fun k f=>(h.row k f).away zAh fun b _ hx=>boxNe hx hk (by decide)
  rows:=fun w2 h2=>h.rows w2 (Below.trans (Below.setCell (Below.refl _ _) (p:=⟨b,i,none⟩) hB _) h2)
  xt:=h.xt.imp id fun hx=>hx.same (zAh _ (boxNe hx hk (by decide)))
  yt:=h.yt.imp id fun hx=>hx.same (zAh _ (boxNe hx hk (by decide)))
  gl:=fun w2 h2=>h.gl w2 (Below.trans (Below.setCell (Below.refl _ _) (p:=⟨b,i,none⟩) hB _) h2) }
theorem TabAt.colsSet{S}{B:Nat}{w T s}(h:TabAt S B w T s){i:Nat}(hi:i<S.n)(x:Nat) :
  ∃ b,T.ca=some ⟨b,0,none⟩/\B<=b/\((∃ v,w.cell? ((⟨b,0,none⟩:Addr).add (i*1))=some v)/\w.frozen? ((⟨b,0,none⟩:Addr).add (i*1))=false) /\
   TabAt S B (w.setCell ((⟨b,0,none⟩:Addr).add (i*1)) (Iv x)) T { s with cols:=upd s.cols i x }:=by
 rcases h.cols with h1 | ⟨b,hb,hB,hk⟩
 ·have:=congrArg List.length h1
  rw [lInt,zAD] at this;simp only [List.length_nil] at this;omega
 refine⟨b,hb,hB,?_,?_⟩
 ·rw [zAi,Nat.zero_add,Nat.mul_one]
  exact⟨⟨_,hk.cell (zBg hi)⟩,hk.free⟩
 rw [zAi,Nat.zero_add,Nat.mul_one];have d:=hk.set i (Iv x) (by rw [lInt,zAD];exact hi);rw [lInt,zC6 hi] at d
 have e:upto (upd (fun i=>Iv (s.cols i:Int)) i (Iv x)) S.n=lInt (upd s.cols i x) S.n:=zA5 fun k _=>by unfold upd;split <;> rfl
 rw [e] at d
 exact { h with
  box:=h.box.away zAh (boxNe h.box.blk hk (by decide))
  line:=h.line.away zAh fun e=>(h.d2 b hb) e.symm
  val:=h.val.away zAh (boxNe h.val.blk hk (by decide))
  cols := .inr ⟨b,hb,hB,d⟩
  basic:=h.basic.away zAh fun b2 h2 _ hx=>by subst hx;exact (h.d1 b2 h2).1 hb
  a:=h.a.away zAh fun b _ hx=>boxNe hx hk (by decide)
  row:=fun k f=>(h.row k f).away zAh fun b _ hx=>boxNe hx hk (by decide)
  rows:=fun w2 h2=>h.rows w2 (Below.trans (Below.setCell (Below.refl _ _) (p:=⟨b,i,none⟩) hB _) h2)
  xt:=h.xt.imp id fun hx=>hx.same (zAh _ (boxNe hx hk (by decide)))
  yt:=h.yt.imp id fun hx=>hx.same (zAh _ (boxNe hx hk (by decide)))
  gl:=fun w2 h2=>h.gl w2 (Below.trans (Below.setCell (Below.refl _ _) (p:=⟨b,i,none⟩) hB _) h2) }
theorem TabAt.lineSet{S}{B:Nat}{w T s}(h:TabAt S B w T s){i:Nat}(hi:i<S.n+S.m)(x:Int) :
  ((∃ v,w.cell? ((⟨T.la,0,none⟩:Addr).add (i*1))=some v)/\w.frozen? ((⟨T.la,0,none⟩:Addr).add (i*1))=false) /\
   TabAt S B (w.setCell ((⟨T.la,0,none⟩:Addr).add (i*1)) (Iv x)) T { s with line:=upd s.line i x }:=by
 have hk:=h.line.blk;rw [zAi,Nat.zero_add,Nat.mul_one];refine⟨⟨⟨_,hk.cell (zBg hi)⟩,hk.free⟩,?_⟩;have d:=h.line.set i (Iv x);rw [lLine,zC6 hi] at d
 have e:upto (upd (fun i=>Iv (s.line i)) i (Iv x)) (S.n+S.m)=lLine (upd s.line i x) (S.n+S.m):=zA5 fun k _=>by unfold upd;split <;> rfl
 rw [e] at d
 exact { h with
  box:=h.box.away zAh (boxNe h.box.blk hk (by decide))
  line:=d
  val:=h.val.away zAh (boxNe h.val.blk hk (by decide))
  cols:=h.cols.away zAh fun b2 h2 _ hx=>by subst hx;exact h.d2 _ h2 rfl
  basic:=h.basic.away zAh fun b2 h2 _ hx=>by subst hx;exact (h.d1 _ h2).2 rfl
  a:=h.a.away zAh fun b _ hx=>boxNe hx hk (by decide)
  row:=fun k f=>(h.row k f).away zAh fun b _ hx=>boxNe hx hk (by decide)
  rows:=fun w2 h2=>h.rows w2 (Below.trans (Below.setCell (Below.refl _ _) (p:=⟨T.la,i,none⟩) h.la _) h2)
  xt:=h.xt.imp id fun hx=>hx.same (zAh _ (boxNe hx hk (by decide)))
  yt:=h.yt.imp id fun hx=>hx.same (zAh _ (boxNe hx hk (by decide)))
  gl:=fun w2 h2=>h.gl w2 (Below.trans (Below.setCell (Below.refl _ _) (p:=⟨T.la,i,none⟩) h.la _) h2) }
end Go.Proofs.Si
namespace Go.Proofs.Si
open Go Go.V Go.Proofs Go.RowKit Go.Num Go.Tb Go.Proofs.Tryz
open Go.IntKind (i64 u64 u32 u8)
set_option maxRecDepth 100000
theorem vput{w w'}{B:Nat}(x:V2)(hB:Box w' B 101 zv)(hx:Ext w w')(hb:w.heap.size<=B) :
  writable w' ⟨B,0,none⟩ 6/\vcells (setCells w' ⟨B,0,none⟩ 0 (vc2 x)) ⟨B,0,none⟩ 0 (vc2 x)/\Ext w (setCells w' ⟨B,0,none⟩ 0 (vc2 x)) :=
 ⟨hB.blk.writable (by decide),(hB.put (vc2 x) (by rfl)).blk.all,hx.put hb _ _⟩
theorem c163{x y:V2}(hp:dg2 90000000 x)(hq:dg2 90000000 y)(w)(hg:Gl w):Ret prog 163 #[vv x,vv y] w fun v w'=>v=vv (add2 x y)/\Ext w w':=by
 have k:=(yE w).alloc (.cells (vc2 x).toArray 101);have d:=(yE (w.alloc (.cells (vc2 x).toArray 101))).alloc (.cells (vc2 y).toArray 101);have f:=(yE ((w.alloc (.cells (vc2 x).toArray 101)).alloc (.cells (vc2 y).toArray 101))).alloc (.cells zv.toArray 101);have h:=(((yN w (vc2 x) 101).ext d).ext f).ext (yE _).drew;have i:=((yN (w.alloc (.cells (vc2 x).toArray 101)) (vc2 y) 101).ext f).ext (yE _).drew;have l:=(yN ((w.alloc (.cells (vc2 x).toArray 101)).alloc (.cells (vc2 y).toArray 101)) zv 101).ext (yE _).drew;have g:=((k.trans d).trans f).drew;have m:=(k.trans d).size;refine run163 _ _ _ _ _ _ _ _ _ _ _ _ _ _ fun K hK=>⟨_,_,_,h.r,_,_,_,i.r,_,_,_,h.e,_,_,_,i.e,yC (c112 hp.1 hq.1 _ (hg.ext g)) ?_⟩;rintro v w2 ⟨rfl,b⟩;refine⟨_,_,_,rfl,b,yC (c112 hp.2 hq.2 w2 ((hg.ext g).ext b)) ?_⟩;rintro v w3 ⟨rfl,j⟩;obtain⟨p1,p2,p3⟩:=vput (add2 x y) ((l.ext b).ext j) ((g.trans b).trans j) m;exact⟨_,_,_,rfl,p1,hK _ ⟨_,_,_,_,_,_,p2,rfl,p3⟩⟩
theorem c120{x y:V2}(hp:dg2 90000000 x)(hq:dg2 90000000 y)(w)(hg:Gl w):Ret prog 120 #[vv x,vv y] w fun v w'=>v=vv (sub2 x y)/\Ext w w':=by
 have k:=(yE w).alloc (.cells (vc2 x).toArray 101);have d:=(yE (w.alloc (.cells (vc2 x).toArray 101))).alloc (.cells (vc2 y).toArray 101);have f:=(yE ((w.alloc (.cells (vc2 x).toArray 101)).alloc (.cells (vc2 y).toArray 101))).alloc (.cells zv.toArray 101);have h:=(((yN w (vc2 x) 101).ext d).ext f).ext (yE _).drew;have i:=((yN (w.alloc (.cells (vc2 x).toArray 101)) (vc2 y) 101).ext f).ext (yE _).drew;have l:=(yN ((w.alloc (.cells (vc2 x).toArray 101)).alloc (.cells (vc2 y).toArray 101)) zv 101).ext (yE _).drew;have g:=((k.trans d).trans f).drew;have m:=(k.trans d).size;refine run120 _ _ _ _ _ _ _ _ _ _ _ _ _ _ fun K hK=>⟨_,_,_,h.r,_,_,_,i.r,_,_,_,h.e,_,_,_,i.e,yC (c114 hp.1 hq.1 _ (hg.ext g)) ?_⟩;rintro v w2 ⟨rfl,b⟩;refine⟨_,_,_,rfl,b,yC (c114 hp.2 hq.2 w2 ((hg.ext g).ext b)) ?_⟩;rintro v w3 ⟨rfl,j⟩;obtain⟨p1,p2,p3⟩:=vput (sub2 x y) ((l.ext b).ext j) ((g.trans b).trans j) m;exact⟨_,_,_,rfl,p1,hK _ ⟨_,_,_,_,_,_,p2,rfl,p3⟩⟩
theorem c121{x:V2}{q:Rat}(hp:dg2 90000000 x)(hq:dg 90000000 q)(w)(hg:Gl w):Ret prog 121 #[vv x,qv q] w fun v w'=>v=vv (zAC x q)/\Ext w w':=by
 have k:=(yE w).alloc (.cells (vc2 x).toArray 101);have d:=(yE (w.alloc (.cells (vc2 x).toArray 101))).alloc (.cells (qc q).toArray 88);have f:=(yE ((w.alloc (.cells (vc2 x).toArray 101)).alloc (.cells (qc q).toArray 88))).alloc (.cells zv.toArray 101);have h:=(((yN w (vc2 x) 101).ext d).ext f).ext (yE _).drew;have i:=((yN (w.alloc (.cells (vc2 x).toArray 101)) (qc q) 88).ext f).ext (yE _).drew;have l:=(yN ((w.alloc (.cells (vc2 x).toArray 101)).alloc (.cells (qc q).toArray 88)) zv 101).ext (yE _).drew;have g:=((k.trans d).trans f).drew;have m:=(k.trans d).size;refine run121 _ _ _ _ _ _ _ _ _ _ _ fun K hK=>⟨_,_,_,h.r,_,_,_,i.blk.all,_,_,_,h.e,_,_,_,i.blk.all,yC (c113 hp.1 hq _ (hg.ext g)) ?_⟩;rintro v w2 ⟨rfl,b⟩;refine⟨_,_,_,rfl,b,yC (c113 hp.2 hq w2 ((hg.ext g).ext b)) ?_⟩;rintro v w3 ⟨rfl,j⟩;obtain⟨p1,p2,p3⟩:=vput (zAC x q) ((l.ext b).ext j) ((g.trans b).trans j) m;exact⟨_,_,_,rfl,p1,hK _ ⟨_,_,_,_,_,_,p2,rfl,p3⟩⟩
theorem c160{x y:V2}(hp:dg2 90000000 x)(hq:dg2 90000000 y)(w)(hg:Gl w):Ret prog 160 #[vv x,vv y] w fun v w'=>v=Iv (cmp2 x y)/\Ext w w':=by
 have k:=(yE w).alloc (.cells (vc2 x).toArray 101);have i:=(yE (w.alloc (.cells (vc2 x).toArray 101))).alloc (.cells (vc2 y).toArray 101);have f:=(yN w (vc2 x) 101).ext i;have g:=yN (w.alloc (.cells (vc2 x).toArray 101)) (vc2 y) 101;have d:=k.trans i;refine run160 _ _ _ _ _ _ _ _ _ _ _ _ _ _ ⟨_,_,_,f.r,_,_,_,g.r,yC (c67 hp.1 hq.1 _ (hg.ext d)) ?_⟩;rintro v w1 ⟨rfl,b⟩;refine⟨_,rfl,zAb (fun h=>⟨?_,d.trans b⟩) (fun h=>?_)⟩
 ·rw [cmp2,if_pos (by simpa using h)]
 ·refine⟨_,_,_,(f.ext b).e,_,_,_,(g.ext b).e,yC (c67 hp.2 hq.2 _ ((hg.ext d).ext b)) ?_⟩
  rintro v w2 ⟨rfl,j⟩;refine⟨_,rfl,?_,(d.trans b).trans j⟩;rw [cmp2,if_neg (by simpa using h)]
def ov(o:Option V2):Value:=match o with | none => .tuple #[vv zero2,Bv false] | some x => .tuple #[vv x,Bv true]
theorem rowK{w:World}{b o k:Nat}{S:Tb.Sys}{R:RowL}{i:Nat}(h:vcells w ((⟨b,o,none⟩:Addr).add k) 0 (rowc S R i)):vcells w (((⟨b,o,none⟩:Addr).add k).add 2) 0 (qc (S.K i)):=by
 rw [zAi] at h ⊢;rw [zAH] at h ⊢;intro j v hj;have d:j<3:=(List.getElem?_eq_some_iff.1 hj).1
 have:=h (2+j) v (by
  match j,d with
  | 0,_=>exact hj
  | 1,_=>exact hj
  | 2,_=>exact hj)
 rw [<- this,zAi,zAi,zAi,show o+k+2+(0+j)=o+k+(0+(2+j)) by omega]
theorem rowRel{w:World}{ad:Addr}{S:Tb.Sys}{R:RowL}{i:Nat}(h:vcells w ad 0 (rowc S R i)):w.cell? (ad.add 1)=some (Iv (S.rel i:Int)):=by
 rw [zAH] at h;have:=h 1 _ rfl;rw [Nat.zero_add] at this;exact this
theorem rowC{w:World}{ad:Addr}{S:Tb.Sys}{R:RowL}{i:Nat}(h:vcells w ad 0 (rowc S R i)):w.cell? ad=some (Lv (R.cA i) S.n (R.cC i)):=by
 rw [zAH] at h;have:=h 0 _ rfl;rw [Nat.zero_add] at this;exact this
def Few(S:Tb.Sys):Prop:=S.n+S.m<=1048576
theorem wr_row{S:Tb.Sys}(hf:Few S){v:Nat}(hv:S.n<=v)(hv2:v<S.n+S.m):i64.wrap ((v:Int) - (S.n:Int))=((v - S.n:Nat):Int):=by
 unfold Few at hf;rw [zAe (by omega) (by omega)];omega
theorem zEf:vv zero2 = .agg #[Iv 0,Iv 0,S0,Iv 0,Iv 0,S0]:=by
 have:=vc2_zero;unfold vc2 at this;unfold vv;rw [this]
theorem vc2_real(q:Rat):vc2 (q,0)=[Iv (qn q),Iv (ql q),Sv (qb q),Iv 0,Iv 0,S0]:=by
 have:=qc_zero;unfold qc at this
 injection this with h1 h2
 injection h2 with h2 h3
 injection h3 with h3 h4
 unfold vc2;simp only [h1,h2,h3]
theorem vv_real(q:Rat):vv (q,0) = .agg #[Iv (qn q),Iv (ql q),Sv (qb q),Iv 0,Iv 0,S0]:=by
 have:=vc2_real q;unfold vc2 at this;unfold vv;rw [this]
set_option maxHeartbeats 1000000 in
theorem c159{S}{B:Nat}{T s}{v:Nat}(hf:Few S)(hv:v<S.n+S.m)(w)(hT:TabAt S B w T s)(hB:B<=w.heap.size)(hg:Gl w) :
  Ret prog 159 #[.pointer (some ⟨T.bt,0,none⟩),Iv v] w fun r w'=>r=ov (upper S v)/\Ext w w':=by
 have d:=(yE w).alloc (.cells zv.toArray 101);have j:=yN w zv 101;have u:=hT.ext d hB;refine run159 _ _ _ _ ⟨_,u.f0,zAd (fun a5=>?_) (fun x=>?_)⟩
 ·obtain⟨p1,p2,p3⟩:=vput zero2 j d yL
  rw [vc2_zero] at p2 p3;refine⟨p1,_,_,_,_,_,_,p2,?_,p3⟩;rw [upper,if_pos (by omega),ov,zEf]
 ·have x:S.n<=v:=by omega
  have a0:upper S v=some (ub S v):=by rw [upper,if_neg (by omega)]
  have f:=u.drew (Nat.le_trans hB d.size)
  have hi:v - S.n<S.m:=by omega
  obtain⟨ad,ha,hc,_⟩:=f.rowAt hi;have h:=(yE (w.alloc (.cells zv.toArray 101)).drew).alloc (.cells [N0,Iv 0,Iv 0,Iv 0,S0].toArray 90);have p:=yN (w.alloc (.cells zv.toArray 101)).drew [N0,Iv 0,Iv 0,Iv 0,S0] 90;have l:=(j.ext (yE _).drew).ext h;have a4:=d.drew.trans h;refine fun K hK=>⟨_,_,_,f.f1,_,f.f0,ad,ha,?_⟩;rw [wr_row hf x hv,yT];refine⟨⟨by omega,by omega⟩,_,_,_,_,_,_,_,hc,h,p.blk.writable (by decide),hK _ _ ?_⟩;have hP:=p.put (rowc S T.R (v - S.n)) (by rfl)
  have a2:w.heap.size≠(w.alloc (.cells zv.toArray 101)).drew.heap.size:=by
   show w.heap.size≠(w.alloc (.cells zv.toArray 101)).heap.size;rw [size_alloc];omega
  have hQ:=l.same (zAk a2 (rowc S T.R (v - S.n)) 0 (b:=(w.alloc (.cells zv.toArray 101)).drew.heap.size) (o:=0));have i:Ext w (setCells ((w.alloc (.cells zv.toArray 101)).drew.alloc (.cells [N0,Iv 0,Iv 0,Iv 0,S0].toArray 90)) ⟨(w.alloc (.cells zv.toArray 101)).drew.heap.size,0,none⟩ 0 (rowc S T.R (v - S.n))):=a4.put d.drew.size _ _;have hR:=hP.blk.all;refine⟨_,rowRel hR,?_⟩;refine zAb (fun h2=>?_) (fun h2=>?_)
  ·have h2:(S.rel (v - S.n):Int)=2:=by simpa using h2
   have h2:S.rel (v - S.n)=2:=by omega
   refine fun K1 a1=>⟨_,_,_,rowK (k:=0) (hP.ext (yE _).drew).blk.all,yC (c130 (-1) (by decide) _ (hg.ext i.drew)) ?_⟩;rintro r w3 ⟨rfl,g⟩;have a3:=i.drew.trans g;obtain⟨p1,p2,p3⟩:=vput (S.K (v - S.n),-1) ((hQ.ext (yE _).drew).ext g) a3 yL;refine⟨_,_,_,rfl,g,p1,a1 _ _ ⟨_,_,_,_,_,_,p2,?_,p3⟩⟩;rw [a0,ub,if_pos h2];rfl
  ·have h2 : ¬ (S.rel (v - S.n):Int)=2:=by simpa using h2
   have h2:S.rel (v - S.n)≠2:=by omega
   obtain⟨p1,p2,p3⟩:=vput (S.K (v - S.n),0) hQ i yL;have e:=vc2_real (S.K (v - S.n));rw [e] at p2 p3;refine⟨_,_,_,rowK (k:=0) hR,p1,_,_,_,_,_,_,p2,?_,p3⟩;rw [a0,ub,if_neg h2,ov,vv_real]
set_option maxHeartbeats 1000000 in
theorem c161{S}{B:Nat}{T s}{v:Nat}(hf:Few S)(hv:v<S.n+S.m)(w)(hT:TabAt S B w T s)(hB:B<=w.heap.size)(hg:Gl w) :
  Ret prog 161 #[.pointer (some ⟨T.bt,0,none⟩),Iv v] w fun r w'=>r=ov (lower S v)/\Ext w w':=by
 have g:=((yE w).alloc (.cells zv.toArray 101)).drew;have h:=(yN w zv 101).ext (yE _).drew;have b:=hT.ext g hB;refine run161 _ _ _ _ fun K hK=>⟨_,b.f0,?_⟩
 have miss:lower S v=none->K [Bv true] (w.alloc (.cells zv.toArray 101)).drew:=by
  intro hl;refine hK true ?_;rw [cond_true];obtain⟨p1,p2,p3⟩:=vput zero2 h g yL;rw [vc2_zero] at p2 p3;refine⟨p1,_,_,_,_,_,_,p2,?_,p3⟩;rw [hl,ov,zEf]
 refine zAd (fun p=>miss (by rw [lower,if_pos (.inl (by omega))])) (fun f=>?_)
 have f:S.n<=v:=by omega
 have hi:v - S.n<S.m:=by omega
 obtain⟨ad,ha,hc,_,_,rfl⟩:=b.rowAt hi;have i:=g.drew;have d:=hT.ext i hB;have j:=h.ext (yE _).drew;obtain⟨o,k,l,_,_,rfl⟩:=d.rowAt hi;refine⟨_,_,_,b.f1,_,b.f0,_,ha,?_⟩;rw [wr_row hf f hv,yT];refine⟨⟨by omega,by omega⟩,_,rowRel hc,?_⟩
 by_cases h3:S.rel (v - S.n)=3
 ·have e:((S.rel (v - S.n):Int) != 3)=false:=by rw [h3];rfl
  rw [e];refine hK false ?_;rw [cond_false];refine⟨_,_,_,d.f1,_,d.f0,_,k,?_⟩;rw [wr_row hf f hv,yT];obtain⟨p1,p2,p3⟩:=vput (S.K (v - S.n),0) j i yL;rw [vc2_real] at p2 p3;refine⟨⟨by omega,by omega⟩,_,_,_,rowK l,p1,_,_,_,_,_,_,p2,?_,p3⟩;rw [lower,if_neg (by omega),ov,vv_real]
 ·have e:((S.rel (v - S.n):Int) != 3)=true:=by rw [bne_iff_ne];omega
  rw [e];exact miss (by rw [lower,if_pos (.inr h3)])
def Short(S:Tb.Sys)(k:Nat):Prop:=(∀ i,i<S.m->dg k (S.K i))/\1<=k
theorem ub_dg{S:Tb.Sys}{k v:Nat}(h:Short S k)(hv:S.n<=v)(hv2:v<S.n+S.m):dg2 k (ub S v):=by
 refine⟨h.1 _ (by omega),?_⟩;unfold ub;split
 ·exact (zF5 h.2).neg
 ·exact zB8 h.2
theorem upper_dg{S:Tb.Sys}{k v:Nat}(h:Short S k)(hv2:v<S.n+S.m){x:V2}(hx:upper S v=some x):dg2 k x:=by
 unfold upper at hx;split at hx
 ·cases hx
 ·cases hx;exact ub_dg h (by omega) hv2
theorem zEJ{S:Tb.Sys}{k v:Nat}(h:Short S k)(hv2:v<S.n+S.m){x:V2}(hx:lower S v=some x):dg2 k x:=by
 unfold lower at hx;split at hx
 ·cases hx
 ·cases hx;exact⟨h.1 _ (by omega),zB8 h.2⟩
set_option maxHeartbeats 1000000 in
theorem c162{S}{B:Nat}{T}{s:Dy}{v:Nat}{up:Bool}(hf:Few S)(hS:Short S 90000000)(hv:v<S.n+S.m)(hd:dg2 90000000 (s.val v))(w)(hT:TabAt S B w T s)(hB:B<=w.heap.size)(hg:Gl w) :
  Ret prog 162 #[.pointer (some ⟨T.bt,0,none⟩),Iv v,Bv up] w fun r w'=>r=Bv (free S s.val v up)/\Ext w w':=by
 have go : ∀ (o:Option V2) (w1:World),Ext w w1->∀ x,x=(match o with | none=>zero2 | some x=>x) ->
   Ext w (setCells (w1.alloc (.cells zv.toArray 101)) ⟨w1.heap.size,0,none⟩ 0 (vc2 x)).drew/\Box (setCells (w1.alloc (.cells zv.toArray 101)) ⟨w1.heap.size,0,none⟩ 0 (vc2 x)).drew w1.heap.size 101 (vc2 x):=by
  intro o w1 g x _;exact⟨((g.alloc _).put g.size _ _).drew,((yN w1 zv 101).put (vc2 x) (by rfl)).ext (yE _).drew⟩
 refine run162 _ _ _ _ _ ?_;cases up
 ·unfold vc162
  rw [cond_false];refine yC (c161 hf hv w hT hB hg) ?_;rintro r w4 ⟨rfl,d⟩
  cases hl:lower S v with
  | none =>
   obtain⟨h1,h2⟩:=go none w4 d zero2 rfl;have:=vc2_zero;rw [vc2_zero] at h1;have h0:=(yN w4 zv 101).blk.writable (o:=0) (n:=6) (by decide);rw [ov,zEf];refine⟨_,_,_,_,_,_,_,rfl,h0,fun K hK=>?_⟩;exact hK true _ ⟨by rw [free,hl];rfl,h1⟩
  | some x =>
   obtain⟨h1,h2⟩:=go (some x) w4 d x rfl;have h0:=(yN w4 zv 101).blk.writable (o:=0) (n:=6) (by decide);refine⟨_,_,_,_,_,_,_,rfl,h0,fun K hK=>?_⟩;have b:=hT.ext h1 hB;refine⟨_,_,_,b.f6,_,rfl,⟨by omega,by omega⟩,_,_,_,_,_,_,b.valAt hv,_,_,_,_,_,_,h2.blk.all,yC (c160 hd (zEJ hS hv hl) _ (hg.ext h1)) ?_⟩;rintro r w6 ⟨rfl,f⟩;refine⟨_,rfl,hK _ _ ⟨?_,h1.trans f⟩⟩;rw [free,hl]
   congr 1
 ·unfold vc162
  rw [cond_true];refine yC (c159 hf hv w hT hB hg) ?_;rintro r w4 ⟨rfl,d⟩
  cases hl:upper S v with
  | none =>
   obtain⟨h1,h2⟩:=go none w4 d zero2 rfl;rw [vc2_zero] at h1;have h0:=(yN w4 zv 101).blk.writable (o:=0) (n:=6) (by decide);rw [ov,zEf];refine⟨_,_,_,_,_,_,_,rfl,h0,fun K hK=>?_⟩;exact hK true _ ⟨by rw [free,hl];rfl,h1⟩
  | some x =>
   obtain⟨h1,h2⟩:=go (some x) w4 d x rfl;have h0:=(yN w4 zv 101).blk.writable (o:=0) (n:=6) (by decide);refine⟨_,_,_,_,_,_,_,rfl,h0,fun K hK=>?_⟩;have b:=hT.ext h1 hB;refine⟨_,_,_,b.f6,_,rfl,⟨by omega,by omega⟩,_,_,_,_,_,_,b.valAt hv,_,_,_,_,_,_,h2.blk.all,yC (c160 hd (upper_dg hS hv hl) _ (hg.ext h1)) ?_⟩;rintro r w6 ⟨rfl,f⟩;refine⟨_,rfl,hK _ _ ⟨?_,h1.trans f⟩⟩;rw [free,hl]
   congr 1
end Go.Proofs.Si
namespace Go.Proofs.Si
open Go Go.V Go.Proofs Go.RowKit Go.Num Go.Tb Go.Proofs.Tryz
set_option maxRecDepth 100000
def midM(s:Dy)(j:Nat)(d:V2)(i:Nat):Nat->V2 :=
 fun u=>if u=s.cols j then add2 (s.val u) d else if 0<=s.line u/\s.line u<i then add2 (s.val u) (zAC d (s.a (s.line u).toNat j)) else s.val u
theorem midM_zero{S:Tb.Sys}{s:Dy}{j:Nat}{d:V2} : midM s j d 0=upd s.val (s.cols j) (add2 (s.val (s.cols j)) d):=by
 funext u
 unfold midM upd
 by_cases e:u=s.cols j
 ·rw [if_pos e,if_pos e,e]
 ·rw [if_neg e,if_neg e,if_neg (by omega)]
theorem midM_at{S:Tb.Sys}{s:Dy}(hp:Perm S s){j i:Nat}{d:V2}(hj:j<S.n)(hi:i<S.m):midM s j d i (s.basic i)=s.val (s.basic i):=by
 unfold midM;rw [if_neg (hp.ne hi hj),if_neg (by rw [(hp.bas i hi).2];omega)]
theorem midM_succ{S:Tb.Sys}{s:Dy}(hp:Perm S s){j i:Nat}{d:V2}(hj:j<S.n)(hi:i<S.m) : ∀ u,u<S.n+S.m->midM s j d (i+1) u=upd (midM s j d i) (s.basic i) (add2 (s.val (s.basic i)) (zAC d (s.a i j))) u:=by
 intro u hu;unfold upd
 by_cases e:u=s.basic i
 ·subst e
  rw [if_pos rfl];unfold midM;have:=(hp.bas i hi).2;rw [if_neg (hp.ne hi hj),if_pos (by rw [this];omega),this];rfl
 ·rw [if_neg e]
  unfold midM
  by_cases e1:u=s.cols j
  ·rw [if_pos e1,if_pos e1]
  ·rw [if_neg e1,if_neg e1]
   have b : ¬ (0<=s.line u/\s.line u=i):=by
    rintro⟨h1,h2⟩;have:=((hp.lin u hu).1 h1).2;rw [h2] at this;exact e this.symm
   by_cases h:0<=s.line u/\s.line u<i
   ·rw [if_pos h,if_pos (by omega)]
   ·rw [if_neg h,if_neg (by omega)]
theorem midM_end{S:Tb.Sys}{s:Dy}(hp:Perm S s){j:Nat}{d:V2} : ∀ u,u<S.n+S.m->(Tb.move s j d).val u=midM s j d S.m u:=by
 intro u hu;unfold Tb.move midM;simp only
 by_cases e1:u=s.cols j
 ·rw [if_pos e1,if_pos e1]
 ·rw [if_neg e1,if_neg e1]
  by_cases h:0<=s.line u
  ·rw [if_pos h,if_pos ⟨h,((hp.lin u hu).1 h).1⟩]
  ·rw [if_neg h,if_neg (fun x=>h x.1)]
theorem scale2_zero(d:V2):zAC d 0=zero2:=by unfold zAC zero2;rw [Rat.mul_zero,Rat.mul_zero]
theorem add2_zero(v:V2):add2 v zero2=v:=by unfold add2 zero2;rw [Rat.add_zero,Rat.add_zero]
theorem dg2.scale{j k:Nat}{d:V2}{q:Rat}(h:dg2 j d)(hq:dg k q):dg2 (j+k+1) (zAC d q):=⟨h.1.mul hq,h.2.mul hq⟩
theorem dg2.sub{j k:Nat}{d e:V2}(h:dg2 j d)(hq:dg2 k e):dg2 (j+k+2) (sub2 d e):=⟨h.1.sub hq.1,h.2.sub hq.2⟩
set_option maxHeartbeats 4000000 in
theorem c119{S}{B:Nat}{T s}{j:Nat}{d:V2}(hf:Few S)(hp:Perm S s)(hj:j<S.n)(hv : ∀ v,v<S.n+S.m->dg2 90000000 (s.val v))(hd:dg2 44000000 d)(ha : ∀ i,i<S.m->dg 44000000 (s.a i j))(w)(hT:TabAt S B w T s) :
  Ret prog 119 #[.pointer (some ⟨T.bt,0,none⟩),Iv j,vv d] w fun r w'=>r = .tuple #[]/\TabAt S B w' T (Tb.move s j d)/\Below B w w':=by
 have hB:=hT.hB;have d2:=(yE w).alloc (.cells (vc2 d).toArray 101);have d6:=yN w (vc2 d) 101;have b1:=hT.ext d2 hB;have h:=hp.col j hj;have e8:=hT.val.lt;obtain⟨ac,e0,e3⟩:=b1.colsAt hj;unfold Few at hf;have d3:=d2.drew;have l:=hT.ext d3 hB;have a4:=d6.ext (yE _).drew;refine run119 _ _ _ _ _ _ _ _ _ _ ⟨_,_,_,b1.f3,ac,e0,⟨by omega,by omega⟩,_,e3,fun K hK=>?_⟩;refine⟨_,_,_,l.f6,_,_,_,l.f6,_,rfl,⟨by omega,by omega⟩,_,_,_,_,_,_,l.valAt h.1,_,_,_,_,_,_,a4.blk.all,yC (c163 (hv _ h.1) (hd.mono (by decide)) _ l.gg) ?_⟩;rintro r w7 ⟨rfl,a2⟩;have b3:=l.ext a2 l.hB;refine⟨_,_,_,_,_,_,rfl,a2,_,rfl,⟨by omega,by omega⟩,b3.valWr h.1,hK _ ?_⟩;have b4:=b3.valSet h.1 (add2 (s.val (s.cols j)) d)
 have d1 : ∀ k,w.heap.size<=k->k≠T.va:=fun k hk e=>by omega
 have a9:Box (setCells w7 ((⟨T.va,0,none⟩:Addr).add (s.cols j*6)) 0 (vc2 (add2 (s.val (s.cols j)) d))) w.heap.size 101 (vc2 d):=by
  rw [zAi];exact (a4.ext a2).away zAf (d1 _ yL)
 have b8:Below B w (setCells w7 ((⟨T.va,0,none⟩:Addr).add (s.cols j*6)) 0 (vc2 (add2 (s.val (s.cols j)) d))):=by
  rw [zAi];exact Below.trans (Below.mono (d3.trans a2) hB) (zAy hT.va _ _)
 refine⟨_,_,_,b4.f2,fun vals w2=>∃ i:Nat,vals=[Iv i]/\i<=S.m/\TabAt S B w2 T { s with val:=midM s j d i }/\Box w2 w.heap.size 101 (vc2 d)/\Below B w w2,mu1 S.m,⟨0,rfl,Nat.zero_le _,?_,a9,b8⟩,?_⟩
 ·rw [midM_zero (S:=S)];exact b4
 rintro m w2 ⟨i,e5,hi,g,b0,b7⟩;cases e5;refine zAd (fun a8=>?_) (fun e6=>⟨rfl,?_,b7⟩)
 ·have f:i<S.m:=by omega
  have x:=hp.bas i f;obtain⟨ab,d9,a7⟩:=g.basicAt f;replace a7:w2.cell? (ab.add (i*1))=some (Iv (s.basic i:Int)):=a7;obtain⟨aa,d8,e2⟩:=g.aAt f;obtain⟨aq,e1,e4⟩:=g.qAt f hj;refine⟨ab,d9,⟨by omega,a8⟩,_,a7,_,_,_,g.f5,aa,d8,⟨by omega,a8⟩,_,_,_,e2,aq,e1,⟨by omega,by omega⟩,_,_,_,e4,yC (c75 ((ha i f).mono (by decide)) w2 g.gg) ?_⟩;rintro r w3 ⟨rfl,a0⟩;refine⟨_,rfl,?_⟩;have a6:=g.ext a0 g.hB;have a5:=Below.trans b7 (Below.mono a0 g.hB)
  have step : ∀ w4,TabAt S B w4 T { s with val:=upd (midM s j d i) (s.basic i) (add2 (s.val (s.basic i)) (zAC d (s.a i j))) }->TabAt S B w4 T { s with val:=midM s j d (i+1) }:=fun w4 h4 =>
   h4.congr (fun _ _=>rfl) (fun _ _=>rfl) (fun _ _=>rfl) (fun _ _ _ _=>rfl) fun v hv=>midM_succ hp hj f v hv
  refine zAb (fun e7=>?_) (fun hz=>?_)
  ·intro K1 d7
   have b:=a6.drew a6.hB;obtain⟨d4,b5,b9⟩:=b.aAt f;obtain⟨d5,b6,d0⟩:=b.qAt f hj;have a3:=(b0.ext a0).ext (yE _).drew;have p:=b.valAt x.1
   have p:vcells w3.drew ((⟨T.va,0,none⟩:Addr).add (s.basic i*6)) 0 (vc2 (s.val (s.basic i))):=by
    have:=p;simp only [midM_at hp hj f] at this;exact this
   refine⟨_,_,_,b.f6,_,_,_,b.f6,_,rfl,⟨by omega,by omega⟩,_,_,_,_,_,_,p,_,_,_,_,_,_,a3.blk.all,_,_,_,b.f5,d4,b5,⟨by omega,a8⟩,_,_,_,b9,d5,b6,⟨by omega,by omega⟩,_,_,_,d0,yC (c121 (hd.mono (by decide)) ((ha i f).mono (by decide)) _ b.gg) ?_⟩;rintro r w5 ⟨rfl,o⟩;have u:=b.ext o b.hB;refine⟨_,_,_,_,_,_,rfl,o,yC (c163 (hv _ x.1) ((hd.scale (ha i f)).mono (by decide)) _ u.gg) ?_⟩;rintro r w6 ⟨rfl,a1⟩;have b2:=u.ext a1 u.hB;refine⟨_,_,_,_,_,_,rfl,o.trans a1,_,rfl,⟨by omega,by omega⟩,b2.valWr x.1,d7 _ ?_⟩;rw [zAg (by omega)];refine⟨⟨i+1,rfl,f,step _ (b2.valSet x.1 _),?_,?_⟩,by simp only [mu1,yT];omega⟩
   ·rw [zAi];exact ((a3.ext o).ext a1).away zAf (d1 _ yL)
   ·rw [zAi]
    exact Below.trans (Below.trans (Below.trans a5.drew (Below.mono o b.hB)) (Below.mono a1 u.hB)) (zAy hT.va _ _)
  ·have hz:s.a i j=0:=sgnQ_zero.1 (by simpa using hz)
   rw [zAg (by omega)];refine⟨⟨i+1,rfl,f,a6.congr (fun _ _=>rfl) (fun _ _=>rfl) (fun _ _=>rfl) (fun _ _ _ _=>rfl) fun v hv=>?_,b0.ext a0,a5⟩,by simp only [mu1,yT];omega⟩;show midM s j d (i+1) v=midM s j d i v;rw [midM_succ hp hj f v hv,hz,scale2_zero,add2_zero]
   by_cases e:v=s.basic i
   ·rw [e,zA4,midM_at hp hj f]
   ·rw [zAt _ e]
 ·have e:i=S.m:=by omega
  subst e;exact g.congr (fun _ _=>rfl) (fun _ _=>rfl) (fun _ _=>rfl) (fun _ _ _ _=>rfl) fun v hv=>midM_end hp v hv
def part(Q A:Nat->Rat)(k:Nat):Nat->Rat:=fun c=>if c<k then Q c else A c
theorem zDa(Q A:Nat->Rat):part Q A 0=A:=by funext c;exact if_neg (by omega)
theorem zCx(Q A:Nat->Rat)(k:Nat):upd (part Q A k) k (Q k)=part Q A (k+1):=by
 funext c
 unfold upd part
 by_cases e:c=k
 ·rw [if_pos e,if_pos (by omega),e]
 ·rw [if_neg e]
  by_cases h:c<k
  ·rw [if_pos h,if_pos (by omega)]
  ·rw [if_neg h,if_neg (by omega)]
theorem part_same{Q A:Nat->Rat}{k:Nat}(h:Q k=A k):part Q A (k+1)=part Q A k:=by
 rw [<- zCx]
 funext c
 unfold upd
 by_cases e:c=k
 ·rw [if_pos e,part,if_neg (by omega),e,h]
 ·rw [if_neg e]
theorem zG6(Q A:Nat->Rat)(k:Nat):part Q A k k=A k:=if_neg (by omega)
theorem zG5{Q A:Nat->Rat}{n c:Nat}(h:c<n):part Q A n c=Q c:=if_pos h
theorem upd_upd{α:Type}(f:Nat->α)(i:Nat)(x y:α):upd (upd f i x) i y=upd f i y:=by
 funext k
 unfold upd
 split <;> rfl
theorem upd_self{α:Type}(f:Nat->α)(i:Nat):upd f i (f i)=f:=by
 funext k
 unfold upd;split
 ·next h=>rw [h]
 ·rfl
def midP(a:Nat->Nat->Rat)(i j l:Nat):Nat->Nat->Rat:=fun k=>if k<l\/k=i then pivA a i j k else a k
theorem midP_row{a:Nat->Nat->Rat}{i j l:Nat} : midP a i j l i=pivA a i j i:=if_pos (.inr rfl)
theorem midP_at{a:Nat->Nat->Rat}{i j l:Nat}(h:l≠i):midP a i j l l=a l:=if_neg (by omega)
theorem midP_skip{a:Nat->Nat->Rat}{i j l:Nat}(h:l=i\/a l j=0):midP a i j (l+1)=midP a i j l:=by
 funext k c
 unfold midP
 by_cases e:k=l
 ·by_cases e2:k=i
  ·rw [if_pos (.inr e2),if_pos (.inr e2)]
  ·subst e
   rcases h with h | h
   ·exact absurd h e2
   ·rw [if_pos (by omega),if_neg (by omega)]
    unfold pivA;rw [if_neg e2,h]
    by_cases hc:c=j
    ·rw [if_pos hc,hc,h,Rat.zero_mul]
    ·rw [if_neg hc,Rat.zero_mul,Rat.add_zero]
 ·by_cases h1:k<l\/k=i
  ·rw [if_pos h1,if_pos (by omega)]
  ·rw [if_neg h1,if_neg (by omega)]
theorem midP_succ{a:Nat->Nat->Rat}{i j l n:Nat}(h:l≠i) : ∀ k c,c<n->midP a i j (l+1) k c=upd (midP a i j l) l (part (pivA a i j l) (a l) n) k c:=by
 intro k c hc;unfold upd
 by_cases e:k=l
 ·rw [if_pos e,zG5 hc,midP,if_pos (by omega),e]
 ·rw [if_neg e]
  unfold midP
  by_cases h1:k<l\/k=i
  ·rw [if_pos h1,if_pos (by omega)]
  ·rw [if_neg h1,if_neg (by omega)]
theorem TabAt.qAt'{S}{B:Nat}{w T s}(h:TabAt S B w T s){i j b:Nat}(hi:i<S.m)(hj:j<S.n)(hb:T.rowA i=some ⟨b,0,none⟩):vcells w ((⟨b,0,none⟩:Addr).add (j*3)) 0 (qc (s.a i j)):=by
 obtain⟨ad,ha,hv⟩:=h.qAt hi hj;rw [hb] at ha;cases ha;exact hv
set_option maxHeartbeats 8000000 in
theorem c123{S}{B:Nat}{T s}{i j:Nat}(hf:Few S)(hp:Perm S s)(hi:i<S.m)(hj:j<S.n)(h0:s.a i j≠0)(ha : ∀ i,i<S.m->∀ j,j<S.n->dg 20000000 (s.a i j))(w)(hT:TabAt S B w T s) :
  Ret prog 123 #[.pointer (some ⟨T.bt,0,none⟩),Iv i,Iv j] w fun r w'=>r = .tuple #[]/\TabAt S B w' T (pivot s i j)/\Below B w w':=by
 have hB:=hT.hB;unfold Few at hf;have k8:=hp.col j hj;have k6:=hp.bas i hi;obtain⟨aa,m1,m6⟩:=hT.aAt hi;obtain⟨b,hb,j3,m4⟩:=hT.rowBlk hi hj;have g3:=(ha i hi j hj).inv;have h7:=m4.lt;refine run123 _ _ _ _ _ ⟨_,_,_,hT.f5,aa,m1,⟨by omega,by omega⟩,_,_,_,m6,_,hb,⟨by omega,by omega⟩,_,_,_,hT.qAt' hi hj hb,yC (c122 ((ha i hi j hj).mono (by decide)) h0 w hT.gg) ?_⟩;rintro r w1 ⟨rfl,i0⟩;have hN:=yN w1 zq 88;have i9:Ext w (setCells (w1.alloc (.cells zq.toArray 88)) ⟨w1.heap.size,0,none⟩ 0 (qc (s.a i j)⁻¹)):=(i0.alloc _).put i0.size _ _;have k1:=hT.ext i9 hB;have j7:=hN.put (qc (s.a i j)⁻¹) (by rfl);have l3:=i0.size;have inv_away : ∀ {w2:World} {o:Nat} {L:List Value},Box w2 w1.heap.size 88 (qc (s.a i j)⁻¹)->∀ c,c<w.heap.size->Box (setCells w2 ⟨c,o,none⟩ 0 L) w1.heap.size 88 (qc (s.a i j)⁻¹):=fun h c hc=>h.away zAf (by omega);refine⟨_,_,_,rfl,hN.blk.writable (by decide),fun vals w2=>∃ k:Nat,vals=[Iv k]/\k<=S.n/\TabAt S B w2 T { s with a:=upd s.a i (part (pivA s.a i j i) (s.a i) k) }/\Box w2 w1.heap.size 88 (qc (s.a i j)⁻¹)/\Below B w w2,mu1 S.n,⟨0,rfl,Nat.zero_le _,?_,j7,Below.mono i9 hB⟩,?_⟩
 ·rw [zDa,upd_self];exact k1
 rintro m w2 ⟨k,i8,hk,a0,d5,d0⟩;cases i8
 have b8 : ∀ c,(upd s.a i (part (pivA s.a i j i) (s.a i) k)) i c=part (pivA s.a i j i) (s.a i) k c:=fun c=>by rw [zA4]
 refine zAd (fun d9=>?_) (fun k9=>?_)
 ·have f:k<S.n:=by omega
  have step : ∀ w4,TabAt S B w4 T { s with a:=upd (upd s.a i (part (pivA s.a i j i) (s.a i) k)) i (upd ((upd s.a i (part (pivA s.a i j i) (s.a i) k)) i) k (pivA s.a i j i k)) }->TabAt S B w4 T { s with a:=upd s.a i (part (pivA s.a i j i) (s.a i) (k+1)) }:=fun w4 h4=>by
   rw [zA4,upd_upd,zCx] at h4;exact h4
  refine zAb (fun g=>?_) (fun g=>?_)
  ·have g:k=j:=by
    have:(k:Int)=j:=by simpa using g
    omega
   have a9:pivA s.a i j i k=(s.a i j)⁻¹:=by unfold pivA;rw [if_pos rfl,if_pos g]
   refine⟨_,_,_,d5.blk.all,_,hb,⟨by omega,d9⟩,a0.qWr hi f hb,?_⟩;have b0:=a0.qSet hi f hb (pivA s.a i j i k);have b0:=step _ b0;rw [a9] at b0;rw [zAg (by omega)];refine⟨⟨k+1,rfl,f,b0,?_,?_⟩,by simp only [mu1,yT];omega⟩
   ·rw [zAi];exact inv_away d5 b h7
   ·rw [zAi];exact Below.trans d0 (zAy j3 _ _)
  ·have g:k≠j:=by
    have : ¬ (k:Int)=j:=by simpa using g
    omega
   have a9:pivA s.a i j i k = -(s.a i k*(s.a i j)⁻¹):=by unfold pivA;rw [if_pos rfl,if_neg g]
   have hq:=a0.qAt' hi f hb;simp only [b8,zG6] at hq;refine⟨_,hb,⟨by omega,d9⟩,_,_,_,hq,yC (c75 ((ha i hi k f).mono (by decide)) w2 a0.gg) ?_⟩;rintro r w3 ⟨rfl,i1⟩;have b0:=a0.ext i1 a0.hB;have h8:=d5.ext i1;have h5:=Below.trans d0 (Below.mono i1 a0.hB);refine⟨_,rfl,zAb (fun m8=>?_) (fun hz=>?_)⟩
   ·intro K hK
    have b3:=b0.drew b0.hB;have hq:=b3.qAt' hi f hb;simp only [b8,zG6] at hq;refine⟨_,hb,⟨by omega,d9⟩,_,_,_,hq,_,_,_,(h8.ext (yE _).drew).blk.all,yC (c113 ((ha i hi k f).mono (by decide)) (g3.mono (by decide)) _ b3.gg) ?_⟩;rintro r w5 ⟨rfl,i2⟩;have d7:=b3.ext i2 b3.hB;refine⟨_,_,_,rfl,yC (c133 (((ha i hi k f).mul g3).mono (by decide)) _ d7.gg) ?_⟩;rintro r w6 ⟨rfl,i5⟩;have k3:=d7.ext i5 d7.hB;refine⟨_,_,_,rfl,_,hb,⟨by omega,d9⟩,k3.qWr hi f hb,hK _ ?_⟩;have a2:=step _ (k3.qSet hi f hb (pivA s.a i j i k));rw [a9] at a2;rw [zAg (by omega)];refine⟨⟨k+1,rfl,f,a2,?_,?_⟩,by simp only [mu1,yT];omega⟩
    ·rw [zAi];exact inv_away (((h8.ext (yE _).drew).ext i2).ext i5) b h7
    ·rw [zAi];exact Below.trans (Below.trans (Below.trans h5.drew (Below.mono i2 b3.hB)) (Below.mono i5 d7.hB)) (zAy j3 _ _)
   ·have hz:s.a i k=0:=sgnQ_zero.1 (by simpa using hz)
    rw [zAg (by omega)];refine⟨⟨k+1,rfl,f,?_,h8,h5⟩,by simp only [mu1,yT];omega⟩;rw [part_same (by rw [a9,hz,Rat.zero_mul,Rat.neg_zero])];exact b0
 have ek:k=S.n:=by omega
 subst ek
 have a0:TabAt S B w2 T { s with a:=midP s.a i j 0 }:=a0.congr (fun _ _=>rfl) (fun _ _=>rfl) (fun _ _=>rfl) (fun l hl c hc=>by
  show midP s.a i j 0 l c=upd s.a i (part (pivA s.a i j i) (s.a i) S.n) l c;unfold midP upd
  by_cases e:l=i
  ·rw [if_pos (.inr e),if_pos e,zG5 hc,e]
  ·rw [if_neg (by omega),if_neg e]) fun _ _=>rfl
 refine⟨_,_,_,a0.f5,fun vals w3=>∃ l:Nat,vals=[Iv l]/\l<=S.m/\TabAt S B w3 T { s with a:=midP s.a i j l }/\Box w3 w1.heap.size 88 (qc (s.a i j)⁻¹)/\Below B w w3/\w.heap.size<=w3.heap.size,mu1 S.m,⟨0,rfl,Nat.zero_le _,a0,d5,d0,by have:=d5.lt;omega⟩,?_⟩;clear k1 j7 i9 hN d5 d0 b8 k9 a0;rintro m w7 ⟨l,n0,hl,a2,j9,h6,d4⟩;cases n0;refine zAd (fun d9=>?_) (fun k9=>?_)
 ·have u:l<S.m:=by omega
  obtain⟨a6,m0,m5⟩:=a2.aAt u;obtain⟨c,a3,j6,n7⟩:=a2.rowBlk u hj
  have n5:c<w.heap.size:=by
   obtain⟨c',k7,_,m7⟩:=hT.rowBlk u hj;rw [a3] at k7;cases k7;exact m7.lt
  have m9:vcells w7 ((⟨c,0,none⟩:Addr).add (j*3)) 0 (qc (midP s.a i j l l j)):=a2.qAt' u hj a3;have hN:=yN w7 zq 88;have e0:Ext w7 (setCells (w7.alloc (.cells zq.toArray 88)) ⟨w7.heap.size,0,none⟩ 0 (qc (midP s.a i j l l j))):=((yE w7).alloc _).put yL _ _;have g0:=hN.put (qc (midP s.a i j l l j)) (by rfl);have b6:=a2.ext e0 a2.hB;have g2:=j9.ext e0;have d1:=Below.trans h6 (Below.mono e0 a2.hB);have n8:=j9.lt;refine⟨a6,m0,⟨by omega,d9⟩,_,_,_,m5,_,a3,⟨by omega,by omega⟩,_,_,_,m9,hN.blk.writable (by decide),fun K1 k0=>?_⟩
  have skip : ∀ w8,(l=i\/s.a l j=0)->TabAt S B w8 T { s with a:=midP s.a i j l }->Box w8 w1.heap.size 88 (qc (s.a i j)⁻¹)->Below B w w8->w.heap.size<=w8.heap.size->K1 [Bv true] w8:=by
   intro w8 hs h1 h2 h3 h4;refine k0 true w8 ?_;rw [cond_true,zAg (by omega)];exact⟨⟨l+1,rfl,u,by rw [midP_skip hs];exact h1,h2,h3,h4⟩,by simp only [mu1,yT];omega⟩
  refine zAb (fun a1=>?_) (fun a1=>?_)
  ·have a1:(l:Int)=i:=by simpa using a1
   exact skip _ (.inl (by omega)) b6 g2 d1 (Nat.le_trans d4 e0.size)
  have a1 : ¬ (l:Int)=i:=by simpa using a1
  have a1:l≠i:=by omega
  rw [midP_at a1] at g0 b6 g2 d1 e0 ⊢;refine⟨_,_,_,g0.blk.all,yC (c75 ((ha l u j hj).mono (by decide)) _ b6.gg) ?_⟩;rintro r n4 ⟨rfl,a8⟩;have e5:=b6.ext a8 b6.hB;have e4:=g2.ext a8;have g5:=g0.ext a8;have b7:=Below.trans d1 (Below.mono a8 b6.hB);have i7:w.heap.size<=n4.heap.size:=Nat.le_trans d4 (e0.trans a8).size;refine⟨_,rfl,?_⟩
  by_cases hz:s.a l j=0
  ·have e:(Tb.sgnQ (s.a l j)==0)=true:=by rw [sgnQ_zero.2 hz];rfl
   rw [e];exact skip _ (.inr hz) e5 e4 b7 i7
  have e:(Tb.sgnQ (s.a l j)==0)=false:=by
   rw [beq_eq_false_iff_ne];exact fun h=>hz (sgnQ_zero.1 h)
  rw [e];refine k0 false _ ?_;rw [cond_false];have box_away : ∀ {w2:World} {d o:Nat} {q:Rat} {L:List Value},w.heap.size<=d->Box w2 d 88 (qc q)->Box (setCells w2 ⟨c,o,none⟩ 0 L) d 88 (qc q):=fun hd h=>h.away zAf (by omega);refine⟨fun vals w9=>∃ k:Nat,vals=[Iv k]/\k<=S.n/\TabAt S B w9 T { s with a:=upd (midP s.a i j l) l (part (pivA s.a i j l) (s.a l) k) }/\Box w9 w1.heap.size 88 (qc (s.a i j)⁻¹)/\Box w9 w7.heap.size 88 (qc (s.a l j))/\Below B w w9,mu1 S.n,⟨0,rfl,Nat.zero_le _,?_,e4,g5,b7⟩,?_⟩
  ·rw [zDa,<- midP_at a1 (a:=s.a) (j:=j),upd_self];exact e5
  clear b6 g2 g0 d1 e5 e4 g5 b7 a8;rintro m w9 ⟨k,i8,hk,a4,d6,g1,e9⟩;cases i8
  have f9 : ∀ x,(upd (midP s.a i j l) l (part (pivA s.a i j l) (s.a l) k)) i x=pivA s.a i j i x:=fun x=>by rw [zAt _ (fun e=>a1 e.symm),midP_row]
  have i6 : ∀ x,(upd (midP s.a i j l) l (part (pivA s.a i j l) (s.a l) k)) l x=part (pivA s.a i j l) (s.a l) k x:=fun x=>by rw [zA4]
  refine zAd (fun b5=>?_) (fun n6=>?_)
  ·have f:k<S.n:=by omega
   have step : ∀ w4,TabAt S B w4 T { s with a:=upd (upd (midP s.a i j l) l (part (pivA s.a i j l) (s.a l) k)) l (upd ((upd (midP s.a i j l) l (part (pivA s.a i j l) (s.a l) k)) l) k (pivA s.a i j l k)) }->TabAt S B w4 T { s with a:=upd (midP s.a i j l) l (part (pivA s.a i j l) (s.a l) (k+1)) }:=fun w4 h4=>by
    rw [zA4,upd_upd,zCx] at h4;exact h4
   refine zAb (fun g=>?_) (fun g=>?_)
   ·have g:(k:Int)=j:=by simpa using g
    have g:k=j:=by omega
    have a9:pivA s.a i j l k=s.a l j*(s.a i j)⁻¹:=by unfold pivA;rw [if_neg a1,if_pos g]
    refine⟨_,_,_,g1.blk.all,_,_,_,d6.blk.all,yC (c113 ((ha l u j hj).mono (by decide)) (g3.mono (by decide)) _ a4.gg) ?_⟩;rintro r n9 ⟨rfl,d2⟩;have g6:=a4.ext d2 a4.hB;refine⟨_,_,_,rfl,_,a3,⟨by omega,b5⟩,g6.qWr u f a3,?_⟩;have a5:=step _ (g6.qSet u f a3 (pivA s.a i j l k));rw [a9] at a5;rw [zAg (by omega)];refine⟨⟨k+1,rfl,f,a5,?_,?_,?_⟩,by simp only [mu1,yT];omega⟩
    ·rw [zAi];exact box_away l3 (d6.ext d2)
    ·rw [zAi];exact box_away d4 (g1.ext d2)
    ·rw [zAi];exact Below.trans (Below.trans e9 (Below.mono d2 a4.hB)) (zAy j6 _ _)
   ·have g : ¬ (k:Int)=j:=by simpa using g
    have g:k≠j:=by omega
    have l0:pivA s.a i j i k = -(s.a i k*(s.a i j)⁻¹):=by unfold pivA;rw [if_pos rfl,if_neg g]
    have a9:pivA s.a i j l k=s.a l k+s.a l j*pivA s.a i j i k:=by rw [l0];unfold pivA;rw [if_neg a1,if_neg g]
    have h9:dg 50000000 (pivA s.a i j i k):=by rw [l0];exact (((ha i hi k f).mul g3).neg).mono (by decide)
    have hq:=a4.qAt' hi f hb;simp only [f9] at hq;refine⟨_,hb,⟨by omega,b5⟩,_,_,_,hq,yC (c75 (h9.mono (by decide)) _ a4.gg) ?_⟩;rintro r n3 ⟨rfl,a7⟩;have a5:=a4.ext a7 a4.hB;have e8:=Below.trans e9 (Below.mono a7 a4.hB);refine⟨_,rfl,zAb (fun m8=>?_) (fun j0=>?_)⟩
    ·intro K2 l6
     have hd:=(yE n3).drew;have v:=a5.drew a5.hB;have l1:=v.qAt' hi f hb;have l2:=v.qAt' u f a3;simp only [f9] at l1;simp only [i6,zG6] at l2;have g4:=(g1.ext a7).ext hd;have j8:=(d6.ext a7).ext hd;refine⟨_,a3,⟨by omega,b5⟩,_,_,_,l2,_,_,_,g4.blk.all,_,hb,⟨by omega,b5⟩,_,_,_,l1,yC (c113 ((ha l u j hj).mono (by decide)) (h9.mono (by decide)) _ v.gg) ?_⟩;rintro r o0 ⟨rfl,b4⟩;have b9:=v.ext b4 v.hB;refine⟨_,_,_,rfl,b4,yC (c112 ((ha l u k f).mono (by decide)) (((ha l u j hj).mul h9).mono (by decide)) _ b9.gg) ?_⟩;rintro r o1 ⟨rfl,d3⟩;have g7:=b9.ext d3 b9.hB;refine⟨_,_,_,rfl,_,a3,⟨by omega,b5⟩,g7.qWr u f a3,l6 _ ?_⟩;have g8:=step _ (g7.qSet u f a3 (pivA s.a i j l k));rw [a9] at g8;rw [zAg (by omega)];refine⟨⟨k+1,rfl,f,g8,?_,?_,?_⟩,by simp only [mu1,yT];omega⟩
     ·rw [zAi];exact box_away l3 ((j8.ext b4).ext d3)
     ·rw [zAi];exact box_away d4 ((g4.ext b4).ext d3)
     ·rw [zAi];exact Below.trans (Below.trans (Below.trans e8.drew (Below.mono b4 v.hB)) (Below.mono d3 b9.hB)) (zAy j6 _ _)
    ·have j0:pivA s.a i j i k=0:=sgnQ_zero.1 (by simpa using j0)
     rw [zAg (by omega)];refine⟨⟨k+1,rfl,f,?_,d6.ext a7,g1.ext a7,e8⟩,by simp only [mu1,yT];omega⟩;rw [part_same (by rw [a9,j0,Rat.mul_zero,Rat.add_zero])];exact a5
  ·have ek:k=S.n:=by omega
   subst ek;rw [zAg (by omega)];refine⟨⟨l+1,rfl,u,?_,d6,e9,by have:=d6.lt;omega⟩,by simp only [mu1,yT];omega⟩;exact a4.congr (fun _ _=>rfl) (fun _ _=>rfl) (fun _ _=>rfl) (fun x hx c hc=>midP_succ a1 x c hc) fun _ _=>rfl
 ·have el:l=S.m:=by omega
  subst el;have d8:=a2.drew a2.hB;have e7:=d8.drew d8.hB;obtain⟨j1,k4,f7⟩:=d8.basicAt hi;obtain⟨j2,k5,f8⟩:=d8.colsAt hj;replace f7:w7.drew.cell? (j1.add (i*1))=some (Iv (s.basic i:Int)):=f7;replace f8:w7.drew.cell? (j2.add (j*1))=some (Iv (s.cols j:Int)):=f8;obtain⟨b1,m2,j4,l4,k2⟩:=e7.basicSet hi (s.cols j);obtain⟨b2,m3,j5,l5,g9⟩:=k2.colsSet hj (s.basic i);refine⟨_,_,_,d8.f2,j1,k4,⟨by omega,by omega⟩,_,f7,_,_,_,d8.f3,j2,k5,⟨by omega,by omega⟩,_,f8,fun K3 l7=>?_⟩;refine⟨_,_,_,e7.f2,_,_,_,e7.f3,_,m2,⟨by omega,by omega⟩,l4,_,m3,⟨by omega,by omega⟩,l5,l7 _ fun K4 l8=>?_⟩;have e6:=g9.drew g9.hB;obtain⟨n1,l9⟩:=e6.lineSet k6.1 (-1);obtain⟨n2,d7⟩:=l9.lineSet k8.1 (i:Int);refine⟨_,_,_,e6.f4,_,_,_,e6.f4,_,rfl,⟨by omega,by omega⟩,n1,_,rfl,⟨by omega,by omega⟩,n2,l8 _ ⟨rfl,?_,?_⟩⟩
  ·refine d7.congr (fun _ _=>rfl) (fun _ _=>rfl) (fun _ _=>rfl) (fun x hx c hc=>?_) fun _ _=>rfl
   show pivA s.a i j x c=midP s.a i j S.m x c;rw [midP,if_pos (.inl hx)]
  ·have e1:=Below.setCell h6.drew.drew (p:=((⟨b1,0,none⟩:Addr).add (i*1))) (by rw [zAi];exact j4) (Iv (s.cols j:Int))
   have e2:=Below.setCell e1 (p:=((⟨b2,0,none⟩:Addr).add (j*1))) (by rw [zAi];exact j5) (Iv (s.basic i:Int));have e3:=Below.setCell e2.drew (p:=((⟨T.la,0,none⟩:Addr).add (s.basic i*1))) (by rw [zAi];exact hT.la) (Iv (-1));exact Below.setCell e3 (p:=((⟨T.la,0,none⟩:Addr).add (s.cols j*1))) (by rw [zAi];exact hT.la) (Iv (i:Int))
theorem ov_eq(o:Option V2):ov o = .tuple #[vv (o.getD zero2),Bv o.isSome]:=by cases o <;> rfl
def vioV:Option (Nat × V2 × Bool)->Value
 | none => .tuple #[Iv (-1),vv zero2,Bv false]
 | some (i,b,up) => .tuple #[Iv (i:Int),vv b,Bv up]
set_option maxHeartbeats 4000000 in
theorem c116{S}{B:Nat}{T s}(hf:Few S)(hS:Short S 90000000)(hp:Perm S s)(hv : ∀ v,v<S.n+S.m->dg2 90000000 (s.val v))(w)(hT:TabAt S B w T s) :
  Ret prog 116 #[.pointer (some ⟨T.bt,0,none⟩)] w fun r w'=>r=vioV (viol S s)/\Ext w w':=by
 have hB:=hT.hB;have b5:=(yE w).alloc (.cells zv.toArray 101);have hN:=yN w zv 101;have b9:=hT.ext b5 hB;have d0:=hf;unfold Few at d0;refine run116 _ _ _ ⟨_,b9.f0,fun vals w1=>∃ v f:Nat,vals=[Iv v]/\v+f=S.n+S.m/\S.n<=v/\violF S s f v=viol S s/\Box w1 w.heap.size 101 zv/\Ext w w1,mu1 (S.n+S.m),⟨S.n,S.m,rfl,rfl,yL,rfl,hN,b5⟩,?_⟩;rintro m w1 ⟨v,f,d1,d2,hn,b,j,o⟩;cases d1;have h:=hT.ext o hB;refine⟨_,_,_,h.f4,zAd (fun d4=>?_) (fun d3=>?_)⟩
 ·have i:v<S.n+S.m:=by omega
  obtain⟨f,rfl⟩ : ∃ g,f=g+1:=⟨f - 1,by omega⟩;rw [violF] at b;have a6:=h.lineAt (v:=v) i;refine⟨_,_,_,h.f4,_,rfl,⟨by omega,by omega⟩,_,a6,zAd (fun b3=>?_) (fun b4=>?_)⟩
  ·rw [if_pos b3] at b
   rw [zAg (by omega)];exact⟨⟨v+1,f,rfl,by omega,by omega,b,j,o⟩,by simp only [mu1,yT];omega⟩
  rw [if_neg b4] at b
  have b1:s.line v=((s.line v).toNat:Int):=by omega
  refine yC (c159 hf i w1 h h.hB h.gg) ?_;rintro r w2 ⟨rfl,a4⟩;rw [ov_eq];have x:Ext w1 (setCells (w2.alloc (.cells zv.toArray 101)) ⟨w2.heap.size,0,none⟩ 0 (vc2 ((upper S v).getD zero2))).drew:=((a4.alloc _).put a4.size _ _).drew;have hU:=((yN w2 zv 101).put (vc2 ((upper S v).getD zero2)) (by rfl)).ext (yE _).drew;have d5:w.heap.size<w2.heap.size:=Nat.lt_of_lt_of_le j.lt a4.size;have b7:=j.ext x;have a1:=h.ext x h.hB;refine⟨_,_,_,_,_,_,_,rfl,(yN w2 zv 101).blk.writable (by decide),fun K hK=>?_⟩
  have low : ∀ w3,Ext w1 w3->(match lower S v with | some l=>if cmp2 (s.val v) l<0 then some (l,true) else none | none=>none)=zCw S s v->K [Bv false] w3:=by
   intro w3 p d;refine hK false w3 ?_;rw [cond_false];have u:=h.ext p h.hB;refine yC (c161 hf i w3 u u.hB u.gg) ?_;rintro r w4 ⟨rfl,a9⟩;rw [ov_eq];have k:Ext w3 (setCells (w4.alloc (.cells zv.toArray 101)) ⟨w4.heap.size,0,none⟩ 0 (vc2 ((lower S v).getD zero2))).drew:=((a9.alloc _).put a9.size _ _).drew;have hL:=((yN w4 zv 101).put (vc2 ((lower S v).getD zero2)) (by rfl)).ext (yE _).drew;have a2:=u.ext k u.hB;refine⟨_,_,_,_,_,_,_,rfl,(yN w4 zv 101).blk.writable (by decide),fun K1 a8=>?_⟩
   cases hlo:lower S v with
   | none =>
    rw [hlo] at d;rw [<- d] at b;refine a8 false _ ?_;rw [cond_false,zAg (by omega)];rw [hlo] at k;exact⟨⟨v+1,f,rfl,by omega,by omega,b,(j.ext p).ext k,(o.trans p).trans k⟩,by simp only [mu1,yT];omega⟩
   | some l =>
    rw [hlo] at d k hL a2;refine⟨_,_,_,a2.f6,_,rfl,⟨by omega,by omega⟩,_,_,_,_,_,_,a2.valAt (v:=v) i,_,_,_,_,_,_,hL.blk.all,yC (c160 (hv v i) (zEJ hS i hlo) _ a2.gg) ?_⟩;rintro r w6 ⟨rfl,a3⟩;refine⟨_,rfl,a8 _ _ (zAd (fun b2=>?_) (fun b0=>?_))⟩
    ·have d:some (l,true)=zCw S s v:=by rw [<- d];exact (if_pos b2).symm
     rw [<- d] at b;have a0:=((p.trans k).trans a3).drew;have b8:=j.ext a0;have b6:=(hL.ext a3).ext (yE _).drew;obtain⟨p1,p2,p3⟩:=vput l b8 (o.trans a0) yL;refine⟨_,_,_,_,_,_,b6.blk.all,p1,_,_,_,_,_,_,p2,?_,p3⟩;rw [<- b,b1];rfl
    ·have d:none=zCw S s v:=by rw [<- d];exact (if_neg b0).symm
     rw [<- d] at b;rw [zAg (by omega)];exact⟨⟨v+1,f,rfl,by omega,by omega,b,((j.ext p).ext k).ext a3,((o.trans p).trans k).trans a3⟩,by simp only [mu1,yT];omega⟩
  have a7:upper S v=some (ub S v):=by rw [upper,if_neg (by omega)]
  rw [a7] at x hU a1 b7 ⊢;refine⟨_,_,_,a1.f6,_,rfl,⟨by omega,by omega⟩,_,_,_,_,_,_,a1.valAt (v:=v) i,_,_,_,_,_,_,hU.blk.all,yC (c160 (hv v i) (ub_dg hS hn i) _ a1.gg) ?_⟩;rintro r w7 ⟨rfl,a5⟩;refine⟨_,rfl,?_⟩
  by_cases hc:cmp2 (s.val v) (ub S v)>0
  ·rw [decide_eq_true hc]
   refine hK true _ ?_;rw [cond_true]
   have d:some (ub S v,false)=zCw S s v:=by rw [zCw,a7];exact (if_pos hc).symm
   rw [<- d] at b;have a0:=(x.trans a5).drew;obtain⟨p1,p2,p3⟩:=vput (ub S v) (j.ext a0) (o.trans a0) yL;refine⟨_,_,_,_,_,_,((hU.ext a5).ext (yE _).drew).blk.all,p1,_,_,_,_,_,_,p2,?_,p3⟩;rw [<- b,b1];rfl
  ·rw [decide_eq_false hc]
   exact low _ (x.trans a5) (by rw [zCw,a7];exact (if_neg hc).symm)
 ·have:f=0:=by omega
  subst this;rw [violF] at b;obtain⟨p1,p2,p3⟩:=vput zero2 j o yL;rw [vc2_zero] at p2 p3;refine⟨p1,_,_,_,_,_,_,p2,?_,p3⟩;rw [<- b,vioV,zEf]
def bestV:Option Nat->Int
 | none => -1
 | some k=>k
theorem sgn_dec(q:Rat):decide (Tb.sgnQ q>0)=decide (0<q):=by
 rw [Bool.eq_iff_iff,decide_eq_true_iff,decide_eq_true_iff];exact sgnQ_pos
theorem sgn_ne(q:Rat):(Tb.sgnQ q != 0)=decide (q≠0):=by
 rw [Bool.eq_iff_iff,bne_iff_ne,decide_eq_true_iff];exact not_congr sgnQ_zero
theorem cond_eq{p:Prop}{b c:Bool}{A D:Prop}(h:b=c)(h1:c=true->A)(h2:c=false->D):bif b then A else D:=by
 subst h;cases b
 ·exact h2 rfl
 ·exact h1 rfl
theorem first_next{cols:Nat->Nat}{p:Nat->Bool}{k:Nat}{x:Bool}(hx:x=(p k&&zEc cols k (first cols p k))) :
  bestV (first cols p (k+1))=bif x then (k:Int) else bestV (first cols p k):=by
 rw [first,<- hx]
 cases x <;> rfl
set_option maxHeartbeats 4000000 in
theorem c117{S}{B:Nat}{T s}{i:Nat}{up:Bool}(hf:Few S)(hS:Short S 90000000)(hp:Perm S s)(hi:i<S.m)(hv : ∀ v,v<S.n+S.m->dg2 90000000 (s.val v))(ha : ∀ j,j<S.n->dg 90000000 (s.a i j))(w)(hT:TabAt S B w T s) :
  Ret prog 117 #[.pointer (some ⟨T.bt,0,none⟩),Iv i,Bv up] w fun r w'=>r=Iv (bestV (zB7 S s i up))/\Ext w w':=by
 have hB:=hT.hB;have b7:=hf;unfold Few at b7;refine run117 _ _ _ _ _ ⟨_,_,_,hT.f3,fun vals w1=>∃ k:Nat,vals=[Iv k,Iv (bestV (first s.cols (suits S s i up) k))]/\k<=S.n/\Ext w w1,mu1 S.n,⟨0,rfl,Nat.zero_le _,yE _⟩,?_⟩;rintro m m2 w1 ⟨k,b9,hk,h⟩;cases b9;have d:=hT.ext h hB;refine zAd (fun b1=>?_) (fun d0=>?_)
 ·have f:k<S.n:=by omega
  have a8:=hp.col k f;obtain⟨a,u,b5⟩:=d.colsAt (j:=k) f;obtain⟨a1,b2,b4⟩:=d.aAt (i:=i) hi;obtain⟨a2,b3,b6⟩:=d.qAt (i:=i) (j:=k) hi f;refine⟨a,u,⟨by omega,b1⟩,_,b5,_,_,_,d.f5,a1,b2,⟨by omega,by omega⟩,_,_,_,b4,a2,b3,⟨by omega,b1⟩,_,_,_,b6,yC (c75 ((ha k f).mono (by decide)) w1 d.gg) ?_⟩;rintro r w2 ⟨rfl,a0⟩;refine⟨_,rfl,fun K hK=>?_⟩
  have fin : ∀ x w3,Ext w w3->x=(suits S s i up k&&zEc s.cols k (first s.cols (suits S s i up) k))->K [Bv x] w3:=by
   intro x w3 a9 hx;refine hK x w3 ?_;have hn:=first_next hx;rw [zAg (by omega)];cases x
   ·rw [cond_false] at hn ⊢
    exact⟨⟨k+1,by rw [hn],f,a9⟩,by simp only [mu1,yT];omega⟩
   ·rw [cond_true] at hn ⊢
    exact⟨⟨k+1,by rw [hn],f,a9⟩,by simp only [mu1,yT];omega⟩
  have g:=d.ext a0 d.hB;refine cond_eq (p:=True) (sgn_ne _) (fun b8=>?_) (fun hz=>?_)
  ·rw [sgn_dec]
   refine yC (c162 hf hS a8.1 (hv _ a8.1) w2 g g.hB g.gg) ?_;rintro r w4 ⟨rfl,b0⟩;have a6:=g.ext b0 g.hB;have a5:=(h.trans a0).trans b0
   have l:suits S s i up k=free S s.val (s.cols k) (decide (0<s.a i k)==up):=by rw [suits,b8,Bool.true_and]
   refine⟨_,rfl,zAb (fun a4=>?_) (fun a4=>?_)⟩
   ·rw [a4] at l
    cases hbe:first s.cols (suits S s i up) k with
    | none =>
     rw [hbe] at fin;exact fin true w4 a5 (by rw [l];rfl)
    | some b =>
     rw [hbe] at fin;have hb:=(zCy hbe).1;obtain⟨a3,o,a7⟩:=a6.colsAt (j:=b) (by omega);rw [u] at o;cases o;have e:decide (bestV (some b)<0)=false:=decide_eq_false (by show ¬ (b:Int)<0;omega);rw [e,cond_false];refine⟨_,_,_,a6.f3,_,u,⟨by show 0<=(b:Int);omega,by show (b:Int)<_;omega⟩,_,a7,fin _ w4 a5 ?_⟩;rw [l,Bool.true_and,zEc,Bool.eq_iff_iff,decide_eq_true_iff,decide_eq_true_iff];omega
   ·exact fin false w4 a5 (by rw [l,show free S s.val (s.cols k) (decide (0<s.a i k)==up)=false by simpa using a4];rfl)
  ·exact fin false w2 (h.trans a0) (by rw [suits,hz];rfl)
 ·have e:k=S.n:=by omega
  subst e;exact⟨rfl,h⟩
set_option maxHeartbeats 4000000 in
theorem c118{S}{B:Nat}{T s}{i:Nat}{up:Bool}(hf:Few S)(hp:Perm S s)(hi:i<S.m)(hbi:S.n<=s.basic i)(hc : ∀ j,j<S.n->s.a i j≠0->S.n<=s.cols j)(ha : ∀ j,j<S.n->dg 90000000 (s.a i j))(w)(hT:TabAt S B w T s) :
  Ret prog 118 #[.pointer (some ⟨T.bt,0,none⟩),Iv i,Bv up] w fun r w'=>r=Lv (some ⟨w.heap.size,0,none⟩) S.m S.m/\Box w' w.heap.size 88 (QL (refv S s i up) S.m)/\Ext w w':=by
 have hB:=hT.hB;have e9:=hf;unfold Few at e9;have b9:=hp.bas i hi;refine run118 _ _ _ _ _ ⟨_,_,_,hT.f1,⟨by omega,by omega,by omega,by omega⟩,?_⟩;simp only [yT,zFh];have e0:madeCells (Value.agg #[Iv 0,Iv 0,S0]).cells (S.m*3)=(QL (fun _=>0) S.m).toArray:=zDF S.m;rw [e0];intro K hK;have d4:=((yE w).alloc (.cells (QL (fun _=>0) S.m).toArray 88)).drew;have hN:=(yN w (QL (fun _=>0) S.m) 88).ext (yE _).drew;have u:=hT.ext d4 hB;obtain⟨a8,d8,e3⟩:=u.basicAt (i:=i) hi;have f7:=wr_row hf hbi b9.1;refine⟨_,_,_,u.f2,a8,d8,⟨by omega,by omega⟩,_,e3,_,u.f0,yC (c130 1 (by decide) _ u.gg) ?_⟩;rintro r w8 ⟨rfl,a0⟩;have a7:=hN.ext a0
 have d3:s.basic i - S.n<S.m:=by omega
 refine⟨_,_,_,rfl,a0,_,rfl,?_⟩;rw [f7,yT];refine⟨⟨by omega,by omega⟩,a7.qwr d3,hK _ ?_⟩;have hM:=a7.qset d3 ((1:Int):Rat)
 have b4:Ext w (setCells w8 ((⟨w.heap.size,0,none⟩:Addr).add ((s.basic i - S.n)*3)) 0 (qc ((1:Int):Rat))):=by rw [zAi];exact (d4.trans a0).put yL _ _
 have d7:upd (fun _=>(0:Rat)) (s.basic i - S.n) ((1:Int):Rat)=refF S s i 0:=rfl;rw [d7] at hM;have b:=hT.ext b4 hB;refine⟨_,_,_,b.f3,fun vals w2=>∃ k:Nat,vals=[Iv k]/\k<=S.n/\Box w2 w.heap.size 88 (QL (refF S s i k) S.m)/\Ext w w2,mu1 S.n,⟨0,rfl,Nat.zero_le _,hM,b4⟩,?_⟩;clear hM b4 b a7 a0 hN;rintro m w2 ⟨k,b3,hk,hM,f⟩;cases b3;have b:=hT.ext f hB;refine zAd (fun h=>?_) (fun b1=>?_)
 ·have d:k<S.n:=by omega
  have e6:=hp.col k d;obtain⟨a,e1,e5⟩:=b.colsAt (j:=k) d;obtain⟨a1,d9,e4⟩:=b.aAt (i:=i) hi;obtain⟨a2,e2,e7⟩:=b.qAt (i:=i) (j:=k) hi d;refine⟨a,e1,⟨by omega,h⟩,_,e5,_,_,_,b.f5,a1,d9,⟨by omega,by omega⟩,_,_,_,e4,a2,e2,⟨by omega,h⟩,_,_,_,e7,yC (c75 ((ha k d).mono (by decide)) w2 b.gg) ?_⟩;rintro r w3 ⟨rfl,v⟩;refine⟨_,rfl,cond_eq (p:=True) (sgn_ne _) (fun a5=>?_) (fun hz=>?_)⟩
  ·have a5:s.a i k≠0:=by simpa using a5
   have b1:=hc k d a5;have d5:=(f.trans v).drew;have l:=hT.ext d5 hB;intro K1 d6;obtain⟨a3,b7,d0⟩:=l.aAt (i:=i) hi;obtain⟨a4,b8,d1⟩:=l.qAt (i:=i) (j:=k) hi d;refine⟨_,l.f0,_,_,_,l.f5,a3,b7,⟨by omega,by omega⟩,_,_,_,d0,a4,b8,⟨by omega,h⟩,_,_,_,d1,yC (c133 ((ha k d).mono (by decide)) _ l.gg) ?_⟩;rintro r w5 ⟨rfl,a9⟩;have b5:=((hM.ext v).ext (yE _).drew).ext a9;refine⟨_,_,_,rfl,a9,_,rfl,?_⟩;rw [wr_row hf b1 e6.1,yT]
   have a6:s.cols k - S.n<S.m:=by omega
   refine⟨⟨by omega,by omega⟩,b5.qwr a6,d6 _ ?_⟩;rw [zAg (by omega)];refine⟨⟨k+1,rfl,d,?_,?_⟩,by simp only [mu1,yT];omega⟩
   ·rw [refF,if_pos a5];exact b5.qset a6 _
   ·rw [zAi];exact (d5.trans a9).put yL _ _
  ·have hz:s.a i k=0:=by simpa using hz
   rw [zAg (by omega)];refine⟨⟨k+1,rfl,d,?_,f.trans v⟩,by simp only [mu1,yT];omega⟩;rw [refF,if_neg (by rw [hz];simp)];exact hM.ext v
 ·have e:k=S.n:=by omega
  subst e;refine zAb (fun b2=>?_) (fun b2=>?_)
  ·have e8 : ∀ k x,k<=S.n->x<S.m->dg 90000000 (refF S s i k x):=by
    intro k
    induction k with
    | zero =>
     intro x _ _;unfold refF upd;split
     ·exact zF5 (by decide)
     ·exact zB8 (by decide)
    | succ k ih =>
     intro x hk hx;rw [refF];split
     ·unfold upd
      split
      ·exact (ha k (by omega)).neg
      ·exact ih x (by omega) hx
     ·exact ih x (by omega) hx
   refine⟨fun vals w6=>∃ k:Nat,vals=[Iv k]/\k<=S.m/\Box w6 w.heap.size 88 (QL (part (fun x => -refF S s i S.n x) (refF S s i S.n) k) S.m)/\Ext w w6,mu1 S.m,⟨0,rfl,Nat.zero_le _,by rw [zDa];exact hM,f⟩,?_⟩;clear hM f b;rintro m w6 ⟨k,b3,hk,hM,b0⟩;cases b3;refine zAd (fun h=>?_) (fun b1=>?_)
   ·have o:k<S.m:=by omega
    have hq:=hM.qget o;simp only [zG6] at hq;refine⟨_,rfl,⟨by omega,h⟩,_,_,_,hq,yC (c133 ((e8 _ _ yL o).mono (by decide)) w6 (hT.ext b0 hB).gg) ?_⟩;rintro r w7 ⟨rfl,d2⟩;have b6:=hM.ext d2;refine⟨_,_,_,rfl,_,rfl,⟨by omega,h⟩,b6.qwr o,?_⟩;rw [zAg (by omega)];refine⟨⟨k+1,rfl,o,?_,?_⟩,by simp only [mu1,yT];omega⟩
    ·have:=b6.qset o (-refF S s i S.n k)
     rw [zCx (fun x => -refF S s i S.n x)] at this;exact this
    ·rw [zAi];exact (b0.trans d2).put yL _ _
   ·have e:k=S.m:=by omega
    subst e;refine⟨trivial,?_,b0⟩;rw [zAS (g:=refv S s i up) fun x hx=>?_] at hM
    ·exact hM
    ·rw [zG5 hx,refv,if_pos b2]
  ·refine⟨trivial,?_,f⟩
   rw [zAS (g:=refv S s i up) fun x hx=>?_] at hM
   ·exact hM
   ·rw [refv,if_neg (by rw [b2];decide)]
end Go.Proofs.Si
