/- Part of the proof: SiR1, SiR2, SiR3, SiR4. -/
import Derived.Test.YtoaiappkhcjagaaGreatDoorSiV1
import Derived.Test.YtoaiappkhcjagaaGreatDoorMV8
set_option linter.unusedVariables false
set_option linter.unusedSimpArgs false
namespace Go.Proofs.Si
open Go Go.V Go.Proofs Go.RowKit Go.Num Go.Proofs.Tryz
open Go.IntKind (i64 u64 u32 u8)
set_option maxRecDepth 100000
theorem not_dig (c:UInt8):(!decide ((c.toNat:Int)<48)&&!decide ((c.toNat:Int)>57))=isDig c:=by
 unfold isDig
 rw [Bool.eq_iff_iff]
 simp only [Bool.and_eq_true,decide_eq_true_eq,Bool.not_eq_true',decide_eq_false_iff_not]
 omega
theorem c134 (s:ByteArray) (hs:s.size<4611686018427387904) (w:World):Ret prog 134 #[.string s] w fun v w'=>v = .bool (!decide (bs s=[])&&(bs s).all isDig)/\w' = w:=by
 refine run134 _ _ _ ⟨fun vals w'=>∃ j:Nat,vals=[.int .i64 j]/\j<=s.size/\w' = w/\(bs s).all isDig=(rest s j).all isDig,mu1 s.size,⟨0,rfl,Nat.zero_le _,rfl,rfl⟩,?_⟩
 rintro n w1 ⟨j,hv,hj,rfl,ha⟩
 cases hv
 refine zAd (fun hlt=>?_) (fun hge=>?_)
 ·intro K hK
  have hl' : j<s.size:=by omega
  rw [zDP hl',List.all_cons] at ha
  have no : ∀ b,b=true->isDig ((bs s).getD j 0)=false->K [.bool b] w1:=by
   intro b hb hd
   refine hK b ?_
   rw [hb,cond_true]
   refine⟨?_,rfl⟩
   rw [ha,hd,Bool.false_and,Bool.and_false]
  have yes : ∀ b,b=false->isDig ((bs s).getD j 0)=true->K [.bool b] w1:=by
   intro b hb hd
   refine hK b ?_
   rw [hb,cond_false,zAh (by omega)]
   rw [hd,Bool.true_and] at ha
   refine⟨⟨j+1,rfl,hl',rfl,ha⟩,?_⟩
   simp only [mu1,Int.toNat_natCast];omega
  refine⟨⟨by omega,hlt⟩,?_⟩
  rw [bt_eq]
  have hd:=not_dig ((bs s).getD j 0)
  refine zAa (fun h1=>no _ rfl ?_) (fun h1=>⟨⟨by omega,hlt⟩,?_⟩)
  ·rw [<- hd,h1];rfl
  ·rw [h1] at hd
   cases h2:decide ((((bs s).getD j 0).toNat:Int)>57) with
   | true=>rw [h2] at hd;exact no _ rfl hd.symm
   | false=>rw [h2] at hd;exact yes _ rfl hd.symm
 ·rw [zEM (by omega)] at ha
  refine⟨?_,rfl⟩
  rw [zAw,ha,List.all_nil,Bool.and_true]
  rfl
theorem c135 (s:ByteArray) (w:World):Ret prog 135 #[.string s] w fun v w'=>(∃ t,v = .string t/\bs t=trimL (bs s))/\w' = w:=by
 refine run135 _ _ _ ⟨fun vals w'=>∃ t:ByteArray,vals=[.string t]/\w' = w/\trimL (bs s)=trimL (bs t),mu2,⟨s,rfl,rfl,rfl⟩,?_⟩
 rintro t w1 ⟨t',hv,rfl,ht⟩
 cases hv
 intro K hK
 have stop:trimL (bs t)=bs t->∀ b,b=false->K [.bool b] w1:=by
  intro h b hb
  refine hK b ?_
  rw [hb,cond_false]
  exact⟨⟨t,rfl,by rw [ht,h]⟩,rfl⟩
 refine zAd (fun hlt=>⟨⟨by omega,by omega⟩,?_⟩) (fun hge=>stop ?_ _ rfl)
 ·have hl2:1<(bs t).length:=by rw [<- zAg];omega
  obtain⟨c,d,l,hcd⟩ : ∃ c d l,bs t=c::d::l:=by
   match h:bs t,hl2 with
   | c::d::l,_=>exact⟨c,d,l,rfl⟩
  have h0:(bs t).getD 0 0=c:=by rw [hcd];rfl
  show K [.bool (bt t ((0:Nat):Int)==48)] w1
  rw [bt_eq,h0,show ((c.toNat:Int)==48)=(c==48) from u8_beq c 48 (by omega)]
  cases hc:(c==48) with
  | true =>
   have hc' : c=48:=by simpa using hc
   subst hc'
   refine hK true ?_
   have he:bs (t.extract 1 t.size)=d::l:=by
    rw [zAW,rest,hcd,List.drop_succ_cons,List.drop_zero,List.take_of_length_le]
    rw [zAg,hcd];simp
   refine⟨⟨by omega,by omega⟩,⟨_,rfl,rfl,?_⟩,?_⟩
   ·rw [ht,hcd,zFJ,he]
   ·show (t.extract 1 t.size).size<t.size
    rw [zAg,he,zAg,hcd];simp
  | false =>
   have hc' : c≠48:=by simpa using hc
   exact stop (by rw [hcd,zFd hc']) _ rfl
 ·have hl2:(bs t).length<=1:=by rw [<- zAg];omega
  match h:bs t,hl2 with
  | [],_=>exact trimL_nil
  | [c],_=>exact trimL_one c
theorem less_val : ∀ {a b:List UInt8},a.length=b.length->a.all isDig=true->b.all isDig=true->Op.bytesLess a b=decide (val a<val b)
 | [],[],_,_,_=>by simp [Op.bytesLess]
 | c::a,d::b,hl,ha,hb=>by
  rw [List.all_cons,Bool.and_eq_true] at ha hb
  have hl' : a.length=b.length:=by simpa using hl
  have ih:=less_val hl' ha.2 hb.2
  have h1:=zDq ha.2
  have h2:=zDq hb.2
  rw [Op.bytesLess,ih,zCp,zCp,Bool.eq_iff_iff,Bool.or_eq_true,Bool.and_eq_true,decide_eq_true_eq,decide_eq_true_eq,decide_eq_true_eq,beq_iff_eq]
  rw [hl'] at h1 ⊢
  obtain⟨c1,c2⟩:=zBw ha.1
  obtain⟨d1,d2⟩:=zBw hb.1
  have hlt:c<d↔dv c<dv d:=by
   show c.toNat<d.toNat↔_
   unfold dv;omega
  have heq:c=d↔dv c=dv d:=by
   rw [<- UInt8.toNat_inj]
   unfold dv;omega
  rw [hlt,heq]
  generalize dv c=x
  generalize dv d=y
  generalize 10 ^ b.length=P at *
  constructor
  ·rintro (h | ⟨rfl,h⟩)
   ·have:(x+1)*P<=y*P:=Nat.mul_le_mul_right _ h
    rw [Nat.add_mul,Nat.one_mul] at this
    omega
   ·omega
  ·intro h
   rcases Nat.lt_trichotomy x y with hx | hx | hx
   ·exact .inl hx
   ·subst hx;exact .inr ⟨rfl,by omega⟩
   ·have:(y+1)*P<=x*P:=Nat.mul_le_mul_right _ hx
    rw [Nat.add_mul,Nat.one_mul] at this
    omega
def cmpN (m n:Nat):Int:=if m<n then -1 else if m=n then 0 else 1
theorem c109 {a b:ByteArray} {m n:Nat} (ha:bs a=dec m) (hb:bs b=dec n) (w:World):Ret prog 109 #[.string a,.string b] w fun v w'=>v = .int .i64 (cmpN m n)/\w' = w:=by
 have hz1:a.size=(dec m).length:=by rw [zAg,ha]
 have hz2:b.size=(dec n).length:=by rw [zAg,hb]
 have hp1:0<(dec m).length:=List.length_pos_iff.2 (zBm m)
 have hp2:0<(dec n).length:=List.length_pos_iff.2 (zBm n)
 have less:(decide ((a.size:Int)<(b.size:Int))||((a.size:Int)==(b.size:Int)&&Op.bytesLess a.toList b.toList))=decide (m<n):=by
  rw [Lib.toList_data,Lib.toList_data]
  show (_||(_&&Op.bytesLess (bs a) (bs b)))=_
  rw [ha,hb,hz1,hz2]
  rcases Nat.lt_trichotomy (dec m).length (dec n).length with h | h | h
  ·have h1:=zB1 m
   have h2 : ¬ (dec n).length<=(dec m).length:=by omega
   rw [zA9 hp1] at h2
   rw [decide_eq_true (by omega),Bool.true_or,decide_eq_true (by omega)]
  ·rw [decide_eq_false (by omega),Bool.false_or,less_val h (zAH m) (zAH n),zAF,zAF]
   have:(((dec m).length:Int)==((dec n).length:Int))=true:=by rw [beq_iff_eq];omega
   rw [this,Bool.true_and]
  ·have h1:=zB1 n
   have h2 : ¬ (dec m).length<=(dec n).length:=by omega
   rw [zA9 hp2] at h2
   have:(((dec m).length:Int)==((dec n).length:Int))=false:=by rw [beq_eq_false_iff_ne];omega
   rw [decide_eq_false (by omega),this,Bool.false_or,Bool.false_and,decide_eq_false (by omega)]
 have hfin : ∀ b1,b1=decide (m<n)->(bif b1 then Value.int .i64 (-1) = .int .i64 (cmpN m n)/\w=w else bif a.toList==b.toList then Value.int .i64 0 = .int .i64 (cmpN m n)/\w=w else Value.int .i64 1 = .int .i64 (cmpN m n)/\w=w):=by
  intro b1 h1
  subst h1
  refine zAd (fun h=>⟨by rw [cmpN,if_pos h],rfl⟩) (fun h=>?_)
  rw [zAw,ha,hb]
  refine zAd (fun h2=>⟨?_,rfl⟩) (fun h2=>⟨?_,rfl⟩)
  ·rw [cmpN,if_neg h,if_pos (zC0 h2)]
  ·rw [cmpN,if_neg h,if_neg (fun e=>h2 (by rw [e]))]
 refine run109 _ _ _ _ fun K hK=>zAa (fun h=>hK true (hfin true ?_)) (fun h=>hK _ (hfin _ ?_))
 ·rw [<- less,h,Bool.true_or]
 ·rw [<- less,h,Bool.false_or]
theorem zGs (d:Nat) (hd:d<10) (D:List UInt8):val (digOf d::D)=d*10 ^ D.length+val D:=by rw [zCp,zDm hd]
theorem zEP (m i:Nat):m % 10 ^ (i+1)=m / 10 ^ i % 10*10 ^ i+m % 10 ^ i:=by
 rw [Nat.pow_succ,Nat.mod_mul,Nat.mul_comm (10 ^ i)];omega
theorem zGt {d:Nat} (h:d<10):Value.int .u8 (u8.wrap (i64.wrap (48+(d:Int))))=u8v (digOf d):=by
 rw [zAf (by omega) (by omega),u8v,zCn h]
 congr 1
 show (48+(d:Int)) % 256=_
 omega
theorem zEU {s:ByteArray} {m i:Nat} (hs:bs s=dec m) (hi:i<s.size) : ∀ j:Int,j=((s.size - 1 - i:Nat):Int)->i64.wrap (u8.wrap (bt s j - 48))=((m / 10 ^ i % 10:Nat):Int):=by
 rintro j rfl
 have hz:s.size=(dec m).length:=by rw [zAg,hs]
 have h1:=dec_digit i m (by omega)
 have h2:=zBD (n:=m) (k:=s.size - 1 - i) (by omega)
 rw [bt_eq,hs]
 rw [hz] at h2 ⊢
 obtain⟨h3,h4⟩:=zBw h2
 rw [<- h1]
 have e1:u8.wrap ((((dec m).getD ((dec m).length - 1 - i) 0).toNat:Int) - 48)=((dv ((dec m).getD ((dec m).length - 1 - i) 0):Nat):Int):=by
  show ((((dec m).getD ((dec m).length - 1 - i) 0).toNat:Int) - 48) % 256=_
  unfold dv
  omega
 rw [e1,zAf (by omega) (by have:=dv_lt h2;omega)]
theorem size5 (n:Nat):(n*siE.P.types[5].size)=n:=Nat.mul_one n
theorem zFk (n:Nat) (D:List UInt8) (c:UInt8):(List.replicate (n+1) (0:UInt8)++D).set n c=List.replicate n 0++c::D:=by
 rw [List.replicate_succ',List.append_assoc,List.set_append_right _ _ (by simp)]
 simp
theorem c108 {a b:ByteArray} {m n:Nat} (ha:bs a=dec m) (hb:bs b=dec n) (hz:a.size<=1099511627776/\b.size<=1099511627776) (w:World) :
  Ret prog 108 #[.string a,.string b] w fun v w'=>(∃ t,v = .string t/\bs t=dec (m+n))/\Ext w w':=by
 obtain⟨N,hN⟩ : ∃ N,N=max a.size b.size:=⟨_,rfl⟩
 have hza:a.size=(dec m).length:=by rw [zAg,ha]
 have hzb:b.size=(dec n).length:=by rw [zAg,hb]
 have eN:i64.wrap ((if (b.size:Int)>(a.size:Int) then (b.size:Int) else (a.size:Int))+1)=((N+1:Nat):Int):=by
  rw [zAf (by split <;> omega) (by split <;> omega)]
  split <;> omega
 have hmN:m<10 ^ N:=Nat.lt_of_lt_of_le (zB1 m) (Nat.pow_le_pow_right (by omega) (by omega))
 have hnN:n<10 ^ N:=Nat.lt_of_lt_of_le (zB1 n) (Nat.pow_le_pow_right (by omega) (by omega))
 refine run108 _ _ _ _ ?_
 unfold vc108
 rw [eN,Int.toNat_natCast,size5,zDg]
 have hb0:BytesIn (w.alloc (.cells ((List.replicate (N+1) (0:UInt8)).map u8v).toArray 5)) w.heap.size (List.replicate (N+1) 0):=heap_alloc_new w _
 have he0:=(Ext.refl w).alloc (.cells ((List.replicate (N+1) (0:UInt8)).map u8v).toArray 5)
 refine⟨⟨by omega,by omega,by omega,by omega⟩,fun vals w1=>∃ (i c:Nat) (D:List UInt8),vals=[.int .i64 i,.int .i64 c]/\i<=N+1/\c<=1/\D.length=i/\D.all isDig=true/\val D+c*10 ^ i=m % 10 ^ i+n % 10 ^ i /\
   BytesIn w1 w.heap.size (List.replicate (N+1 - i) 0++D)/\Ext w w1,mu1 (N+1),
  ⟨0,0,[],rfl,Nat.zero_le _,Nat.zero_le _,rfl,rfl,by simp [zC8,Nat.mod_one],by simpa using hb0,he0⟩,?_⟩
 rintro k k1 w1 ⟨i,c,D,hv,hi,hc,hDl,hDd,hval,hbi,he1⟩
 cases hv
 refine zAd (fun hlt=>?_) (fun hge=>?_)
 ·intro K hK
  have hi' : i<N+1:=by omega
  have fin:K [.int .i64 ((c+m / 10 ^ i % 10:Nat):Int)] w1:=by
   refine hK _ fun K1 hK1=>?_
   have fin2:K1 [.int .i64 ((c+m / 10 ^ i % 10+n / 10 ^ i % 10:Nat):Int)] w1:=by
    refine hK1 _ ?_
    have hd1:=Nat.mod_lt (m / 10 ^ i) (by omega:10>0)
    have hd2:=Nat.mod_lt (n / 10 ^ i) (by omega:10>0)
    generalize hs:c+m / 10 ^ i % 10+n / 10 ^ i % 10=s at hK1 ⊢
    have hsl:s<=19:=by omega
    have eidx:i64.wrap (i64.wrap (((N+1:Nat):Int) - 1) - (i:Int))=((N - i:Nat):Int):=by
     rw [zAf (n:=((N+1:Nat):Int) - 1) (by omega) (by omega),zAf (by omega) (by omega)];omega
    rw [eidx]
    have etm:(s:Int).tmod 10=((s % 10:Nat):Int):=by rw [Int.tmod_eq_emod_of_nonneg (by omega)];omega
    have etd:(s:Int).tdiv 10=((s / 10:Nat):Int):=by rw [Int.tdiv_eq_ediv_of_nonneg (by omega)];omega
    have hdg:s % 10<10:=Nat.mod_lt _ (by omega)
    rw [etm,etd,zAf (n:=((s / 10:Nat):Int)) (by omega) (by omega),zAh (by omega),zGt hdg]
    have hadr:(⟨w.heap.size,0,none⟩:Addr).add (((N - i:Nat):Int).toNat*1)=⟨w.heap.size,N - i,none⟩:=by rw [Int.toNat_natCast,Nat.mul_one,zAk,Nat.zero_add]
    have hcell : ∃ v,w1.cell? ⟨w.heap.size,N - i,none⟩=some v:=by
     refine⟨_,hbi.cell (List.getElem?_eq_getElem ?_)⟩
     rw [List.length_append,List.length_replicate,hDl];omega
    refine⟨_,rfl,⟨by omega,by omega⟩,by rw [hadr];exact⟨hcell,zBd hbi⟩,?_⟩
    rw [hadr]
    refine⟨⟨i+1,s / 10,digOf (s % 10)::D,rfl,hi',by omega,by simp [hDl],?_,?_,?_,Below.setCell (p:=⟨w.heap.size,_,none⟩) he1 (Nat.le_refl _) _⟩,?_⟩
    ·rw [List.all_cons,zB6 hdg,hDd];rfl
    ·rw [zGs _ hdg,hDl,zEP m,zEP n,Nat.pow_succ]
     have e3:(s % 10)*10 ^ i+s / 10*(10 ^ i*10)=s*10 ^ i:=by
      rw [<- Nat.mul_assoc,Nat.mul_right_comm,<- Nat.add_mul]
      congr 1
      omega
     have e4:s*10 ^ i=c*10 ^ i+m / 10 ^ i % 10*10 ^ i+n / 10 ^ i % 10*10 ^ i:=by rw [<- hs,Nat.add_mul,Nat.add_mul]
     omega
    ·have:=hbi.set (N - i) (digOf (s % 10))
     rw [show N+1 - i=(N - i)+1 by omega,zFk] at this
     rw [show N+1 - (i+1)=N - i by omega]
     exact this
    ·simp only [mu1,Int.toNat_natCast];omega
   refine zAd (fun hlt2=>?_) (fun hge2=>?_)
   ·have hib:i<b.size:=by omega
    have eidx:i64.wrap (i64.wrap ((b.size:Int) - 1) - (i:Int))=((b.size - 1 - i:Nat):Int):=by
     rw [zAf (n:=(b.size:Int) - 1) (by omega) (by omega),zAf (by omega) (by omega)];omega
    rw [eidx,zEU hb hib _ rfl]
    have hd1:=Nat.mod_lt (m / 10 ^ i) (by omega:10>0)
    have hd2:=Nat.mod_lt (n / 10 ^ i) (by omega:10>0)
    rw [zAf (by omega) (by omega)]
    refine⟨⟨by omega,by omega⟩,?_⟩
    have:=fin2
    rw [Int.natCast_add (c+m / 10 ^ i % 10)] at this
    exact this
   ·have h0:n / 10 ^ i=0:=zCR (by omega)
    rw [h0] at fin2
    exact fin2
  refine zAd (fun hlt2=>?_) (fun hge2=>?_)
  ·have hia:i<a.size:=by omega
   have eidx:i64.wrap (i64.wrap ((a.size:Int) - 1) - (i:Int))=((a.size - 1 - i:Nat):Int):=by
    rw [zAf (n:=(a.size:Int) - 1) (by omega) (by omega),zAf (by omega) (by omega)];omega
   rw [eidx,zEU ha hia _ rfl]
   have hd1:=Nat.mod_lt (m / 10 ^ i) (by omega:10>0)
   rw [zAf (by omega) (by omega)]
   refine⟨⟨by omega,by omega⟩,?_⟩
   have:=fin
   rw [Int.natCast_add c] at this
   exact this
  ·have h0:m / 10 ^ i=0:=zCR (by omega)
   rw [h0] at fin
   exact fin
 ·have hiN:i=N+1:=by omega
  subst hiN
  rw [Nat.sub_self,List.replicate_zero,List.nil_append] at hbi
  have hp:10 ^ N<=10 ^ (N+1):=Nat.pow_le_pow_right (by omega) (by omega)
  have hp2:10 ^ (N+1)=10*10 ^ N:=by rw [Nat.pow_succ,Nat.mul_comm]
  rw [Nat.mod_eq_of_lt (by omega:m<10 ^ (N+1)),Nat.mod_eq_of_lt (by omega:n<10 ^ (N+1))] at hval
  have hc0:c=0:=by
   rcases Nat.eq_zero_or_pos c with h | h
   ·exact h
   ·have:c=1:=by omega
    subst this
    rw [Nat.one_mul] at hval
    omega
  rw [hc0,Nat.zero_mul,Nat.add_zero] at hval
  have hDne:D≠[]:=fun e=>by rw [e] at hDl;simp at hDl
  have hba:=hbi.at
  rw [hDl] at hba
  refine⟨D,hba,Called.of (c135 _ w1) ?_⟩
  rintro v w2 ⟨⟨t,rfl,ht⟩,rfl⟩
  refine⟨t,rfl,⟨t,rfl,?_⟩,he1⟩
  rw [ht]
  show trimL (bs (mk D))=_
  rw [bs_mk,zBt hDne hDd,hval]
theorem zAK {m n:Nat} (h:n<=m):(dec n).length<=(dec m).length:=by
 have hp:0<(dec m).length:=List.length_pos_iff.2 (zBm m)
 rw [zA9 hp]
 exact Nat.lt_of_le_of_lt h (zB1 m)
theorem c110 {a b:ByteArray} {m n:Nat} (ha:bs a=dec m) (hb:bs b=dec n) (hnm:n<=m) (hz:a.size<=1099511627776) (w:World) :
  Ret prog 110 #[.string a,.string b] w fun v w'=>(∃ t,v = .string t/\bs t=dec (m - n))/\Ext w w':=by
 have hza:a.size=(dec m).length:=by rw [zAg,ha]
 have hzb:b.size=(dec n).length:=by rw [zAg,hb]
 have hba:b.size<=a.size:=by rw [hza,hzb];exact zAK hnm
 have hpos:0<a.size:=by rw [hza];exact List.length_pos_iff.2 (zBm m)
 have hmN:m<10 ^ a.size:=by rw [hza];exact zB1 m
 refine run110 _ _ _ _ ?_
 unfold vc110
 rw [Int.toNat_natCast,size5,zDg]
 have hb0:BytesIn (w.alloc (.cells ((List.replicate a.size (0:UInt8)).map u8v).toArray 5)) w.heap.size (List.replicate a.size 0):=heap_alloc_new w _
 have he0:=(Ext.refl w).alloc (.cells ((List.replicate a.size (0:UInt8)).map u8v).toArray 5)
 refine⟨⟨by omega,by omega,by omega,by omega⟩,fun vals w1=>∃ (i c:Nat) (D:List UInt8),vals=[.int .i64 i,.int .i64 c]/\i<=a.size/\c<=1/\D.length=i/\D.all isDig=true/\m % 10 ^ i+c*10 ^ i=val D+n % 10 ^ i /\
   BytesIn w1 w.heap.size (List.replicate (a.size - i) 0++D)/\Ext w w1,mu1 a.size,
  ⟨0,0,[],rfl,Nat.zero_le _,Nat.zero_le _,rfl,rfl,by simp [zC8,Nat.mod_one],by simpa using hb0,he0⟩,?_⟩
 rintro k k1 w1 ⟨i,c,D,hv,hi,hc,hDl,hDd,hval,hbi,he1⟩
 cases hv
 refine zAd (fun hlt=>?_) (fun hge=>?_)
 ·have hia:i<a.size:=by omega
  have eidx:i64.wrap (i64.wrap ((a.size:Int) - 1) - (i:Int))=((a.size - 1 - i:Nat):Int):=by
   rw [zAf (n:=(a.size:Int) - 1) (by omega) (by omega),zAf (by omega) (by omega)];omega
  rw [eidx,zEU ha hia _ rfl]
  have hd1:=Nat.mod_lt (m / 10 ^ i) (by omega:10>0)
  have hd2:=Nat.mod_lt (n / 10 ^ i) (by omega:10>0)
  generalize hda:m / 10 ^ i % 10=da at hd1 ⊢
  generalize hdb:n / 10 ^ i % 10=db at hd2
  rw [zAf (n:=(da:Int) - (c:Int)) (by omega) (by omega)]
  refine⟨⟨by omega,by omega⟩,fun K hK=>?_⟩
  have fin:K [.int .i64 ((da:Int) - c - db)] w1:=by
   refine hK _ fun K1 hK1=>?_
   have fin2 : ∀ (c' d:Nat),c'<=1->d<10->(da:Int) - c - db+10*c' = d->K1 [.int .i64 c',.int .i64 d] w1:=by
    intro c' d hc' hd he
    refine hK1 _ _ ?_
    rw [zAh (by omega),zGt hd]
    have hadr:(⟨w.heap.size,0,none⟩:Addr).add (((a.size - 1 - i:Nat):Int).toNat*1)=⟨w.heap.size,a.size - 1 - i,none⟩:=by rw [Int.toNat_natCast,Nat.mul_one,zAk,Nat.zero_add]
    have hcell : ∃ v,w1.cell? ⟨w.heap.size,a.size - 1 - i,none⟩=some v:=by
     refine⟨_,hbi.cell (List.getElem?_eq_getElem ?_)⟩
     rw [List.length_append,List.length_replicate,hDl];omega
    refine⟨_,rfl,⟨by omega,by omega⟩,by rw [hadr];exact⟨hcell,zBd hbi⟩,?_⟩
    rw [hadr]
    refine⟨⟨i+1,c',digOf d::D,rfl,hia,hc',by simp [hDl],?_,?_,?_,Below.setCell (p:=⟨w.heap.size,_,none⟩) he1 (Nat.le_refl _) _⟩,?_⟩
    ·rw [List.all_cons,zB6 hd,hDd];rfl
    ·rw [zGs _ hd,hDl,zEP m,zEP n,hda,hdb,Nat.pow_succ]
     have e3:da+10*c' = d+c+db:=by omega
     have e4:(da+10*c')*10 ^ i=(d+c+db)*10 ^ i:=by rw [e3]
     rw [Nat.add_mul,Nat.add_mul,Nat.add_mul] at e4
     have e5:c' * (10 ^ i*10)=10*c' * 10 ^ i:=by rw [Nat.mul_comm (10 ^ i),<- Nat.mul_assoc,Nat.mul_comm c']
     omega
    ·have:=hbi.set (a.size - 1 - i) (digOf d)
     rw [show a.size - i=(a.size - 1 - i)+1 by omega,zFk] at this
     rw [show a.size - (i+1)=a.size - 1 - i by omega]
     exact this
    ·simp only [mu1,Int.toNat_natCast];omega
   refine zAd (fun hneg=>?_) (fun hpos2=>?_)
   ·rw [zAf (by omega) (by omega)]
    obtain⟨d,hd⟩ : ∃ d:Nat,(da:Int) - c - db+10=d:=⟨((da:Int) - c - db+10).toNat,by omega⟩
    rw [hd]
    exact fin2 1 d (Nat.le_refl _) (by omega) (by omega)
   ·obtain⟨d,hd⟩ : ∃ d:Nat,(da:Int) - c - db=d:=⟨((da:Int) - c - db).toNat,by omega⟩
    rw [hd]
    exact fin2 0 d (by omega) (by omega) (by omega)
  refine zAd (fun hlt2=>?_) (fun hge2=>?_)
  ·have hib:i<b.size:=by omega
   have eidx:i64.wrap (i64.wrap ((b.size:Int) - 1) - (i:Int))=((b.size - 1 - i:Nat):Int):=by
    rw [zAf (n:=(b.size:Int) - 1) (by omega) (by omega),zAf (by omega) (by omega)];omega
   rw [eidx,zEU hb hib _ rfl,hdb,zAf (by omega) (by omega)]
   exact⟨⟨by omega,by omega⟩,fin⟩
  ·have h0:n / 10 ^ i=0:=zCR (by omega)
   have hdb0:db=0:=by rw [<- hdb,h0]
   have:=fin
   rw [hdb0] at this
   rw [show (da:Int) - c=(da:Int) - c - ((0:Nat):Int) by omega]
   exact this
 ·have hiN:i=a.size:=by omega
  subst hiN
  rw [Nat.sub_self,List.replicate_zero,List.nil_append] at hbi
  rw [Nat.mod_eq_of_lt hmN,Nat.mod_eq_of_lt (Nat.lt_of_le_of_lt hnm hmN)] at hval
  have hDv:=zDq hDd
  rw [hDl] at hDv
  have hc0:c=0:=by
   rcases Nat.eq_zero_or_pos c with h | h
   ·exact h
   ·have:c=1:=by omega
    subst this
    rw [Nat.one_mul] at hval
    omega
  rw [hc0,Nat.zero_mul,Nat.add_zero] at hval
  have hDne:D≠[]:=fun e=>by rw [e] at hDl;simp at hDl;omega
  have hba2:=hbi.at
  rw [hDl] at hba2
  refine⟨D,hba2,Called.of (c135 _ w1) ?_⟩
  rintro v w2 ⟨⟨t,rfl,ht⟩,rfl⟩
  refine⟨t,rfl,⟨t,rfl,?_⟩,he1⟩
  rw [ht]
  show trimL (bs (mk D))=_
  rw [bs_mk,zBt hDne hDd]
  congr 1
  omega
theorem extract_one {s:ByteArray} {j:Nat} (h:j<s.size):bs (s.extract j (j+1))=[(bs s).getD j 0]:=by
 rw [zAW,zDP h,show j+1 - j=1 by omega];rfl
theorem zBH {l:List UInt8} {i:Nat} (h:i<l.length):val (l.take (i+1))=10*val (l.take i)+dv (l.getD i 0):=by
 rw [List.take_add_one,List.getElem?_eq_getElem h,Option.toList_some,zCZ]
 simp [List.getD,List.getElem?_eq_getElem h]
theorem zFB (l:List UInt8) (z:Nat) (c:UInt8):(l++List.replicate (z+1) (0:UInt8)).set l.length c=(l++[c])++List.replicate z 0:=by
 rw [List.set_append_right _ _ (Nat.le_refl _),Nat.sub_self,List.replicate_succ]
 simp
def muV:List Value->World->Nat
 | _ :: .string s::_,_=>val (bs s)
 | _,_=>0
theorem c137 {a b:ByteArray} {m n:Nat} (ha:bs a=dec m) (hb:bs b=dec n) (hn:0<n) (hz:a.size<=1073741824/\b.size<=1073741824) (w:World) :
  Ret prog 137 #[.string a,.string b] w fun v w'=>(∃ q r,v = .tuple #[.string q,.string r]/\bs q=dec (m / n)/\bs r=dec (m % n))/\Ext w w':=by
 have hza:a.size=(dec m).length:=by rw [zAg,ha]
 have hzb:b.size=(dec n).length:=by rw [zAg,hb]
 have hpos:0<a.size:=by rw [hza];exact List.length_pos_iff.2 (zBm m)
 refine run137 _ _ _ _ ?_
 unfold vc137
 rw [Int.toNat_natCast,size5,zDg]
 have hb0:BytesIn (w.alloc (.cells ((List.replicate a.size (0:UInt8)).map u8v).toArray 5)) w.heap.size (List.replicate a.size 0):=heap_alloc_new w _
 have he0:=(Ext.refl w).alloc (.cells ((List.replicate a.size (0:UInt8)).map u8v).toArray 5)
 refine⟨⟨by omega,by omega,by omega,by omega⟩,fun vals w1=>∃ (i:Nat) (r:ByteArray) (Q:List UInt8),vals=[.int .i64 i,.string r]/\i<=a.size/\Q.length=i/\Q.all isDig=true/\val Q=val ((dec m).take i) / n/\bs r=dec (val ((dec m).take i) % n) /\
   BytesIn w1 w.heap.size (Q++List.replicate (a.size - i) 0)/\Ext w w1,mu1 a.size,
  ⟨0,_,[],rfl,Nat.zero_le _,rfl,rfl,by simp [zC8],by simp [zC8,zBc];rfl,by simpa using hb0,he0⟩,?_⟩
 rintro k r w1 ⟨i,r',Q,hv,hi,hQl,hQd,hQ,hr,hbi,he1⟩
 cases hv
 refine zAd (fun hlt=>?_) (fun hge=>?_)
 ·have hia:i<a.size:=by omega
  rw [zAh (by omega),Int.toNat_natCast,Int.toNat_natCast]
  have hx:=extract_one hia
  have hxz:(a.extract i (i+1)).size=1:=by rw [zAg,hx];rfl
  have hrl:r.size<=b.size:=by
   rw [zAg,hr,hzb]
   exact zAK (Nat.le_of_lt (Nat.mod_lt _ hn))
  refine⟨⟨by omega,by omega,by omega⟩,by omega,Called.of (c135 _ w1) ?_⟩
  rintro v w2 ⟨⟨s1,rfl,hs1⟩,rfl⟩
  have hdig:isDig ((bs a).getD i 0)=true:=by rw [ha];exact zBD (by omega)
  have hdv:=dv_lt hdig
  have hs1' : bs s1=dec (10*(val ((dec m).take i) % n)+dv ((bs a).getD i 0)):=by
   rw [hs1,zAP,hr,hx,zBt (by simp) (by rw [List.all_append,zAH];simpa using hdig),zCZ,zAF]
  generalize hR:10*(val ((dec m).take i) % n)+dv ((bs a).getD i 0)=R at hs1'
  have hRn:R<10*n:=by have:=Nat.mod_lt (val ((dec m).take i)) hn;omega
  have hP:val ((dec m).take (i+1))=10*val ((dec m).take i)+dv ((bs a).getD i 0):=by rw [zBH (by omega),ha]
  have hPq:val ((dec m).take (i+1)) / n=10*(val ((dec m).take i) / n)+R / n/\val ((dec m).take (i+1)) % n=R % n:=by
   have e1:val ((dec m).take (i+1))=n*(10*(val ((dec m).take i) / n))+R:=by
    have h1:=Nat.div_add_mod (val ((dec m).take i)) n
    have h2:n*(10*(val ((dec m).take i) / n))=10*(n*(val ((dec m).take i) / n)):=Nat.mul_left_comm _ _ _
    omega
   rw [e1,Nat.mul_add_div hn,Nat.mul_add_mod]
   exact⟨rfl,rfl⟩
  refine⟨s1,rfl,fun vals w3=>∃ (t:Nat) (s:ByteArray),vals=[.int .u8 ((48+t:Nat):Int),.string s]/\t*n<=R/\bs s=dec (R - t*n)/\Ext w2 w3,muV,⟨0,s1,rfl,by omega,by simpa using hs1',Ext.refl _⟩,?_⟩
  rintro n1 s2 w3 ⟨t,s2',hv2,htn,hs2,he3⟩
  cases hv2
  have ht9:t<10:=by
   rcases Nat.lt_or_ge t 10 with h | h
   ·exact h
   ·have:10*n<=t*n:=Nat.mul_le_mul_right _ h
    omega
  refine Called.of (c109 hs2 hb w3) ?_
  rintro v w4 ⟨rfl,rfl⟩
  refine⟨_,rfl,zAd (fun hge2=>?_) (fun hlt2=>?_)⟩
  ·have hle:n<=R - t*n:=by
    rcases Nat.lt_or_ge (R - t*n) n with h | h
    ·rw [cmpN,if_pos h] at hge2;omega
    ·exact h
   have hs2l:s2.size<=1099511627776:=by
    rw [zAg,hs2]
    have h1:=zAK (m:=10*n) (n:=R - t*n) (by omega)
    have h2:(dec (10*n)).length<=(dec n).length+1:=by
     rw [zA9 (by omega),Nat.pow_succ]
     have:=zB1 n
     omega
    omega
   refine Called.of (c110 hs2 hb hle hs2l w4) ?_
   rintro v w5 ⟨⟨s3,rfl,hs3⟩,he5⟩
   have e1:u8.wrap (((48+t:Nat):Int)+1)=((48+(t+1):Nat):Int):=by
    show (((48+t:Nat):Int)+1) % 256=_
    omega
   have htn1:(t+1)*n<=R:=by rw [Nat.add_mul];omega
   rw [e1]
   refine⟨s3,rfl,⟨t+1,s3,rfl,htn1,?_,he3.trans he5⟩,?_⟩
   ·rw [hs3,Nat.add_mul];congr 1;omega
   ·show val (bs s3)<val (bs s2)
    rw [hs3,hs2,zAF,zAF];omega
  ·have hlt3:R - t*n<n:=by
    rcases Nat.lt_or_ge (R - t*n) n with h | h
    ·exact h
    ·exfalso
     apply hlt2
     rw [cmpN,if_neg (by omega)]
     split <;> omega
   have htq:R / n=t/\R % n=R - t*n:=by
    have e:R=n*t+(R - t*n):=by rw [Nat.mul_comm];omega
    constructor
    ·rw [e,Nat.mul_add_div hn,Nat.div_eq_of_lt hlt3,Nat.add_zero]
    ·conv=>lhs;rw [e]
     rw [Nat.mul_add_mod,Nat.mod_eq_of_lt hlt3]
   have hbi4:=hbi.ext he3
   have hadr:(⟨w.heap.size,0,none⟩:Addr).add (i*1)=⟨w.heap.size,i,none⟩:=by rw [Nat.mul_one,zAk,Nat.zero_add]
   have hcell : ∃ v,w4.cell? ⟨w.heap.size,i,none⟩=some v:=by
    refine⟨_,hbi4.cell (List.getElem?_eq_getElem ?_)⟩
    rw [List.length_append,List.length_replicate,hQl];omega
   refine⟨_,rfl,⟨by omega,by omega⟩,by rw [hadr];exact⟨hcell,zBd hbi4⟩,?_⟩
   have hu:Value.int .u8 ((48+t:Nat):Int)=u8v (digOf t):=by rw [u8v,zCn ht9]
   rw [hadr,hu]
   refine⟨⟨i+1,s2,Q++[digOf t],rfl,hia,by simp [hQl],?_,?_,?_,?_,Below.setCell (p:=⟨w.heap.size,_,none⟩) (he1.trans he3) (Nat.le_refl _) _⟩,?_⟩
   ·rw [List.all_append,hQd];simp [zB6 ht9]
   ·rw [zCZ,hQ,zDm ht9,hPq.1,htq.1]
   ·rw [hPq.2,htq.2];exact hs2
   ·have:=hbi4.set i (digOf t)
    rw [show a.size - i=(a.size - (i+1))+1 by omega] at this
    have h2:=zFB Q (a.size - (i+1)) (digOf t)
    rw [hQl] at h2
    rw [h2] at this
    exact this
   ·simp only [mu1,Int.toNat_natCast];omega
 ·have hiN:i=a.size:=by omega
  subst hiN
  rw [Nat.sub_self,List.replicate_zero,List.append_nil] at hbi
  rw [List.take_of_length_le (by omega),zAF] at hQ hr
  have hQne:Q≠[]:=fun e=>by rw [e] at hQl;simp at hQl;omega
  have hba2:=hbi.at
  rw [hQl] at hba2
  refine⟨Q,hba2,Called.of (c135 _ w1) ?_⟩
  rintro v w2 ⟨⟨t,rfl,ht⟩,rfl⟩
  refine⟨t,rfl,⟨t,r,rfl,?_,hr⟩,he1⟩
  rw [ht]
  show trimL (bs (mk Q))=_
  rw [bs_mk,zBt hQne hQd,hQ]
theorem zF2 {n:Nat} : dec n=[48]↔n=0:=by
 rw [<- zBc]
 exact⟨zC0,fun h=>by rw [h]⟩
theorem c136 {a b:ByteArray} {m n:Nat} (ha:bs a=dec m) (hb:bs b=dec n) (hz:a.size<=1073741824/\b.size<=1073741824) (w:World) :
  Ret prog 136 #[.string a,.string b] w fun v w'=>(∃ t,v = .string t/\bs t=dec (Nat.gcd m n))/\Ext w w':=by
 refine run136 _ _ _ _ ⟨fun vals w'=>∃ (s t:ByteArray) (x y:Nat),vals=[.string s,.string t]/\bs s=dec x/\bs t=dec y/\Nat.gcd x y=Nat.gcd m n/\s.size<=1073741824/\t.size<=1073741824/\Ext w w',muV,
  ⟨a,b,m,n,rfl,ha,hb,rfl,hz.1,hz.2,Ext.refl _⟩,?_⟩
 rintro s t w1 ⟨s',t',x,y,hv,hs,ht,hg,hsz,htz,he1⟩
 cases hv
 rw [zAw,ht]
 cases hy:decide (dec y=bs { data:=#[48] }) with
 | false =>
  have hy0:0<y:=by
   rcases Nat.eq_zero_or_pos y with h | h
   ·subst h;rw [decide_eq_false_iff_not] at hy;exact absurd zBc hy
   ·exact h
  refine Called.of (c137 hs ht hy0 ⟨hsz,htz⟩ w1) ?_
  rintro v w2 ⟨⟨q,r,rfl,-,hr⟩,he2⟩
  have hlt:=Nat.mod_lt x hy0
  refine⟨q,r,rfl,⟨t,r,y,x % y,rfl,ht,hr,?_,htz,?_,he1.trans he2⟩,?_⟩
  ·rw [<- hg,Nat.gcd_comm x y,Nat.gcd_rec y x,Nat.gcd_comm]
  ·rw [zAg,hr]
   have:=zAK (Nat.le_of_lt hlt)
   have h2:t.size=(dec y).length:=by rw [zAg,ht]
   omega
  ·show val (bs r)<val (bs t)
   rw [hr,ht,zAF,zAF];exact hlt
 | true =>
  have hy0:y=0:=zF2.1 (of_decide_eq_true hy)
  subst hy0
  rw [Nat.gcd_zero_right] at hg
  exact⟨⟨s,rfl,by rw [hs,hg]⟩,he1⟩
def valN (l:List Nat):Nat:=l.foldl (fun a x=>10*a+x) 0
theorem foldlN : ∀ (l:List Nat) (n:Nat),l.foldl (fun a x=>10*a+x) n=n*10 ^ l.length+valN l
 | [],n=>by simp [valN]
 | c::l,n=>by
  have h1:=foldlN l (10*n+c)
  have h2:=foldlN l (10*0+c)
  unfold valN
  rw [List.foldl_cons,List.foldl_cons,h1,h2,List.length_cons,Nat.pow_succ,Nat.add_mul,Nat.mul_zero,Nat.zero_add,Nat.mul_comm 10 n,Nat.mul_assoc,Nat.mul_comm 10,Nat.add_assoc]
theorem zCg (x:Nat) (l:List Nat):valN (x::l)=x*10 ^ l.length+valN l:=by
 have:=foldlN l (10*0+x)
 rw [Nat.mul_zero,Nat.zero_add] at this
 unfold valN
 rw [List.foldl_cons,Nat.mul_zero,Nat.zero_add,this]
 rfl
theorem valN_set : ∀ {l:List Nat} {p x:Nat} (h:p<l.length),valN (l.set p (l[p]+x))=valN l+x*10 ^ (l.length - 1 - p)
 | [],p,x,h=>by simp at h
 | y::l,0,x,h=>by
  rw [List.set_cons_zero,List.getElem_cons_zero,zCg,zCg,Nat.add_mul]
  simp only [List.length_cons,Nat.add_sub_cancel,Nat.sub_zero]
  omega
 | y::l,p+1,x,h=>by
  have hp:p<l.length:=by simpa using h
  rw [List.set_cons_succ,List.getElem_cons_succ,zCg,zCg,valN_set hp,List.length_set]
  simp only [List.length_cons,Nat.add_sub_cancel]
  rw [show l.length - (p+1)=l.length - 1 - p by omega]
  omega
theorem valN_zero : ∀ n:Nat,valN (List.replicate n 0)=0
 | 0=>rfl
 | n+1=>by rw [List.replicate_succ,zCg,valN_zero n];simp
def natv (n:Nat):Value := .int .i64 (n:Int)
theorem made_nats (n:Nat):madeCells (Value.int .i64 0).cells n=((List.replicate n 0).map natv).toArray:=by
 apply Array.ext
 ·simp [madeCells]
 ·intro i h1 h2
  simp [madeCells,Value.cells,Nat.mod_one,natv]
def NatsIn (w:World) (b:Nat) (l:List Nat):Prop:=w.heap[b]? = some (.cells (l.map natv).toArray 3 (0,0))
theorem NatsIn.cell {w:World} {b:Nat} {l:List Nat} (h:NatsIn w b l) {i c:Nat} (hi:l[i]? = some c):w.cell? ⟨b,i,none⟩=some (natv c):=by
 rw [zAm h];simp [hi]
theorem NatsIn.set {w:World} {b:Nat} {l:List Nat} (h:NatsIn w b l) (i c:Nat):NatsIn (w.setCell ⟨b,i,none⟩ (natv c)) b (l.set i c):=by
 unfold NatsIn
 rw [zAY h]
 simp [List.map_set]
theorem NatsIn.ext {w w' : World} {b:Nat} {l:List Nat} (h:NatsIn w b l) (he:Ext w w'):NatsIn w' b l:=he.blk h
theorem size3i (n:Nat):(n*siE.P.types[3].size)=n:=Nat.mul_one n
theorem zFX {s:ByteArray} {m i:Nat} (hs:bs s=dec m) (hi:i<s.size):i64.wrap (u8.wrap (bt s (i:Int) - 48))=((dv ((bs s).getD i 0):Nat):Int):=by
 have h2:=zBD (n:=m) (k:=i) (by rw [<- hs,<- zAg];exact hi)
 rw [bt_eq,hs]
 obtain⟨h3,h4⟩:=zBw h2
 have e1:u8.wrap ((((dec m).getD i 0).toNat:Int) - 48)=((dv ((dec m).getD i 0):Nat):Int):=by
  show ((((dec m).getD i 0).toNat:Int) - 48) % 256=_
  unfold dv
  omega
 rw [e1,zAf (by omega) (by have:=dv_lt h2;omega)]
theorem set_get {l:List Nat} {p x:Nat} (h:p<l.length) (q:Nat) (y:Nat) (hq:(l.set p x)[q]? = some y):q=p/\y=x\/q≠p/\l[q]? = some y:=by
 rw [List.getElem?_set] at hq
 split at hq
 ·rename_i e
  subst e
  exact .inl ⟨rfl,(Option.some.inj hq).symm⟩
 ·rename_i e
  exact .inr ⟨fun h=>e h.symm,hq⟩
theorem c83 {a b:ByteArray} {m n:Nat} (ha:bs a=dec m) (hb:bs b=dec n) (hz:a.size<=1073741824/\b.size<=1073741824) (w:World) :
  Ret prog 83 #[.string a,.string b] w fun v w'=>(∃ t,v = .string t/\bs t=dec (m*n))/\Ext w w':=by
 have hza:a.size=(dec m).length:=by rw [zAg,ha]
 have hzb:b.size=(dec n).length:=by rw [zAg,hb]
 have hpa:0<a.size:=by rw [hza];exact List.length_pos_iff.2 (zBm m)
 have hpb:0<b.size:=by rw [hzb];exact List.length_pos_iff.2 (zBm n)
 have eL:i64.wrap ((a.size:Int)+(b.size:Int))=((a.size+b.size:Nat):Int):=by rw [zAf (by omega) (by omega)];omega
 obtain⟨L,hL⟩ : ∃ L,L=a.size+b.size:=⟨_,rfl⟩
 rw [<- hL] at eL
 refine run83 _ _ _ _ ?_
 unfold vc83
 rw [eL,Int.toNat_natCast,size3i,made_nats]
 have hb0:NatsIn (w.alloc (.cells ((List.replicate L 0).map natv).toArray 3)) w.heap.size (List.replicate L 0):=heap_alloc_new w _
 have he0:=(Ext.refl w).alloc (.cells ((List.replicate L 0).map natv).toArray 3)
 have htake0 : ∀ l:List UInt8,val (l.take 0)=0:=fun l=>by rw [List.take_zero];rfl
 refine⟨⟨by omega,by omega,by omega,by omega⟩,fun vals w1=>∃ (i:Nat) (X:List Nat),vals=[.int .i64 i]/\i<=a.size/\X.length=L/\valN X=val ((dec m).take i)*10 ^ (a.size - i)*n/\(∀ q y,X[q]? = some y->y<=81*i)/\NatsIn w1 w.heap.size X/\Ext w w1,mu1 a.size,
  ⟨0,List.replicate L 0,rfl,Nat.zero_le _,by simp,by rw [valN_zero,htake0];simp,fun q y hq=>by
   have:=List.mem_of_getElem? hq
   rw [(List.mem_replicate.1 this).2];omega,hb0,he0⟩,?_⟩
 rintro k w1 ⟨i,X,hv,hi,hXl,hXv,hXb,hXn,he1⟩
 cases hv
 refine zAd (fun hlt=>?_) (fun hge=>?_)
 ·have hia:i<a.size:=by omega
  have hda:=zBD (n:=m) (k:=i) (by omega)
  have hdal:=dv_lt hda
  have hPa:val ((dec m).take (i+1))=10*val ((dec m).take i)+dv ((dec m).getD i 0):=zBH (by omega)
  refine⟨fun vals w2=>∃ (j:Nat) (Y:List Nat),vals=[.int .i64 j]/\j<=b.size/\Y.length=L/\valN Y=val ((dec m).take i)*10 ^ (a.size - i)*n+dv ((dec m).getD i 0)*10 ^ (a.size - 1 - i)*(val ((dec n).take j)*10 ^ (b.size - j)) /\
    (∀ q y,Y[q]? = some y->y<=81*(i+1)/\(i+j+1<=q->y<=81*i))/\NatsIn w2 w.heap.size Y/\Ext w w2,mu1 b.size,
   ⟨0,X,rfl,Nat.zero_le _,hXl,by rw [hXv,htake0];simp,fun q y hq=>by have:=hXb q y hq;omega,hXn,he1⟩,?_⟩
  rintro k1 w2 ⟨j,Y,hv2,hj,hYl,hYv,hYb,hYn,he2⟩
  cases hv2
  refine zAd (fun hlt2=>?_) (fun hge2=>?_)
  ·have hjb:j<b.size:=by omega
   have hdb:=zBD (n:=n) (k:=j) (by omega)
   have hdbl:=dv_lt hdb
   have hPb:val ((dec n).take (j+1))=10*val ((dec n).take j)+dv ((dec n).getD j 0):=zBH (by omega)
   have eidx:i64.wrap (i64.wrap ((i:Int)+(j:Int))+1)=((i+j+1:Nat):Int):=by
    rw [zAf (n:=(i:Int)+(j:Int)) (by omega) (by omega),zAf (by omega) (by omega)];omega
   rw [eidx]
   have hidx:i+j+1<Y.length:=by omega
   have hget:Y[i+j+1]? = some Y[i+j+1]:=List.getElem?_eq_getElem hidx
   have hbnd:=(hYb _ _ hget).2 (Nat.le_refl _)
   have hadr:(⟨w.heap.size,0,none⟩:Addr).add (((i+j+1:Nat):Int).toNat*1)=⟨w.heap.size,i+j+1,none⟩:=by rw [Int.toNat_natCast,Nat.mul_one,zAk,Nat.zero_add]
   have hYd:NatsIn w2.drew w.heap.size Y:=hYn
   have hcell:=hYd.cell hget
   have hab:dv ((dec m).getD i 0)*dv ((dec n).getD j 0)<=81:=Nat.mul_le_mul (by omega:dv ((dec m).getD i 0)<=9) (by omega:dv ((dec n).getD j 0)<=9)
   refine⟨_,rfl,⟨by omega,by omega⟩,_,by rw [hadr];exact hcell,⟨by omega,hlt⟩,⟨by omega,hlt2⟩,_,rfl,⟨by omega,by omega⟩,by rw [hadr];exact⟨⟨_,hcell⟩,zBd hYd⟩,?_⟩
   rw [hadr,zFX ha hia,zFX hb hjb,ha,hb,zAh (by omega)]
   have ep:i64.wrap (((dv ((dec m).getD i 0):Nat):Int)*((dv ((dec n).getD j 0):Nat):Int))=((dv ((dec m).getD i 0)*dv ((dec n).getD j 0):Nat):Int):=by
    rw [<- Int.natCast_mul,zAf (by omega) (by omega)]
   rw [ep]
   generalize hx:dv ((dec m).getD i 0)*dv ((dec n).getD j 0)=x at hab
   have es:i64.wrap (((Y[i+j+1]:Nat):Int)+(x:Int))=((Y[i+j+1]+x:Nat):Int):=by rw [zAf (by omega) (by omega)];omega
   rw [es]
   refine⟨⟨j+1,Y.set (i+j+1) (Y[i+j+1]+x),rfl,hjb,by rw [List.length_set];exact hYl,?_,?_,hYd.set (i+j+1) _,Below.setCell (p:=⟨w.heap.size,_,none⟩) he2.drew (Nat.le_refl _) _⟩,?_⟩
   ·rw [valN_set hidx,hYv,hPb,hYl,Nat.add_assoc]
    congr 1
    have e1:L - 1 - (i+j+1)=(a.size - 1 - i)+(b.size - 1 - j):=by omega
    have e2:b.size - j=(b.size - 1 - j)+1:=by omega
    have e3:b.size - (j+1)=b.size - 1 - j:=by omega
    rw [e1,e2,e3,Nat.pow_succ,Nat.pow_add,<- hx]
    generalize 10 ^ (a.size - 1 - i)=P
    generalize 10 ^ (b.size - 1 - j)=Q
    generalize dv ((dec m).getD i 0)=u
    generalize dv ((dec n).getD j 0)=v
    generalize val ((dec n).take j)=V
    rw [Nat.add_mul,Nat.mul_add]
    have e4:u*P*(V*(Q*10))=u*P*(10*V*Q):=by
     congr 1
     rw [Nat.mul_comm Q 10,<- Nat.mul_assoc,Nat.mul_comm V 10]
    have e5:u*v*(P*Q)=u*P*(v*Q):=by
     rw [Nat.mul_assoc,Nat.mul_assoc,Nat.mul_left_comm v]
    rw [e4,e5]
   ·intro q y hq
    rcases set_get hidx q y hq with ⟨rfl,rfl⟩ | ⟨hne,hq⟩
    ·exact⟨by omega,fun h=>by omega⟩
    ·have:=hYb q y hq
     exact⟨this.1,fun h=>this.2 (by omega)⟩
   ·simp only [mu1,Int.toNat_natCast];omega
  ·have hjN:j=b.size:=by omega
   subst hjN
   rw [zAh (by omega)]
   rw [List.take_of_length_le (l:=dec n) (i:=b.size) (by omega),zAF,Nat.sub_self,Nat.pow_zero,Nat.mul_one] at hYv
   refine⟨⟨i+1,Y,rfl,hia,hYl,?_,fun q y hq=>(hYb q y hq).1,hYn,he2⟩,?_⟩
   ·rw [hYv,hPa,<- Nat.add_mul]
    congr 1
    have e2:a.size - i=(a.size - 1 - i)+1:=by omega
    have e3:a.size - (i+1)=a.size - 1 - i:=by omega
    rw [e2,e3,Nat.pow_succ,Nat.add_mul,Nat.mul_comm (10 ^ (a.size - 1 - i)) 10,<- Nat.mul_assoc,Nat.mul_comm (val _) 10]
   ·simp only [mu1,Int.toNat_natCast];omega
 ·have hiN:i=a.size:=by omega
  subst hiN
  rw [List.take_of_length_le (l:=dec m) (i:=a.size) (by omega),zAF,Nat.sub_self,Nat.pow_zero,Nat.mul_one] at hXv
  rw [Int.toNat_natCast,size5,zDg]
  have hbb:BytesIn (w1.alloc (.cells ((List.replicate L (0:UInt8)).map u8v).toArray 5)) w1.heap.size (List.replicate L 0):=heap_alloc_new w1 _
  have hea:=(Ext.refl w1).alloc (.cells ((List.replicate L (0:UInt8)).map u8v).toArray 5)
  have hw1:w.heap.size<w1.heap.size:=(Array.getElem?_eq_some_iff.1 hXn).1
  have e0:i64.wrap ((L:Int) - 1)=((L:Int) - 1):=zAf (by omega) (by omega)
  rw [e0]
  refine⟨⟨by omega,by omega,by omega,by omega⟩,fun vals w3=>∃ (t c:Nat) (D:List UInt8),vals=[.int .i64 ((L:Int) - 1 - t),.int .i64 c]/\t<=L/\D.length=t/\D.all isDig=true/\c<=81*a.size/\val D+c*10 ^ t=valN (X.drop (L - t)) /\
    NatsIn w3 w.heap.size X/\BytesIn w3 w1.heap.size (List.replicate (L - t) 0++D)/\Ext w w3,muD,
   ⟨0,0,[],by simp,Nat.zero_le _,rfl,rfl,Nat.zero_le _,by rw [List.drop_of_length_le (by omega)];rfl,hXn.ext hea,by simpa using hbb,he1.trans hea⟩,?_⟩
  rintro n3 n4 w3 ⟨t,c,D,hv3,ht,hDl,hDd,hc,hval,hXn3,hbn3,he3⟩
  cases hv3
  refine zAd (fun hpos=>?_) (fun hneg=>?_)
  ·have htL:t<L:=by omega
   obtain⟨p,hp⟩ : ∃ p,p=L - 1 - t:=⟨_,rfl⟩
   have ep:(L:Int) - 1 - (t:Int)=(p:Int):=by omega
   rw [ep]
   have hpX:p<X.length:=by omega
   have hget:X[p]? = some X[p]:=List.getElem?_eq_getElem hpX
   have hbnd:=hXb p _ hget
   have hadr1:(⟨w.heap.size,0,none⟩:Addr).add ((p:Int).toNat*1)=⟨w.heap.size,p,none⟩:=by rw [Int.toNat_natCast,Nat.mul_one,zAk,Nat.zero_add]
   have hadr2:(⟨w1.heap.size,0,none⟩:Addr).add ((p:Int).toNat*1)=⟨w1.heap.size,p,none⟩:=by rw [Int.toNat_natCast,Nat.mul_one,zAk,Nat.zero_add]
   have hcell2 : ∃ v,w3.cell? ⟨w1.heap.size,p,none⟩=some v:=by
    refine⟨_,hbn3.cell (List.getElem?_eq_getElem ?_)⟩
    rw [List.length_append,List.length_replicate,hDl];omega
   refine⟨_,rfl,⟨by omega,by omega⟩,_,by rw [hadr1];exact hXn3.cell hget,_,rfl,⟨by omega,by omega⟩,by rw [hadr2];exact⟨hcell2,zBd hbn3⟩,?_⟩
   generalize hs:X[p]+c=s
   have es:i64.wrap (((X[p]:Nat):Int)+(c:Int))=(s:Int):=by rw [zAf (by omega) (by omega)];omega
   have etm:(s:Int).tmod 10=((s % 10:Nat):Int):=by rw [Int.tmod_eq_emod_of_nonneg (by omega)];omega
   have etd:(s:Int).tdiv 10=((s / 10:Nat):Int):=by rw [Int.tdiv_eq_ediv_of_nonneg (by omega)];omega
   have hdg:s % 10<10:=Nat.mod_lt _ (by omega)
   rw [hadr2,es,etm,etd,zAf (n:=((s / 10:Nat):Int)) (by omega) (by omega),zGt hdg,zAf (n:=(p:Int) - 1) (by omega) (by omega)]
   have hdrop:X.drop (L - (t+1))=X[p]::X.drop (L - t):=by
    rw [show L - (t+1)=p by omega,show L - t=p+1 by omega]
    exact List.drop_eq_getElem_cons hpX
   refine⟨⟨t+1,s / 10,digOf (s % 10)::D,by rw [show (L:Int) - 1 - ((t+1:Nat):Int)=(p:Int) - 1 by omega],htL,by simp [hDl],?_,by omega,?_,?_,?_,Below.setCell (p:=⟨w1.heap.size,_,none⟩) he3 (Nat.le_of_lt hw1) _⟩,?_⟩
   ·rw [List.all_cons,zB6 hdg,hDd];rfl
   ·rw [zGs _ hdg,hDl,hdrop,zCg,List.length_drop,hXl,show L - (L - t)=t by omega,<- hval,Nat.pow_succ]
    have e3:(s % 10)*10 ^ t+s / 10*(10 ^ t*10)=s*10 ^ t:=by
     rw [<- Nat.mul_assoc,Nat.mul_right_comm,<- Nat.add_mul]
     congr 1
     omega
    have e4:s*10 ^ t=X[p]*10 ^ t+c*10 ^ t:=by rw [<- hs,Nat.add_mul]
    omega
   ·unfold NatsIn
    rw [zAs (by show w.heap.size≠w1.heap.size;omega)]
    exact hXn3
   ·have:=hbn3.set p (digOf (s % 10))
    rw [show L - t=p+1 by omega,zFk] at this
    rw [show L - (t+1)=p by omega]
    exact this
   ·simp only [muD];omega
  ·have htL:t=L:=by omega
   subst htL
   rw [Nat.sub_self,List.replicate_zero,List.nil_append] at hbn3
   rw [Nat.sub_self,List.drop_zero,hXv] at hval
   have hmn:m*n<10 ^ t:=by
    rw [hL,Nat.pow_add,hza,hzb]
    have h1:=zB1 m
    have h2:=zB1 n
    exact Nat.lt_of_le_of_lt (Nat.mul_le_mul_right n (Nat.le_of_lt h1)) (Nat.mul_lt_mul_of_pos_left h2 (Nat.pow_pos (by omega)))
   have hc0:c=0:=by
    rcases Nat.eq_zero_or_pos c with h | h
    ·exact h
    ·have:1*10 ^ t<=c*10 ^ t:=Nat.mul_le_mul_right _ h
     omega
   rw [hc0,Nat.zero_mul,Nat.add_zero] at hval
   have hDne:D≠[]:=fun e=>by rw [e] at hDl;simp at hDl;omega
   have hba2:=hbn3.at
   rw [hDl] at hba2
   refine⟨D,hba2,Called.of (c135 _ w3) ?_⟩
   rintro v w4 ⟨⟨u,rfl,hu⟩,rfl⟩
   refine⟨u,rfl,⟨u,rfl,?_⟩,he3⟩
   rw [hu]
   show trimL (bs (mk D))=_
   rw [bs_mk,zBt hDne hDd,hval]
end Go.Proofs.Si
namespace Go.Proofs.Si
open Go Go.V Go.Proofs Go.RowKit Go.Num Go.Proofs.Tryz
set_option maxRecDepth 100000
theorem zDN {w:World} {b e:Nat} {a0 a1 a2:Value} (h:w.heap[b]? = some (.cells #[a0,a1,a2] e (0,0))) (v0 v1 v2:Value) :
  (setCells w ⟨b,0,none⟩ 0 [v0,v1,v2]).heap[b]? = some (.cells #[v0,v1,v2] e (0,0)):=by
 simp only [setCells,zAk,Nat.zero_add]
 exact zAY (j:=2) (zAY (j:=1) (zAY (j:=0) h v0) v1) v2
theorem set3_ne {w:World} {b k:Nat} (h:k≠b) (v0 v1 v2:Value):(setCells w ⟨b,0,none⟩ 0 [v0,v1,v2]).heap[k]? = w.heap[k]?:=by
 simp only [setCells,zAk,Nat.zero_add]
 rw [zAs h,zAs h,zAs h]
theorem zCi {N:Nat} {w0 w:World} {b:Nat} (h:Below N w0 w) (hb:N<=b) (v0 v1 v2:Value):Below N w0 (setCells w ⟨b,0,none⟩ 0 [v0,v1,v2]):=by
 simp only [setCells,zAk,Nat.zero_add]
 exact ((h.setCell (p:=⟨b,_,none⟩) hb v0).setCell (p:=⟨b,_,none⟩) hb v1).setCell (p:=⟨b,_,none⟩) hb v2
theorem zC4 {w:World} {b e:Nat} {a0 a1 a2:Value} (h:w.heap[b]? = some (.cells #[a0,a1,a2] e (0,0))):writable w ⟨b,0,none⟩ 3:=by
 intro i hi
 rw [zAk,Nat.zero_add]
 exact⟨⟨#[a0,a1,a2][i]'hi,(zAm h).trans (Array.getElem?_eq_getElem (xs:=#[a0,a1,a2]) hi)⟩,zBd h⟩
theorem zGp {w:World} {b e:Nat} {a0 a1 a2:Value} (h:w.heap[b]? = some (.cells #[a0,a1,a2] e (0,0))):vcells w ⟨b,0,none⟩ 0 [a0,a1,a2] :=
 ⟨zAm h,zAm (j:=1) h,zAm (j:=2) h,trivial⟩
def RatioAt (q:Rat) (v:Value):Prop:=∃ s t:ByteArray,v = .agg #[.bool (decide (q.num<0)),.string s,.string t]/\bs s=dec q.num.natAbs/\bs t=dec q.den
theorem zGA {s:ByteArray} {n:Nat} (hs:bs s=dec n):(s.toList==({ data:=#[48] } : ByteArray).toList)=decide (n=0):=by
 rw [zAw,hs,Bool.eq_iff_iff,decide_eq_true_eq,decide_eq_true_eq]
 exact zF2
theorem dec_one:dec 1=[49]:=by rw [zA5 (by omega)];rfl
theorem beq_one {s:ByteArray} {n:Nat} (hs:bs s=dec n):(s.toList==({ data:=#[49] } : ByteArray).toList)=decide (n=1):=by
 rw [zAw,hs,Bool.eq_iff_iff,decide_eq_true_eq,decide_eq_true_eq]
 show dec n=[49]↔_
 rw [<- dec_one]
 exact⟨zC0,fun h=>by rw [h]⟩
theorem c82 (neg:Bool) {num den:ByteArray} {a b:Nat} (ha:bs num=dec a) (hb:bs den=dec b) (hb0:b≠0) (hz:num.size<=1073741824/\den.size<=1073741824) (w:World) :
  Ret prog 82 #[.bool neg,.string num,.string den] w fun v w'=>RatioAt (red neg a b) v/\Ext w w':=by
 have hg0:0<Nat.gcd a b:=Nat.gcd_pos_of_pos_right _ (Nat.pos_of_ne_zero hb0)
 have hbox:(w.alloc (.cells #[.bool false,.string { data:=#[] },.string { data:=#[] }] 110)).heap[w.heap.size]? = some (.cells #[.bool false,.string { data:=#[] },.string { data:=#[] }] 110 (0,0)):=heap_alloc_new w _
 have he0:=(Ext.refl w).alloc (.cells #[.bool false,.string { data:=#[] },.string { data:=#[] }] 110)
 refine run82 _ _ _ _ _ (Called.of (c136 ha hb hz _) ?_)
 rintro v w1 ⟨⟨g,rfl,hg⟩,he1⟩
 have hgz:g.size<=1073741824:=by
  rw [zAg,hg]
  have h1:=zAK (Nat.gcd_le_right a (Nat.pos_of_ne_zero hb0))
  have h2:den.size=(dec b).length:=by rw [zAg,hb]
  omega
 refine⟨g,rfl,Called.of (c137 ha hg hg0 ⟨hz.1,hgz⟩ w1) ?_⟩
 rintro v w2 ⟨⟨q1,r1,rfl,hq1,-⟩,he2⟩
 refine⟨q1,r1,rfl,Called.of (c137 hb hg hg0 ⟨hz.2,hgz⟩ w2) ?_⟩
 rintro v w3 ⟨⟨q2,r2,rfl,hq2,-⟩,he3⟩
 have hb3:=he3.blk (he2.blk (he1.blk hbox))
 have he:Ext w w3:=((he0.trans he1).trans he2).trans he3
 refine⟨q2,r2,rfl,zC4 hb3,_,_,_,zGp (zDN hb3 _ _ _),⟨q1,q2,?_,?_,?_⟩,zCi he (Nat.le_refl _) _ _ _⟩
 ·rw [zGA hq1,zD0 neg a hb0]
  congr 2
  congr 1
  congr 1
  rw [Bool.eq_iff_iff,Bool.and_eq_true,Bool.not_eq_true',decide_eq_false_iff_not,decide_eq_true_eq,sgn_neg]
 ·rw [hq1,zD0 neg a hb0,zCd]
 ·rw [hq2,zEo neg a hb0]
theorem c84 (neg:Bool) {s t:ByteArray} {a b:Nat} (hs:bs s=dec a) (ht:bs t=dec b) (hz:s.size<=2147483648/\t.size<=2147483648) (w:World) :
  Ret prog 84 #[.agg #[.bool neg,.string s,.string t]] w fun v w'=>(∃ u,v = .string u/\bs u=txt3 neg a b)/\Ext w w':=by
 have hbox:(w.alloc (.cells #[.bool neg,.string s,.string t] 110)).heap[w.heap.size]? = some (.cells #[.bool neg,.string s,.string t] 110 (0,0)):=heap_alloc_new w _
 have he0:=(Ext.refl w).alloc (.cells #[.bool neg,.string s,.string t] 110)
 refine run84 _ _ _ _ _ ⟨_,zAm (j:=1) hbox,fun K hK=>?_⟩
 have fin : ∀ s1:ByteArray,bs s1=(if neg then [45] else [])++dec a->s1.size<=2147483649->K [.string s1] (w.alloc (.cells #[.bool neg,.string s,.string t] 110)):=by
  intro s1 h1 hz1
  refine hK s1 ⟨_,zAm (j:=2) hbox,?_⟩
  rw [beq_one ht]
  by_cases hb1:b=1
  ·rw [decide_eq_true hb1]
   refine⟨⟨s1,rfl,?_⟩,he0⟩
   rw [h1,txt3,if_pos hb1,List.append_nil]
  ·rw [decide_eq_false hb1]
   have e1:({ data:=#[47] }++t:ByteArray).size=t.size+1:=by rw [zDo];show 1+t.size=_;omega
   refine⟨_,zAm (j:=2) hbox,by omega,by omega,⟨_,rfl,?_⟩,he0⟩
   rw [zAP,zAP,h1,ht,txt3,if_neg hb1];rfl
 refine⟨neg,zAm (j:=0) hbox,zAa (fun hn=>?_) (fun hn=>?_)⟩
 ·subst hn
  refine⟨by omega,fin _ ?_ ?_⟩
  ·rw [zAP,hs];rfl
  ·rw [zDo];show 1+s.size<=_;omega
 ·subst hn
  exact fin s (by rw [hs];rfl) (by omega)
def ParseQ (a:ByteArray) (v:Value):Prop :=
 (∃ q x,bs a=txtQ q/\RatioAt q x/\v = .tuple #[x,.bool true])\/(¬ ∃ q,bs a=txtQ q)/\v = .tuple #[.agg #[.bool false,.string { data:=#[] },.string { data:=#[] }],.bool false]
theorem c81 (a:ByteArray) (hz:a.size<=536870912) (w:World):Ret prog 81 #[.string a] w fun v w'=>ParseQ a v/\Ext w w':=by
 have hA:(w.alloc (.cells #[.bool false,.string { data:=#[] },.string { data:=#[] }] 110)).heap[w.heap.size]? = some (.cells #[.bool false,.string { data:=#[] },.string { data:=#[] }] 110 (0,0)):=heap_alloc_new w _
 have heA:=(Ext.refl w).alloc (.cells #[.bool false,.string { data:=#[] },.string { data:=#[] }] 110)
 have hszA:(w.alloc (.cells #[.bool false,.string { data:=#[] },.string { data:=#[] }] 110)).heap.size=w.heap.size+1:=size_alloc _ _
 refine run81 _ _ _ ?_
 unfold vc81
 generalize hwA:w.alloc (.cells #[.bool false,.string { data:=#[] },.string { data:=#[] }] 110)=wA at hA heA hszA ⊢
 have hB:(wA.alloc (.cells #[.bool false,.string { data:=#[] },.string { data:=#[] }] 110)).heap[wA.heap.size]? = some (.cells #[.bool false,.string { data:=#[] },.string { data:=#[] }] 110 (0,0)):=heap_alloc_new wA _
 have heB:=(Ext.refl wA).alloc (.cells #[.bool false,.string { data:=#[] },.string { data:=#[] }] 110)
 have hAB:=heB.blk hA
 refine⟨zC4 hB,?_⟩
 have hB2:=zDN hB (.bool false) (.string { data:=#[] }) (.string { data:=#[49] })
 have hA2:(setCells (wA.alloc (.cells #[.bool false,.string { data:=#[] },.string { data:=#[] }] 110)) ⟨wA.heap.size,0,none⟩ 0 [.bool false,.string { data:=#[] },.string { data:=#[49] }]).heap[w.heap.size]? = _:=(set3_ne (by omega) _ _ _).trans hAB
 have he2:Ext w (setCells (wA.alloc (.cells #[.bool false,.string { data:=#[] },.string { data:=#[] }] 110)) ⟨wA.heap.size,0,none⟩ 0 [.bool false,.string { data:=#[] },.string { data:=#[49] }]):=zCi (heA.trans heB) (by omega) _ _ _
 generalize hw2:setCells (wA.alloc (.cells #[.bool false,.string { data:=#[] },.string { data:=#[] }] 110)) ⟨wA.heap.size,0,none⟩ 0 [.bool false,.string { data:=#[] },.string { data:=#[49] }]=wS at hB2 hA2 he2 ⊢
 generalize hxb:wA.heap.size=xb at hB2 hszA ⊢
 intro K hK
 have tail : ∀ (neg:Bool) (s:ByteArray) (w1:World),zAv (bs a)=(neg,bs s)->s.size<=a.size->w1.heap[xb]? = some (.cells #[.bool neg,.string { data:=#[] },.string { data:=#[49] }] 110 (0,0)) ->
   w1.heap[w.heap.size]? = some (.cells #[.bool false,.string { data:=#[] },.string { data:=#[] }] 110 (0,0))->Ext w w1->K [.string s] w1:=by
  intro neg s w1 hsg hsz hx1 ha1 he1
  refine hK s w1 fun K1 hK1=>?_
  have fin : ∀ (s1 den:ByteArray) (w2:World),dqCut (bs s)=(bs s1,bs den)->s1.size<=a.size->den.size<=a.size+1->w2.heap[xb]? = some (.cells #[.bool neg,.string { data:=#[] },.string den] 110 (0,0)) ->
    w2.heap[w.heap.size]? = some (.cells #[.bool false,.string { data:=#[] },.string { data:=#[] }] 110 (0,0))->Ext w w2->K1 [.string s1] w2:=by
   intro s1 den w2 hcut hz1 hzd hx2 ha2 he2
   refine hK1 s1 w2 ⟨⟨⟨_,zAm (j:=1) hx2⟩,zBd (j:=1) hx2⟩,?_⟩
   have hx3:(w2.setCell ⟨xb,1,none⟩ (.string s1)).drew.heap[xb]? = some (.cells #[.bool neg,.string s1,.string den] 110 (0,0)):=zAY (j:=1) hx2 _
   have ha3:(w2.setCell ⟨xb,1,none⟩ (.string s1)).drew.heap[w.heap.size]? = _:=(zAs (by show w.heap.size≠xb;omega)).trans ha2
   have he3:Ext w (w2.setCell ⟨xb,1,none⟩ (.string s1)).drew:=(Below.setCell (p:=⟨xb,1,none⟩) he2 (by show w.heap.size<=xb;omega) _).drew
   generalize (w2.setCell ⟨xb,1,none⟩ (.string s1)).drew=W at hx3 ha3 he3 ⊢
   intro K2 hK2
   have hok:okQ (bs a)=((!decide (bs s1=[])&&(bs s1).all isDig)&&(!decide (bs den=[])&&(bs den).all isDig)&&!decide (bs den=[48])&&decide (trimL (bs s1)=bs s1)&&decide (trimL (bs den)=bs den) &&
     decide (txtQ (red neg (val (bs s1)) (val (bs den)))=bs a)):=by
    unfold okQ
    simp only [hsg,hcut]
   have bad : ∀ b w',b=true->okQ (bs a)=false->Ext W w'->K2 [.bool b] w':=by
    intro b w' hb hno he'
    refine hK2 b w' ?_
    rw [hb,cond_true]
    have ha4:=he'.blk ha3
    refine⟨zC4 ha4,_,_,_,zGp (zDN ha4 _ _ _),.inr ⟨fun hq=>?_,rfl⟩,zCi (he3.trans he') (Nat.le_refl _) _ _ _⟩
    rw [zB5.2 hq] at hno
    cases hno
   refine⟨_,zAm (j:=1) hx3,Called.of (c134 s1 (by omega) W) ?_⟩
   rintro v w4 ⟨rfl,rfl⟩
   refine⟨_,rfl,Below.refl _ _,zAa (fun h=>bad _ _ rfl ?_ (Ext.refl _)) (fun h1=>?_)⟩
   ·have h' : (!decide (bs s1=[])&&(bs s1).all isDig)=false:=by
     cases hb:(!decide (bs s1=[])&&(bs s1).all isDig) with
     | false=>rfl
     | true=>rw [hb] at h;cases h
    rw [hok,h'];rfl
   have h1' : (!decide (bs s1=[])&&(bs s1).all isDig)=true:=by simpa using h1
   refine⟨_,zAm (j:=2) hx3,Called.of (c134 den (by omega) w4) ?_⟩
   rintro v w5 ⟨rfl,rfl⟩
   refine⟨_,rfl,Below.refl _ _,zAa (fun h=>bad _ _ rfl ?_ (Ext.refl _)) (fun h2=>?_)⟩
   ·have h' : (!decide (bs den=[])&&(bs den).all isDig)=false:=by
     cases hb:(!decide (bs den=[])&&(bs den).all isDig) with
     | false=>rfl
     | true=>rw [hb] at h;cases h
    rw [hok,h1',h'];rfl
   have h2' : (!decide (bs den=[])&&(bs den).all isDig)=true:=by simpa using h2
   refine⟨_,zAm (j:=2) hx3,?_⟩
   rw [zAw]
   refine zAa (fun h=>bad _ _ rfl ?_ (Ext.refl _)) (fun h3=>?_)
   ·have h' : decide (bs den=[48])=true:=h
    rw [hok,h1',h2',h'];rfl
   have h3' : decide (bs den=[48])=false:=h3
   refine⟨_,zAm (j:=1) hx3,_,zAm (j:=1) hx3,Called.of (c135 s1 w5) ?_⟩
   rintro v w6 ⟨⟨t1,rfl,ht1⟩,rfl⟩
   refine⟨t1,rfl,Below.refl _ _,?_⟩
   rw [zAw,ht1]
   refine zAa (fun h=>bad _ _ rfl ?_ (Ext.refl _)) (fun h4=>?_)
   ·have h' : decide (trimL (bs s1)=bs s1)=false:=by simpa using h
    rw [hok,h1',h2',h3',h'];rfl
   have h4' : decide (trimL (bs s1)=bs s1)=true:=by simpa using h4
   refine⟨_,zAm (j:=2) hx3,_,zAm (j:=2) hx3,Called.of (c135 den w6) ?_⟩
   rintro v w7 ⟨⟨t2,rfl,ht2⟩,rfl⟩
   refine⟨t2,rfl,Below.refl _ _,?_⟩
   rw [zAw,ht2]
   refine zAa (fun h=>bad _ _ rfl ?_ (Ext.refl _)) (fun h5=>?_)
   ·have h' : decide (trimL (bs den)=bs den)=false:=by simpa using h
    rw [hok,h1',h2',h3',h4',h'];rfl
   have h5' : decide (trimL (bs den)=bs den)=true:=by simpa using h5
   rw [Bool.and_eq_true,Bool.not_eq_true',decide_eq_false_iff_not] at h1' h2'
   have hnum:=zGh h1'.1 h1'.2 (of_decide_eq_true h4')
   have hden:=zGh h2'.1 h2'.2 (of_decide_eq_true h5')
   have hd0:val (bs den)≠0:=by
    intro e
    rw [e,zBc] at hden
    rw [hden] at h3'
    exact absurd h3' (by decide)
   refine⟨_,zAm (j:=0) hx3,_,zAm (j:=1) hx3,_,zAm (j:=2) hx3,Called.of (c82 neg hnum hden hd0 ⟨by omega,by omega⟩ w7) ?_⟩
   rintro v w8 ⟨⟨u1,u2,rfl,hu1,hu2⟩,he8⟩
   have hu1z:u1.size<=2147483648:=by
    rw [zAg,hu1,zD0 neg _ hd0,zCd]
    have h6:=zAK (Nat.div_le_self (val (bs s1)) (Nat.gcd (val (bs s1)) (val (bs den))))
    rw [<- hnum,<- zAg] at h6
    omega
   have hu2z:u2.size<=2147483648:=by
    rw [zAg,hu2,zEo neg _ hd0]
    have h6:=zAK (Nat.div_le_self (val (bs den)) (Nat.gcd (val (bs s1)) (val (bs den))))
    rw [<- hden,<- zAg] at h6
    omega
   refine⟨_,_,_,rfl,Called.of (c84 _ hu1 hu2 ⟨hu1z,hu2z⟩ w8) ?_⟩
   rintro v w9 ⟨⟨u,rfl,hu⟩,he9⟩
   refine⟨u,rfl,?_⟩
   have hu' : bs u=txtQ (red neg (val (bs s1)) (val (bs den))):=hu
   rw [zAw,hu']
   have hfin:okQ (bs a)=decide (txtQ (red neg (val (bs s1)) (val (bs den)))=bs a):=by
    rw [hok,h3',h4',h5',h1'.2,h2'.2,decide_eq_false h1'.1,decide_eq_false h2'.1]
    rfl
   cases h6:decide (txtQ (red neg (val (bs s1)) (val (bs den)))=bs a) with
   | false=>exact bad _ _ rfl (by rw [hfin,h6]) (he8.trans he9)
   | true =>
    have heq:=of_decide_eq_true h6
    refine hK2 _ _ ?_
    rw [Bool.not_true,cond_false]
    have hx9:=he9.blk (he8.blk hx3)
    have ha9:=he9.blk (he8.blk ha3)
    generalize hq:red neg (val (bs s1)) (val (bs den))=q at heq
    have e1:zAv (bs a)=(decide (q.num<0),dec q.num.natAbs++(if q.den=1 then [] else 47::dec q.den)):=by rw [<- heq];exact zCm _ _ _
    rw [hsg] at e1
    obtain⟨e2,e3⟩:=Prod.mk.inj e1
    have e4:=zCP q.num.natAbs q.den
    rw [<- e3,hcut] at e4
    obtain⟨e5,e6⟩:=Prod.mk.inj e4
    refine⟨neg,s1,den,zGp hx9,zC4 ha9,_,_,_,zGp (zDN ha9 _ _ _),.inl ⟨q,_,heq.symm,⟨s1,den,?_,e5,e6⟩,rfl⟩,zCi ((he3.trans he8).trans he9) (Nat.le_refl _) _ _ _⟩
    rw [e2]
  refine⟨fun vals w'=>∃ j:Nat,vals=[.int .i64 j]/\j<=s.size/\w'.heap[xb]? = some (.cells #[.bool neg,.string { data:=#[] },.string { data:=#[49] }] 110 (0,0)) /\
    w'.heap[w.heap.size]? = some (.cells #[.bool false,.string { data:=#[] },.string { data:=#[] }] 110 (0,0))/\Ext w w'/\(bs s).takeWhile (· != 47)=(bs s).take j++(rest s j).takeWhile (· != 47),mu1 s.size,
   ⟨0,rfl,Nat.zero_le _,hx1,ha1,he1,rfl⟩,?_⟩
  rintro n w10 ⟨j,hv,hj,hx10,ha10,he10,htw⟩
  cases hv
  refine zAd (fun hlt=>?_) (fun hge=>?_)
  ·have hjl:j<s.size:=by omega
   refine⟨⟨by omega,hlt⟩,?_⟩
   rw [bt_eq,show ((((bs s).getD j 0).toNat:Int)==47)=((bs s).getD j 0==47) from u8_beq _ 47 (by omega)]
   rw [zDP hjl,List.takeWhile_cons] at htw
   refine zAa (fun h47=>?_) (fun h47=>?_)
   ·have h47' : (bs s).getD j 0=47:=by simpa using h47
    rw [h47'] at htw
    have htw' : (bs s).takeWhile (· != 47)=(bs s).take j:=by simpa using htw
    have hlen:((bs s).takeWhile (· != 47)).length=j:=by rw [htw',List.length_take,<- zAg];omega
    rw [zAh (by omega),Int.toNat_natCast,Int.toNat_natCast]
    refine⟨⟨by omega,by omega⟩,⟨by omega,by omega⟩,⟨⟨_,zAm (w:=w10.drew) (j:=2) hx10⟩,zBd (w:=w10.drew) (j:=2) hx10⟩,?_⟩
    refine fin (s.extract 0 j) (s.extract (j+1) s.size) _ ?_ ?_ ?_ (zAY (w:=w10.drew) (j:=2) hx10 _) ((zAs (w:=w10.drew) (by show w.heap.size≠xb;omega)).trans ha10) (Below.setCell (p:=⟨xb,2,none⟩) he10.drew (by show w.heap.size<=xb;omega) _)
    ·unfold dqCut
     rw [if_pos (by rw [hlen,<- zAg];exact hjl),hlen,htw',zAW,zAW]
     congr 1
     rw [rest,List.take_of_length_le]
     rw [List.length_drop,<- zAg]
     exact Nat.le_refl _
    ·rw [zAg,zAW,List.length_take,zEN];omega
    ·rw [zAg,zAW,List.length_take,zEN];omega
   ·have h47' : ((bs s).getD j 0 != 47)=true:=by rw [bne,h47];rfl
    rw [h47',if_pos rfl] at htw
    rw [zAh (by omega)]
    refine⟨⟨j+1,rfl,hjl,hx10,ha10,he10,?_⟩,?_⟩
    ·rw [htw,List.take_add_one,List.getElem?_eq_getElem (by rw [<- zAg];exact hjl),List.append_assoc]
     simp [List.getD,List.getElem?_eq_getElem (show j<(bs s).length by rw [<- zAg];exact hjl)]
    ·simp only [mu1,Int.toNat_natCast];omega
  ·have hjs:j=s.size:=by omega
   subst hjs
   rw [zEM (Nat.le_refl _),List.takeWhile_nil,List.append_nil,List.take_of_length_le (by rw [<- zAg];exact Nat.le_refl _)] at htw
   refine fin s { data:=#[49] } w10 ?_ hsz (by show 1<=_;omega) hx10 ha10 he10
   unfold dqCut
   rw [htw,if_neg (Nat.lt_irrefl _)];rfl
 intro K3 hK3
 have pos:(∀ l,bs a≠45::l)->∀ b,b=false->K3 [.bool b] wS:=by
  intro hn b hb
  refine hK3 b ?_
  rw [hb,cond_false]
  refine tail false a wS ?_ (Nat.le_refl _) hB2 hA2 he2
  unfold zAv
  split
  ·rename_i h;exact absurd h (hn _)
  ·rfl
 rw [zAw]
 refine zAa (fun hne=>?_) (fun he=>?_)
 ·have hne' : bs a≠[]:=by
   intro e
   have:decide (bs a=bs { data:=#[] })=true:=decide_eq_true e
   rw [this] at hne
   cases hne
  obtain⟨c,l,hcl⟩ : ∃ c l,bs a=c::l:=by
   cases h:bs a with
   | nil=>exact absurd h hne'
   | cons c l=>exact⟨c,l,rfl⟩
  have hlen:0<a.size:=by rw [zAg,hcl];simp
  refine⟨⟨by omega,by omega⟩,?_⟩
  have h0:(bs a).getD 0 0=c:=by rw [hcl];rfl
  show K3 [.bool (bt a ((0:Nat):Int)==45)] wS
  rw [bt_eq,h0,show ((c.toNat:Int)==45)=(c==45) from u8_beq c 45 (by omega)]
  cases hc:(c==45) with
  | false =>
   have hc' : c≠45:=by simpa using hc
   exact pos (fun l' e=>by rw [hcl] at e;exact hc' (List.cons.inj e).1) _ rfl
  | true =>
   have hc' : c=45:=by simpa using hc
   subst hc'
   refine hK3 true ?_
   rw [cond_true]
   refine⟨⟨by omega,by omega⟩,⟨⟨_,zAm (w:=wS.drew) (j:=0) hB2⟩,zBd (w:=wS.drew) (j:=0) hB2⟩,?_⟩
   have hex:bs (a.extract 1 a.size)=l:=by
    rw [zAW,rest,hcl,List.drop_succ_cons,List.drop_zero,List.take_of_length_le]
    rw [zAg,hcl];simp
   refine tail true (a.extract 1 a.size) _ ?_ ?_ (zAY (w:=wS.drew) (j:=0) hB2 _) ((zAs (w:=wS.drew) (by show w.heap.size≠xb;omega)).trans hA2) (Below.setCell (p:=⟨xb,0,none⟩) he2.drew (by show w.heap.size<=xb;omega) _)
   ·rw [hcl,hex];rfl
   ·rw [zAg,hex,zAg,hcl];simp
 ·have he' : bs a=[]:=by
   cases h:decide (bs a=bs { data:=#[] }) with
   | true=>exact of_decide_eq_true h
   | false=>rw [h] at he;cases he
  exact pos (fun l e=>by rw [he'] at e;cases e) _ rfl
end Go.Proofs.Si
