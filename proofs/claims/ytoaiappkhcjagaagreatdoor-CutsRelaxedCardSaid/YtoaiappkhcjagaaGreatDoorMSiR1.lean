/- Part of the proof: SiR1, SiR2, SiR3, SiR4. -/
import Derived.Test.YtoaiappkhcjagaaGreatDoorSiV1
import Derived.Test.YtoaiappkhcjagaaGreatDoorMV7s
set_option linter.unusedVariables false
set_option linter.unusedSimpArgs false
namespace Go.Proofs.Si
open Go Go.V Go.Proofs Go.RowKit Go.Num Go.Proofs.Tryz
open Go.IntKind (i64 u64 u32 u8)
set_option maxRecDepth 100000
theorem not_dig (c:UInt8):(!decide ((c.toNat:Int)<48)&&!decide ((c.toNat:Int)>57))=isDig c:=by
 unfold isDig
 rw [Bool.eq_iff_iff]
 simp only [Bool.and_eq_true,decide_eq_true_eq,Bool.not_eq_true',decide_eq_false_iff_not]
 omega
theorem c134 (s:BA) (hs:s.size<4611686018427387904) (w:World):Ret prog 134 #[.string s] w fun v w'=>v = .bool (!decide (bs s=[])&&(bs s).all isDig)/\w' = w:=by
 refine run134 _ _ _ ⟨fun vals w'=>∃ j:Nat,vals=[.int .i64 j]/\j<=s.size/\w' = w/\(bs s).all isDig=(rest s j).all isDig,mu1 s.size,⟨0,rfl,Nat.zero_le _,rfl,rfl⟩,?_⟩
 rintro n w1 ⟨j,hv,hj,rfl,ha⟩
 cases hv
 refine zAe (fun f=>?_) (fun g=>?_)
 ·intro K hK
  have d:j<s.size:=by omega
  rw [zD6 d,List.all_cons] at ha
  have no : ∀ b,b=true->isDig ((bs s).getD j 0)=false->K [.bool b] w1:=by
   intro b hb hd
   refine hK b ?_
   rw [hb,cond_true]
   refine⟨?_,rfl⟩
   rw [ha,hd,Bool.false_and,Bool.and_false]
  have yes : ∀ b,b=false->isDig ((bs s).getD j 0)=true->K [.bool b] w1:=by
   intro b hb hd
   refine hK b ?_
   rw [hb,cond_false,zAf (by omega)]
   rw [hd,Bool.true_and] at ha
   refine⟨⟨j+1,rfl,d,rfl,ha⟩,?_⟩
   simp only [mu1,yT];omega
  refine⟨⟨by omega,f⟩,?_⟩
  rw [bt_eq]
  have hd:=not_dig ((bs s).getD j 0)
  refine zAb (fun h1=>no _ rfl ?_) (fun h1=>⟨⟨by omega,f⟩,?_⟩)
  ·rw [<- hd,h1];rfl
  ·rw [h1] at hd
   cases h2:decide ((((bs s).getD j 0).toNat:Int)>57) with
   | true=>rw [h2] at hd;exact no _ rfl hd.symm
   | false=>rw [h2] at hd;exact yes _ rfl hd.symm
 ·rw [zEt (by omega)] at ha
  refine⟨?_,rfl⟩
  rw [zAt,ha,List.all_nil,Bool.and_true]
  rfl
theorem c135 (s:BA) (w:World):Ret prog 135 #[.string s] w fun v w'=>(∃ t,v = .string t/\bs t=trimL (bs s))/\w' = w:=by
 refine run135 _ _ _ ⟨fun vals w'=>∃ t:BA,vals=[.string t]/\w' = w/\trimL (bs s)=trimL (bs t),mu2,⟨s,rfl,rfl,rfl⟩,?_⟩
 rintro t w1 ⟨t',hv,rfl,ht⟩
 cases hv
 intro K hK
 have stop:trimL (bs t)=bs t->∀ b,b=false->K [.bool b] w1:=by
  intro h b hb
  refine hK b ?_
  rw [hb,cond_false]
  exact⟨⟨t,rfl,by rw [ht,h]⟩,rfl⟩
 refine zAe (fun k=>⟨⟨by omega,by omega⟩,?_⟩) (fun j=>stop ?_ _ rfl)
 ·have i:1<(bs t).length:=by rw [<- zAc];omega
  obtain⟨c,d,l,f⟩ : ∃ c d l,bs t=c::d::l:=by
   match h:bs t,i with
   | c::d::l,_=>exact⟨c,d,l,rfl⟩
  have h0:(bs t).getD 0 0=c:=by rw [f];rfl
  show K [.bool (bt t ((0:Nat):Int)==48)] w1
  rw [bt_eq,h0,show ((c.toNat:Int)==48)=(c==48) from u8_beq c 48 (by omega)]
  cases hc:(c==48) with
  | true =>
   have g:c=48:=by simpa using hc
   subst g
   refine hK true ?_
   have he:bs (t.extract 1 t.size)=d::l:=by
    rw [zAV,rest,f,List.drop_succ_cons,List.drop_zero,List.take_of_length_le]
    rw [zAc,f];simp
   refine⟨⟨by omega,by omega⟩,⟨_,rfl,rfl,?_⟩,?_⟩
   ·rw [ht,f,zFw,he]
   ·show (t.extract 1 t.size).size<t.size
    rw [zAc,he,zAc,f];simp
  | false =>
   have g:c≠48:=by simpa using hc
   exact stop (by rw [f,zEJ g]) _ rfl
 ·have i:(bs t).length<=1:=by rw [<- zAc];omega
  match h:bs t,i with
  | [],_=>exact trimL_nil
  | [c],_=>exact trimL_one c
theorem less_val : ∀ {a b:List UInt8},a.length=b.length->a.all isDig=true->b.all isDig=true->Op.bytesLess a b=decide (val a<val b)
 | [],[],_,_,_=>by simp [Op.bytesLess]
 | c::a,d::b,hl,ha,hb=>by
  rw [List.all_cons,Bool.and_eq_true] at ha hb
  have hl' : a.length=b.length:=by simpa using hl
  have ih:=less_val hl' ha.2 hb.2
  have h1:=zDd ha.2
  have h2:=zDd hb.2
  rw [Op.bytesLess,ih,zCk,zCk,Bool.eq_iff_iff,Bool.or_eq_true,Bool.and_eq_true,decide_eq_true_eq,decide_eq_true_eq,decide_eq_true_eq,beq_iff_eq]
  rw [hl'] at h1 ⊢
  obtain⟨c1,c2⟩:=zBq ha.1
  obtain⟨d1,d2⟩:=zBq hb.1
  have g:c<d↔dv c<dv d:=by
   show c.toNat<d.toNat↔_
   unfold dv;omega
  have f:c=d↔dv c=dv d:=by
   rw [<- UInt8.toNat_inj]
   unfold dv;omega
  rw [g,f]
  generalize dv c=x
  generalize dv d=y
  generalize 10 ^ b.length=P at *
  constructor
  ·rintro (h | ⟨rfl,h⟩)
   ·have:(x+1)*P<=y*P:=Nat.mul_le_mul_right _ h
    rw [Nat.add_mul,Nat.one_mul] at this
    omega
   ·omega
  ·intro h
   rcases Nat.lt_trichotomy x y with hx | hx | hx
   ·exact .inl hx
   ·subst hx;exact .inr ⟨rfl,by omega⟩
   ·have:(y+1)*P<=x*P:=Nat.mul_le_mul_right _ hx
    rw [Nat.add_mul,Nat.one_mul] at this
    omega
def cmpN (m n:Nat):Int:=if m<n then -1 else if m=n then 0 else 1
theorem c109 {a b:BA} {m n:Nat} (ha:bs a=dec m) (hb:bs b=dec n) (w:World):Ret prog 109 #[.string a,.string b] w fun v w'=>v = .int .i64 (cmpN m n)/\w' = w:=by
 have i:a.size=(dec m).length:=by rw [zAc,ha]
 have j:b.size=(dec n).length:=by rw [zAc,hb]
 have f:0<(dec m).length:=List.length_pos_iff.2 (zBa m)
 have g:0<(dec n).length:=List.length_pos_iff.2 (zBa n)
 have less:(decide ((a.size:Int)<(b.size:Int))||((a.size:Int)==(b.size:Int)&&Op.bytesLess a.toList b.toList))=decide (m<n):=by
  rw [Lib.toList_data,Lib.toList_data]
  show (_||(_&&Op.bytesLess (bs a) (bs b)))=_
  rw [ha,hb,i,j]
  rcases Nat.lt_trichotomy (dec m).length (dec n).length with h | h | h
  ·have h1:=zBh m
   have h2 : ¬ (dec n).length<=(dec m).length:=by omega
   rw [zA8 f] at h2
   rw [decide_eq_true (by omega),Bool.true_or,decide_eq_true (by omega)]
  ·rw [decide_eq_false (by omega),Bool.false_or,less_val h (zAC m) (zAC n),zAH,zAH]
   have:(((dec m).length:Int)==((dec n).length:Int))=true:=by rw [beq_iff_eq];omega
   rw [this,Bool.true_and]
  ·have h1:=zBh n
   have h2 : ¬ (dec m).length<=(dec n).length:=by omega
   rw [zA8 g] at h2
   have:(((dec m).length:Int)==((dec n).length:Int))=false:=by rw [beq_eq_false_iff_ne];omega
   rw [decide_eq_false (by omega),this,Bool.false_or,Bool.false_and,decide_eq_false (by omega)]
 have d : ∀ b1,b1=decide (m<n)->(bif b1 then Value.int .i64 (-1) = .int .i64 (cmpN m n)/\w=w else bif a.toList==b.toList then Value.int .i64 0 = .int .i64 (cmpN m n)/\w=w else Value.int .i64 1 = .int .i64 (cmpN m n)/\w=w):=by
  intro b1 h1
  subst h1
  refine zAe (fun h=>⟨by rw [cmpN,if_pos h],rfl⟩) (fun h=>?_)
  rw [zAt,ha,hb]
  refine zAe (fun h2=>⟨?_,rfl⟩) (fun h2=>⟨?_,rfl⟩)
  ·rw [cmpN,if_neg h,if_pos (zCy h2)]
  ·rw [cmpN,if_neg h,if_neg (fun e=>h2 (by rw [e]))]
 refine run109 _ _ _ _ fun K hK=>zAb (fun h=>hK true (d true ?_)) (fun h=>hK _ (d _ ?_))
 ·rw [<- less,h,Bool.true_or]
 ·rw [<- less,h,Bool.false_or]
theorem zFP (d:Nat) (hd:d<10) (D:List UInt8):val (digOf d::D)=d*10 ^ D.length+val D:=by rw [zCk,zDa hd]
theorem zEv (m i:Nat):m % 10 ^ (i+1)=m / 10 ^ i % 10*10 ^ i+m % 10 ^ i:=by
 rw [Nat.pow_succ,Nat.mod_mul,Nat.mul_comm (10 ^ i)];omega
theorem zFQ {d:Nat} (h:d<10):Value.int .u8 (u8.wrap (i64.wrap (48+(d:Int))))=u8v (digOf d):=by
 rw [zAd (by omega) (by omega),u8v,zCe h]
 congr 1
 show (48+(d:Int)) % 256=_
 omega
theorem zE4 {s:BA} {m i:Nat} (hs:bs s=dec m) (hi:i<s.size) : ∀ j:Int,j=((s.size - 1 - i:Nat):Int)->i64.wrap (u8.wrap (bt s j - 48))=((m / 10 ^ i % 10:Nat):Int):=by
 rintro j rfl
 have hz:s.size=(dec m).length:=by rw [zAc,hs]
 have h1:=dec_digit i m (by omega)
 have h2:=zB5 (n:=m) (k:=s.size - 1 - i) (by omega)
 rw [bt_eq,hs]
 rw [hz] at h2 ⊢
 obtain⟨h3,h4⟩:=zBq h2
 rw [<- h1]
 have e1:u8.wrap ((((dec m).getD ((dec m).length - 1 - i) 0).toNat:Int) - 48)=((dv ((dec m).getD ((dec m).length - 1 - i) 0):Nat):Int):=by
  show ((((dec m).getD ((dec m).length - 1 - i) 0).toNat:Int) - 48) % 256=_
  unfold dv
  omega
 rw [e1,zAd (by omega) (by have:=dv_lt h2;omega)]
theorem size5 (n:Nat):(n*siE.P.types[5].size)=n:=Nat.mul_one n
theorem zEN (n:Nat) (D:List UInt8) (c:UInt8):(List.replicate (n+1) (0:UInt8)++D).set n c=List.replicate n 0++c::D:=by
 rw [List.replicate_succ',List.append_assoc,List.set_append_right _ _ (by simp)]
 simp
theorem c108 {a b:BA} {m n:Nat} (ha:bs a=dec m) (hb:bs b=dec n) (hz:a.size<=1099511627776/\b.size<=1099511627776) (w:World) :
  Ret prog 108 #[.string a,.string b] w fun v w'=>(∃ t,v = .string t/\bs t=dec (m+n))/\Ext w w':=by
 obtain⟨N,hN⟩ : ∃ N,N=max a.size b.size:=⟨_,rfl⟩
 have d1:a.size=(dec m).length:=by rw [zAc,ha]
 have d2:b.size=(dec n).length:=by rw [zAc,hb]
 have eN:i64.wrap ((if (b.size:Int)>(a.size:Int) then (b.size:Int) else (a.size:Int))+1)=((N+1:Nat):Int):=by
  rw [zAd (by split <;> omega) (by split <;> omega)]
  split <;> omega
 have b7:m<10 ^ N:=Nat.lt_of_lt_of_le (zBh m) (Nat.pow_le_pow_right (by omega) (by omega))
 have b8:n<10 ^ N:=Nat.lt_of_lt_of_le (zBh n) (Nat.pow_le_pow_right (by omega) (by omega))
 refine run108 _ _ _ _ ?_
 unfold vc108
 rw [eN,yT,size5,zCZ]
 have a7:BytesIn (w.alloc (.cells ((List.replicate (N+1) (0:UInt8)).map u8v).toArray 5)) w.heap.size (List.replicate (N+1) 0):=heap_alloc_new w _
 have b0:=(yE w).alloc (.cells ((List.replicate (N+1) (0:UInt8)).map u8v).toArray 5)
 refine⟨⟨by omega,by omega,by omega,by omega⟩,fun vals w1=>∃ (i c:Nat) (D:List UInt8),vals=[.int .i64 i,.int .i64 c]/\i<=N+1/\c<=1/\D.length=i/\D.all isDig=true/\val D+c*10 ^ i=m % 10 ^ i+n % 10 ^ i /\
   BytesIn w1 w.heap.size (List.replicate (N+1 - i) 0++D)/\Ext w w1,mu1 (N+1),
  ⟨0,0,[],rfl,Nat.zero_le _,Nat.zero_le _,rfl,rfl,by simp [zC6,Nat.mod_one],by simpa using a7,b0⟩,?_⟩
 rintro k k1 w1 ⟨i,c,D,hv,hi,hc,f,x,d,j,a4⟩
 cases hv
 refine zAe (fun b6=>?_) (fun b5=>?_)
 ·intro K hK
  have b1:i<N+1:=by omega
  have fin:K [.int .i64 ((c+m / 10 ^ i % 10:Nat):Int)] w1:=by
   refine hK _ fun K1 a1=>?_
   have g:K1 [.int .i64 ((c+m / 10 ^ i % 10+n / 10 ^ i % 10:Nat):Int)] w1:=by
    refine a1 _ ?_
    have a3:=Nat.mod_lt (m / 10 ^ i) (by omega:10>0)
    have a9:=Nat.mod_lt (n / 10 ^ i) (by omega:10>0)
    generalize hs:c+m / 10 ^ i % 10+n / 10 ^ i % 10=s at a1 ⊢
    have d0:s<=19:=by omega
    have eidx:i64.wrap (i64.wrap (((N+1:Nat):Int) - 1) - (i:Int))=((N - i:Nat):Int):=by
     rw [zAd (n:=((N+1:Nat):Int) - 1) (by omega) (by omega),zAd (by omega) (by omega)];omega
    rw [eidx]
    have etm:(s:Int).tmod 10=((s % 10:Nat):Int):=by rw [Int.tmod_eq_emod_of_nonneg (by omega)];omega
    have etd:(s:Int).tdiv 10=((s / 10:Nat):Int):=by rw [Int.tdiv_eq_ediv_of_nonneg (by omega)];omega
    have u:s % 10<10:=Nat.mod_lt _ (by omega)
    rw [etm,etd,zAd (n:=((s / 10:Nat):Int)) (by omega) (by omega),zAf (by omega),zFQ u]
    have l:(⟨w.heap.size,0,none⟩:Addr).add (((N - i:Nat):Int).toNat*1)=⟨w.heap.size,N - i,none⟩:=by rw [yT,Nat.mul_one,zAi,Nat.zero_add]
    have o : ∃ v,w1.cell? ⟨w.heap.size,N - i,none⟩=some v:=by
     refine⟨_,j.cell (List.getElem?_eq_getElem ?_)⟩
     rw [List.length_append,List.length_replicate,f];omega
    refine⟨_,rfl,⟨by omega,by omega⟩,by rw [l];exact⟨o,zBc j⟩,?_⟩
    rw [l]
    refine⟨⟨i+1,s / 10,digOf (s % 10)::D,rfl,b1,by omega,by simp [f],?_,?_,?_,Below.setCell (p:=⟨w.heap.size,_,none⟩) a4 yL _⟩,?_⟩
    ·rw [List.all_cons,zBw u,x];rfl
    ·rw [zFP _ u,f,zEv m,zEv n,Nat.pow_succ]
     have e3:(s % 10)*10 ^ i+s / 10*(10 ^ i*10)=s*10 ^ i:=by
      rw [<- Nat.mul_assoc,Nat.mul_right_comm,<- Nat.add_mul]
      congr 1
      omega
     have e4:s*10 ^ i=c*10 ^ i+m / 10 ^ i % 10*10 ^ i+n / 10 ^ i % 10*10 ^ i:=by rw [<- hs,Nat.add_mul,Nat.add_mul]
     omega
    ·have:=j.set (N - i) (digOf (s % 10))
     rw [show N+1 - i=(N - i)+1 by omega,zEN] at this
     rw [show N+1 - (i+1)=N - i by omega]
     exact this
    ·simp only [mu1,yT];omega
   refine zAe (fun a6=>?_) (fun a5=>?_)
   ·have b4:i<b.size:=by omega
    have eidx:i64.wrap (i64.wrap ((b.size:Int) - 1) - (i:Int))=((b.size - 1 - i:Nat):Int):=by
     rw [zAd (n:=(b.size:Int) - 1) (by omega) (by omega),zAd (by omega) (by omega)];omega
    rw [eidx,zE4 hb b4 _ rfl]
    have a3:=Nat.mod_lt (m / 10 ^ i) (by omega:10>0)
    have a9:=Nat.mod_lt (n / 10 ^ i) (by omega:10>0)
    rw [zAd (by omega) (by omega)]
    refine⟨⟨by omega,by omega⟩,?_⟩
    have:=g
    rw [Int.natCast_add (c+m / 10 ^ i % 10)] at this
    exact this
   ·have h0:n / 10 ^ i=0:=zCS (by omega)
    rw [h0] at g
    exact g
  refine zAe (fun a6=>?_) (fun a5=>?_)
  ·have b3:i<a.size:=by omega
   have eidx:i64.wrap (i64.wrap ((a.size:Int) - 1) - (i:Int))=((a.size - 1 - i:Nat):Int):=by
    rw [zAd (n:=(a.size:Int) - 1) (by omega) (by omega),zAd (by omega) (by omega)];omega
   rw [eidx,zE4 ha b3 _ rfl]
   have a3:=Nat.mod_lt (m / 10 ^ i) (by omega:10>0)
   rw [zAd (by omega) (by omega)]
   refine⟨⟨by omega,by omega⟩,?_⟩
   have:=fin
   rw [Int.natCast_add c] at this
   exact this
  ·have h0:m / 10 ^ i=0:=zCS (by omega)
   rw [h0] at fin
   exact fin
 ·have b2:i=N+1:=by omega
  subst b2
  rw [Nat.sub_self,List.replicate_zero,List.nil_append] at j
  have hp:10 ^ N<=10 ^ (N+1):=Nat.pow_le_pow_right (by omega) (by omega)
  have b9:10 ^ (N+1)=10*10 ^ N:=by rw [Nat.pow_succ,Nat.mul_comm]
  rw [Nat.mod_eq_of_lt (by omega:m<10 ^ (N+1)),Nat.mod_eq_of_lt (by omega:n<10 ^ (N+1))] at d
  have a8:c=0:=by
   rcases Nat.eq_zero_or_pos c with h | h
   ·exact h
   ·have:c=1:=by omega
    subst this
    rw [Nat.one_mul] at d
    omega
  rw [a8,Nat.zero_mul,Nat.add_zero] at d
  have a0:D≠[]:=fun e=>by rw [e] at f;simp at f
  have a2:=j.at
  rw [f] at a2
  refine⟨D,a2,yC (c135 _ w1) ?_⟩
  rintro v w2 ⟨⟨t,rfl,ht⟩,rfl⟩
  refine⟨t,rfl,⟨t,rfl,?_⟩,a4⟩
  rw [ht]
  show trimL (bs (mk D))=_
  rw [bs_mk,zBk a0 x,d]
theorem zAu {m n:Nat} (h:n<=m):(dec n).length<=(dec m).length:=by
 have hp:0<(dec m).length:=List.length_pos_iff.2 (zBa m)
 rw [zA8 hp]
 exact Nat.lt_of_le_of_lt h (zBh m)
theorem c110 {a b:BA} {m n:Nat} (ha:bs a=dec m) (hb:bs b=dec n) (hnm:n<=m) (hz:a.size<=1099511627776) (w:World) :
  Ret prog 110 #[.string a,.string b] w fun v w'=>(∃ t,v = .string t/\bs t=dec (m - n))/\Ext w w':=by
 have a0:a.size=(dec m).length:=by rw [zAc,ha]
 have b7:b.size=(dec n).length:=by rw [zAc,hb]
 have d2:b.size<=a.size:=by rw [a0,b7];exact zAu hnm
 have d1:0<a.size:=by rw [a0];exact List.length_pos_iff.2 (zBa m)
 have a5:m<10 ^ a.size:=by rw [a0];exact zBh m
 refine run110 _ _ _ _ ?_
 unfold vc110
 rw [yT,size5,zCZ]
 have a8:BytesIn (w.alloc (.cells ((List.replicate a.size (0:UInt8)).map u8v).toArray 5)) w.heap.size (List.replicate a.size 0):=heap_alloc_new w _
 have b3:=(yE w).alloc (.cells ((List.replicate a.size (0:UInt8)).map u8v).toArray 5)
 refine⟨⟨by omega,by omega,by omega,by omega⟩,fun vals w1=>∃ (i c:Nat) (D:List UInt8),vals=[.int .i64 i,.int .i64 c]/\i<=a.size/\c<=1/\D.length=i/\D.all isDig=true/\m % 10 ^ i+c*10 ^ i=val D+n % 10 ^ i /\
   BytesIn w1 w.heap.size (List.replicate (a.size - i) 0++D)/\Ext w w1,mu1 a.size,
  ⟨0,0,[],rfl,Nat.zero_le _,Nat.zero_le _,rfl,rfl,by simp [zC6,Nat.mod_one],by simpa using a8,b3⟩,?_⟩
 rintro k k1 w1 ⟨i,c,D,hv,hi,hc,f,u,j,g,a3⟩
 cases hv
 refine zAe (fun d4=>?_) (fun d3=>?_)
 ·have a4:i<a.size:=by omega
  have eidx:i64.wrap (i64.wrap ((a.size:Int) - 1) - (i:Int))=((a.size - 1 - i:Nat):Int):=by
   rw [zAd (n:=(a.size:Int) - 1) (by omega) (by omega),zAd (by omega) (by omega)];omega
  rw [eidx,zE4 ha a4 _ rfl]
  have b1:=Nat.mod_lt (m / 10 ^ i) (by omega:10>0)
  have b2:=Nat.mod_lt (n / 10 ^ i) (by omega:10>0)
  generalize hda:m / 10 ^ i % 10=da at b1 ⊢
  generalize hdb:n / 10 ^ i % 10=db at b2
  rw [zAd (n:=(da:Int) - (c:Int)) (by omega) (by omega)]
  refine⟨⟨by omega,by omega⟩,fun K hK=>?_⟩
  have fin:K [.int .i64 ((da:Int) - c - db)] w1:=by
   refine hK _ fun K1 a7=>?_
   have l : ∀ (c' d:Nat),c'<=1->d<10->(da:Int) - c - db+10*c' = d->K1 [.int .i64 c',.int .i64 d] w1:=by
    intro c' d a9 hd he
    refine a7 _ _ ?_
    rw [zAf (by omega),zFQ hd]
    have o:(⟨w.heap.size,0,none⟩:Addr).add (((a.size - 1 - i:Nat):Int).toNat*1)=⟨w.heap.size,a.size - 1 - i,none⟩:=by rw [yT,Nat.mul_one,zAi,Nat.zero_add]
    have x : ∃ v,w1.cell? ⟨w.heap.size,a.size - 1 - i,none⟩=some v:=by
     refine⟨_,g.cell (List.getElem?_eq_getElem ?_)⟩
     rw [List.length_append,List.length_replicate,f];omega
    refine⟨_,rfl,⟨by omega,by omega⟩,by rw [o];exact⟨x,zBc g⟩,?_⟩
    rw [o]
    refine⟨⟨i+1,c',digOf d::D,rfl,a4,a9,by simp [f],?_,?_,?_,Below.setCell (p:=⟨w.heap.size,_,none⟩) a3 yL _⟩,?_⟩
    ·rw [List.all_cons,zBw hd,u];rfl
    ·rw [zFP _ hd,f,zEv m,zEv n,hda,hdb,Nat.pow_succ]
     have e3:da+10*c' = d+c+db:=by omega
     have e4:(da+10*c')*10 ^ i=(d+c+db)*10 ^ i:=by rw [e3]
     rw [Nat.add_mul,Nat.add_mul,Nat.add_mul] at e4
     have e5:c' * (10 ^ i*10)=10*c' * 10 ^ i:=by rw [Nat.mul_comm (10 ^ i),<- Nat.mul_assoc,Nat.mul_comm c']
     omega
    ·have:=g.set (a.size - 1 - i) (digOf d)
     rw [show a.size - i=(a.size - 1 - i)+1 by omega,zEN] at this
     rw [show a.size - (i+1)=a.size - 1 - i by omega]
     exact this
    ·simp only [mu1,yT];omega
   refine zAe (fun d0=>?_) (fun b6=>?_)
   ·rw [zAd (by omega) (by omega)]
    obtain⟨d,hd⟩ : ∃ d:Nat,(da:Int) - c - db+10=d:=⟨((da:Int) - c - db+10).toNat,by omega⟩
    rw [hd]
    exact l 1 d yL (by omega) (by omega)
   ·obtain⟨d,hd⟩ : ∃ d:Nat,(da:Int) - c - db=d:=⟨((da:Int) - c - db).toNat,by omega⟩
    rw [hd]
    exact l 0 d (by omega) (by omega) (by omega)
  refine zAe (fun b9=>?_) (fun b8=>?_)
  ·have b5:i<b.size:=by omega
   have eidx:i64.wrap (i64.wrap ((b.size:Int) - 1) - (i:Int))=((b.size - 1 - i:Nat):Int):=by
    rw [zAd (n:=(b.size:Int) - 1) (by omega) (by omega),zAd (by omega) (by omega)];omega
   rw [eidx,zE4 hb b5 _ rfl,hdb,zAd (by omega) (by omega)]
   exact⟨⟨by omega,by omega⟩,fin⟩
  ·have h0:n / 10 ^ i=0:=zCS (by omega)
   have a2:db=0:=by rw [<- hdb,h0]
   have:=fin
   rw [a2] at this
   rw [show (da:Int) - c=(da:Int) - c - ((0:Nat):Int) by omega]
   exact this
 ·have b4:i=a.size:=by omega
  subst b4
  rw [Nat.sub_self,List.replicate_zero,List.nil_append] at g
  rw [Nat.mod_eq_of_lt a5,Nat.mod_eq_of_lt (Nat.lt_of_le_of_lt hnm a5)] at j
  have a6:=zDd u
  rw [f] at a6
  have b0:c=0:=by
   rcases Nat.eq_zero_or_pos c with h | h
   ·exact h
   ·have:c=1:=by omega
    subst this
    rw [Nat.one_mul] at j
    omega
  rw [b0,Nat.zero_mul,Nat.add_zero] at j
  have a1:D≠[]:=fun e=>by rw [e] at f;simp at f;omega
  have s:=g.at
  rw [f] at s
  refine⟨D,s,yC (c135 _ w1) ?_⟩
  rintro v w2 ⟨⟨t,rfl,ht⟩,rfl⟩
  refine⟨t,rfl,⟨t,rfl,?_⟩,a3⟩
  rw [ht]
  show trimL (bs (mk D))=_
  rw [bs_mk,zBk a1 u]
  congr 1
  omega
theorem extract_one {s:BA} {j:Nat} (h:j<s.size):bs (s.extract j (j+1))=[(bs s).getD j 0]:=by
 rw [zAV,zD6 h,show j+1 - j=1 by omega];rfl
theorem zBA {l:List UInt8} {i:Nat} (h:i<l.length):val (l.take (i+1))=10*val (l.take i)+dv (l.getD i 0):=by
 rw [List.take_add_one,List.getElem?_eq_getElem h,Option.toList_some,zCU]
 simp [List.getD,List.getElem?_eq_getElem h]
theorem zFs (l:List UInt8) (z:Nat) (c:UInt8):(l++List.replicate (z+1) (0:UInt8)).set l.length c=(l++[c])++List.replicate z 0:=by
 rw [List.set_append_right _ _ yL,Nat.sub_self,List.replicate_succ]
 simp
def muV:List Value->World->Nat
 | _ :: .string s::_,_=>val (bs s)
 | _,_=>0
theorem c137 {a b:BA} {m n:Nat} (ha:bs a=dec m) (hb:bs b=dec n) (hn:0<n) (hz:a.size<=1073741824/\b.size<=1073741824) (w:World) :
  Ret prog 137 #[.string a,.string b] w fun v w'=>(∃ q r,v = .tuple #[.string q,.string r]/\bs q=dec (m / n)/\bs r=dec (m % n))/\Ext w w':=by
 have d2:a.size=(dec m).length:=by rw [zAc,ha]
 have d3:b.size=(dec n).length:=by rw [zAc,hb]
 have d4:0<a.size:=by rw [d2];exact List.length_pos_iff.2 (zBa m)
 refine run137 _ _ _ _ ?_
 unfold vc137
 rw [yT,size5,zCZ]
 have b5:BytesIn (w.alloc (.cells ((List.replicate a.size (0:UInt8)).map u8v).toArray 5)) w.heap.size (List.replicate a.size 0):=heap_alloc_new w _
 have b6:=(yE w).alloc (.cells ((List.replicate a.size (0:UInt8)).map u8v).toArray 5)
 refine⟨⟨by omega,by omega,by omega,by omega⟩,fun vals w1=>∃ (i:Nat) (r:BA) (Q:List UInt8),vals=[.int .i64 i,.string r]/\i<=a.size/\Q.length=i/\Q.all isDig=true/\val Q=val ((dec m).take i) / n/\bs r=dec (val ((dec m).take i) % n) /\
   BytesIn w1 w.heap.size (Q++List.replicate (a.size - i) 0)/\Ext w w1,mu1 a.size,
  ⟨0,_,[],rfl,Nat.zero_le _,rfl,rfl,by simp [zC6],by simp [zC6,zAQ];rfl,by simpa using b5,b6⟩,?_⟩
 rintro k r w1 ⟨i,r',Q,hv,hi,d,a5,hQ,hr,a0,a7⟩
 cases hv
 refine zAe (fun d8=>?_) (fun d7=>?_)
 ·have a9:i<a.size:=by omega
  rw [zAf (by omega),yT,yT]
  have hx:=extract_one a9
  have e2:(a.extract i (i+1)).size=1:=by rw [zAc,hx];rfl
  have d9:r.size<=b.size:=by
   rw [zAc,hr,d3]
   exact zAu (Nat.le_of_lt (Nat.mod_lt _ hn))
  refine⟨⟨by omega,by omega,by omega⟩,by omega,yC (c135 _ w1) ?_⟩
  rintro v w2 ⟨⟨s1,rfl,d0⟩,rfl⟩
  have o:isDig ((bs a).getD i 0)=true:=by rw [ha];exact zB5 (by omega)
  have d6:=dv_lt o
  have x:bs s1=dec (10*(val ((dec m).take i) % n)+dv ((bs a).getD i 0)):=by
   rw [d0,zAN,hr,hx,zBk (by simp) (by rw [List.all_append,zAC];simpa using o),zCU,zAH]
  generalize hR:10*(val ((dec m).take i) % n)+dv ((bs a).getD i 0)=R at x
  have d5:R<10*n:=by have:=Nat.mod_lt (val ((dec m).take i)) hn;omega
  have hP:val ((dec m).take (i+1))=10*val ((dec m).take i)+dv ((bs a).getD i 0):=by rw [zBA (by omega),ha]
  have a4:val ((dec m).take (i+1)) / n=10*(val ((dec m).take i) / n)+R / n/\val ((dec m).take (i+1)) % n=R % n:=by
   have e1:val ((dec m).take (i+1))=n*(10*(val ((dec m).take i) / n))+R:=by
    have h1:=Nat.div_add_mod (val ((dec m).take i)) n
    have h2:n*(10*(val ((dec m).take i) / n))=10*(n*(val ((dec m).take i) / n)):=Nat.mul_left_comm _ _ _
    omega
   rw [e1,Nat.mul_add_div hn,Nat.mul_add_mod]
   exact⟨rfl,rfl⟩
  refine⟨s1,rfl,fun vals w3=>∃ (t:Nat) (s:BA),vals=[.int .u8 ((48+t:Nat):Int),.string s]/\t*n<=R/\bs s=dec (R - t*n)/\Ext w2 w3,muV,⟨0,s1,rfl,by omega,by simpa using x,yE _⟩,?_⟩
  rintro n1 s2 w3 ⟨t,e3,d1,e0,g,a2⟩
  cases d1
  have a3:t<10:=by
   rcases Nat.lt_or_ge t 10 with h | h
   ·exact h
   ·have:10*n<=t*n:=Nat.mul_le_mul_right _ h
    omega
  refine yC (c109 g hb w3) ?_
  rintro v w4 ⟨rfl,rfl⟩
  refine⟨_,rfl,zAe (fun a8=>?_) (fun b0=>?_)⟩
  ·have b9:n<=R - t*n:=by
    rcases Nat.lt_or_ge (R - t*n) n with h | h
    ·rw [cmpN,if_pos h] at a8;omega
    ·exact h
   have b1:s2.size<=1099511627776:=by
    rw [zAc,g]
    have h1:=zAu (m:=10*n) (n:=R - t*n) (by omega)
    have h2:(dec (10*n)).length<=(dec n).length+1:=by
     rw [zA8 (by omega),Nat.pow_succ]
     have:=zBh n
     omega
    omega
   refine yC (c110 g hb b9 b1 w4) ?_
   rintro v w5 ⟨⟨s3,rfl,b2⟩,b7⟩
   have e1:u8.wrap (((48+t:Nat):Int)+1)=((48+(t+1):Nat):Int):=by
    show (((48+t:Nat):Int)+1) % 256=_
    omega
   have b3:(t+1)*n<=R:=by rw [Nat.add_mul];omega
   rw [e1]
   refine⟨s3,rfl,⟨t+1,s3,rfl,b3,?_,a2.trans b7⟩,?_⟩
   ·rw [b2,Nat.add_mul];congr 1;omega
   ·show val (bs s3)<val (bs s2)
    rw [b2,g,zAH,zAH];omega
  ·have u:R - t*n<n:=by
    rcases Nat.lt_or_ge (R - t*n) n with h | h
    ·exact h
    ·exfalso
     apply b0
     rw [cmpN,if_neg (by omega)]
     split <;> omega
   have b4:R / n=t/\R % n=R - t*n:=by
    have e:R=n*t+(R - t*n):=by rw [Nat.mul_comm];omega
    constructor
    ·rw [e,Nat.mul_add_div hn,Nat.div_eq_of_lt u,Nat.add_zero]
    ·conv=>lhs;rw [e]
     rw [Nat.mul_add_mod,Nat.mod_eq_of_lt u]
   have f:=a0.ext a2
   have j:(⟨w.heap.size,0,none⟩:Addr).add (i*1)=⟨w.heap.size,i,none⟩:=by rw [Nat.mul_one,zAi,Nat.zero_add]
   have a1 : ∃ v,w4.cell? ⟨w.heap.size,i,none⟩=some v:=by
    refine⟨_,f.cell (List.getElem?_eq_getElem ?_)⟩
    rw [List.length_append,List.length_replicate,d];omega
   refine⟨_,rfl,⟨by omega,by omega⟩,by rw [j];exact⟨a1,zBc f⟩,?_⟩
   have hu:Value.int .u8 ((48+t:Nat):Int)=u8v (digOf t):=by rw [u8v,zCe a3]
   rw [j,hu]
   refine⟨⟨i+1,s2,Q++[digOf t],rfl,a9,by simp [d],?_,?_,?_,?_,Below.setCell (p:=⟨w.heap.size,_,none⟩) (a7.trans a2) yL _⟩,?_⟩
   ·rw [List.all_append,a5];simp [zBw a3]
   ·rw [zCU,hQ,zDa a3,a4.1,b4.1]
   ·rw [a4.2,b4.2];exact g
   ·have:=f.set i (digOf t)
    rw [show a.size - i=(a.size - (i+1))+1 by omega] at this
    have h2:=zFs Q (a.size - (i+1)) (digOf t)
    rw [d] at h2
    rw [h2] at this
    exact this
   ·simp only [mu1,yT];omega
 ·have b8:i=a.size:=by omega
  subst b8
  rw [Nat.sub_self,List.replicate_zero,List.append_nil] at a0
  rw [List.take_of_length_le (by omega),zAH] at hQ hr
  have a6:Q≠[]:=fun e=>by rw [e] at d;simp at d;omega
  have l:=a0.at
  rw [d] at l
  refine⟨Q,l,yC (c135 _ w1) ?_⟩
  rintro v w2 ⟨⟨t,rfl,ht⟩,rfl⟩
  refine⟨t,rfl,⟨t,r,rfl,?_,hr⟩,a7⟩
  rw [ht]
  show trimL (bs (mk Q))=_
  rw [bs_mk,zBk a6 a5,hQ]
theorem zDr {n:Nat} : dec n=[48]↔n=0:=by
 rw [<- zAQ]
 exact⟨zCy,fun h=>by rw [h]⟩
theorem c136 {a b:BA} {m n:Nat} (ha:bs a=dec m) (hb:bs b=dec n) (hz:a.size<=1073741824/\b.size<=1073741824) (w:World) :
  Ret prog 136 #[.string a,.string b] w fun v w'=>(∃ t,v = .string t/\bs t=dec (Nat.gcd m n))/\Ext w w':=by
 refine run136 _ _ _ _ ⟨fun vals w'=>∃ (s t:BA) (x y:Nat),vals=[.string s,.string t]/\bs s=dec x/\bs t=dec y/\Nat.gcd x y=Nat.gcd m n/\s.size<=1073741824/\t.size<=1073741824/\Ext w w',muV,
  ⟨a,b,m,n,rfl,ha,hb,rfl,hz.1,hz.2,yE _⟩,?_⟩
 rintro s t w1 ⟨s',t',x,y,hv,hs,ht,hg,k,i,f⟩
 cases hv
 rw [zAt,ht]
 cases hy:decide (dec y=bs { data:=#[48] }) with
 | false =>
  have d:0<y:=by
   rcases Nat.eq_zero_or_pos y with h | h
   ·subst h;rw [decide_eq_false_iff_not] at hy;exact absurd zAQ hy
   ·exact h
  refine yC (c137 hs ht d ⟨k,i⟩ w1) ?_
  rintro v w2 ⟨⟨q,r,rfl,-,hr⟩,j⟩
  have g:=Nat.mod_lt x d
  refine⟨q,r,rfl,⟨t,r,y,x % y,rfl,ht,hr,?_,i,?_,f.trans j⟩,?_⟩
  ·rw [<- hg,Nat.gcd_comm x y,Nat.gcd_rec y x,Nat.gcd_comm]
  ·rw [zAc,hr]
   have:=zAu (Nat.le_of_lt g)
   have h2:t.size=(dec y).length:=by rw [zAc,ht]
   omega
  ·show val (bs r)<val (bs t)
   rw [hr,ht,zAH,zAH];exact g
 | true =>
  have d:y=0:=zDr.1 (of_decide_eq_true hy)
  subst d
  rw [Nat.gcd_zero_right] at hg
  exact⟨⟨s,rfl,by rw [hs,hg]⟩,f⟩
def valN (l:List Nat):Nat:=l.foldl (fun a x=>10*a+x) 0
theorem foldlN : ∀ (l:List Nat) (n:Nat),l.foldl (fun a x=>10*a+x) n=n*10 ^ l.length+valN l
 | [],n=>by simp [valN]
 | c::l,n=>by
  have h1:=foldlN l (10*n+c)
  have h2:=foldlN l (10*0+c)
  unfold valN
  rw [List.foldl_cons,List.foldl_cons,h1,h2,List.length_cons,Nat.pow_succ,Nat.add_mul,Nat.mul_zero,Nat.zero_add,Nat.mul_comm 10 n,Nat.mul_assoc,Nat.mul_comm 10,Nat.add_assoc]
theorem zBX (x:Nat) (l:List Nat):valN (x::l)=x*10 ^ l.length+valN l:=by
 have:=foldlN l (10*0+x)
 rw [Nat.mul_zero,Nat.zero_add] at this
 unfold valN
 rw [List.foldl_cons,Nat.mul_zero,Nat.zero_add,this]
 rfl
theorem valN_set : ∀ {l:List Nat} {p x:Nat} (h:p<l.length),valN (l.set p (l[p]+x))=valN l+x*10 ^ (l.length - 1 - p)
 | [],p,x,h=>by simp at h
 | y::l,0,x,h=>by
  rw [List.set_cons_zero,List.getElem_cons_zero,zBX,zBX,Nat.add_mul]
  simp only [List.length_cons,Nat.add_sub_cancel,Nat.sub_zero]
  omega
 | y::l,p+1,x,h=>by
  have hp:p<l.length:=by simpa using h
  rw [List.set_cons_succ,List.getElem_cons_succ,zBX,zBX,valN_set hp,List.length_set]
  simp only [List.length_cons,Nat.add_sub_cancel]
  rw [show l.length - (p+1)=l.length - 1 - p by omega]
  omega
theorem valN_zero : ∀ n:Nat,valN (List.replicate n 0)=0
 | 0=>rfl
 | n+1=>by rw [List.replicate_succ,zBX,valN_zero n];simp
def natv (n:Nat):Value := .int .i64 (n:Int)
theorem made_nats (n:Nat):madeCells (Value.int .i64 0).cells n=((List.replicate n 0).map natv).toArray:=by
 apply Array.ext
 ·simp [madeCells]
 ·intro i h1 h2
  simp [madeCells,Value.cells,Nat.mod_one,natv]
def NatsIn (w:World) (b:Nat) (l:List Nat):Prop:=w.heap[b]? = some (.cells (l.map natv).toArray 3 (0,0))
theorem NatsIn.cell {w:World} {b:Nat} {l:List Nat} (h:NatsIn w b l) {i c:Nat} (hi:l[i]? = some c):w.cell? ⟨b,i,none⟩=some (natv c):=by
 rw [zAj h];simp [hi]
theorem NatsIn.set {w:World} {b:Nat} {l:List Nat} (h:NatsIn w b l) (i c:Nat):NatsIn (w.setCell ⟨b,i,none⟩ (natv c)) b (l.set i c):=by
 unfold NatsIn
 rw [zAW h]
 simp [List.map_set]
theorem NatsIn.ext {w w' : World} {b:Nat} {l:List Nat} (h:NatsIn w b l) (he:Ext w w'):NatsIn w' b l:=he.blk h
theorem size3i (n:Nat):(n*siE.P.types[3].size)=n:=Nat.mul_one n
theorem zF7 {s:BA} {m i:Nat} (hs:bs s=dec m) (hi:i<s.size):i64.wrap (u8.wrap (bt s (i:Int) - 48))=((dv ((bs s).getD i 0):Nat):Int):=by
 have h2:=zB5 (n:=m) (k:=i) (by rw [<- hs,<- zAc];exact hi)
 rw [bt_eq,hs]
 obtain⟨h3,h4⟩:=zBq h2
 have e1:u8.wrap ((((dec m).getD i 0).toNat:Int) - 48)=((dv ((dec m).getD i 0):Nat):Int):=by
  show ((((dec m).getD i 0).toNat:Int) - 48) % 256=_
  unfold dv
  omega
 rw [e1,zAd (by omega) (by have:=dv_lt h2;omega)]
theorem set_get {l:List Nat} {p x:Nat} (h:p<l.length) (q:Nat) (y:Nat) (hq:(l.set p x)[q]? = some y):q=p/\y=x\/q≠p/\l[q]? = some y:=by
 rw [List.getElem?_set] at hq
 split at hq
 ·rename_i e
  subst e
  exact .inl ⟨rfl,(Option.some.inj hq).symm⟩
 ·rename_i e
  exact .inr ⟨fun h=>e h.symm,hq⟩
theorem c83 {a b:BA} {m n:Nat} (ha:bs a=dec m) (hb:bs b=dec n) (hz:a.size<=1073741824/\b.size<=1073741824) (w:World) :
  Ret prog 83 #[.string a,.string b] w fun v w'=>(∃ t,v = .string t/\bs t=dec (m*n))/\Ext w w':=by
 have e8:a.size=(dec m).length:=by rw [zAc,ha]
 have e9:b.size=(dec n).length:=by rw [zAc,hb]
 have i1:0<a.size:=by rw [e8];exact List.length_pos_iff.2 (zBa m)
 have i2:0<b.size:=by rw [e9];exact List.length_pos_iff.2 (zBa n)
 have eL:i64.wrap ((a.size:Int)+(b.size:Int))=((a.size+b.size:Nat):Int):=by rw [zAd (by omega) (by omega)];omega
 obtain⟨L,hL⟩ : ∃ L,L=a.size+b.size:=⟨_,rfl⟩
 rw [<- hL] at eL
 refine run83 _ _ _ _ ?_
 unfold vc83
 rw [eL,yT,size3i,made_nats]
 have g0:NatsIn (w.alloc (.cells ((List.replicate L 0).map natv).toArray 3)) w.heap.size (List.replicate L 0):=heap_alloc_new w _
 have g5:=(yE w).alloc (.cells ((List.replicate L 0).map natv).toArray 3)
 have g : ∀ l:List UInt8,val (l.take 0)=0:=fun l=>by rw [List.take_zero];rfl
 refine⟨⟨by omega,by omega,by omega,by omega⟩,fun vals w1=>∃ (i:Nat) (X:List Nat),vals=[.int .i64 i]/\i<=a.size/\X.length=L/\valN X=val ((dec m).take i)*10 ^ (a.size - i)*n/\(∀ q y,X[q]? = some y->y<=81*i)/\NatsIn w1 w.heap.size X/\Ext w w1,mu1 a.size,
  ⟨0,List.replicate L 0,rfl,Nat.zero_le _,by simp,by rw [valN_zero,g];simp,fun q y hq=>by
   have:=List.mem_of_getElem? hq
   rw [(List.mem_replicate.1 this).2];omega,g0,g5⟩,?_⟩
 rintro k w1 ⟨i,X,hv,hi,d1,a9,d0,a8,d4⟩
 cases hv
 refine zAe (fun g8=>?_) (fun h9=>?_)
 ·have d8:i<a.size:=by omega
  have g3:=zB5 (n:=m) (k:=i) (by omega)
  have h4:=dv_lt g3
  have f7:val ((dec m).take (i+1))=10*val ((dec m).take i)+dv ((dec m).getD i 0):=zBA (by omega)
  refine⟨fun vals w2=>∃ (j:Nat) (Y:List Nat),vals=[.int .i64 j]/\j<=b.size/\Y.length=L/\valN Y=val ((dec m).take i)*10 ^ (a.size - i)*n+dv ((dec m).getD i 0)*10 ^ (a.size - 1 - i)*(val ((dec n).take j)*10 ^ (b.size - j)) /\
    (∀ q y,Y[q]? = some y->y<=81*(i+1)/\(i+j+1<=q->y<=81*i))/\NatsIn w2 w.heap.size Y/\Ext w w2,mu1 b.size,
   ⟨0,X,rfl,Nat.zero_le _,d1,by rw [a9,g];simp,fun q y hq=>by have:=d0 q y hq;omega,a8,d4⟩,?_⟩
  rintro k1 w2 ⟨j,Y,g9,hj,b2,b3,b0,d2,d5⟩
  cases g9
  refine zAe (fun e6=>?_) (fun h6=>?_)
  ·have d9:j<b.size:=by omega
   have g4:=zB5 (n:=n) (k:=j) (by omega)
   have h5:=dv_lt g4
   have f8:val ((dec n).take (j+1))=10*val ((dec n).take j)+dv ((dec n).getD j 0):=zBA (by omega)
   have eidx:i64.wrap (i64.wrap ((i:Int)+(j:Int))+1)=((i+j+1:Nat):Int):=by
    rw [zAd (n:=(i:Int)+(j:Int)) (by omega) (by omega),zAd (by omega) (by omega)];omega
   rw [eidx]
   have a4:i+j+1<Y.length:=by omega
   have f:Y[i+j+1]? = some Y[i+j+1]:=List.getElem?_eq_getElem a4
   have d3:=(b0 _ _ f).2 yL
   have a1:(⟨w.heap.size,0,none⟩:Addr).add (((i+j+1:Nat):Int).toNat*1)=⟨w.heap.size,i+j+1,none⟩:=by rw [yT,Nat.mul_one,zAi,Nat.zero_add]
   have b1:NatsIn w2.drew w.heap.size Y:=d2
   have a3:=b1.cell f
   have f9:dv ((dec m).getD i 0)*dv ((dec n).getD j 0)<=81:=Nat.mul_le_mul (by omega:dv ((dec m).getD i 0)<=9) (by omega:dv ((dec n).getD j 0)<=9)
   refine⟨_,rfl,⟨by omega,by omega⟩,_,by rw [a1];exact a3,⟨by omega,g8⟩,⟨by omega,e6⟩,_,rfl,⟨by omega,by omega⟩,by rw [a1];exact⟨⟨_,a3⟩,zBc b1⟩,?_⟩
   rw [a1,zF7 ha d8,zF7 hb d9,ha,hb,zAf (by omega)]
   have ep:i64.wrap (((dv ((dec m).getD i 0):Nat):Int)*((dv ((dec n).getD j 0):Nat):Int))=((dv ((dec m).getD i 0)*dv ((dec n).getD j 0):Nat):Int):=by
    rw [<- Int.natCast_mul,zAd (by omega) (by omega)]
   rw [ep]
   generalize hx:dv ((dec m).getD i 0)*dv ((dec n).getD j 0)=x at f9
   have es:i64.wrap (((Y[i+j+1]:Nat):Int)+(x:Int))=((Y[i+j+1]+x:Nat):Int):=by rw [zAd (by omega) (by omega)];omega
   rw [es]
   refine⟨⟨j+1,Y.set (i+j+1) (Y[i+j+1]+x),rfl,d9,by rw [List.length_set];exact b2,?_,?_,b1.set (i+j+1) _,Below.setCell (p:=⟨w.heap.size,_,none⟩) d5.drew yL _⟩,?_⟩
   ·rw [valN_set a4,b3,f8,b2,Nat.add_assoc]
    congr 1
    have e1:L - 1 - (i+j+1)=(a.size - 1 - i)+(b.size - 1 - j):=by omega
    have e2:b.size - j=(b.size - 1 - j)+1:=by omega
    have e3:b.size - (j+1)=b.size - 1 - j:=by omega
    rw [e1,e2,e3,Nat.pow_succ,Nat.pow_add,<- hx]
    generalize 10 ^ (a.size - 1 - i)=P
    generalize 10 ^ (b.size - 1 - j)=Q
    generalize dv ((dec m).getD i 0)=u
    generalize dv ((dec n).getD j 0)=v
    generalize val ((dec n).take j)=V
    rw [Nat.add_mul,Nat.mul_add]
    have e4:u*P*(V*(Q*10))=u*P*(10*V*Q):=by
     congr 1
     rw [Nat.mul_comm Q 10,<- Nat.mul_assoc,Nat.mul_comm V 10]
    have e5:u*v*(P*Q)=u*P*(v*Q):=by
     rw [Nat.mul_assoc,Nat.mul_assoc,Nat.mul_left_comm v]
    rw [e4,e5]
   ·intro q y hq
    rcases set_get a4 q y hq with ⟨rfl,rfl⟩ | ⟨hne,hq⟩
    ·exact⟨by omega,fun h=>by omega⟩
    ·have:=b0 q y hq
     exact⟨this.1,fun h=>this.2 (by omega)⟩
   ·simp only [mu1,yT];omega
  ·have g7:j=b.size:=by omega
   subst g7
   rw [zAf (by omega)]
   rw [List.take_of_length_le (l:=dec n) (i:=b.size) (by omega),zAH,Nat.sub_self,Nat.pow_zero,Nat.mul_one] at b3
   refine⟨⟨i+1,Y,rfl,d8,b2,?_,fun q y hq=>(b0 q y hq).1,d2,d5⟩,?_⟩
   ·rw [b3,f7,<- Nat.add_mul]
    congr 1
    have e2:a.size - i=(a.size - 1 - i)+1:=by omega
    have e3:a.size - (i+1)=a.size - 1 - i:=by omega
    rw [e2,e3,Nat.pow_succ,Nat.add_mul,Nat.mul_comm (10 ^ (a.size - 1 - i)) 10,<- Nat.mul_assoc,Nat.mul_comm (val _) 10]
   ·simp only [mu1,yT];omega
 ·have g6:i=a.size:=by omega
  subst g6
  rw [List.take_of_length_le (l:=dec m) (i:=a.size) (by omega),zAH,Nat.sub_self,Nat.pow_zero,Nat.mul_one] at a9
  rw [yT,size5,zCZ]
  have g1:BytesIn (w1.alloc (.cells ((List.replicate L (0:UInt8)).map u8v).toArray 5)) w1.heap.size (List.replicate L 0):=heap_alloc_new w1 _
  have d7:=(yE w1).alloc (.cells ((List.replicate L (0:UInt8)).map u8v).toArray 5)
  have h3:w.heap.size<w1.heap.size:=(Array.getElem?_eq_some_iff.1 a8).1
  have e0:i64.wrap ((L:Int) - 1)=((L:Int) - 1):=zAd (by omega) (by omega)
  rw [e0]
  refine⟨⟨by omega,by omega,by omega,by omega⟩,fun vals w3=>∃ (t c:Nat) (D:List UInt8),vals=[.int .i64 ((L:Int) - 1 - t),.int .i64 c]/\t<=L/\D.length=t/\D.all isDig=true/\c<=81*a.size/\val D+c*10 ^ t=valN (X.drop (L - t)) /\
    NatsIn w3 w.heap.size X/\BytesIn w3 w1.heap.size (List.replicate (L - t) 0++D)/\Ext w w3,muD,
   ⟨0,0,[],by simp,Nat.zero_le _,rfl,rfl,Nat.zero_le _,by rw [List.drop_of_length_le (by omega)];rfl,a8.ext d7,by simpa using g1,d4.trans d7⟩,?_⟩
  rintro n3 n4 w3 ⟨t,c,D,h0,ht,a0,b8,hc,o,a6,d,d6⟩
  cases h0
  refine zAe (fun h8=>?_) (fun h7=>?_)
  ·have b7:t<L:=by omega
   obtain⟨p,hp⟩ : ∃ p,p=L - 1 - t:=⟨_,rfl⟩
   have ep:(L:Int) - 1 - (t:Int)=(p:Int):=by omega
   rw [ep]
   have e7:p<X.length:=by omega
   have f:X[p]? = some X[p]:=List.getElem?_eq_getElem e7
   have d3:=d0 p _ f
   have b4:(⟨w.heap.size,0,none⟩:Addr).add ((p:Int).toNat*1)=⟨w.heap.size,p,none⟩:=by rw [yT,Nat.mul_one,zAi,Nat.zero_add]
   have a2:(⟨w1.heap.size,0,none⟩:Addr).add ((p:Int).toNat*1)=⟨w1.heap.size,p,none⟩:=by rw [yT,Nat.mul_one,zAi,Nat.zero_add]
   have a5 : ∃ v,w3.cell? ⟨w1.heap.size,p,none⟩=some v:=by
    refine⟨_,d.cell (List.getElem?_eq_getElem ?_)⟩
    rw [List.length_append,List.length_replicate,a0];omega
   refine⟨_,rfl,⟨by omega,by omega⟩,_,by rw [b4];exact a6.cell f,_,rfl,⟨by omega,by omega⟩,by rw [a2];exact⟨a5,zBc d⟩,?_⟩
   generalize hs:X[p]+c=s
   have es:i64.wrap (((X[p]:Nat):Int)+(c:Int))=(s:Int):=by rw [zAd (by omega) (by omega)];omega
   have etm:(s:Int).tmod 10=((s % 10:Nat):Int):=by rw [Int.tmod_eq_emod_of_nonneg (by omega)];omega
   have etd:(s:Int).tdiv 10=((s / 10:Nat):Int):=by rw [Int.tdiv_eq_ediv_of_nonneg (by omega)];omega
   have b5:s % 10<10:=Nat.mod_lt _ (by omega)
   rw [a2,es,etm,etd,zAd (n:=((s / 10:Nat):Int)) (by omega) (by omega),zFQ b5,zAd (n:=(p:Int) - 1) (by omega) (by omega)]
   have b6:X.drop (L - (t+1))=X[p]::X.drop (L - t):=by
    rw [show L - (t+1)=p by omega,show L - t=p+1 by omega]
    exact List.drop_eq_getElem_cons e7
   refine⟨⟨t+1,s / 10,digOf (s % 10)::D,by rw [show (L:Int) - 1 - ((t+1:Nat):Int)=(p:Int) - 1 by omega],b7,by simp [a0],?_,by omega,?_,?_,?_,Below.setCell (p:=⟨w1.heap.size,_,none⟩) d6 (Nat.le_of_lt h3) _⟩,?_⟩
   ·rw [List.all_cons,zBw b5,b8];rfl
   ·rw [zFP _ b5,a0,b6,zBX,List.length_drop,d1,show L - (L - t)=t by omega,<- o,Nat.pow_succ]
    have e3:(s % 10)*10 ^ t+s / 10*(10 ^ t*10)=s*10 ^ t:=by
     rw [<- Nat.mul_assoc,Nat.mul_right_comm,<- Nat.add_mul]
     congr 1
     omega
    have e4:s*10 ^ t=X[p]*10 ^ t+c*10 ^ t:=by rw [<- hs,Nat.add_mul]
    omega
   ·unfold NatsIn
    rw [zA4 (by show w.heap.size≠w1.heap.size;omega)]
    exact a6
   ·have:=d.set p (digOf (s % 10))
    rw [show L - t=p+1 by omega,zEN] at this
    rw [show L - (t+1)=p by omega]
    exact this
   ·simp only [muD];omega
  ·have b7:t=L:=by omega
   subst b7
   rw [Nat.sub_self,List.replicate_zero,List.nil_append] at d
   rw [Nat.sub_self,List.drop_zero,a9] at o
   have i0:m*n<10 ^ t:=by
    rw [hL,Nat.pow_add,e8,e9]
    have h1:=zBh m
    have h2:=zBh n
    exact Nat.lt_of_le_of_lt (Nat.mul_le_mul_right n (Nat.le_of_lt h1)) (Nat.mul_lt_mul_of_pos_left h2 (Nat.pow_pos (by omega)))
   have g2:c=0:=by
    rcases Nat.eq_zero_or_pos c with h | h
    ·exact h
    ·have:1*10 ^ t<=c*10 ^ t:=Nat.mul_le_mul_right _ h
     omega
   rw [g2,Nat.zero_mul,Nat.add_zero] at o
   have b9:D≠[]:=fun e=>by rw [e] at a0;simp at a0;omega
   have a7:=d.at
   rw [a0] at a7
   refine⟨D,a7,yC (c135 _ w3) ?_⟩
   rintro v w4 ⟨⟨u,rfl,hu⟩,rfl⟩
   refine⟨u,rfl,⟨u,rfl,?_⟩,d6⟩
   rw [hu]
   show trimL (bs (mk D))=_
   rw [bs_mk,zBk b9 b8,o]
end Go.Proofs.Si
namespace Go.Proofs.Si
open Go Go.V Go.Proofs Go.RowKit Go.Num Go.Proofs.Tryz
set_option maxRecDepth 100000
theorem zD5 {w:World} {b e:Nat} {a0 a1 a2:Value} (h:w.heap[b]? = some (.cells #[a0,a1,a2] e (0,0))) (v0 v1 v2:Value) :
  (setCells w ⟨b,0,none⟩ 0 [v0,v1,v2]).heap[b]? = some (.cells #[v0,v1,v2] e (0,0)):=by
 simp only [setCells,zAi,Nat.zero_add]
 exact zAW (j:=2) (zAW (j:=1) (zAW (j:=0) h v0) v1) v2
theorem set3_ne {w:World} {b k:Nat} (h:k≠b) (v0 v1 v2:Value):(setCells w ⟨b,0,none⟩ 0 [v0,v1,v2]).heap[k]? = w.heap[k]?:=by
 simp only [setCells,zAi,Nat.zero_add]
 rw [zA4 h,zA4 h,zA4 h]
theorem zBZ {N:Nat} {w0 w:World} {b:Nat} (h:Below N w0 w) (hb:N<=b) (v0 v1 v2:Value):Below N w0 (setCells w ⟨b,0,none⟩ 0 [v0,v1,v2]):=by
 simp only [setCells,zAi,Nat.zero_add]
 exact ((h.setCell (p:=⟨b,_,none⟩) hb v0).setCell (p:=⟨b,_,none⟩) hb v1).setCell (p:=⟨b,_,none⟩) hb v2
theorem zC2 {w:World} {b e:Nat} {a0 a1 a2:Value} (h:w.heap[b]? = some (.cells #[a0,a1,a2] e (0,0))):writable w ⟨b,0,none⟩ 3:=by
 intro i hi
 rw [zAi,Nat.zero_add]
 exact⟨⟨#[a0,a1,a2][i]'hi,(zAj h).trans (Array.getElem?_eq_getElem (xs:=#[a0,a1,a2]) hi)⟩,zBc h⟩
theorem zFL {w:World} {b e:Nat} {a0 a1 a2:Value} (h:w.heap[b]? = some (.cells #[a0,a1,a2] e (0,0))):vcells w ⟨b,0,none⟩ 0 [a0,a1,a2] :=
 ⟨zAj h,zAj (j:=1) h,zAj (j:=2) h,trivial⟩
def RatioAt (q:Rat) (v:Value):Prop:=∃ s t:BA,v = .agg #[.bool (decide (q.num<0)),.string s,.string t]/\bs s=dec q.num.natAbs/\bs t=dec q.den
theorem zC0 {s:BA} {n:Nat} (hs:bs s=dec n):(s.toList==({ data:=#[48] } : BA).toList)=decide (n=0):=by
 rw [zAt,hs,Bool.eq_iff_iff,decide_eq_true_eq,decide_eq_true_eq]
 exact zDr
theorem zBx:dec 1=[49]:=by rw [zAv (by omega)];rfl
theorem beq_one {s:BA} {n:Nat} (hs:bs s=dec n):(s.toList==({ data:=#[49] } : BA).toList)=decide (n=1):=by
 rw [zAt,hs,Bool.eq_iff_iff,decide_eq_true_eq,decide_eq_true_eq]
 show dec n=[49]↔_
 rw [<- zBx]
 exact⟨zCy,fun h=>by rw [h]⟩
theorem c82 (neg:Bool) {num den:BA} {a b:Nat} (ha:bs num=dec a) (hb:bs den=dec b) (hb0:b≠0) (hz:num.size<=1073741824/\den.size<=1073741824) (w:World) :
  Ret prog 82 #[.bool neg,.string num,.string den] w fun v w'=>RatioAt (red neg a b) v/\Ext w w':=by
 have k:0<Nat.gcd a b:=Nat.gcd_pos_of_pos_right _ (Nat.pos_of_ne_zero hb0)
 have f:(w.alloc (.cells #[.bool false,.string { data:=#[] },.string { data:=#[] }] 110)).heap[w.heap.size]? = some (.cells #[.bool false,.string { data:=#[] },.string { data:=#[] }] 110 (0,0)):=heap_alloc_new w _
 have n:=(yE w).alloc (.cells #[.bool false,.string { data:=#[] },.string { data:=#[] }] 110)
 refine run82 _ _ _ _ _ (yC (c136 ha hb hz _) ?_)
 rintro v w1 ⟨⟨g,rfl,hg⟩,h⟩
 have l:g.size<=1073741824:=by
  rw [zAc,hg]
  have h1:=zAu (Nat.gcd_le_right a (Nat.pos_of_ne_zero hb0))
  have h2:den.size=(dec b).length:=by rw [zAc,hb]
  omega
 refine⟨g,rfl,yC (c137 ha hg k ⟨hz.1,l⟩ w1) ?_⟩
 rintro v w2 ⟨⟨q1,r1,rfl,m,-⟩,i⟩
 refine⟨q1,r1,rfl,yC (c137 hb hg k ⟨hz.2,l⟩ w2) ?_⟩
 rintro v w3 ⟨⟨q2,r2,rfl,o,-⟩,j⟩
 have d:=j.blk (i.blk (h.blk f))
 have he:Ext w w3:=((n.trans h).trans i).trans j
 refine⟨q2,r2,rfl,zC2 d,_,_,_,zFL (zD5 d _ _ _),⟨q1,q2,?_,?_,?_⟩,zBZ he yL _ _ _⟩
 ·rw [zC0 m,zDm neg a hb0]
  congr 2
  congr 1
  congr 1
  rw [Bool.eq_iff_iff,Bool.and_eq_true,Bool.not_eq_true',decide_eq_false_iff_not,decide_eq_true_eq,sgn_neg]
 ·rw [m,zDm neg a hb0,zB6]
 ·rw [o,zDT neg a hb0]
theorem c84 (neg:Bool) {s t:BA} {a b:Nat} (hs:bs s=dec a) (ht:bs t=dec b) (hz:s.size<=2147483648/\t.size<=2147483648) (w:World) :
  Ret prog 84 #[.agg #[.bool neg,.string s,.string t]] w fun v w'=>(∃ u,v = .string u/\bs u=txt3 neg a b)/\Ext w w':=by
 have d:(w.alloc (.cells #[.bool neg,.string s,.string t] 110)).heap[w.heap.size]? = some (.cells #[.bool neg,.string s,.string t] 110 (0,0)):=heap_alloc_new w _
 have f:=(yE w).alloc (.cells #[.bool neg,.string s,.string t] 110)
 refine run84 _ _ _ _ _ ⟨_,zAj (j:=1) d,fun K hK=>?_⟩
 have fin : ∀ s1:BA,bs s1=(if neg then [45] else [])++dec a->s1.size<=2147483649->K [.string s1] (w.alloc (.cells #[.bool neg,.string s,.string t] 110)):=by
  intro s1 h1 g
  refine hK s1 ⟨_,zAj (j:=2) d,?_⟩
  rw [beq_one ht]
  by_cases hb1:b=1
  ·rw [decide_eq_true hb1]
   refine⟨⟨s1,rfl,?_⟩,f⟩
   rw [h1,txt3,if_pos hb1,List.append_nil]
  ·rw [decide_eq_false hb1]
   have e1:({ data:=#[47] }++t:BA).size=t.size+1:=by rw [zDc];show 1+t.size=_;omega
   refine⟨_,zAj (j:=2) d,by omega,by omega,⟨_,rfl,?_⟩,f⟩
   rw [zAN,zAN,h1,ht,txt3,if_neg hb1];rfl
 refine⟨neg,zAj (j:=0) d,zAb (fun hn=>?_) (fun hn=>?_)⟩
 ·subst hn
  refine⟨by omega,fin _ ?_ ?_⟩
  ·rw [zAN,hs];rfl
  ·rw [zDc];show 1+s.size<=_;omega
 ·subst hn
  exact fin s (by rw [hs];rfl) (by omega)
def ParseQ (a:BA) (v:Value):Prop :=
 (∃ q x,bs a=txtQ q/\RatioAt q x/\v = .tuple #[x,.bool true])\/(¬ ∃ q,bs a=txtQ q)/\v = .tuple #[.agg #[.bool false,.string { data:=#[] },.string { data:=#[] }],.bool false]
theorem c81 (a:BA) (hz:a.size<=536870912) (w:World):Ret prog 81 #[.string a] w fun v w'=>ParseQ a v/\Ext w w':=by
 have hA:(w.alloc (.cells #[.bool false,.string { data:=#[] },.string { data:=#[] }] 110)).heap[w.heap.size]? = some (.cells #[.bool false,.string { data:=#[] },.string { data:=#[] }] 110 (0,0)):=heap_alloc_new w _
 have e0:=(yE w).alloc (.cells #[.bool false,.string { data:=#[] },.string { data:=#[] }] 110)
 have b4:(w.alloc (.cells #[.bool false,.string { data:=#[] },.string { data:=#[] }] 110)).heap.size=w.heap.size+1:=size_alloc _ _
 refine run81 _ _ _ ?_
 unfold vc81
 generalize hwA:w.alloc (.cells #[.bool false,.string { data:=#[] },.string { data:=#[] }] 110)=wA at hA e0 b4 ⊢
 have hB:(wA.alloc (.cells #[.bool false,.string { data:=#[] },.string { data:=#[] }] 110)).heap[wA.heap.size]? = some (.cells #[.bool false,.string { data:=#[] },.string { data:=#[] }] 110 (0,0)):=heap_alloc_new wA _
 have e7:=(yE wA).alloc (.cells #[.bool false,.string { data:=#[] },.string { data:=#[] }] 110)
 have g5:=e7.blk hA
 refine⟨zC2 hB,?_⟩
 have x:=zD5 hB (.bool false) (.string { data:=#[] }) (.string { data:=#[49] })
 have b8:(setCells (wA.alloc (.cells #[.bool false,.string { data:=#[] },.string { data:=#[] }] 110)) ⟨wA.heap.size,0,none⟩ 0 [.bool false,.string { data:=#[] },.string { data:=#[49] }]).heap[w.heap.size]? = _:=(set3_ne (by omega) _ _ _).trans g5
 have a5:Ext w (setCells (wA.alloc (.cells #[.bool false,.string { data:=#[] },.string { data:=#[] }] 110)) ⟨wA.heap.size,0,none⟩ 0 [.bool false,.string { data:=#[] },.string { data:=#[49] }]):=zBZ (e0.trans e7) (by omega) _ _ _
 generalize hw2:setCells (wA.alloc (.cells #[.bool false,.string { data:=#[] },.string { data:=#[] }] 110)) ⟨wA.heap.size,0,none⟩ 0 [.bool false,.string { data:=#[] },.string { data:=#[49] }]=wS at x b8 a5 ⊢
 generalize hxb:wA.heap.size=xb at x b4 ⊢
 intro K hK
 have tail : ∀ (neg:Bool) (s:BA) (w1:World),zAy (bs a)=(neg,bs s)->s.size<=a.size->w1.heap[xb]? = some (.cells #[.bool neg,.string { data:=#[] },.string { data:=#[49] }] 110 (0,0)) ->
   w1.heap[w.heap.size]? = some (.cells #[.bool false,.string { data:=#[] },.string { data:=#[] }] 110 (0,0))->Ext w w1->K [.string s] w1:=by
  intro neg s w1 g0 h9 i5 g7 g9
  refine hK s w1 fun K1 g6=>?_
  have fin : ∀ (s1 den:BA) (w2:World),dqCut (bs s)=(bs s1,bs den)->s1.size<=a.size->den.size<=a.size+1->w2.heap[xb]? = some (.cells #[.bool neg,.string { data:=#[] },.string den] 110 (0,0)) ->
    w2.heap[w.heap.size]? = some (.cells #[.bool false,.string { data:=#[] },.string { data:=#[] }] 110 (0,0))->Ext w w2->K1 [.string s1] w2:=by
   intro s1 den w2 b2 i8 i9 d4 g8 a5
   refine g6 s1 w2 ⟨⟨⟨_,zAj (j:=1) d4⟩,zBc (j:=1) d4⟩,?_⟩
   have d:(w2.setCell ⟨xb,1,none⟩ (.string s1)).drew.heap[xb]? = some (.cells #[.bool neg,.string s1,.string den] 110 (0,0)):=zAW (j:=1) d4 _
   have b9:(w2.setCell ⟨xb,1,none⟩ (.string s1)).drew.heap[w.heap.size]? = _:=(zA4 (by show w.heap.size≠xb;omega)).trans g8
   have d2:Ext w (w2.setCell ⟨xb,1,none⟩ (.string s1)).drew:=(Below.setCell (p:=⟨xb,1,none⟩) a5 (by show w.heap.size<=xb;omega) _).drew
   generalize (w2.setCell ⟨xb,1,none⟩ (.string s1)).drew=W at d b9 d2 ⊢
   intro K2 d6
   have a0:okQ (bs a)=((!decide (bs s1=[])&&(bs s1).all isDig)&&(!decide (bs den=[])&&(bs den).all isDig)&&!decide (bs den=[48])&&decide (trimL (bs s1)=bs s1)&&decide (trimL (bs den)=bs den) &&
     decide (txtQ (red neg (val (bs s1)) (val (bs den)))=bs a)):=by
    unfold okQ
    simp only [g0,b2]
   have bad : ∀ b w',b=true->okQ (bs a)=false->Ext W w'->K2 [.bool b] w':=by
    intro b w' hb f9 a9
    refine d6 b w' ?_
    rw [hb,cond_true]
    have d8:=a9.blk b9
    refine⟨zC2 d8,_,_,_,zFL (zD5 d8 _ _ _),.inr ⟨fun hq=>?_,rfl⟩,zBZ (d2.trans a9) yL _ _ _⟩
    rw [zBv.2 hq] at f9
    cases f9
   refine⟨_,zAj (j:=1) d,yC (c134 s1 (by omega) W) ?_⟩
   rintro v w4 ⟨rfl,rfl⟩
   refine⟨_,rfl,Below.refl _ _,zAb (fun h=>bad _ _ rfl ?_ (yE _)) (fun h1=>?_)⟩
   ·have h' : (!decide (bs s1=[])&&(bs s1).all isDig)=false:=by
     cases hb:(!decide (bs s1=[])&&(bs s1).all isDig) with
     | false=>rfl
     | true=>rw [hb] at h;cases h
    rw [a0,h'];rfl
   have f:(!decide (bs s1=[])&&(bs s1).all isDig)=true:=by simpa using h1
   refine⟨_,zAj (j:=2) d,yC (c134 den (by omega) w4) ?_⟩
   rintro v w5 ⟨rfl,rfl⟩
   refine⟨_,rfl,Below.refl _ _,zAb (fun h=>bad _ _ rfl ?_ (yE _)) (fun h2=>?_)⟩
   ·have h' : (!decide (bs den=[])&&(bs den).all isDig)=false:=by
     cases hb:(!decide (bs den=[])&&(bs den).all isDig) with
     | false=>rfl
     | true=>rw [hb] at h;cases h
    rw [a0,f,h'];rfl
   have g:(!decide (bs den=[])&&(bs den).all isDig)=true:=by simpa using h2
   refine⟨_,zAj (j:=2) d,?_⟩
   rw [zAt]
   refine zAb (fun h=>bad _ _ rfl ?_ (yE _)) (fun h3=>?_)
   ·have h' : decide (bs den=[48])=true:=h
    rw [a0,f,g,h'];rfl
   have a1:decide (bs den=[48])=false:=h3
   refine⟨_,zAj (j:=1) d,_,zAj (j:=1) d,yC (c135 s1 w5) ?_⟩
   rintro v w6 ⟨⟨t1,rfl,i0⟩,rfl⟩
   refine⟨t1,rfl,Below.refl _ _,?_⟩
   rw [zAt,i0]
   refine zAb (fun h=>bad _ _ rfl ?_ (yE _)) (fun h4=>?_)
   ·have h' : decide (trimL (bs s1)=bs s1)=false:=by simpa using h
    rw [a0,f,g,a1,h'];rfl
   have b6:decide (trimL (bs s1)=bs s1)=true:=by simpa using h4
   refine⟨_,zAj (j:=2) d,_,zAj (j:=2) d,yC (c135 den w6) ?_⟩
   rintro v w7 ⟨⟨t2,rfl,i1⟩,rfl⟩
   refine⟨t2,rfl,Below.refl _ _,?_⟩
   rw [zAt,i1]
   refine zAb (fun h=>bad _ _ rfl ?_ (yE _)) (fun h5=>?_)
   ·have h' : decide (trimL (bs den)=bs den)=false:=by simpa using h
    rw [a0,f,g,a1,b6,h'];rfl
   have d5:decide (trimL (bs den)=bs den)=true:=by simpa using h5
   rw [Bool.and_eq_true,Bool.not_eq_true',decide_eq_false_iff_not] at f g
   have b3:=zFF f.1 f.2 (of_decide_eq_true b6)
   have o:=zFF g.1 g.2 (of_decide_eq_true d5)
   have d1:val (bs den)≠0:=by
    intro e
    rw [e,zAQ] at o
    rw [o] at a1
    exact absurd a1 (by decide)
   refine⟨_,zAj (j:=0) d,_,zAj (j:=1) d,_,zAj (j:=2) d,yC (c82 neg b3 o d1 ⟨by omega,by omega⟩ w7) ?_⟩
   rintro v w8 ⟨⟨u1,u2,rfl,g1,g3⟩,b0⟩
   have g2:u1.size<=2147483648:=by
    rw [zAc,g1,zDm neg _ d1,zB6]
    have h6:=zAu (Nat.div_le_self (val (bs s1)) (Nat.gcd (val (bs s1)) (val (bs den))))
    rw [<- b3,<- zAc] at h6
    omega
   have g4:u2.size<=2147483648:=by
    rw [zAc,g3,zDT neg _ d1]
    have h6:=zAu (Nat.div_le_self (val (bs den)) (Nat.gcd (val (bs s1)) (val (bs den))))
    rw [<- o,<- zAc] at h6
    omega
   refine⟨_,_,_,rfl,yC (c84 _ g1 g3 ⟨g2,g4⟩ w8) ?_⟩
   rintro v w9 ⟨⟨u,rfl,hu⟩,b1⟩
   refine⟨u,rfl,?_⟩
   have i2:bs u=txtQ (red neg (val (bs s1)) (val (bs den))):=hu
   rw [zAt,i2]
   have e9:okQ (bs a)=decide (txtQ (red neg (val (bs s1)) (val (bs den)))=bs a):=by
    rw [a0,a1,b6,d5,f.2,g.2,decide_eq_false f.1,decide_eq_false g.1]
    rfl
   cases h6:decide (txtQ (red neg (val (bs s1)) (val (bs den)))=bs a) with
   | false=>exact bad _ _ rfl (by rw [e9,h6]) (b0.trans b1)
   | true =>
    have d3:=of_decide_eq_true h6
    refine d6 _ _ ?_
    rw [Bool.not_true,cond_false]
    have i6:=b1.blk (b0.blk d)
    have d9:=b1.blk (b0.blk b9)
    generalize hq:red neg (val (bs s1)) (val (bs den))=q at d3
    have e1:zAy (bs a)=(decide (q.num<0),dec q.num.natAbs++(if q.den=1 then [] else 47::dec q.den)):=by rw [<- d3];exact zCd _ _ _
    rw [g0] at e1
    obtain⟨e2,e3⟩:=Prod.mk.inj e1
    have e4:=zCQ q.num.natAbs q.den
    rw [<- e3,b2] at e4
    obtain⟨e5,e6⟩:=Prod.mk.inj e4
    refine⟨neg,s1,den,zFL i6,zC2 d9,_,_,_,zFL (zD5 d9 _ _ _),.inl ⟨q,_,d3.symm,⟨s1,den,?_,e5,e6⟩,rfl⟩,zBZ ((d2.trans b0).trans b1) yL _ _ _⟩
    rw [e2]
  refine⟨fun vals w'=>∃ j:Nat,vals=[.int .i64 j]/\j<=s.size/\w'.heap[xb]? = some (.cells #[.bool neg,.string { data:=#[] },.string { data:=#[49] }] 110 (0,0)) /\
    w'.heap[w.heap.size]? = some (.cells #[.bool false,.string { data:=#[] },.string { data:=#[] }] 110 (0,0))/\Ext w w'/\(bs s).takeWhile (· != 47)=(bs s).take j++(rest s j).takeWhile (· != 47),mu1 s.size,
   ⟨0,rfl,Nat.zero_le _,i5,g7,g9,rfl⟩,?_⟩
  rintro n a8 ⟨j,hv,hj,i,a3,a4,m⟩
  cases hv
  refine zAe (fun h8=>?_) (fun i7=>?_)
  ·have a6:j<s.size:=by omega
   refine⟨⟨by omega,h8⟩,?_⟩
   rw [bt_eq,show ((((bs s).getD j 0).toNat:Int)==47)=((bs s).getD j 0==47) from u8_beq _ 47 (by omega)]
   rw [zD6 a6,List.takeWhile_cons] at m
   refine zAb (fun b7=>?_) (fun b7=>?_)
   ·have a2:(bs s).getD j 0=47:=by simpa using b7
    rw [a2] at m
    have b5:(bs s).takeWhile (· != 47)=(bs s).take j:=by simpa using m
    have a7:((bs s).takeWhile (· != 47)).length=j:=by rw [b5,List.length_take,<- zAc];omega
    rw [zAf (by omega),yT,yT]
    refine⟨⟨by omega,by omega⟩,⟨by omega,by omega⟩,⟨⟨_,zAj (w:=a8.drew) (j:=2) i⟩,zBc (w:=a8.drew) (j:=2) i⟩,?_⟩
    refine fin (s.extract 0 j) (s.extract (j+1) s.size) _ ?_ ?_ ?_ (zAW (w:=a8.drew) (j:=2) i _) ((zA4 (w:=a8.drew) (by show w.heap.size≠xb;omega)).trans a3) (Below.setCell (p:=⟨xb,2,none⟩) a4.drew (by show w.heap.size<=xb;omega) _)
    ·unfold dqCut
     rw [if_pos (by rw [a7,<- zAc];exact a6),a7,b5,zAV,zAV]
     congr 1
     rw [rest,List.take_of_length_le]
     rw [List.length_drop,<- zAc]
     exact yL
    ·rw [zAc,zAV,List.length_take,zEu];omega
    ·rw [zAc,zAV,List.length_take,zEu];omega
   ·have a2:((bs s).getD j 0 != 47)=true:=by rw [bne,b7];rfl
    rw [a2,if_pos rfl] at m
    rw [zAf (by omega)]
    refine⟨⟨j+1,rfl,a6,i,a3,a4,?_⟩,?_⟩
    ·rw [m,List.take_add_one,List.getElem?_eq_getElem (by rw [<- zAc];exact a6),List.append_assoc]
     simp [List.getD,List.getElem?_eq_getElem (show j<(bs s).length by rw [<- zAc];exact a6)]
    ·simp only [mu1,yT];omega
  ·have h7:j=s.size:=by omega
   subst h7
   rw [zEt yL,List.takeWhile_nil,List.append_nil,List.take_of_length_le (by rw [<- zAc];exact yL)] at m
   refine fin s { data:=#[49] } a8 ?_ h9 (by show 1<=_;omega) i a3 a4
   unfold dqCut
   rw [m,if_neg (Nat.lt_irrefl _)];rfl
 intro K3 d7
 have pos:(∀ l,bs a≠45::l)->∀ b,b=false->K3 [.bool b] wS:=by
  intro hn b hb
  refine d7 b ?_
  rw [hb,cond_false]
  refine tail false a wS ?_ yL x b8 a5
  unfold zAy
  split
  ·rename_i h;exact absurd h (hn _)
  ·rfl
 rw [zAt]
 refine zAb (fun f7=>?_) (fun he=>?_)
 ·have f8:bs a≠[]:=by
   intro e
   have:decide (bs a=bs { data:=#[] })=true:=decide_eq_true e
   rw [this] at f7
   cases f7
  obtain⟨c,l,k⟩ : ∃ c l,bs a=c::l:=by
   cases h:bs a with
   | nil=>exact absurd h f8
   | cons c l=>exact⟨c,l,rfl⟩
  have a7:0<a.size:=by rw [zAc,k];simp
  refine⟨⟨by omega,by omega⟩,?_⟩
  have h0:(bs a).getD 0 0=c:=by rw [k];rfl
  show K3 [.bool (bt a ((0:Nat):Int)==45)] wS
  rw [bt_eq,h0,show ((c.toNat:Int)==45)=(c==45) from u8_beq c 45 (by omega)]
  cases hc:(c==45) with
  | false =>
   have d0:c≠45:=by simpa using hc
   exact pos (fun l' e=>by rw [k] at e;exact d0 (List.cons.inj e).1) _ rfl
  | true =>
   have d0:c=45:=by simpa using hc
   subst d0
   refine d7 true ?_
   rw [cond_true]
   refine⟨⟨by omega,by omega⟩,⟨⟨_,zAj (w:=wS.drew) (j:=0) x⟩,zBc (w:=wS.drew) (j:=0) x⟩,?_⟩
   have e8:bs (a.extract 1 a.size)=l:=by
    rw [zAV,rest,k,List.drop_succ_cons,List.drop_zero,List.take_of_length_le]
    rw [zAc,k];simp
   refine tail true (a.extract 1 a.size) _ ?_ ?_ (zAW (w:=wS.drew) (j:=0) x _) ((zA4 (w:=wS.drew) (by show w.heap.size≠xb;omega)).trans b8) (Below.setCell (p:=⟨xb,0,none⟩) a5.drew (by show w.heap.size<=xb;omega) _)
   ·rw [k,e8];rfl
   ·rw [zAc,e8,zAc,k];simp
 ·have a9:bs a=[]:=by
   cases h:decide (bs a=bs { data:=#[] }) with
   | true=>exact of_decide_eq_true h
   | false=>rw [h] at he;cases he
  exact pos (fun l e=>by rw [a9] at e;cases e) _ rfl
end Go.Proofs.Si
