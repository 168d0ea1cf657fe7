/- Part of the proof: SxP2. -/
import Derived.Test.YtonenlplcidihaaDoorSxS
/-! Words: what kind they are. -/
namespace Go.Proofs.Sx
open Go Go.V Go.Proofs Go.RowKit
set_option maxRecDepth 100000

theorem wrap_succ {i : Nat} (h : i < 9223372036854775807) : IntKind.i64.wrap ((i : Int) + 1) = ((i + 1 : Nat) : Int) := by
  rw [wrap64_in] <;> omega
theorem wrap_pred {i : Nat} (h : i < 9223372036854775807) (h0 : 0 < i) : IntKind.i64.wrap ((i : Int) - 1) = ((i - 1 : Nat) : Int) := by
  rw [wrap64_in] <;> omega
/-- How far a counter is from N. -/
def mu1 (N : Nat) : List Value → World → Nat
  | .int _ n :: _, _ => N - n.toNat
  | _, _ => 0
theorem not_digit (c : UInt8) : (decide ((c.toNat : Int) < 48) || decide ((c.toNat : Int) > 57)) = !isDigit c := by
  unfold isDigit
  rw [Bool.eq_iff_iff]
  simp only [Bool.or_eq_true, decide_eq_true_eq, Bool.not_eq_true', Bool.and_eq_false_iff, decide_eq_false_iff_not]
  omega
theorem not_print (c : UInt8) : (decide ((c.toNat : Int) < 32) || decide ((c.toNat : Int) > 126)) = !isPrint c := by
  unfold isPrint
  rw [Bool.eq_iff_iff]
  simp only [Bool.or_eq_true, decide_eq_true_eq, Bool.not_eq_true', Bool.and_eq_false_iff, decide_eq_false_iff_not]
  omega
/-- 'a || b' where b is asked only if a is not so. -/
theorem orelse {a b : Bool} {p : Bool → Prop} (h : p (a || b)) : bif a then p true else p b := by cases a <;> exact h
theorem orelse2 {a b : Bool} {p : Bool → Prop} {q : Prop} (h : p (a || b)) (hq : q) : bif a then p true else q ∧ p b := by
  cases a
  · exact ⟨hq, h⟩
  · exact h
theorem andalso {a b : Bool} {p : Bool → Prop} (h : p (a && b)) : bif a then p b else p false := by cases a <;> exact h

theorem c57 (s : ByteArray) (hs : s.size < 9223372036854775807) (w : World) : Ret Tryd.prog 57 #[.string s] w fun v w' => v = .bool (digitsL (bs s)) ∧ w' = w := by
  refine run57 _ _ _ ⟨fun vals w' => ∃ i : Nat, vals = [.int .i64 i] ∧ i ≤ s.size ∧ w' = w ∧ (bs s).all isDigit = (rest s i).all isDigit, mu1 s.size, ⟨0, rfl, Nat.zero_le _, rfl, rfl⟩, ?_⟩
  rintro n w1 ⟨i, hv, hi, rfl, hall⟩
  cases hv
  refine cond_dec (fun hlt => ?_) (fun hlt => ?_)
  · have hlt' : i < s.size := by omega
    intro K hK
    have hb : (0 : Int) ≤ i ∧ (i : Int) < s.size := ⟨by omega, hlt⟩
    have hc := rest_cons hlt'
    refine ⟨hb, ?_⟩
    have main : ∀ b, (b = !isDigit ((bs s).getD i 0)) → K [Value.bool b] w1 := by
      rintro b rfl
      refine hK _ (cond_intro (fun h => ?_) (fun h => ?_))
      · refine ⟨?_, rfl⟩
        have h' : isDigit ((bs s).getD i 0) = false := by simpa using h
        congr 1
        rw [digitsL, hall, hc, List.all_cons, h', Bool.false_and, Bool.and_false]
      · rw [wrap_succ (by omega)]
        refine ⟨⟨i + 1, rfl, hlt', rfl, ?_⟩, ?_⟩
        · have h' : isDigit ((bs s).getD i 0) = true := by simpa using h
          rw [hall, hc, List.all_cons, h', Bool.true_and]
        · simp only [mu1, Int.toNat_natCast]; omega
    rw [bt_eq]
    have := main _ (not_digit _)
    exact orelse2 (p := fun b => K [Value.bool b] w1) this hb
  · refine ⟨?_, rfl⟩
    have h2 : s.size ≤ i := by omega
    rw [beq_empty]
    congr 1
    rw [digitsL, hall, rest_nil h2]
    cases h3 : bs s <;> simp

theorem noLead_eq (l : List UInt8) : noLead l = !(decide (l.length > 1) && (l.getD 0 0 == 48)) := by
  unfold noLead
  split
  · simp
  · rename_i h
    match l, h with
    | [], _ => rfl
    | [c], _ => rfl
    | c :: d :: t, h =>
      have : c ≠ 48 := fun hc => h d t (by rw [hc])
      simp [this]
def mu2 : List Value → World → Nat
  | .string s :: _, _ => s.size
  | _, _ => 0
theorem c58 (s : ByteArray) (w : World) : Ret Tryd.prog 58 #[.string s] w fun v w' => (∃ s', v = .string s' ∧ decide (bs s' = bs s) = noLead (bs s)) ∧ w' = w := by
  refine run58 _ _ _ ⟨fun vals w' => ∃ s1 : ByteArray, vals = [.string s1] ∧ s1.size ≤ s.size ∧ (s1.size = s.size → s1 = s) ∧ (s1 ≠ s → noLead (bs s) = false) ∧ w' = w, mu2,
    ⟨s, rfl, Nat.le_refl _, fun _ => rfl, fun h => absurd rfl h, rfl⟩, ?_⟩
  rintro s1 w1 ⟨_, hv, hle, heq, hno, rfl⟩
  cases hv
  intro K hK
  have main : ∀ b, b = !noLead (bs s1) → K [Value.bool b] w1 := by
    rintro b rfl
    refine hK _ (cond_intro (fun h => ?_) (fun h => ?_))
    · have h1 : noLead (bs s1) = false := by simpa using h
      have h2 := noLead_eq (bs s1)
      rw [h1] at h2
      have h3 : (bs s1).length > 1 := by
        by_cases hc : (bs s1).length > 1
        · exact hc
        · simp [hc] at h2
      rw [← size_bs] at h3
      have h4 : (s1.extract 1 s1.size).size = s1.size - 1 := by
        rw [size_bs, extract_bs, List.length_take, rest_len]; omega
      refine ⟨⟨by omega, by omega⟩, ⟨_, rfl, by omega, fun h => by omega, fun _ => ?_, rfl⟩, ?_⟩
      · by_cases hs : s1 = s
        · rw [← hs]; exact h1
        · exact hno hs
      · simp only [mu2]; omega
    · have h1 : noLead (bs s1) = true := by simpa using h
      refine ⟨⟨s1, rfl, ?_⟩, rfl⟩
      by_cases hs : s1 = s
      · subst hs; simp [h1]
      · rw [hno hs]
        simp only [decide_eq_false_iff_not]
        exact fun h => hs (bs_inj h)
  refine cond_dec (fun h => ⟨⟨by omega, by omega⟩, main _ ?_⟩) (fun h => main _ ?_)
  · rw [noLead_eq]
    have : (bs s1).length > 1 := by rw [← size_bs]; omega
    simp only [this, decide_true, Bool.true_and, Bool.not_not]
    exact u8_beq _ 48 (by omega)
  · rw [noLead_eq]
    have : ¬ (bs s1).length > 1 := by rw [← size_bs]; omega
    simp [this]

theorem indexByte_split (l : List UInt8) (c : UInt8) :
    Lib.indexByte l c = if (l.takeWhile (· != c)).length < l.length then ((l.takeWhile (· != c)).length : Int) else -1 := by
  induction l with
  | nil => simp [Lib.indexByte]
  | cons b l ih =>
    unfold Lib.indexByte
    by_cases h : b = c
    · subst h; simp
    · have h2 : (b == c) = false := by simp [h]
      have h3 : (b != c) = true := by simp [h]
      rw [h2, List.takeWhile_cons, h3, ih]
      simp only [Bool.false_eq_true, if_false, if_true, List.length_cons]
      by_cases h4 : (l.takeWhile (· != c)).length < l.length
      · have h5 : ((((l.takeWhile (· != c)).length : Int)) == -1) = false := by
          rw [beq_eq_false_iff_ne]; omega
        simp only [h4, if_true, h5, Bool.false_eq_true, if_false, Nat.add_lt_add_iff_right]
        omega
      · simp [h4]
theorem takeWhile_take (p : UInt8 → Bool) (l : List UInt8) : l.take (l.takeWhile p).length = l.takeWhile p :=
  (List.prefix_iff_eq_take.1 (List.takeWhile_prefix p)).symm
/-- Cut at a point. -/
theorem c59 (s : ByteArray) (hs : s.size < 9223372036854775807) (w : World) : Ret Tryd.prog 59 #[.string s, .string { data := #[46] }] w fun v w' =>
    (∃ a b : ByteArray, ∃ f : Bool, v = .tuple #[.string a, .string b, .bool f] ∧ bs a = (bs s).takeWhile (· != 46) ∧ f = decide (((bs s).takeWhile (· != 46)).length < (bs s).length) ∧
      (f = true → bs b = (bs s).drop (((bs s).takeWhile (· != 46)).length + 1))) ∧ Ext w w' := by
  have key : Ret Tryd.prog 67 #[.string s, .string { data := #[46] }] w fun v w' =>
    (∃ a b : ByteArray, ∃ f : Bool, v = .tuple #[.string a, .string b, .bool f] ∧ bs a = (bs s).takeWhile (· != 46) ∧ f = decide (((bs s).takeWhile (· != 46)).length < (bs s).length) ∧
      (f = true → bs b = (bs s).drop (((bs s).takeWhile (· != 46)).length + 1))) ∧ Ext w w' := by
    refine run67 _ _ _ _ (Called.of (ret_of (Tryd.stringslite_Index_one s 46 w)) ?_)
    rintro v w' ⟨rfl, rfl⟩
    refine ⟨_, rfl, ?_⟩
    have hle : ((bs s).takeWhile (· != 46)).length ≤ (bs s).length := (List.takeWhile_prefix _).length_le
    have hsz := size_bs s
    by_cases h : ((bs s).takeWhile (· != 46)).length < (bs s).length
    · rw [show Lib.indexByte s.data.toList 46 = _ from (indexByte_split (bs s) 46).trans (if_pos h)]
      have e1 : IntKind.i64.wrap ((((bs s).takeWhile (· != 46)).length : Int) + ((ByteArray.size { data := #[46] } : Nat) : Int)) = ((((bs s).takeWhile (· != 46)).length + 1 : Nat) : Int) :=
        wrap_succ (by omega)
      refine cond_dec (fun _ => ⟨⟨by omega, ?_⟩, ?_, ?_⟩) (fun h2 => absurd (show (0 : Int) ≤ (((bs s).takeWhile (· != 46)).length : Int) by omega) h2)
      · show (((bs s).takeWhile (· != 46)).length : Int) ≤ _
        omega
      · rw [e1]; exact ⟨by omega, by omega⟩
      · rw [e1]
        refine ⟨⟨_, _, _, rfl, ?_, by simp [h], fun _ => ?_⟩, (Ext.refl _).drew⟩
        · rw [extract_bs, rest_zero, Int.toNat_natCast, Nat.sub_zero, takeWhile_take]
        · rw [extract_bs, Int.toNat_natCast, rest]
          apply List.take_of_length_le
          rw [List.length_drop]; omega
    · rw [show Lib.indexByte s.data.toList 46 = _ from (indexByte_split (bs s) 46).trans (if_neg h)]
      refine cond_dec (fun h2 => absurd h2 (by decide)) (fun _ => ⟨⟨_, _, _, rfl, ?_, by simp [h], fun h => by cases h⟩, Ext.refl _⟩)
      have : ((bs s).takeWhile (· != 46)).length = (bs s).length := by omega
      exact ((List.takeWhile_prefix _).eq_of_length this).symm
  refine run59 _ _ _ _ (Called.of key ?_)
  rintro v w' ⟨⟨a, b, f, rfl, h⟩, he⟩
  exact ⟨a, b, f, rfl, ⟨a, b, f, rfl, h⟩, he⟩

/-- What strings.Trim says of a cut set of the ten digits. -/
def TrimOk : Prop := ∀ (s : ByteArray) (w : World), s.size < 4294967281 → Ret Tryd.prog 62 #[.string s, .string { data := #[48, 49, 50, 51, 52, 53, 54, 55, 56, 57] }] w fun v w' =>
  (∃ s', v = .string s' ∧ decide (bs s' = []) = (bs s).all isDigit) ∧ Ext w w'

theorem digits_head {l : List UInt8} (h : l ≠ []) : digitsL l = l.all isDigit := by cases l <;> simp [digitsL] at *
theorem bt_zero (s : ByteArray) : bt s 0 = (((bs s).getD 0 0).toNat : Int) := rfl
theorem size_pos {s : ByteArray} (h : bs s ≠ []) : (0 : Int) < s.size := by
  have := List.length_pos_iff.2 h
  rw [size_bs]; omega
theorem c61 (T : TrimOk) (s : ByteArray) (hs : s.size < 4294967281) (w : World) : Ret Tryd.prog 61 #[.string s] w fun v w' => v = .bool (digitsL (bs s) && noLead (bs s)) ∧ Ext w w' := by
  refine run61 _ _ _ fun K hK => ?_
  rw [show (s.toList == ByteArray.toList { data := #[48] }) = decide (bs s = [48]) from beq_bytes s _, beq_empty]
  refine cond_intro (fun h => hK _ _ ⟨?_, Ext.refl _⟩) (fun h => cond_intro (fun h2 => ⟨⟨by omega, ?_⟩, ?_⟩) (fun h2 => hK _ _ ⟨?_, Ext.refl _⟩))
  · rw [of_decide_eq_true h]; rfl
  · exact size_pos (by simpa using h2)
  · have hne : bs s ≠ [] := by simpa using h2
    refine cond_intro (fun h3 => Called.of (T s w hs) ?_) (fun h3 => hK _ _ ⟨?_, Ext.refl _⟩)
    · rintro v w' ⟨⟨s', rfl, h4⟩, he⟩
      refine ⟨_, rfl, hK _ _ ⟨?_, he⟩⟩
      rw [beq_empty, h4, digits_head hne]
      have h5 : ((bs s).getD 0 0 == 48) = false := by
        rw [bt_zero] at h3
        have := u8_beq ((bs s).getD 0 0) 48 (by omega)
        rw [← Bool.not_eq_true]
        intro hc
        rw [show UInt8.ofNat 48 = 48 from rfl, hc] at this
        rw [bne_iff_ne] at h3
        exact h3 (eq_of_beq this)
      rw [noLead_eq, h5]
      simp
    · have h5 : (bs s).getD 0 0 = 48 := by
        rw [bt_zero] at h3
        have := u8_beq ((bs s).getD 0 0) 48 (by omega)
        have h6 : (((bs s).getD 0 0).toNat : Int) = 48 := by simpa using h3
        rw [h6] at this
        simpa using this.symm
      have h7 : (bs s).length > 1 := by
        have hn : bs s ≠ [48] := by simpa using h
        match hb : bs s with
        | [] => exact absurd hb hne
        | [c] =>
          rw [hb] at h5 hn
          exact absurd (by rw [show c = 48 from h5]) hn
        | c :: d :: t => simp
      rw [noLead_eq, h5]
      simp [h7]
  · have : bs s = [] := by simpa using h2
    rw [this]; rfl
theorem takeWhile_size (s : ByteArray) : ((bs s).takeWhile (· != 46)).length ≤ s.size := by
  rw [size_bs]; exact (List.takeWhile_prefix _).length_le
theorem digits_all {l : List UInt8} (h : digitsL l = true) : l ≠ [] ∧ l.all isDigit = true := by
  cases l <;> simp [digitsL] at * <;> exact h
/-- The kind of a word, as the program says it. -/
theorem c49 (T : TrimOk) (s : ByteArray) (hs : s.size < 4294967281) (w : World) : Ret Tryd.prog 49 #[.string s] w fun v w' => v = .int .i64 (kindW (bs s)) ∧ Ext w w' := by
  refine run49 _ _ _ (Called.of (c59 s (by omega) w) ?_)
  rintro v w1 ⟨⟨a, b, f, rfl, ha, hf, hb⟩, he1⟩
  refine ⟨a, b, f, rfl, ?_⟩
  rw [beq_empty]
  refine cond_intro (fun h => ⟨?_, he1⟩) (fun h => ?_)
  · rw [of_decide_eq_true h]; rfl
  have hne : bs s ≠ [] := of_decide_eq_false h
  refine ⟨⟨Int.le_refl _, size_pos hne⟩, ?_⟩
  rw [bt_zero]
  refine Called.of (c60 _ _) ?_
  rintro v w2 ⟨rfl, rfl⟩
  refine ⟨_, rfl, ?_⟩
  -- the kind, opened
  obtain ⟨c, l, hcl⟩ : ∃ c l, bs s = c :: l := by
    cases hb2 : bs s with
    | nil => exact absurd hb2 hne
    | cons c l => exact ⟨c, l, rfl⟩
  have hc0 : (bs s).getD 0 0 = c := by rw [hcl]; rfl
  have kd : kindW (bs s) = if isDigit c then
      (if ((bs s).takeWhile (· != 46)).length < (bs s).length then
        (if digitsL ((bs s).takeWhile (· != 46)) && noLead ((bs s).takeWhile (· != 46)) && digitsL ((bs s).drop (((bs s).takeWhile (· != 46)).length + 1)) then 3 else 0)
      else if digitsL (bs s) && noLead (bs s) then 2 else 0) else 1 := by
    rw [hcl]; rfl
  rw [hc0]
  refine cond_intro (fun h2 => ⟨?_, he1⟩) (fun h2 => ?_)
  · have : isDigit c = false := by simpa using h2
    rw [kd, this]; rfl
  have hd : isDigit c = true := by simpa using h2
  rw [if_pos hd] at kd
  have hsa : a.size ≤ s.size := by rw [size_bs a, ha]; exact takeWhile_size s
  refine Called.of (c61 T a (by omega) w2) ?_
  rintro v w3 ⟨rfl, he3⟩
  refine ⟨_, rfl, ?_⟩
  rw [ha]
  have hwhole : ¬ ((bs s).takeWhile (· != 46)).length < (bs s).length → (bs s).takeWhile (· != 46) = bs s := fun hn =>
    (List.takeWhile_prefix _).eq_of_length (by have := takeWhile_size s; rw [size_bs] at this; omega)
  refine cond_intro (fun h3 => ⟨?_, he1.trans he3⟩) (fun h3 => ?_)
  · have h3' : (digitsL ((bs s).takeWhile (· != 46)) && noLead ((bs s).takeWhile (· != 46))) = false := by rwa [Bool.not_eq_true'] at h3
    rw [kd]
    congr 1
    by_cases hl : ((bs s).takeWhile (· != 46)).length < (bs s).length
    · rw [if_pos hl, h3']; rfl
    · rw [if_neg hl]
      rw [hwhole hl] at h3'
      rw [h3']; rfl
  have h3' : (digitsL ((bs s).takeWhile (· != 46)) && noLead ((bs s).takeWhile (· != 46))) = true := by rwa [Bool.not_eq_false'] at h3
  refine cond_intro (fun h4 => ⟨?_, he1.trans he3⟩) (fun h4 => ?_)
  · rw [hf] at h4
    have hl : ¬ ((bs s).takeWhile (· != 46)).length < (bs s).length := by simpa using h4
    rw [kd, if_neg hl]
    rw [hwhole hl] at h3'
    rw [h3']; rfl
  have hl : ((bs s).takeWhile (· != 46)).length < (bs s).length := by rw [hf] at h4; simpa using h4
  rw [if_pos hl, h3', Bool.true_and] at kd
  have hft : f = true := by rw [hf]; simpa using hl
  have hb' := hb hft
  rw [← hb'] at kd
  intro K hK
  have fin : ∀ w4, Ext w w4 → K [Value.bool (digitsL (bs b))] w4 := fun w4 he4 => by
    refine hK _ _ (cond_intro (fun h5 => ⟨?_, he4⟩) (fun h5 => ⟨?_, he4⟩))
    · rw [kd, h5]; rfl
    · rw [kd, h5]; rfl
  rw [beq_empty]
  refine cond_intro (fun h5 => ?_) (fun h5 => ?_)
  · have hbn : bs b ≠ [] := by simpa using h5
    have hsb : b.size ≤ s.size := by rw [size_bs b, hb', size_bs s, List.length_drop]; omega
    refine Called.of (T b w3 (by omega)) ?_
    rintro v w4 ⟨⟨s', rfl, h6⟩, he4⟩
    refine ⟨_, rfl, ?_⟩
    rw [beq_empty, h6, ← digits_head hbn]
    exact fin _ ((he1.trans he3).trans he4)
  · have : bs b = [] := by simpa using h5
    have := fin w3 (he1.trans he3)
    rwa [show digitsL (bs b) = false by rw [‹bs b = []›]; rfl] at this
theorem trim_eq {s' s : ByteArray} (h : decide (bs s' = bs s) = noLead (bs s)) : (s'.toList == s.toList) = noLead (bs s) := by rw [beq_bytes]; exact h
theorem all_take {s : ByteArray} {n : Nat} (h : ∀ j, j < n → (bs s).getD j 0 ≠ 46) (hn : n ≤ s.size) : (bs s).takeWhile (· != 46) = (bs s).take n ++ (rest s n).takeWhile (· != 46) := by
  induction n with
  | zero => simp [rest]
  | succ n ih =>
    rw [ih (fun j hj => h j (by omega)) (by omega), rest_cons (show n < s.size by omega), List.takeWhile_cons]
    have h1 := h n (Nat.lt_succ_self n)
    have h2 : ((bs s).getD n 0 != 46) = true := by simpa using h1
    have hl : n < (bs s).length := by rw [← size_bs]; omega
    rw [h2, List.take_add_one]
    simp only [if_true]
    rw [List.append_assoc]
    congr 1
    simp [List.getD, List.getElem?_eq_getElem hl]
/-- The kind of a word, as the reference says it. -/
theorem c43 (s : ByteArray) (hs : s.size < 4294967281) (hne : bs s ≠ []) (w : World) : Ret Tryd.prog 43 #[.string s] w fun v w' => v = .int .i64 (kindW (bs s)) ∧ Ext w w' := by
  refine run43 _ _ _ fun K hK => ?_
  obtain ⟨c, l, hcl⟩ : ∃ c l, bs s = c :: l := by
    cases hb2 : bs s with
    | nil => exact absurd hb2 hne
    | cons c l => exact ⟨c, l, rfl⟩
  have hc0 : (bs s).getD 0 0 = c := by rw [hcl]; rfl
  have kd : kindW (bs s) = if isDigit c then
      (if ((bs s).takeWhile (· != 46)).length < (bs s).length then
        (if digitsL ((bs s).takeWhile (· != 46)) && noLead ((bs s).takeWhile (· != 46)) && digitsL ((bs s).drop (((bs s).takeWhile (· != 46)).length + 1)) then 3 else 0)
      else if digitsL (bs s) && noLead (bs s) then 2 else 0) else 1 := by
    rw [hcl]; rfl
  have hb0 : (0 : Int) ≤ 0 ∧ (0 : Int) < s.size := ⟨Int.le_refl _, size_pos hne⟩
  refine ⟨hb0, ?_⟩
  rw [bt_zero, hc0]
  have main : ∀ b, b = !isDigit c → K [Value.bool b] w := by
    rintro b rfl
    refine hK _ (cond_intro (fun h => ⟨?_, Ext.refl _⟩) (fun h => ?_))
    · have : isDigit c = false := by simpa using h
      rw [kd, this]; rfl
    have hd : isDigit c = true := by simpa using h
    rw [if_pos hd] at kd
    refine ⟨fun vals w' => ∃ i : Nat, vals = [.int .i64 i] ∧ i ≤ s.size ∧ (∀ j, j < i → (bs s).getD j 0 ≠ 46) ∧ w' = w, mu1 s.size, ⟨0, rfl, Nat.zero_le _, fun j hj => absurd hj (Nat.not_lt_zero j), rfl⟩, ?_⟩
    rintro n w1 ⟨i, hv, hi, hno, rfl⟩
    cases hv
    refine cond_dec (fun hlt => ?_) (fun hlt => ?_)
    · have hlt' : i < s.size := by omega
      refine ⟨⟨by omega, hlt⟩, ?_⟩
      rw [bt_eq, show ((((bs s).getD i 0).toNat : Int) == 46) = ((bs s).getD i 0 == 46) from u8_beq _ 46 (by omega)]
      refine cond_intro (fun h1 => ?_) (fun h1 => ?_)
      · have h46 : (bs s).getD i 0 = 46 := by simpa using h1
        have htw : (bs s).takeWhile (· != 46) = (bs s).take i := by
          rw [all_take hno hi, rest_cons hlt', h46, List.takeWhile_cons]
          simp
        have hlen : ((bs s).takeWhile (· != 46)).length = i := by
          rw [htw, List.length_take, ← size_bs]; omega
        rw [if_pos (by rw [hlen, ← size_bs]; exact hlt')] at kd
        rw [hlen, htw] at kd
        have hx : bs (s.extract 0 ((i : Int).toNat)) = (bs s).take i := by rw [extract_bs, rest_zero]; rfl
        intro K1 hK1
        have fin : ∀ w2 b, b = (digitsL ((bs s).take i) && noLead ((bs s).take i) && digitsL ((bs s).drop (i + 1))) → Ext w1 w2 → K1 [Value.bool b] w2 := by
          rintro w2 b rfl he
          refine hK1 _ _ (cond_intro (fun h5 => ⟨?_, he⟩) (fun h5 => ⟨?_, he⟩))
          · rw [kd, h5]; rfl
          · rw [kd, h5]; rfl
        refine ⟨⟨by omega, by omega⟩, Called.of (c57 _ ?_ _) ?_⟩
        · rw [size_bs, hx, List.length_take]; omega
        rintro v w2 ⟨rfl, rfl⟩
        refine ⟨_, rfl, ?_⟩
        rw [hx]
        refine cond_intro (fun h2 => ?_) (fun h2 => fin _ _ (by rw [h2]; rfl) (Ext.refl _).drew)
        refine ⟨⟨by omega, by omega⟩, ⟨by omega, by omega⟩, Called.of (c58 _ _) ?_⟩
        rintro v w3 ⟨⟨s', rfl, h3⟩, rfl⟩
        refine ⟨_, rfl, ?_⟩
        rw [trim_eq h3, hx]
        refine cond_intro (fun h4 => ?_) (fun h4 => fin _ _ (by rw [h4, Bool.and_false]; rfl) (Ext.refl _).drew)
        rw [wrap_succ (by omega)]
        have hx2 : bs (s.extract ((((i + 1 : Nat) : Int)).toNat) s.size) = (bs s).drop (i + 1) := by
          rw [extract_bs, Int.toNat_natCast, rest]
          apply List.take_of_length_le
          rw [List.length_drop, ← size_bs]; omega
        refine ⟨⟨by omega, by omega⟩, Called.of (c57 _ ?_ _) ?_⟩
        · rw [size_bs, hx2, List.length_drop, ← size_bs]; omega
        rintro v w4 ⟨rfl, rfl⟩
        refine ⟨_, rfl, ?_⟩
        rw [hx2]
        exact fin _ _ (by rw [h2, h4]; rfl) (Ext.refl _).drew
      · rw [wrap_succ (by omega)]
        refine ⟨⟨i + 1, rfl, hlt', fun j hj => ?_, rfl⟩, ?_⟩
        · by_cases hji : j = i
          · subst hji; simpa using h1
          · exact hno j (by omega)
        · simp only [mu1, Int.toNat_natCast]; omega
    · have hi2 : i = s.size := by omega
      have htw : (bs s).takeWhile (· != 46) = bs s := by
        rw [all_take hno hi, rest_nil (by omega), List.takeWhile_nil, List.append_nil]
        apply List.take_of_length_le
        rw [← size_bs]; omega
      rw [htw, if_neg (Nat.lt_irrefl _)] at kd
      intro K2 hK2
      have fin : ∀ w2 b, b = (digitsL (bs s) && noLead (bs s)) → Ext w1 w2 → K2 [Value.bool b] w2 := by
        rintro w2 b rfl he
        refine hK2 _ _ (cond_intro (fun h5 => ⟨?_, he⟩) (fun h5 => ⟨?_, he⟩))
        · rw [kd, h5]; rfl
        · rw [kd, h5]; rfl
      refine Called.of (c57 _ (by omega) _) ?_
      rintro v w2 ⟨rfl, rfl⟩
      refine ⟨_, rfl, cond_intro (fun h2 => Called.of (c58 _ _) ?_) (fun h2 => fin _ _ (by rw [h2]; rfl) (Ext.refl _))⟩
      rintro v w3 ⟨⟨s', rfl, h3⟩, rfl⟩
      refine ⟨_, rfl, ?_⟩
      rw [trim_eq h3]
      exact fin _ _ (by rw [h2]; rfl) (Ext.refl _)
  have h2 := main _ (not_digit c)
  exact orelse2 (p := fun b => K [Value.bool b] w) h2 hb0
end Go.Proofs.Sx
