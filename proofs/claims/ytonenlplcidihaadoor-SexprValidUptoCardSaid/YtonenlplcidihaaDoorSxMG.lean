/- Part of the proof: SxMG. -/
import Derived.Test.YtonenlplcidihaaDoorSxS
import Derived.Test.YtonenlplcidihaaDoorSxP9
/-! Forests of items. -/
namespace Go.Proofs.Sx
open Go Go.V Go.Proofs
set_option maxRecDepth 100000

inductive Fo where
  | nil
  | leaf (kind : Int) (text : ByteArray) (rest : Fo)
  | list (kids : Fo) (rest : Fo)
namespace Fo
/-- How many items stand side by side. -/
def cnt : Fo → Nat
  | nil => 0
  | leaf _ _ r => r.cnt + 1
  | list _ r => r.cnt + 1
/-- The items in their order. -/
def flat : Fo → List It
  | nil => []
  | leaf k t r => ⟨k, t, 0, 0⟩ :: r.flat
  | list c r => ⟨5, mk [], c.cnt, 0⟩ :: (c.flat ++ r.flat)
def dep : Fo → Nat
  | nil => 0
  | leaf _ _ r => r.dep
  | list c r => max (c.dep + 1) r.dep
def app : Fo → Fo → Fo
  | nil, g => g
  | leaf k t r, g => leaf k t (r.app g)
  | list c r, g => list c (r.app g)
theorem app_cnt (f g : Fo) : (f.app g).cnt = f.cnt + g.cnt := by
  induction f with
  | nil => simp [app, cnt]
  | leaf k t r ih => simp only [app, cnt, ih]; omega
  | list c r _ ih => simp only [app, cnt, ih]; omega
theorem app_flat (f g : Fo) : (f.app g).flat = f.flat ++ g.flat := by
  induction f with
  | nil => simp [app, flat]
  | leaf k t r ih => simp [app, flat, ih]
  | list c r _ ih => simp [app, flat, ih]
theorem cnt_le (f : Fo) : f.cnt ≤ f.flat.length := by
  induction f with
  | nil => simp [cnt, flat]
  | leaf k t r ih => simp only [cnt, flat, List.length_cons]; omega
  | list c r _ ih => simp only [cnt, flat, List.length_cons, List.length_append]; omega
end Fo
end Go.Proofs.Sx

/-! The choices. -/
namespace Go.Proofs.Sx
open Go Go.V Go.Proofs Go.RowKit
set_option maxRecDepth 100000

/-- Mod answers below n. -/
theorem c18 (v n : Int) (h0 : 0 < n) (h1 : n < 9223372036854775808) (w : World) : Ret Tryd.prog 18 #[.int .i64 v, .int .i64 n] w fun x w' => (∃ m : Nat, x = .int .i64 m ∧ (m : Int) < n) ∧ w' = w := by
  have hn : IntKind.u64.wrap n = n := by
    show n % 18446744073709551616 = n
    omega
  refine run18 _ _ _ _ (cond_dec (fun h => by rw [hn] at h; omega) (fun _ => ?_))
  rw [hn]
  have hv : 0 ≤ IntKind.u64.wrap v := by
    show 0 ≤ v % 18446744073709551616
    omega
  have h2 : 0 ≤ (IntKind.u64.wrap v).tmod n := Int.tmod_nonneg _ hv
  have h3 : (IntKind.u64.wrap v).tmod n < n := Int.tmod_lt_of_pos _ h0
  rw [wrap64_in (by omega) (by omega)]
  exact ⟨⟨((IntKind.u64.wrap v).tmod n).toNat, by rw [Int.toNat_of_nonneg h2], by rw [Int.toNat_of_nonneg h2]; exact h3⟩, rfl⟩
/-- The choices at block cb. -/
def Ch (cb : Nat) (w : World) : Prop := ∃ (lA : Option Addr) (lN lC : Nat) (i : Nat) (l : List Int), w.heap[cb]? = some (.cells #[.slice lA lN lC, .int .i64 i] 74 (0, 0)) ∧
  l.length = lN ∧ lN ≤ 400 ∧ (l = [] ∨ ∃ ad, lA = some ad ∧ ad.spot = none ∧ ad.block < cb ∧ RowAt w ad (l.map fun n => .int .i64 n))
/-- What a call may turn: the choices, and new memory. -/
abbrev Tn (cb : Nat) (w w' : World) : Prop := w.grownBy w' (some cb)
theorem Tn.refl (cb : Nat) (w : World) : Tn cb w w := ⟨rfl, rfl, rfl, Nat.le_refl _, fun _ _ _ => rfl⟩
theorem Tn.trans {cb : Nat} {a b c : World} (h : Tn cb a b) (k : Tn cb b c) : Tn cb a c :=
  ⟨k.os.trans h.os, k.tape.trans h.tape, k.output.trans h.output, Nat.le_trans h.size k.size, fun i hi hn => (k.block i (Nat.lt_of_lt_of_le hi h.size) hn).trans (h.block i hi hn)⟩
theorem Tn.ext {cb : Nat} {a b c : World} (h : Tn cb a b) (k : Ext b c) : Tn cb a c :=
  h.trans ⟨k.os, k.tape, k.output, k.size, fun i hi _ => k.block i hi⟩
theorem Ch.cell_ne {cb : Nat} {w w' : World} {ad : Addr} {L : List Value} (hne : ad.block ≠ cb) (h : RowAt w ad L) (hk : ∀ k, k ≠ cb → k < w.heap.size → w'.heap[k]? = w.heap[k]?) : RowAt w' ad L := by
  intro j v hj
  have h1 := h j v hj
  have hb : (ad.add j).block = ad.block := by unfold Addr.add; split <;> rfl
  have hlt := World.block_lt_of_cell? w _ h1
  rw [World.cell?_of_block (hk _ (by rw [hb]; exact hne) hlt)]
  exact h1
theorem Ch.lt {cb : Nat} {w : World} (h : Ch cb w) : cb < w.heap.size := by
  obtain ⟨lA, lN, lC, i, l, hb, _⟩ := h
  exact (Array.getElem?_eq_some_iff.1 hb).1

theorem Ch.keep {cb : Nat} {w w' : World} (h : Ch cb w) (hk : ∀ k, k ≤ cb → w'.heap[k]? = w.heap[k]?) : Ch cb w' := by
  obtain ⟨lA, lN, lC, i, l, hb, h1, h2, h4⟩ := h
  refine ⟨lA, lN, lC, i, l, by rw [hk cb (Nat.le_refl _)]; exact hb, h1, h2, h4.imp id fun ⟨ad, a, b, c, d⟩ => ⟨ad, a, b, c, fun j v hj => ?_⟩⟩
  have hbk : (ad.add j).block = ad.block := by unfold Addr.add; split <;> rfl
  rw [World.cell?_of_block (hk _ (by rw [hbk]; omega))]
  exact d j v hj
/-- What an append to a row of the call's own leaves. -/
theorem Tn.app {cb N : Nat} {w w4 w5 : World} (h : Tn cb w w4) {size n c m e : Nat} {a a' : Option Addr} {c' : Nat} {xs news : List Value} (r : AppRes w4 w5 N e size a n c xs m news a' c')
    (ho : w4.ownsRow N e size (.slice a n c) n xs) (hN : w.heap.size ≤ N) : Tn cb w w5 :=
  ⟨r.grown.os.trans h.os, r.grown.tape.trans h.tape, r.grown.output.trans h.output, Nat.le_trans h.size r.grown.size, fun i hi hn =>
    (r.grown.block i (Nat.lt_of_lt_of_le hi h.size) (fun e => by have := (own_lt ho i e.symm).1; omega)).trans (h.block i hi hn)⟩
theorem Tn.set {cb : Nat} {w w' : World} (h : Tn cb w w') {a : Addr} (ha : w.heap.size ≤ a.block) (v : Value) : Tn cb w (w'.setCell a v) :=
  ⟨h.os, h.tape, h.output, by rw [size_setCell]; exact h.size, fun i hi hn => (blk_set_ne (by omega)).trans (h.block i hi hn)⟩
theorem Ch.app {cb N : Nat} {w4 w5 : World} (h : Ch cb w4) {size n c m e : Nat} {a a' : Option Addr} {c' : Nat} {xs news : List Value} (r : AppRes w4 w5 N e size a n c xs m news a' c')
    (ho : w4.ownsRow N e size (.slice a n c) n xs) (hN : cb < N) : Ch cb w5 :=
  h.keep fun k hk => r.grown.block k (Nat.lt_of_le_of_lt hk h.lt) (fun e => by have := (own_lt ho k e.symm).1; omega)
theorem Ch.ext {cb : Nat} {w w' : World} (h : Ch cb w) (he : Ext w w') : Ch cb w' := by
  obtain ⟨lA, lN, lC, i, l, hb, h1, h2, h4⟩ := h
  exact ⟨lA, lN, lC, i, l, he.blk hb, h1, h2, h4.imp id fun ⟨ad, a, b, c, d⟩ => ⟨ad, a, b, c, d.ext he⟩⟩
theorem c30 {cb : Nat} {w : World} (h : Ch cb w) (n : Int) (h0 : 0 < n) (h1 : n < 9223372036854775808) :
    Ret Tryd.prog 30 #[.pointer (some ⟨cb, 0, none⟩), .int .i64 n] w fun x w' => (∃ m : Nat, x = .int .i64 m ∧ (m : Int) < n) ∧ Ch cb w' ∧ Tn cb w w' := by
  obtain ⟨lA, lN, lC, i, l, hb, hl, hN, hsl⟩ := h
  have hbd : w.drew.heap[cb]? = _ := hb
  refine run30 _ _ _ _ ⟨i, blk_cell (j := 1) hbd, _, _, _, blk_cell (j := 0) hbd, cond_dec (fun hge => ⟨⟨0, rfl, h0⟩, ⟨lA, lN, lC, i, l, hbd, hl, hN, hsl⟩, ⟨rfl, rfl, rfl, Nat.le_refl _, fun _ _ _ => rfl⟩⟩) (fun hlt => ?_)⟩
  have hi : i < lN := by omega
  have hb2 := blk_set_eq (j := 1) hbd (Value.int .i64 ((i + 1 : Nat) : Int))
  have hk : ∀ k, k ≠ cb → k < w.drew.heap.size → (w.drew.setCell ⟨cb, 1, none⟩ (Value.int .i64 ((i + 1 : Nat) : Int))).drew.heap[k]? = w.drew.heap[k]? := fun k hk _ => blk_set_ne (a := ⟨cb, 1, none⟩) hk
  obtain ⟨ad, rfl, hs, hne, hr⟩ := hsl.resolve_left (fun e => by rw [e] at hl; simp only [List.length_nil] at hl; omega)
  have hr2 : RowAt (w.drew.setCell ⟨cb, 1, none⟩ (Value.int .i64 ((i + 1 : Nat) : Int))).drew ad _ := Ch.cell_ne (Nat.ne_of_lt hne) hr hk
  refine ⟨i, blk_cell (j := 1) hbd, ⟨⟨_, blk_cell (j := 1) hbd⟩, blk_free (j := 1) hbd⟩, ?_⟩
  rw [wrap_succ (by omega)]
  refine ⟨_, _, _, blk_cell (j := 0) hb2, _, blk_cell (j := 1) hb2, _, rfl, ?_⟩
  rw [show IntKind.i64.wrap (((i + 1 : Nat) : Int) - 1) = (i : Int) by rw [wrap64_in (by omega) (by omega)]; omega]
  refine ⟨⟨by omega, by omega⟩, l[i]'(by omega), ?_, ?_⟩
  · rw [Int.toNat_natCast, Nat.mul_one]
    exact hr2 i _ (by rw [List.getElem?_map, List.getElem?_eq_getElem (by omega)]; rfl)
  · refine Called.of (c18 _ n h0 h1 _) ?_
    rintro v w1 ⟨⟨m, rfl, hm⟩, rfl⟩
    exact ⟨_, rfl, ⟨m, rfl, hm⟩, ⟨some ad, lN, lC, i + 1, l, hb2, hl, hN, .inr ⟨ad, rfl, hs, hne, hr2⟩⟩, ⟨rfl, rfl, rfl, by show _ ≤ (World.setCell _ _ _).heap.size; rw [size_setCell]; exact Nat.le_refl _, fun k hk' hn => hk k (fun e => hn (by rw [e])) hk'⟩⟩

theorem c29 {lA : Option Addr} {lN lC : Nat} {l : List Int} {w : World} (hl : l.length = lN) (hc : lN ≤ lC) (h : SlAt w lA (l.map fun n => .int .i64 n)) :
    Ret Tryd.prog 29 #[.slice lA lN lC] w fun x w' => x = .pointer (some ⟨w.heap.size, 0, none⟩) ∧ Ch w.heap.size w' ∧ Ext w w' := by
  have e : (if 400 < (lN : Int) then 400 else (lN : Int)) = ((min 400 lN : Nat) : Int) := by split <;> omega
  refine run29 _ _ _ _ _ ?_
  rw [vc29, e]
  refine ⟨⟨by omega, by omega⟩, rfl, ?_, (Ext.refl w).alloc _⟩
  refine ⟨lA, min 400 lN, lC, 0, l.take (min 400 lN), heap_alloc_new w _, by rw [List.length_take]; omega, by omega, ?_⟩
  by_cases hn : l = []
  · left; rw [hn]; simp
  · right
    obtain ⟨ad, rfl, hs, hr⟩ := h.at (j := 0) (by rw [List.length_map]; exact List.length_pos_iff.2 hn)
    obtain ⟨x, l', rfl⟩ : ∃ x l', l = x :: l' := by
      cases l with
      | nil => exact absurd rfl hn
      | cons x l' => exact ⟨x, l', rfl⟩
    have h0 := hr 0 _ rfl
    have hlt := World.block_lt_of_cell? w _ h0
    rw [Addr.add] at hlt
    refine ⟨ad, rfl, hs, hlt, fun j v hj => ?_⟩
    have h1 : ((x :: l').map fun n => Value.int .i64 n)[j]? = some v := by
      rw [List.map_take, List.getElem?_take] at hj
      split at hj
      · exact hj
      · cases hj
    exact ((Ext.refl w).alloc _).cell (hr j v h1)
end Go.Proofs.Sx

/-! Numbers as text. -/
namespace Go.Proofs.Sx
open Go Go.V Go.Proofs Go.RowKit
set_option maxRecDepth 100000

def digitOf (d : Nat) : UInt8 := UInt8.ofNat (48 + d)
def decL (n : Nat) : List UInt8 := if n < 10 then [digitOf n] else decL (n / 10) ++ [digitOf (n % 10)]
theorem decL_small {n : Nat} (h : n < 10) : decL n = [digitOf n] := by rw [decL, if_pos h]
theorem decL_step {n : Nat} (h : ¬ n < 10) : decL n = decL (n / 10) ++ [digitOf (n % 10)] := by rw [decL, if_neg h]
/-- What stands ahead of the last digit. -/
theorem decL_last (n : Nat) : decL n = (if n / 10 = 0 then [] else decL (n / 10)) ++ [digitOf (n % 10)] := by
  by_cases h : n < 10
  · rw [decL_small h, if_pos (by omega), Nat.mod_eq_of_lt h]; rfl
  · rw [decL_step h, if_neg (by omega)]
def mu4 : List Value → World → Nat
  | .int _ n :: .string s :: _, _ => n.toNat * 2 + (if s.size = 0 then 1 else 0)
  | _, _ => 0

theorem c44 (n : Nat) (hn : n < 4294967296) (w : World) : Ret Tryd.prog 44 #[.int .i64 n] w fun v w' => (∃ s : ByteArray, v = .string s ∧ bs s = decL n) ∧ Ext w w' := by
  refine run44 _ _ _ ⟨fun vals w' => ∃ (m : Nat) (s : ByteArray), vals = [.int .i64 m, .string s] ∧ m ≤ n ∧ Ext w w' ∧ s.size + m ≤ n + 20 ∧ (bs s = [] ∧ m = n ∨ bs s ≠ [] ∧ decL n = (if m = 0 then [] else decL m) ++ bs s), mu4,
    ⟨n, _, rfl, Nat.le_refl _, Ext.refl _, by show 0 + n ≤ _; omega, .inl ⟨rfl, rfl⟩⟩, ?_⟩
  rintro n1 s w1 ⟨m, _, hv, hm, he, hsz, hs⟩
  cases hv
  rw [beq_empty]
  refine cond_intro (fun hc => ?_) (fun hc => ?_)
  · intro K hK
    have hmod : (m : Int).tmod 10 = ((m % 10 : Nat) : Int) := by rw [Int.tmod_eq_emod_of_nonneg (by omega)]; omega
    have hdiv : (m : Int).tdiv 10 = ((m / 10 : Nat) : Int) := by rw [Int.tdiv_eq_ediv_of_nonneg (by omega)]; omega
    rw [hmod]
    refine cond_dec (fun h => absurd h (by omega)) (fun _ => hK _ ?_)
    rw [hdiv, wrap64_in (by omega) (by omega), wrap64_in (by omega) (by omega)]
    have hu : IntKind.u8.wrap (48 + ((m % 10 : Nat) : Int)) = ((digitOf (m % 10)).toNat : Int) := by
      show (48 + ((m % 10 : Nat) : Int)) % 256 = _
      rw [digitOf, UInt8.toNat_ofNat']
      omega
    rw [hu]
    have hb : bs (mk [digitOf (m % 10)] ++ s) = digitOf (m % 10) :: bs s := by rw [bs_append, bs_mk]; rfl
    have hz : (mk [digitOf (m % 10)] ++ s).size = s.size + 1 := by rw [size_bs, hb, size_bs]; rfl
    refine ⟨[digitOf (m % 10)], ⟨rfl, .inr ⟨_, rfl, rfl, ?_⟩⟩, ?_, ⟨m / 10, mk [digitOf (m % 10)] ++ s, rfl, by omega, he.alloc _, ?_, .inr ⟨by rw [hb]; simp, ?_⟩⟩, ?_⟩
    · intro i hi
      have : i = 0 := by omega
      subst this
      exact alloc_new_cell w1 _ _ 0
    · show 1 + s.size ≤ _
      omega
    · rw [hz]
      rcases hs with ⟨h1, h2⟩ | ⟨h1, h2⟩
      · have : s.size = 0 := by rw [size_bs, h1]; rfl
        omega
      · have h3 : m ≠ 0 := by
          intro h3
          subst h3
          simp [h1] at hc
        omega
    · rw [hb]
      rcases hs with ⟨h1, h2⟩ | ⟨h1, h2⟩
      · rw [h1, h2]; exact decL_last n
      · have h3 : m ≠ 0 := by
          intro h3
          subst h3
          simp [h1] at hc
        rw [h2, if_neg h3]
        conv => lhs; rw [decL_last m]
        simp
    · simp only [mu4, Int.toNat_natCast]
      rw [show ({ data := [digitOf (m % 10)].toArray } ++ s : ByteArray).size = s.size + 1 from hz]
      rw [if_neg (Nat.succ_ne_zero _)]
      by_cases hm0 : m = 0
      · have : bs s = [] := by
          rcases hs with ⟨h1, _⟩ | ⟨h1, _⟩
          · exact h1
          · subst hm0; simp [h1] at hc
        have h5 : s.size = 0 := by rw [size_bs, this]; rfl
        rw [if_pos h5]; omega
      · split <;> omega
  · refine cond_dec (fun h => absurd h (by omega)) (fun _ => ⟨⟨s, rfl, ?_⟩, he⟩)
    have h1 : m = 0 ∧ bs s ≠ [] := by simpa using hc
    rcases hs with ⟨h2, _⟩ | ⟨_, h2⟩
    · exact absurd h2 h1.2
    · rw [h2, if_pos h1.1]; rfl
end Go.Proofs.Sx

/-! The leaves that are drawn are good ones. -/
namespace Go.Proofs.Sx
open Go Go.V Go.Proofs
set_option maxRecDepth 100000

def okLeaf (k : Int) (t : List UInt8) : Bool :=
  if k = 4 then t.all isPrint else if k = 1 ∨ k = 2 ∨ k = 3 then !t.isEmpty && t.all isWord && decide (kindW t = k) else false

theorem digitOf_digit {d : Nat} (h : d < 10) : isDigit (digitOf d) = true := by
  have : (digitOf d).toNat = 48 + d := by rw [digitOf, UInt8.toNat_ofNat']; omega
  unfold isDigit
  rw [this]
  simp only [Bool.and_eq_true, decide_eq_true_eq]
  omega
theorem digitOf_zero {d : Nat} (h : d < 10) (h0 : digitOf d = 48) : d = 0 := by
  have h1 : (digitOf d).toNat = 48 + d := by rw [digitOf, UInt8.toNat_ofNat']; omega
  rw [h0] at h1
  have : (48 : UInt8).toNat = 48 := rfl
  omega
theorem decL_ne (n : Nat) : decL n ≠ [] := by
  rw [decL_last]
  simp
theorem decL_digits (n : Nat) : (decL n).all isDigit = true := by
  induction n using Nat.strongRecOn with
  | ind n ih =>
    by_cases h : n < 10
    · rw [decL_small h]; simp [digitOf_digit h]
    · rw [decL_step h, List.all_append, ih _ (by omega)]
      simp [digitOf_digit (Nat.mod_lt n (by omega : 10 > 0))]
theorem decL_head {n : Nat} (h0 : 0 < n) : ∃ c l, decL n = c :: l ∧ c ≠ 48 := by
  induction n using Nat.strongRecOn with
  | ind n ih =>
    by_cases h : n < 10
    · rw [decL_small h]
      exact ⟨_, _, rfl, fun e => by have := digitOf_zero h e; omega⟩
    · obtain ⟨c, l, e, hc⟩ := ih (n / 10) (by omega) (by omega)
      rw [decL_step h, e]
      exact ⟨c, _, rfl, hc⟩
theorem decL_noLead (n : Nat) : noLead (decL n) = true := by
  by_cases h0 : n = 0
  · subst h0; rw [decL_small (by omega)]; rfl
  · obtain ⟨c, l, e, hc⟩ := decL_head (Nat.pos_of_ne_zero h0)
    rw [e, noLead_eq]
    simp [hc]
theorem digit_word {c : UInt8} (h : isDigit c = true) : isWord c = true := by simp [isWord, h]
theorem digit_point {c : UInt8} (h : isDigit c = true) : (c != 46) = true := by
  rw [bne_iff_ne]
  rintro rfl
  exact absurd h (by decide)
theorem all_word {l : List UInt8} (h : l.all isDigit = true) : l.all isWord = true := by
  rw [List.all_eq_true] at h ⊢
  exact fun c hc => digit_word (h c hc)
theorem tw_digits {l : List UInt8} (h : l.all isDigit = true) (r : List UInt8) : (l ++ 46 :: r).takeWhile (· != 46) = l := by
  induction l with
  | nil => simp
  | cons c l ih =>
    rw [List.all_cons, Bool.and_eq_true] at h
    rw [List.cons_append, List.takeWhile_cons, digit_point h.1, if_pos rfl, ih h.2]
theorem tw_digits' {l : List UInt8} (h : l.all isDigit = true) : l.takeWhile (· != 46) = l := by
  induction l with
  | nil => simp
  | cons c l ih =>
    rw [List.all_cons, Bool.and_eq_true] at h
    rw [List.takeWhile_cons, digit_point h.1, if_pos rfl, ih h.2]
theorem decL_digitsL (n : Nat) : digitsL (decL n) = true := by rw [digits_head (decL_ne n)]; exact decL_digits n
theorem ok_num (n : Nat) : okLeaf 2 (decL n) = true := by
  have hk : kindW (decL n) = 2 := by
    cases he : decL n with
    | nil => exact absurd he (decL_ne n)
    | cons c l =>
      have hd := decL_digits n
      have h1 := tw_digits' hd
      rw [he] at hd h1
      have hc : isDigit c = true := by rw [List.all_cons, Bool.and_eq_true] at hd; exact hd.1
      unfold kindW
      simp only [hc, if_true, h1, Nat.lt_irrefl, if_false]
      rw [← he, decL_digitsL, decL_noLead]
      rfl
  unfold okLeaf
  rw [if_neg (by decide), if_pos (by decide), hk, all_word (decL_digits n)]
  cases he : decL n with
  | nil => exact absurd he (decL_ne n)
  | cons c l => rfl
theorem ok_dec (a b : Nat) : okLeaf 3 (decL a ++ [46] ++ decL b) = true := by
  have e : decL a ++ [46] ++ decL b = decL a ++ 46 :: decL b := by simp
  rw [e]
  have hk : kindW (decL a ++ 46 :: decL b) = 3 := by
    have h1 := tw_digits (decL_digits a) (decL b)
    have hl : (decL a).length < (decL a ++ 46 :: decL b).length := by simp
    have hdr : (decL a ++ 46 :: decL b).drop ((decL a).length + 1) = decL b := by
      rw [← List.drop_drop, List.drop_left]; rfl
    have hdl := decL_digitsL a
    have hnl := decL_noLead a
    have hd := decL_digits a
    cases he : decL a with
    | nil => exact absurd he (decL_ne a)
    | cons c l =>
      rw [he] at h1 hl hdr hdl hnl hd
      have hc : isDigit c = true := by rw [List.all_cons, Bool.and_eq_true] at hd; exact hd.1
      rw [List.cons_append] at h1 hl hdr ⊢
      unfold kindW
      simp only [hc, if_true, h1, hl, hdr, hdl, hnl, decL_digitsL, Bool.and_self]
  unfold okLeaf
  rw [if_neg (by decide), if_pos (by decide), hk, List.all_append, all_word (decL_digits a), List.all_cons, all_word (decL_digits b)]
  cases he : decL a with
  | nil => exact absurd he (decL_ne a)
  | cons c l => rfl
/-- Good forests: the leaves are as they may be, and not long. -/
def Fo.goodN (N : Nat) : Fo → Prop
  | .nil => True
  | .leaf k t r => okLeaf k (bs t) = true ∧ t.size ≤ N ∧ r.goodN N
  | .list c r => c.goodN N ∧ r.goodN N
abbrev Fo.good (f : Fo) : Prop := f.goodN 20
abbrev Fo.goodV (f : Fo) : Prop := f.goodN 1048576
theorem Fo.goodN.mono {N M : Nat} (h : N ≤ M) : ∀ {f : Fo}, f.goodN N → f.goodN M
  | .nil, _ => trivial
  | .leaf _ _ _, g => ⟨g.1, Nat.le_trans g.2.1 h, Fo.goodN.mono h g.2.2⟩
  | .list _ _, g => ⟨Fo.goodN.mono h g.1, Fo.goodN.mono h g.2⟩
theorem good_V {f : Fo} (h : f.good) : f.goodV := h.mono (by decide)
theorem decL_len (n : Nat) (h : n < 1048576) : (decL n).length ≤ 7 := by
  have step : ∀ (k m : Nat), m < 10 ^ (k + 1) → (decL m).length ≤ k + 1 := by
    intro k
    induction k with
    | zero => intro m hm; rw [decL_small (by omega)]; exact Nat.le_refl _
    | succ k ih =>
      intro m hm
      by_cases h : m < 10
      · rw [decL_small h]; simp
      · rw [decL_step h, List.length_append]
        have := ih (m / 10) (by rw [Nat.pow_succ] at hm; omega)
        simp only [List.length_cons, List.length_nil]
        omega
  exact step 6 n (by omega)
end Go.Proofs.Sx

/-! Items are drawn. -/
namespace Go.Proofs.Sx
open Go Go.V Go.Proofs Go.RowKit
set_option maxRecDepth 100000

/-- How many items one of this depth has at most. -/
def szF : Nat → Nat
  | 0 => 1
  | d + 1 => 1 + 3 * szF d
theorem szF_pos (d : Nat) : 1 ≤ szF d := by cases d <;> simp [szF]
theorem app_good {f g : Fo} (h : f.good) (k : g.good) : (f.app g).good := by
  induction f with
  | nil => exact k
  | leaf a t r ih => exact ⟨h.1, h.2.1, ih h.2.2⟩
  | list c r _ ih => exact ⟨h.1, ih h.2⟩
theorem app_dep (f g : Fo) : (f.app g).dep = max f.dep g.dep := by
  induction f with
  | nil => simp [Fo.app, Fo.dep]
  | leaf a t r ih => simp only [Fo.app, Fo.dep, ih]
  | list c r _ ih => simp only [Fo.app, Fo.dep, ih]; omega

/-- What items hands back. -/
def ItRes (cb N d : Nat) (w : World) (v : Value) (w' : World) : Prop :=
  (∃ (t : Fo) (A : Option Addr) (C : Nat), t.cnt = 1 ∧ t.good ∧ t.dep ≤ d ∧ t.flat.length ≤ szF d ∧ v = .slice A t.flat.length C ∧ w'.ownsRow N 34 4 (.slice A t.flat.length C) t.flat.length (itcs t.flat)) ∧ Ch cb w' ∧ Tn cb w w'

theorem leafRes {cb N d : Nat} {w w1 : World} (hN : N ≤ w1.heap.size) (hc : Ch cb w1) (ht : Tn cb w w1) (k : Int) (s : ByteArray) (hk : okLeaf k (bs s) = true) (hs : s.size ≤ 20) :
    ItRes cb N d w (.slice (some ⟨w1.heap.size, 0, none⟩) 1 1) (w1.alloc (.cells #[.int .i64 k, .string s, .int .i64 0, .int .i64 0] 34)) :=
  ⟨⟨.leaf k s .nil, _, _, rfl, ⟨hk, hs, trivial⟩, Nat.zero_le _, szF_pos d, rfl, own_base (own_lit w1 _ 34 4 1 rfl (by decide)) hN⟩, hc.ext ((Ext.refl _).alloc _), ht.ext ((Ext.refl _).alloc _)⟩

theorem tn_row {cb : Nat} {w w' : World} (h : Tn cb w w') (hc : Ch cb w) {B size n : Nat} {v : Value} {xs : List Value} (ho : w.ownsRow B 34 size v n xs) : w'.ownsRow B 34 size v n xs := by
  obtain ⟨lA, lN, lC, i, l, hb, _⟩ := hc
  exact own_grown h ho fun k hk e => own_ne ho hb (by decide) (by rw [hk, ← Option.some.inj e])
/-- A string of a table. -/
theorem tab_str {cb : Nat} {w1 w2 : World} {L : List Value} (hc : cb < w1.heap.size) (h : Tn cb (w1.alloc (.cells L.toArray 9)) w2) {j : Nat} {v : Value} (hj : L[j]? = some v) :
    w2.cell? ((⟨w1.heap.size, 0, none⟩ : Addr).add (j * 1)) = some v := by
  rw [add_eq, Nat.zero_add, Nat.mul_one]
  refine World.grownBy.cell h ?_ ?_
  · rw [alloc_new_cell]; exact hj
  · show some w1.heap.size ≠ some cb
    intro e
    have := Option.some.inj e
    omega

theorem texts5 : ∀ m : Nat, m < 5 → ∃ s : ByteArray, ([.string { data := #[] }, .string { data := #[120, 32, 121] }, .string { data := #[34] }, .string { data := #[97, 34, 34, 98] }, .string { data := #[40, 59, 41] }] : List Value)[m]? = some (.string s) ∧ okLeaf 4 (bs s) = true ∧ s.size ≤ 20 := by
  intro m hm
  match m, hm with
  | 0, _ => exact ⟨_, rfl, rfl, by decide⟩
  | 1, _ => exact ⟨_, rfl, rfl, by decide⟩
  | 2, _ => exact ⟨_, rfl, rfl, by decide⟩
  | 3, _ => exact ⟨_, rfl, rfl, by decide⟩
  | 4, _ => exact ⟨_, rfl, rfl, by decide⟩
theorem texts11 : ∀ m : Nat, m < 11 → ∃ s : ByteArray, ([.string { data := #[97] }, .string { data := #[61, 62] }, .string { data := #[60, 61] }, .string { data := #[43] }, .string { data := #[45] }, .string { data := #[102, 46, 49] }, .string { data := #[120, 33, 50] },
    .string { data := #[63] }, .string { data := #[58, 107] }, .string { data := #[126] }, .string { data := #[95, 65, 57] }] : List Value)[m]? = some (.string s) ∧ okLeaf 1 (bs s) = true ∧ s.size ≤ 20 := by
  intro m hm
  match m, hm with
  | 0, _ => exact ⟨_, rfl, rfl, by decide⟩
  | 1, _ => exact ⟨_, rfl, rfl, by decide⟩
  | 2, _ => exact ⟨_, rfl, rfl, by decide⟩
  | 3, _ => exact ⟨_, rfl, rfl, by decide⟩
  | 4, _ => exact ⟨_, rfl, rfl, by decide⟩
  | 5, _ => exact ⟨_, rfl, rfl, by decide⟩
  | 6, _ => exact ⟨_, rfl, rfl, by decide⟩
  | 7, _ => exact ⟨_, rfl, rfl, by decide⟩
  | 8, _ => exact ⟨_, rfl, rfl, by decide⟩
  | 9, _ => exact ⟨_, rfl, rfl, by decide⟩
  | 10, _ => exact ⟨_, rfl, rfl, by decide⟩

theorem szF_le : ∀ d, d < 4 → szF d ≤ 40 := by decide
theorem plain_itcs (l : List It) : plainCells (itcs l) = true := by
  induction l with
  | nil => rfl
  | cons x l ih =>
    have e : itcs (x :: l) = itc x ++ itcs l := by simp [itcs]
    rw [e]
    exact ih
def muH : List Value → World → Nat
  | .int _ n :: _, _ => n.toNat
  | _, _ => 0
theorem c31b {cb : Nat} (d : Nat) (hd : d ≤ 4) (ih : ∀ d', d = d' + 1 → ∀ (w : World), Ch cb w → Ret Tryd.prog 31 #[.pointer (some ⟨cb, 0, none⟩), .int .i64 d'] w fun v w' => ItRes cb w.heap.size d' w v w') {w : World} (hc : Ch cb w) :
    Ret Tryd.prog 31 #[.pointer (some ⟨cb, 0, none⟩), .int .i64 d] w fun v w' => ItRes cb w.heap.size d w v w' := by
  refine run31 _ _ _ _ (Called.of (c30 hc 8 (by decide) (by decide)) ?_)
  rintro v w1 ⟨⟨m, rfl, hm⟩, hc1, ht1⟩
  refine ⟨_, rfl, cond_intro (fun hl => ?_) (fun hl => cond_intro (fun h3 => ?_) (fun h3 => cond_intro (fun h4 => ?_) (fun h4 => cond_intro (fun h5 => ?_) (fun h5 => ?_))))⟩
  · rw [Bool.and_eq_true, decide_eq_true_eq, decide_eq_true_eq] at hl
    obtain ⟨d', rfl⟩ : ∃ d', d = d' + 1 := ⟨d - 1, by omega⟩
    have hx := (Ext.refl w1).alloc (.cells #[Value.int IntKind.i64 5, Value.string { data := #[] }, Value.int IntKind.i64 0, Value.int IntKind.i64 0] 34)
    have hlit := own_lit w1 [Value.int IntKind.i64 5, Value.string { data := #[] }, Value.int IntKind.i64 0, Value.int IntKind.i64 0] 34 4 1 rfl (by decide)
    refine Called.of (c30 (hc1.ext hx) 4 (by decide) (by decide)) ?_
    rintro v w2 ⟨⟨m1, rfl, hm1⟩, hc2, ht2⟩
    have ht := (ht1.ext hx).trans ht2
    have hcb := hc.lt
    refine ⟨_, rfl, fun vals w3 => ∃ (m : Nat) (c : Fo) (p : Option Addr) (k1 : Nat), vals = [.int .i64 m, .slice p (c.flat.length + 1) k1] ∧
      w3.ownsRow w.heap.size 34 4 (.slice p (c.flat.length + 1) k1) (c.flat.length + 1) (itcs (⟨5, mk [], c.cnt, 0⟩ :: c.flat)) ∧ c.good ∧ c.dep ≤ d' ∧ c.cnt + m ≤ 3 ∧ c.flat.length ≤ c.cnt * szF d' ∧ Ch cb w3 ∧ Tn cb w w3,
      muH, ⟨m1, .nil, _, _, rfl, own_base (tn_row ht2 (hc1.ext hx) hlit) ht1.size, trivial, Nat.zero_le _, by show 0 + m1 ≤ 3; omega, Nat.zero_le _, hc2, ht⟩, ?_⟩
    rintro n2 p k k1 w3 ⟨m, c, p', k1', hv, ho, hg, hd', hcm, hfl, hc3, ht3⟩
    cases hv
    have hsz := szF_le d' (by omega)
    have hfl2 : c.flat.length ≤ 3 * 40 := Nat.le_trans hfl (Nat.mul_le_mul (by omega) hsz)
    refine cond_dec (fun hpos => ?_) (fun hz => ?_)
    · have e1 : IntKind.i64.wrap (((d' + 1 : Nat) : Int) - 1) = (d' : Int) := by rw [wrap64_in (by omega) (by omega)]; omega
      rw [e1]
      refine Called.of (ih d' rfl w3 hc3) ?_
      rintro v w4 ⟨⟨t, A, C, htc, htg, htd, htl, rfl, hto⟩, hc4, ht4⟩
      have ho4 := tn_row ht4 hc3 ho
      have htl2 : t.flat.length ≤ 40 := Nat.le_trans htl hsz
      have htl1 : 1 ≤ t.flat.length := by rw [← htc]; exact t.cnt_le
      refine ⟨_, _, _, rfl, w.heap.size, itcs (⟨5, mk [], c.cnt, 0⟩ :: c.flat), itcs t.flat, ⟨.inl ho4, itcs_len _, .inr ?_, plain_itcs _, by unfold maxLen; omega, by omega, Nat.le_trans ht3.size ht4.size⟩, ?_⟩
      · obtain ⟨ad, hA, _, hr⟩ := (own_row hto).at (j := 0) (by rw [itcs_len]; omega)
        exact ⟨ad, hA, vcells_row.2 hr⟩
      intro p2 k5 w5 r
      obtain ⟨g, rfl, hgo, -, -⟩ := own_some r.own (by omega)
      have hcell : w5.cell? ((⟨g, 0, none⟩ : Addr).add 2) = some (.int .i64 c.cnt) := World.ownsRow.cells r.own hgo 2 _ rfl
      have hadr : (⟨g, 0, none⟩ : Addr).add 2 = ⟨g, 2, none⟩ := by rw [add_eq]
      have hgb := (own_lt r.own g hgo).1
      refine ⟨_, rfl, ⟨by omega, by omega⟩, _, hcell, _, rfl, ⟨by omega, by omega⟩, ⟨⟨_, hcell⟩, by rw [hadr]; exact own_free r.own hgo _⟩, ?_⟩
      have e2 : IntKind.i64.wrap (((c.cnt : Nat) : Int) + 1) = ((c.cnt + 1 : Nat) : Int) := wrap_succ (by omega)
      have e3 : IntKind.i64.wrap ((m : Int) - 1) = ((m - 1 : Nat) : Int) := wrap_pred (by omega) (by omega)
      have e4 : c.flat.length + 1 + t.flat.length = (c.app t).flat.length + 1 := by rw [Fo.app_flat, List.length_append]; omega
      have e5 : (c.app t).cnt = c.cnt + 1 := by rw [Fo.app_cnt, htc]
      rw [e2, e3, hadr]
      refine ⟨⟨m - 1, c.app t, some ⟨g, 0, none⟩, k5, by rw [e4], ?_, app_good hg htg, ?_, by rw [e5]; omega, ?_, ?_, ?_⟩, ?_⟩
      · have h6 := own_set r.own hgo (i := 2) (.int .i64 ((c.cnt + 1 : Nat) : Int))
        rw [e4] at h6
        have e6 : (itcs (⟨5, mk [], c.cnt, 0⟩ :: c.flat) ++ itcs t.flat).set 2 (.int .i64 ((c.cnt + 1 : Nat) : Int)) = itcs (⟨5, mk [], (c.app t).cnt, 0⟩ :: (c.app t).flat) := by
          rw [e5, Fo.app_flat]
          simp [itcs, itc]
        rw [e6] at h6
        exact h6
      · rw [app_dep]; omega
      · rw [Fo.app_flat, List.length_append, e5, Nat.add_mul, Nat.one_mul]; omega
      · exact (hc4.app r ho4 hcb).keep fun k hk => blk_set_ne (by show k ≠ g; omega)
      · exact ((ht3.trans ht4).app r ho4 (Nat.le_refl _)).set hgb _
      · simp only [muH, Int.toNat_natCast]; omega
    · have e7 : (Fo.list c .nil).flat = ⟨5, mk [], c.cnt, 0⟩ :: c.flat := by simp [Fo.flat]
      have e8 : (Fo.list c .nil).flat.length = c.flat.length + 1 := by rw [e7]; rfl
      refine ⟨⟨.list c .nil, p, k1, rfl, ⟨hg, trivial⟩, ?_, ?_, by rw [e8], by rw [e8, e7]; exact ho⟩, hc3, ht3⟩
      · show max (c.dep + 1) 0 ≤ _
        omega
      · rw [e8, szF]
        have : c.cnt * szF d' ≤ 3 * szF d' := Nat.mul_le_mul_right _ (by omega)
        omega
  · refine Called.of (c30 hc1 1048576 (by decide) (by decide)) ?_
    rintro v w6 ⟨⟨a, rfl, ha⟩, hc6, ht6⟩
    refine ⟨_, rfl, Called.of (c44 a (by omega) w6) ?_⟩
    rintro v w7 ⟨⟨s, rfl, hs⟩, he7⟩
    refine ⟨_, rfl, leafRes (Nat.le_trans (ht1.trans ht6).size he7.size) (hc6.ext he7) ((ht1.trans ht6).ext he7) 2 s ?_ ?_⟩
    · rw [hs]; exact ok_num a
    · rw [size_bs, hs]; have := decL_len a (by omega); omega
  · refine Called.of (c30 hc1 50 (by decide) (by decide)) ?_
    rintro v w8 ⟨⟨a, rfl, ha⟩, hc8, ht8⟩
    refine ⟨_, rfl, Called.of (c44 a (by omega) w8) ?_⟩
    rintro v w9 ⟨⟨s1, rfl, hs1⟩, he9⟩
    have hl1 : s1.size ≤ 7 := by rw [size_bs, hs1]; exact decL_len a (by omega)
    refine ⟨_, rfl, by omega, Called.of (c30 (hc8.ext he9) 100 (by decide) (by decide)) ?_⟩
    rintro v w10 ⟨⟨b, rfl, hb⟩, hc10, ht10⟩
    refine ⟨_, rfl, Called.of (c44 b (by omega) w10) ?_⟩
    rintro v w11 ⟨⟨s2, rfl, hs2⟩, he11⟩
    have hl2 : s2.size ≤ 7 := by rw [size_bs, hs2]; exact decL_len b (by omega)
    have hz : (s1 ++ { data := #[46] } : ByteArray).size = s1.size + 1 := by rw [size_bs, bs_append, List.length_append, ← size_bs]; rfl
    have hz2 : (s1 ++ { data := #[46] } ++ s2 : ByteArray).size = s1.size + 1 + s2.size := by rw [size_bs, bs_append, List.length_append, ← size_bs, ← size_bs, hz]
    have htt : Tn cb w w11 := ((((ht1.trans ht8).ext he9).trans ht10).ext he11)
    refine ⟨_, rfl, by omega, leafRes htt.size (hc10.ext he11) htt 3 _ ?_ (by omega)⟩
    rw [bs_append, bs_append, hs1, hs2]
    exact ok_dec a b
  · refine Called.of (c30 (hc1.ext ((Ext.refl _).alloc _)) 5 (by decide) (by decide)) ?_
    rintro v w12 ⟨⟨a, rfl, ha⟩, hc12, ht12⟩
    obtain ⟨s, hs, hok, hsz⟩ := texts5 a (by omega)
    have htt : Tn cb w w12 := (ht1.ext ((Ext.refl _).alloc _)).trans ht12
    refine ⟨_, rfl, _, rfl, ⟨by omega, by omega⟩, s, ?_, leafRes htt.size hc12 htt 4 s hok hsz⟩
    rw [Int.toNat_natCast]
    exact tab_str hc1.lt ht12 hs
  · refine Called.of (c30 (hc1.ext ((Ext.refl _).alloc _)) 11 (by decide) (by decide)) ?_
    rintro v w12 ⟨⟨a, rfl, ha⟩, hc12, ht12⟩
    obtain ⟨s, hs, hok, hsz⟩ := texts11 a (by omega)
    have htt : Tn cb w w12 := (ht1.ext ((Ext.refl _).alloc _)).trans ht12
    refine ⟨_, rfl, _, rfl, ⟨by omega, by omega⟩, s, ?_, leafRes htt.size hc12 htt 1 s hok hsz⟩
    rw [Int.toNat_natCast]
    exact tab_str hc1.lt ht12 hs
theorem c31 {cb : Nat} (d : Nat) : d ≤ 4 → ∀ {w : World}, Ch cb w → Ret Tryd.prog 31 #[.pointer (some ⟨cb, 0, none⟩), .int .i64 d] w fun v w' => ItRes cb w.heap.size d w v w' := by
  induction d with
  | zero => exact fun _ w hc => c31b 0 (by omega) (fun d' h => absurd h (by omega)) hc
  | succ d ih =>
    intro hd w hc
    refine c31b (d + 1) hd (fun d' h w hc => ?_) hc
    obtain rfl : d' = d := by omega
    exact ih (by omega) hc
end Go.Proofs.Sx

/-! A sequence is drawn. -/
namespace Go.Proofs.Sx
open Go Go.V Go.Proofs Go.RowKit
set_option maxRecDepth 100000

theorem ext_tn {w w1 w3 : World} (he : Ext w w1) (h : Tn w.heap.size w1 w3) : Ext w w3 :=
  ⟨h.os.trans he.os, h.tape.trans he.tape, h.output.trans he.output, Nat.le_trans he.size h.size, fun i hi =>
    (h.block i (Nat.lt_of_lt_of_le hi he.size) (fun e => by have := Option.some.inj e; omega)).trans (he.block i hi)⟩
/-- What sequence hands back. -/
def SeqRes (w : World) (v : Value) (w' : World) : Prop :=
  ∃ (f : Fo) (A : Option Addr) (C : Nat), f.good ∧ f.dep ≤ 4 ∧ f.flat.length ≤ 363 ∧ v = .slice A f.flat.length C ∧ w'.ownsRow w.heap.size 34 4 (.slice A f.flat.length C) f.flat.length (itcs f.flat)

theorem c14 {lA : Option Addr} {lN lC : Nat} {l : List Int} {w : World} (hl : l.length = lN) (hc : lN ≤ lC) (h : SlAt w lA (l.map fun n => .int .i64 n)) :
    Ret Tryd.prog 14 #[.slice lA lN lC] w fun v w' => SeqRes w v w' ∧ Ext w w' := by
  refine run14 _ _ _ _ _ (Called.of (c29 hl hc h) ?_)
  rintro v w1 ⟨rfl, hc1, he1⟩
  refine ⟨_, rfl, Called.of (c30 hc1 4 (by decide) (by decide)) ?_⟩
  rintro v w2 ⟨⟨m1, rfl, hm1⟩, hc2, ht2⟩
  have hcb := hc1.lt
  refine ⟨_, rfl, fun vals w3 => ∃ (m : Nat) (c : Fo) (p : Option Addr) (k1 : Nat), vals = [.int .i64 m, .slice p c.flat.length k1] ∧
    w3.ownsRow w1.heap.size 34 4 (.slice p c.flat.length k1) c.flat.length (itcs c.flat) ∧ c.good ∧ c.dep ≤ 4 ∧ c.cnt + m ≤ 3 ∧ c.flat.length ≤ c.cnt * 121 ∧ Ch w.heap.size w3 ∧ Tn w.heap.size w1 w3, muH,
    ⟨m1, .nil, none, 0, rfl, ⟨rfl, .inl ⟨rfl, rfl⟩⟩, trivial, Nat.zero_le _, by show 0 + m1 ≤ 3; omega, Nat.zero_le _, hc2, ht2⟩, ?_⟩
  rintro n1 p k k1 w3 ⟨m, c, p', k1', hv, ho, hg, hd', hcm, hfl, hc3, ht3⟩
  cases hv
  refine cond_dec (fun hpos => ?_) (fun hz => ?_)
  · refine Called.of (c31 4 (Nat.le_refl _) hc3) ?_
    rintro v w4 ⟨⟨t, A, C, htc, htg, htd, htl, rfl, hto⟩, hc4, ht4⟩
    have ho4 := tn_row ht4 hc3 ho
    have htl2 : t.flat.length ≤ 121 := htl
    have htl1 : 1 ≤ t.flat.length := by rw [← htc]; exact t.cnt_le
    refine ⟨_, _, _, rfl, w1.heap.size, itcs c.flat, itcs t.flat, ⟨.inl ho4, itcs_len _, .inr ?_, plain_itcs _, by unfold maxLen; omega, by omega, Nat.le_trans ht3.size ht4.size⟩, ?_⟩
    · obtain ⟨ad, hA, _, hr⟩ := (own_row hto).at (j := 0) (by rw [itcs_len]; omega)
      exact ⟨ad, hA, vcells_row.2 hr⟩
    intro p2 k5 w5 r
    have e3 : IntKind.i64.wrap ((m : Int) - 1) = ((m - 1 : Nat) : Int) := wrap_pred (by omega) (by omega)
    have e4 : c.flat.length + t.flat.length = (c.app t).flat.length := by rw [Fo.app_flat, List.length_append]
    have e5 : (c.app t).cnt = c.cnt + 1 := by rw [Fo.app_cnt, htc]
    rw [e3]
    refine ⟨⟨m - 1, c.app t, p2, k5, by rw [e4], ?_, app_good hg htg, ?_, by rw [e5]; omega, ?_, hc4.app r ho4 hcb, (ht3.trans ht4).app r ho4 (Nat.le_refl _)⟩, ?_⟩
    · have h6 := r.own
      rw [e4, ← itcs_app, ← Fo.app_flat] at h6
      exact h6
    · rw [app_dep]; omega
    · rw [Fo.app_flat, List.length_append, e5, Nat.add_mul, Nat.one_mul]; omega
    · simp only [muH, Int.toNat_natCast]; omega
  · exact ⟨⟨c, p, k1, hg, hd', by omega, rfl, own_base ho he1.size⟩, ext_tn he1 ht3⟩
end Go.Proofs.Sx
