/- Part of the proof: SxG3. -/
import Derived.Test.YtonenlplcidihaaDoorSxG2
/-! The leaves that are drawn are good ones. -/
namespace Go.Proofs.Sx
open Go Go.V Go.Proofs
set_option maxRecDepth 100000

def okLeaf (k : Int) (t : List UInt8) : Bool :=
  if k = 4 then t.all isPrint else if k = 1 ∨ k = 2 ∨ k = 3 then !t.isEmpty && t.all isWord && decide (kindW t = k) else false

theorem digitOf_digit {d : Nat} (h : d < 10) : isDigit (digitOf d) = true := by
  have : (digitOf d).toNat = 48 + d := by rw [digitOf, UInt8.toNat_ofNat']; omega
  unfold isDigit
  rw [this]
  simp only [Bool.and_eq_true, decide_eq_true_eq]
  omega
theorem digitOf_zero {d : Nat} (h : d < 10) (h0 : digitOf d = 48) : d = 0 := by
  have h1 : (digitOf d).toNat = 48 + d := by rw [digitOf, UInt8.toNat_ofNat']; omega
  rw [h0] at h1
  have : (48 : UInt8).toNat = 48 := rfl
  omega
theorem decL_ne (n : Nat) : decL n ≠ [] := by
  rw [decL_last]
  simp
theorem decL_digits (n : Nat) : (decL n).all isDigit = true := by
  induction n using Nat.strongRecOn with
  | ind n ih =>
    by_cases h : n < 10
    · rw [decL_small h]; simp [digitOf_digit h]
    · rw [decL_step h, List.all_append, ih _ (by omega)]
      simp [digitOf_digit (Nat.mod_lt n (by omega : 10 > 0))]
theorem decL_head {n : Nat} (h0 : 0 < n) : ∃ c l, decL n = c :: l ∧ c ≠ 48 := by
  induction n using Nat.strongRecOn with
  | ind n ih =>
    by_cases h : n < 10
    · rw [decL_small h]
      exact ⟨_, _, rfl, fun e => by have := digitOf_zero h e; omega⟩
    · obtain ⟨c, l, e, hc⟩ := ih (n / 10) (by omega) (by omega)
      rw [decL_step h, e]
      exact ⟨c, _, rfl, hc⟩
theorem decL_noLead (n : Nat) : noLead (decL n) = true := by
  by_cases h0 : n = 0
  · subst h0; rw [decL_small (by omega)]; rfl
  · obtain ⟨c, l, e, hc⟩ := decL_head (Nat.pos_of_ne_zero h0)
    rw [e, noLead_eq]
    simp [hc]
theorem digit_word {c : UInt8} (h : isDigit c = true) : isWord c = true := by simp [isWord, h]
theorem digit_point {c : UInt8} (h : isDigit c = true) : (c != 46) = true := by
  rw [bne_iff_ne]
  rintro rfl
  exact absurd h (by decide)
theorem all_word {l : List UInt8} (h : l.all isDigit = true) : l.all isWord = true := by
  rw [List.all_eq_true] at h ⊢
  exact fun c hc => digit_word (h c hc)
theorem tw_digits {l : List UInt8} (h : l.all isDigit = true) (r : List UInt8) : (l ++ 46 :: r).takeWhile (· != 46) = l := by
  induction l with
  | nil => simp
  | cons c l ih =>
    rw [List.all_cons, Bool.and_eq_true] at h
    rw [List.cons_append, List.takeWhile_cons, digit_point h.1, if_pos rfl, ih h.2]
theorem tw_digits' {l : List UInt8} (h : l.all isDigit = true) : l.takeWhile (· != 46) = l := by
  induction l with
  | nil => simp
  | cons c l ih =>
    rw [List.all_cons, Bool.and_eq_true] at h
    rw [List.takeWhile_cons, digit_point h.1, if_pos rfl, ih h.2]
theorem decL_digitsL (n : Nat) : digitsL (decL n) = true := by rw [digits_head (decL_ne n)]; exact decL_digits n
theorem ok_num (n : Nat) : okLeaf 2 (decL n) = true := by
  have hk : kindW (decL n) = 2 := by
    cases he : decL n with
    | nil => exact absurd he (decL_ne n)
    | cons c l =>
      have hd := decL_digits n
      have h1 := tw_digits' hd
      rw [he] at hd h1
      have hc : isDigit c = true := by rw [List.all_cons, Bool.and_eq_true] at hd; exact hd.1
      unfold kindW
      simp only [hc, if_true, h1, Nat.lt_irrefl, if_false]
      rw [← he, decL_digitsL, decL_noLead]
      rfl
  unfold okLeaf
  rw [if_neg (by decide), if_pos (by decide), hk, all_word (decL_digits n)]
  cases he : decL n with
  | nil => exact absurd he (decL_ne n)
  | cons c l => rfl
theorem ok_dec (a b : Nat) : okLeaf 3 (decL a ++ [46] ++ decL b) = true := by
  have e : decL a ++ [46] ++ decL b = decL a ++ 46 :: decL b := by simp
  rw [e]
  have hk : kindW (decL a ++ 46 :: decL b) = 3 := by
    have h1 := tw_digits (decL_digits a) (decL b)
    have hl : (decL a).length < (decL a ++ 46 :: decL b).length := by simp
    have hdr : (decL a ++ 46 :: decL b).drop ((decL a).length + 1) = decL b := by
      rw [← List.drop_drop, List.drop_left]; rfl
    have hdl := decL_digitsL a
    have hnl := decL_noLead a
    have hd := decL_digits a
    cases he : decL a with
    | nil => exact absurd he (decL_ne a)
    | cons c l =>
      rw [he] at h1 hl hdr hdl hnl hd
      have hc : isDigit c = true := by rw [List.all_cons, Bool.and_eq_true] at hd; exact hd.1
      rw [List.cons_append] at h1 hl hdr ⊢
      unfold kindW
      simp only [hc, if_true, h1, hl, hdr, hdl, hnl, decL_digitsL, Bool.and_self]
  unfold okLeaf
  rw [if_neg (by decide), if_pos (by decide), hk, List.all_append, all_word (decL_digits a), List.all_cons, all_word (decL_digits b)]
  cases he : decL a with
  | nil => exact absurd he (decL_ne a)
  | cons c l => rfl
/-- Good forests: the leaves are as they may be, and not long. -/
def Fo.good : Fo → Prop
  | .nil => True
  | .leaf k t r => okLeaf k (bs t) = true ∧ t.size ≤ 20 ∧ r.good
  | .list c r => c.good ∧ r.good
theorem decL_len (n : Nat) (h : n < 1048576) : (decL n).length ≤ 7 := by
  have step : ∀ (k m : Nat), m < 10 ^ (k + 1) → (decL m).length ≤ k + 1 := by
    intro k
    induction k with
    | zero => intro m hm; rw [decL_small (by omega)]; exact Nat.le_refl _
    | succ k ih =>
      intro m hm
      by_cases h : m < 10
      · rw [decL_small h]; simp
      · rw [decL_step h, List.length_append]
        have := ih (m / 10) (by rw [Nat.pow_succ] at hm; omega)
        simp only [List.length_cons, List.length_nil]
        omega
  exact step 6 n (by omega)
end Go.Proofs.Sx
