/- Part of the proof: SxP1. -/
import Derived.Test.YtonenlplcidihaaDoorSxV
import Derived.Test.YtonenlplcidihaaDoorV9
import Derived.Test.YtonenlplcidihaaDoorShelf
namespace Go.Proofs.Sx
open Go Go.V Go.Proofs Go.RowKit
set_option maxRecDepth 100000

theorem ret_of {P : Program} {f : Nat} {args : Array Value} {w : World} {v0 : Value} {Q : World → Prop} (h : Calls P f args w fun e w' => e = .returned v0 ∧ Q w') :
    Ret P f args w fun v w' => v = v0 ∧ Q w' :=
  Calls.mono h fun _ _ ⟨he, hq⟩ => ⟨v0, he, rfl, hq⟩

def isDigit (c : UInt8) : Bool := decide (c.toNat ≥ 48) && decide (c.toNat ≤ 57)
def isLetter (c : UInt8) : Bool := decide (c.toNat ≥ 97) && decide (c.toNat ≤ 122) || decide (c.toNat ≥ 65) && decide (c.toNat ≤ 90)
def signs : List UInt8 := [126, 33, 64, 36, 37, 94, 38, 42, 95, 45, 43, 61, 60, 62, 46, 63, 47, 58]
def isWord (c : UInt8) : Bool := isLetter c || isDigit c || signs.contains c
def isBlank (c : UInt8) : Bool := c == 32 || c == 9 || c == 13 || c == 10
def isPrint (c : UInt8) : Bool := decide (c.toNat ≥ 32) && decide (c.toNat ≤ 126)

theorem int_dec (a b : Nat) : decide ((a : Int) ≥ (b : Int)) = decide (a ≥ b) := by simp
theorem int_dec' (a b : Nat) : decide ((a : Int) ≤ (b : Int)) = decide (a ≤ b) := by simp

theorem c60 (c : UInt8) (w : World) : Ret Tryd.prog 60 #[.int .u8 c.toNat] w fun v w' => v = .bool (isDigit c) ∧ w' = w := by
  refine run60 _ _ _ ⟨?_, rfl⟩
  congr 1
  unfold isDigit
  congr 1
  · exact int_dec _ 48
  · exact int_dec' _ 57
theorem c56 (c : UInt8) (w : World) : Ret Tryd.prog 56 #[.int .u8 c.toNat] w fun v w' => v = .bool (isLetter c) ∧ w' = w := by
  refine run56 _ _ _ ⟨?_, rfl⟩
  congr 1
  unfold isLetter
  congr 2
  · exact int_dec _ 97
  · exact int_dec' _ 122
  · exact int_dec _ 65
  · exact int_dec' _ 90
theorem u8_beq (c : UInt8) (n : Nat) (hn : n < 256) : ((c.toNat : Int) == (n : Int)) = (c == UInt8.ofNat n) := by
  rw [Bool.eq_iff_iff, beq_iff_eq, beq_iff_eq]
  constructor
  · intro h
    apply UInt8.toNat_inj.1
    rw [UInt8.toNat_ofNat']
    omega
  · intro h
    rw [h, UInt8.toNat_ofNat']
    omega
theorem c45 (c : UInt8) (w : World) : Ret Tryd.prog 45 #[.int .u8 c.toNat] w fun v w' => v = .bool (isBlank c) ∧ w' = w := by
  refine run45 _ _ _ ⟨?_, rfl⟩
  congr 1
  unfold isBlank
  rw [show ((c.toNat : Int) == 32) = (c == 32) from u8_beq c 32 (by omega), show ((c.toNat : Int) == 9) = (c == 9) from u8_beq c 9 (by omega),
    show ((c.toNat : Int) == 13) = (c == 13) from u8_beq c 13 (by omega), show ((c.toNat : Int) == 10) = (c == 10) from u8_beq c 10 (by omega)]
theorem c50 (c : UInt8) (w : World) : Ret Tryd.prog 50 #[.int .u8 c.toNat] w fun v w' => v = .bool (isPrint c) ∧ w' = w := by
  refine run50 _ _ _ ⟨?_, rfl⟩
  congr 1
  unfold isPrint
  congr 1
  · exact int_dec _ 32
  · exact int_dec' _ 126
theorem indexByte_has (l : List UInt8) (c : UInt8) : decide (Lib.indexByte l c ≥ 0) = l.contains c := by
  induction l with
  | nil => simp [Lib.indexByte]
  | cons b l ih =>
    unfold Lib.indexByte
    by_cases h : b = c
    · subst h; simp
    · have h2 : (b == c) = false := by simp [h]
      have h4 := Lib.indexByte_ge l c
      have h5 : (b :: l).contains c = l.contains c := by
        rw [List.contains_cons, show (c == b) = false by simp [Ne.symm h], Bool.false_or]
      rw [h2, h5, ← ih]
      by_cases h3 : Lib.indexByte l c = -1
      · simp [h3]
      · have h6 : (Lib.indexByte l c == -1) = false := by simp [h3]
        rw [h6]
        rw [Bool.eq_iff_iff]
        simp only [Bool.false_eq_true, if_false, decide_eq_true_eq]
        omega
theorem c51 (c : UInt8) (w : World) : Ret Tryd.prog 51 #[.int .u8 c.toNat] w fun v w' => v = .bool (isWord c) ∧ w' = w := by
  refine run51 _ _ _ fun K hK => ?_
  have e1 : (decide ((c.toNat : Int) ≥ 97) && decide ((c.toNat : Int) ≤ 122) || decide ((c.toNat : Int) ≥ 65) && decide ((c.toNat : Int) ≤ 90)) = isLetter c := by
    unfold isLetter
    congr 2
    · exact int_dec _ 97
    · exact int_dec' _ 122
    · exact int_dec _ 65
    · exact int_dec' _ 90
  rw [e1]
  refine cond_intro (fun h => hK _ _ ⟨by simp [isWord, h], rfl⟩) fun h => ?_
  refine Called.of (c60 c w) ?_
  rintro v w' ⟨rfl, rfl⟩
  refine ⟨_, rfl, cond_intro (fun h2 => hK _ _ ⟨by simp [isWord, h2], rfl⟩) fun h2 => ?_⟩
  refine Called.of (ret_of (Tryd.strings_IndexByte _ _ _)) ?_
  rintro v w' ⟨rfl, rfl⟩
  refine ⟨_, rfl, hK _ _ ⟨?_, rfl⟩⟩
  rw [indexByte_has]
  simp only [isWord, h, h2, Bool.false_or]
  congr 2
  simp
theorem c42 (c : UInt8) (w : World) : Ret Tryd.prog 42 #[.int .u8 c.toNat] w fun v w' => v = .bool (isWord c) ∧ w' = w := by
  refine run42 _ _ _ (Called.of (c56 c w) ?_)
  rintro v w' ⟨rfl, rfl⟩
  refine ⟨_, rfl, ?_⟩
  have e1 : (isLetter c || decide ((c.toNat : Int) ≥ 48) && decide ((c.toNat : Int) ≤ 57)) = (isLetter c || isDigit c) := by
    congr 1
    unfold isDigit
    congr 1
    · exact int_dec _ 48
    · exact int_dec' _ 57
  rw [e1]
  refine cond_intro (fun h => ⟨by simp [isWord, h], rfl⟩) fun h => ?_
  have e2 : isWord c = signs.contains c := by simp [isWord, h]
  rw [e2]
  have key : ∀ (n : Nat) (q : Prop), n < 256 → UInt8.ofNat n ∈ signs → (c ≠ UInt8.ofNat n → q) →
      (bif ((c.toNat : Int) == (n : Int)) then (Value.bool true = Value.bool (signs.contains c) ∧ w' = w') else q) := by
    intro n q hn hm hq
    rw [u8_beq c n hn]
    refine cond_intro (fun h => ?_) (fun h => hq (by simpa using h))
    have : c = UInt8.ofNat n := by simpa using h
    refine ⟨?_, rfl⟩
    rw [this, List.contains_iff_mem.2 hm]
  refine key 126 _ (by omega) (by decide) fun n1 => ?_
  refine key 33 _ (by omega) (by decide) fun n2 => ?_
  refine key 64 _ (by omega) (by decide) fun n3 => ?_
  refine key 36 _ (by omega) (by decide) fun n4 => ?_
  refine key 37 _ (by omega) (by decide) fun n5 => ?_
  refine key 94 _ (by omega) (by decide) fun n6 => ?_
  refine key 38 _ (by omega) (by decide) fun n7 => ?_
  refine key 42 _ (by omega) (by decide) fun n8 => ?_
  refine key 95 _ (by omega) (by decide) fun n9 => ?_
  refine key 45 _ (by omega) (by decide) fun n10 => ?_
  refine key 43 _ (by omega) (by decide) fun n11 => ?_
  refine key 61 _ (by omega) (by decide) fun n12 => ?_
  refine key 60 _ (by omega) (by decide) fun n13 => ?_
  refine key 62 _ (by omega) (by decide) fun n14 => ?_
  refine key 46 _ (by omega) (by decide) fun n15 => ?_
  refine key 63 _ (by omega) (by decide) fun n16 => ?_
  refine key 47 _ (by omega) (by decide) fun n17 => ?_
  refine key 58 _ (by omega) (by decide) fun n18 => ?_
  refine ⟨?_, rfl⟩
  congr 1
  symm
  rw [Bool.eq_false_iff]
  intro hc
  have := List.contains_iff_mem.1 hc
  simp only [signs, List.mem_cons, List.not_mem_nil, or_false] at this
  rcases this with h | h | h | h | h | h | h | h | h | h | h | h | h | h | h | h | h | h <;> contradiction
end Go.Proofs.Sx
