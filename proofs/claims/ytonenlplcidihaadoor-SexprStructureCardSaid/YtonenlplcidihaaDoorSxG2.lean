/- Part of the proof: SxG2. -/
import Derived.Test.YtonenlplcidihaaDoorSxG
/-! Numbers as text. -/
namespace Go.Proofs.Sx
open Go Go.V Go.Proofs Go.RowKit
set_option maxRecDepth 100000

def digitOf (d : Nat) : UInt8 := UInt8.ofNat (48 + d)
def decL (n : Nat) : List UInt8 := if n < 10 then [digitOf n] else decL (n / 10) ++ [digitOf (n % 10)]
theorem decL_small {n : Nat} (h : n < 10) : decL n = [digitOf n] := by rw [decL, if_pos h]
theorem decL_step {n : Nat} (h : ¬ n < 10) : decL n = decL (n / 10) ++ [digitOf (n % 10)] := by rw [decL, if_neg h]
/-- What stands ahead of the last digit. -/
theorem decL_last (n : Nat) : decL n = (if n / 10 = 0 then [] else decL (n / 10)) ++ [digitOf (n % 10)] := by
  by_cases h : n < 10
  · rw [decL_small h, if_pos (by omega), Nat.mod_eq_of_lt h]; rfl
  · rw [decL_step h, if_neg (by omega)]
def mu4 : List Value → World → Nat
  | .int _ n :: .string s :: _, _ => n.toNat * 2 + (if s.size = 0 then 1 else 0)
  | _, _ => 0

theorem c44 (n : Nat) (hn : n < 4294967296) (w : World) : Ret Tryd.prog 44 #[.int .i64 n] w fun v w' => (∃ s : ByteArray, v = .string s ∧ bs s = decL n) ∧ Ext w w' := by
  refine run44 _ _ _ ⟨fun vals w' => ∃ (m : Nat) (s : ByteArray), vals = [.int .i64 m, .string s] ∧ m ≤ n ∧ Ext w w' ∧ s.size + m ≤ n + 20 ∧ (bs s = [] ∧ m = n ∨ bs s ≠ [] ∧ decL n = (if m = 0 then [] else decL m) ++ bs s), mu4,
    ⟨n, _, rfl, Nat.le_refl _, Ext.refl _, by show 0 + n ≤ _; omega, .inl ⟨rfl, rfl⟩⟩, ?_⟩
  rintro n1 s w1 ⟨m, _, hv, hm, he, hsz, hs⟩
  cases hv
  rw [beq_empty]
  refine cond_intro (fun hc => ?_) (fun hc => ?_)
  · intro K hK
    have hmod : (m : Int).tmod 10 = ((m % 10 : Nat) : Int) := by rw [Int.tmod_eq_emod_of_nonneg (by omega)]; omega
    have hdiv : (m : Int).tdiv 10 = ((m / 10 : Nat) : Int) := by rw [Int.tdiv_eq_ediv_of_nonneg (by omega)]; omega
    rw [hmod]
    refine cond_dec (fun h => absurd h (by omega)) (fun _ => hK _ ?_)
    rw [hdiv, wrap64_in (by omega) (by omega), wrap64_in (by omega) (by omega)]
    have hu : IntKind.u8.wrap (48 + ((m % 10 : Nat) : Int)) = ((digitOf (m % 10)).toNat : Int) := by
      show (48 + ((m % 10 : Nat) : Int)) % 256 = _
      rw [digitOf, UInt8.toNat_ofNat']
      omega
    rw [hu]
    have hb : bs (mk [digitOf (m % 10)] ++ s) = digitOf (m % 10) :: bs s := by rw [bs_append, bs_mk]; rfl
    have hz : (mk [digitOf (m % 10)] ++ s).size = s.size + 1 := by rw [size_bs, hb, size_bs]; rfl
    refine ⟨[digitOf (m % 10)], ⟨rfl, .inr ⟨_, rfl, rfl, ?_⟩⟩, ?_, ⟨m / 10, mk [digitOf (m % 10)] ++ s, rfl, by omega, he.alloc _, ?_, .inr ⟨by rw [hb]; simp, ?_⟩⟩, ?_⟩
    · intro i hi
      have : i = 0 := by omega
      subst this
      exact alloc_new_cell w1 _ _ 0
    · show 1 + s.size ≤ _
      omega
    · rw [hz]
      rcases hs with ⟨h1, h2⟩ | ⟨h1, h2⟩
      · have : s.size = 0 := by rw [size_bs, h1]; rfl
        omega
      · have h3 : m ≠ 0 := by
          intro h3
          subst h3
          simp [h1] at hc
        omega
    · rw [hb]
      rcases hs with ⟨h1, h2⟩ | ⟨h1, h2⟩
      · rw [h1, h2]; exact decL_last n
      · have h3 : m ≠ 0 := by
          intro h3
          subst h3
          simp [h1] at hc
        rw [h2, if_neg h3]
        conv => lhs; rw [decL_last m]
        simp
    · simp only [mu4, Int.toNat_natCast]
      rw [show ({ data := [digitOf (m % 10)].toArray } ++ s : ByteArray).size = s.size + 1 from hz]
      rw [if_neg (Nat.succ_ne_zero _)]
      by_cases hm0 : m = 0
      · have : bs s = [] := by
          rcases hs with ⟨h1, _⟩ | ⟨h1, _⟩
          · exact h1
          · subst hm0; simp [h1] at hc
        have h5 : s.size = 0 := by rw [size_bs, this]; rfl
        rw [if_pos h5]; omega
      · split <;> omega
  · refine cond_dec (fun h => absurd h (by omega)) (fun _ => ⟨⟨s, rfl, ?_⟩, he⟩)
    have h1 : m = 0 ∧ bs s ≠ [] := by simpa using hc
    rcases hs with ⟨h2, _⟩ | ⟨_, h2⟩
    · exact absurd h2 h1.2
    · rw [h2, if_pos h1.1]; rfl
end Go.Proofs.Sx
