/- Part of the proof: SxP3. -/
import Derived.Test.YtonenlplcidihaaDoorSxP2
/-! Strings, and the reader. -/
namespace Go.Proofs.Sx
open Go Go.V Go.Proofs Go.RowKit
set_option maxRecDepth 100000

theorem strL_two (t : List UInt8) : strL (34 :: 34 :: t) = (strL t).map fun x => (34 :: x.1, x.2) := by
  rw [strL]; simp
theorem strL_end {t : List UInt8} (h : ∀ t', t ≠ 34 :: t') : strL (34 :: t) = some ([], t) := by
  cases t with
  | nil => rw [strL]; simp
  | cons d t =>
    rw [strL]
    have : d ≠ 34 := fun hd => h t (by rw [hd])
    simp [this]
theorem strL_chr {c : UInt8} {t : List UInt8} (h : c ≠ 34) (hp : isPrint c = true) : strL (c :: t) = (strL t).map fun x => (c :: x.1, x.2) := by
  cases t with
  | nil => rw [strL]; simp [h, strL]
  | cons d t => rw [strL]; simp [h, hp]
theorem strL_bad {c : UInt8} {t : List UInt8} (hp : isPrint c = false) : strL (c :: t) = none := by
  have h : c ≠ 34 := fun h => by rw [h] at hp; exact absurd hp (by decide)
  cases t with
  | nil => rw [strL]; simp [h]
  | cons d t => rw [strL]; simp [h, hp]

theorem map_map_app {o : Option (List UInt8 × List UInt8)} {a : List UInt8} {c : UInt8} :
    (o.map fun x => (c :: x.1, x.2)).map (fun x : List UInt8 × List UInt8 => (a ++ x.1, x.2)) = o.map fun x => ((a ++ [c]) ++ x.1, x.2) := by
  cases o <;> simp
theorem rest_not34 {s : ByteArray} {j : Nat} (h : ¬ (j < s.size ∧ (bs s).getD j 0 = 34)) : ∀ t', rest s j ≠ 34 :: t' := by
  intro t' ht
  by_cases hj : j < s.size
  · rw [rest_cons hj] at ht
    exact h ⟨hj, (List.cons.inj ht).1⟩
  · rw [rest_nil (by omega)] at ht; cases ht

/-- A string of the reference. -/
theorem c41 (s : ByteArray) (hs : s.size < 4294967281) (i : Nat) (hi : i < s.size) (w : World) : Ret Tryd.prog 41 #[.string s, .int .i64 i] w fun v w' =>
    (∃ (t : ByteArray) (e : Int), v = .tuple #[.string t, .int .i64 e] ∧ match strL (rest s (i + 1)) with
      | none => e = -1
      | some (x, r) => bs t = x ∧ e = ((s.size - r.length : Nat) : Int)) ∧ w' = w := by
  refine run41 _ _ _ _ ⟨fun vals w' => ∃ (j : Nat) (a : ByteArray), vals = [.int .i64 j, .string a] ∧ j ≤ s.size ∧ a.size ≤ j ∧ w' = w ∧
      strL (rest s (i + 1)) = (strL (rest s j)).map fun x => (bs a ++ x.1, x.2), mu1 s.size, ?_, ?_⟩
  · refine ⟨i + 1, _, by rw [wrap_succ (by omega)], hi, Nat.zero_le _, rfl, ?_⟩
    rw [show bs { data := #[] } = [] from rfl]
    cases strL (rest s (i + 1)) <;> simp
  rintro n a w1 ⟨j, _, hv, hj, ha, rfl, hst⟩
  cases hv
  refine cond_dec (fun hlt => ?_) (fun hlt => ?_)
  · have hlt' : j < s.size := by omega
    have hc := rest_cons hlt'
    have hb : (0 : Int) ≤ j ∧ (j : Int) < s.size := ⟨by omega, hlt⟩
    intro K hK
    rw [wrap_succ (i := j) (by omega)] at hK ⊢
    have e34 : (bt s (j : Int) == 34) = ((bs s).getD j 0 == 34) := by rw [bt_eq]; exact u8_beq _ 34 (by omega)
    have e34' : (bt s ((j + 1 : Nat) : Int) == 34) = ((bs s).getD (j + 1) 0 == 34) := by rw [bt_eq]; exact u8_beq _ 34 (by omega)
    have main : ∀ b, (b = true → (bs s).getD j 0 = 34 ∧ j + 1 < s.size ∧ (bs s).getD (j + 1) 0 = 34) →
        (b = false → ¬ ((bs s).getD j 0 = 34 ∧ j + 1 < s.size ∧ (bs s).getD (j + 1) 0 = 34)) → K [Value.bool b] w1 := by
      intro b hbt hbf
      refine hK _ (cond_intro (fun h => ?_) (fun h => ?_))
      · obtain ⟨h1, h2, h3⟩ := hbt h
        rw [wrap_succ (by omega)]
        refine ⟨by omega, ⟨j + 2, _, rfl, h2, ?_, rfl, ?_⟩, ?_⟩
        · rw [size_bs, bs_append, List.length_append, ← size_bs]
          show a.size + 1 ≤ _
          omega
        · rw [hst, hc, h1, rest_cons h2, h3, strL_two, map_map_app, bs_append]; rfl
        · simp only [mu1, Int.toNat_natCast]; omega
      · have hno := hbf h
        refine ⟨hb, ?_⟩
        rw [e34]
        refine cond_intro (fun h1 => ?_) (fun h1 => ?_)
        · have h1' : (bs s).getD j 0 = 34 := by simpa using h1
          refine ⟨⟨a, _, rfl, ?_⟩, rfl⟩
          rw [hst, hc, h1', strL_end (rest_not34 fun h => hno ⟨h1', h⟩)]
          refine ⟨by simp, ?_⟩
          rw [rest_len]
          omega
        · have h1' : (bs s).getD j 0 ≠ 34 := by simpa using h1
          intro K1 hK1
          refine ⟨hb, ?_⟩
          have m2 : ∀ b, b = !isPrint ((bs s).getD j 0) → K1 [Value.bool b] w1 := by
            rintro b rfl
            refine hK1 _ (cond_intro (fun h2 => ?_) (fun h2 => ?_))
            · have h2' : isPrint ((bs s).getD j 0) = false := by simpa using h2
              refine ⟨⟨_, _, rfl, ?_⟩, rfl⟩
              rw [hst, hc, strL_bad h2']
              rfl
            · have h2' : isPrint ((bs s).getD j 0) = true := by simpa using h2
              have hx : bs (s.extract ((j : Int).toNat) (((j + 1 : Nat) : Int).toNat)) = [(bs s).getD j 0] := by
                rw [extract_bs, Int.toNat_natCast, Int.toNat_natCast, hc, show j + 1 - j = 1 by omega]; rfl
              refine ⟨⟨by omega, by omega, by omega⟩, ?_, ⟨j + 1, _, rfl, hlt', ?_, rfl, ?_⟩, ?_⟩
              · rw [size_bs (s.extract _ _), hx]
                show a.size + 1 ≤ _
                omega
              · rw [size_bs, bs_append, hx, List.length_append, ← size_bs]
                show a.size + 1 ≤ _
                omega
              · rw [hst, hc, strL_chr h1' h2', map_map_app, bs_append, hx]
              · simp only [mu1, Int.toNat_natCast]; omega
          have h2 := m2 _ (not_print _)
          rw [bt_eq]
          exact orelse2 (p := fun b => K1 [Value.bool b] w1) h2 hb
    refine ⟨hb, ?_⟩
    rw [e34]
    refine cond_intro (fun h1 => cond_dec (fun h2 => ⟨⟨by omega, h2⟩, ?_⟩) (fun h2 => ?_)) (fun h1 => ?_)
    · rw [e34']
      exact main _ (fun h => ⟨by simpa using h1, by omega, by simpa using h⟩) (fun h h3 => absurd h3.2.2 (by simpa using h))
    · exact main _ (fun h => by cases h) (fun _ h3 => h2 (by omega))
    · exact main _ (fun h => by cases h) (fun _ h3 => absurd h3.1 (by simpa using h1))
  · refine ⟨⟨_, _, rfl, ?_⟩, rfl⟩
    rw [hst, rest_nil (by omega)]
    rfl
end Go.Proofs.Sx
