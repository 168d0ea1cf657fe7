/- Part of the proof: SxA2. -/
import Derived.Test.YtonenlplcidihaaDoorSxA
/-! SexprPositions. -/
namespace Go.Proofs.Sx
open Go Go.V Go.Proofs Go.RowKit
set_option maxRecDepth 100000

theorem stepL_err {n : Nat} {st : St} {p : Nat} {e : Int} (h : stepL n st = .error (p, e)) : e = 2 ∨ e = 6 := by
  have hadd : ∀ {k : Int} {x l : List UInt8}, addI n st k x l = .error (p, e) → e = 6 := by
    intro k x l h
    unfold addI at h
    split at h <;> cases h
    rfl
  unfold stepL at h
  split at h
  · cases h; exact .inl rfl
  split at h
  · cases h
  split at h
  · cases h
  split at h
  · split at h <;> cases h
    exact .inl rfl
  split at h
  · exact .inr (hadd h)
  split at h
  · split at h
    · cases h; exact .inl rfl
    · exact .inr (hadd h)
  split at h
  · split at h
    · cases h; exact .inl rfl
    · exact .inr (hadd h)
  · cases h; exact .inl rfl
theorem parseL_code {n : Nat} : ∀ (m : Nat) (st : St), st.l.length ≤ m → ∀ {p : Nat} {e : Int}, parseL n st = .error (p, e) → e = 2 ∨ e = 6 := by
  intro m
  induction m with
  | zero =>
    intro st hm p e h
    rw [parseL_nil (List.eq_nil_of_length_eq_zero (by omega))] at h
    split at h <;> cases h
    exact .inl rfl
  | succ m ih =>
    intro st hm p e h
    by_cases hl : st.l = []
    · rw [parseL_nil hl] at h
      split at h <;> cases h
      exact .inl rfl
    · cases hst : stepL n st with
      | error e' => rw [parseL_err hl hst] at h; cases h; exact stepL_err hst
      | ok st' => rw [parseL_ok hst] at h; have := stepL_lt hst; exact ih st' (by omega) h
theorem parse_code {s : ByteArray} {p : Nat} {e : Int} (h : parse s = .error (p, e)) : e = 2 ∨ e = 6 := by
  unfold parse at h
  split at h
  · cases h; exact .inr rfl
  · exact parseL_code _ _ (Nat.le_refl _) h

/-- A field of an item of a slice. -/
theorem sl_field {w : World} {A : Option Addr} {L : List It} (h : SlAt w A (itcs L)) {i : Nat} {y : It} (hy : L[i]? = some y) :
    ∃ ad, A = some ad ∧ w.cell? (ad.add (i * 4)) = some (.int .i64 y.kind) ∧ w.cell? ((ad.add (i * 4)).add 1) = some (.string y.text) ∧ w.cell? ((ad.add (i * 4)).add 2) = some (.int .i64 y.kids) ∧ w.cell? ((ad.add (i * 4)).add 3) = some (.int .i64 y.pos) := by
  have hi := (List.getElem?_eq_some_iff.1 hy).1
  obtain ⟨ad, hA, hs, hr⟩ := h.at (j := 0) (by rw [itcs_len]; omega)
  refine ⟨ad, hA, hr _ _ (itcs_get hy 0 _ rfl), ?_, ?_, ?_⟩ <;> rw [add_add _ hs]
  · exact hr _ _ (itcs_get hy 1 _ rfl)
  · exact hr _ _ (itcs_get hy 2 _ rfl)
  · exact hr _ _ (itcs_get hy 3 _ rfl)

theorem c5 (T : TrimOk) (s : ByteArray) {lA : Option Addr} {lN lC : Nat} {l : List Int} {w : World} (hl : l.length = lN) (hc : lN ≤ lC) (h : SlAt w lA (l.map fun n => .int .i64 n)) :
    Ret Tryd.prog 5 #[.string s, .slice lA lN lC] w fun v w' => v = .bool true ∧ Ext w w' := by
  have wake : ∀ {w1 : World}, Ext w w1 → Called Tryd.prog 11 #[] w1 fun v w2 => ∃ b, v = .bool b ∧ (Value.bool b = .bool true ∧ Ext w w2) := by
    intro w1 he
    refine Called.of (c11 T w1) ?_
    rintro v w2 ⟨rfl, he2⟩
    exact ⟨_, rfl, rfl, he.trans he2⟩
  refine run5 _ _ _ _ _ _ (cond_dec (fun _ => wake (Ext.refl _)) (fun hsm => ?_))
  refine Called.of (c14 hl hc h) ?_
  rintro v w1 ⟨⟨f, A, C, hg, hd, hfl, rfl, ho⟩, he1⟩
  refine ⟨_, _, _, rfl, Called.of (fmtSeq hg hd hfl ho he1) ?_⟩
  rintro v w3 ⟨⟨s1, rfl, -, hsz⟩, he3⟩
  refine ⟨s1, rfl, by omega, Called.of (c16 T (s1 ++ s) w3) ?_⟩
  have hts : (s1 ++ s).size ≤ 16272 := by rw [app_size]; omega
  generalize hte : s1 ++ s = t at hts ⊢
  rintro v w4 ⟨hr, he4⟩
  have he4' := he3.trans he4
  unfold ParseRes at hr
  cases hp : parse t with
  | error e =>
    obtain ⟨p, e⟩ := e
    rw [hp] at hr
    have hr' : v = .tuple #[.slice none 0 0, .int .i64 p, .int .i64 e] := hr
    subst hr'
    have hcode := parse_code hp
    exact ⟨_, _, _, _, _, rfl, cond_intro (fun _ => wake he4') (fun h0 => absurd (by simpa using h0) (show e ≠ 0 by omega))⟩
  | ok out =>
    rw [hp] at hr
    obtain ⟨A2, C2, rfl, ho2⟩ := hr
    obtain ⟨hpos, hasc⟩ := parse_pos hp
    refine ⟨_, _, _, _, _, rfl, cond_intro (fun h0 => absurd h0 (by decide)) (fun _ => ?_)⟩
    have hol : out.length ≤ 9223372036854775807 := by
      rcases ho2.2 with ⟨_, h0⟩ | ⟨g, cap, cur, _, _, _, hnc, hm, _⟩
      · omega
      · unfold maxLen at hm; omega
    refine ⟨fun vals w6 => ∃ j : Nat, vals = [.int .i64 j] ∧ j ≤ out.length ∧ Ext w4 w6, mu1 out.length, ⟨0, rfl, Nat.zero_le _, Ext.refl _⟩, ?_⟩
    rintro n2 w6 ⟨j, hv, hj, he6⟩
    cases hv
    refine cond_dec (fun hlt => ?_) (fun _ => wake (he4'.trans he6))
    have hjl : j < out.length := by omega
    obtain ⟨x, hx⟩ : ∃ x, out[j]? = some x := ⟨_, List.getElem?_eq_getElem hjl⟩
    have hsl := (own_row ho2).ext he6
    obtain ⟨ad, rfl, hf0, hf1, -, hf3⟩ := sl_field hsl hx
    obtain ⟨q, hq, hql, hk5, hk4, hkw⟩ := hpos x (List.mem_of_getElem? hx)
    rw [hq] at hf3
    have go : ∀ w7, Ext w6 w7 → (∃ j' : Nat, [Value.int .i64 (IntKind.i64.wrap ((j : Int) + 1))] = [.int .i64 j'] ∧ j' ≤ out.length ∧ Ext w4 w7) ∧
        mu1 out.length [Value.int .i64 (IntKind.i64.wrap ((j : Int) + 1))] w7 < mu1 out.length [.int .i64 j] w6 := by
      intro w7 he7
      rw [wrap_succ (by omega)]
      refine ⟨⟨j + 1, rfl, hjl, he6.trans he7⟩, ?_⟩
      simp only [mu1, Int.toNat_natCast]; omega
    refine ⟨ad, rfl, ⟨by omega, hlt⟩, _, by rw [Int.toNat_natCast]; exact hf3, fun K hK => ?_⟩
    have main : ∀ b, b = false → K [.bool b] w6 := by
      intro b hb
      refine hK b ?_
      rw [hb, cond_false]
      refine ⟨ad, rfl, ⟨by omega, hlt⟩, _, by rw [Int.toNat_natCast]; exact hf1, ad, rfl, ⟨by omega, hlt⟩, _, by rw [Int.toNat_natCast]; exact hf0, ?_⟩
      refine cond_intro (fun h5 => ⟨⟨by omega, by omega⟩, ?_⟩) (fun h5 => cond_intro (fun h4 => ⟨⟨by omega, by omega⟩, ?_⟩) (fun h4 => ?_))
      · have h5' : x.kind = 5 := by simpa using h5
        rw [bt_eq, hk5 h5']
        exact cond_intro (fun h => absurd h (by decide)) (fun _ => go _ (Ext.refl _))
      · have h4' : x.kind = 4 := by simpa using h4
        rw [bt_eq, hk4 h4']
        exact cond_intro (fun h => absurd h (by decide)) (fun _ => go _ (Ext.refl _))
      · have h5' : x.kind ≠ 5 := by simpa using h5
        have h4' : x.kind ≠ 4 := by simpa using h4
        obtain ⟨hne, hpre⟩ := hkw h5' h4'
        have hpl := hpre.length_le
        rw [rest_len, ← size_bs] at hpl
        have hne2 : x.text.size ≠ 0 := fun e => hne (List.eq_nil_of_length_eq_zero (by rw [← size_bs]; exact e))
        intro K1 hK1
        have fin : ∀ b, b = false → K1 [.bool b] w6.drew := by
          intro b hb
          refine hK1 b ?_
          rw [hb, cond_false]
          have := go w6.drew ((Ext.refl _).drew)
          exact this
        refine cond_intro (fun h0 => ?_) (fun h0 => cond_dec (fun hgt => ?_) (fun hgt => ?_))
        · have h0' : (x.text.size : Int) = 0 := by simpa using h0
          omega
        · rw [wrap64_in (by omega) (by omega)] at hgt
          omega
        · have e1 : IntKind.i64.wrap ((q : Int) + (x.text.size : Int)) = ((q + x.text.size : Nat) : Int) := by rw [wrap64_in (by omega) (by omega)]; omega
          rw [e1]
          refine ⟨⟨by omega, by omega, by omega⟩, ad, rfl, ⟨by omega, hlt⟩, _, by rw [Int.toNat_natCast]; exact hf1, fin _ ?_⟩
          rw [beq_bytes, extract_bs, Int.toNat_natCast, Int.toNat_natCast, show q + x.text.size - q = x.text.size by omega, size_bs, ← List.prefix_iff_eq_take.1 hpre]
          simp
    refine cond_dec (fun h => absurd h (by omega)) (fun _ => cond_dec (fun h => absurd h (by omega)) (fun _ => cond_dec (fun hpos0 => ?_) (fun _ => main _ rfl)))
    have hj1 : j - 1 < out.length := by omega
    obtain ⟨y, hy⟩ : ∃ y, out[j - 1]? = some y := ⟨_, List.getElem?_eq_getElem hj1⟩
    obtain ⟨ad', e', -, -, -, hy3⟩ := sl_field hsl hy
    cases e'
    rw [wrap_pred (by omega) (by omega)]
    refine ⟨ad, rfl, ⟨by omega, by omega⟩, _, by rw [Int.toNat_natCast]; exact hy3, main _ ?_⟩
    have hlt2 : y.pos < x.pos := by
      have h1 := List.pairwise_iff_getElem.1 hasc (j - 1) j (by rw [List.length_map]; exact hj1) (by rw [List.length_map]; exact hjl) (by omega)
      rw [List.getElem_map, List.getElem_map] at h1
      rw [List.getElem?_eq_getElem hj1] at hy
      rw [List.getElem?_eq_getElem hjl] at hx
      cases hy
      cases hx
      exact h1
    rw [decide_eq_false_iff_not]
    omega
end Go.Proofs.Sx
