/- Part of the proof: SxH. -/
import Derived.Test.YtonenlplcidihaaDoorSxG5
/-! The reference's check of one item. -/
namespace Go.Proofs.Sx
open Go Go.V Go.Proofs Go.RowKit
set_option maxRecDepth 100000

theorem bytes_lt {s : ByteArray} {j : Nat} (h : ¬ (j : Int) < s.size) : rest s j = [] := rest_nil (by omega)
theorem c66 (s : ByteArray) (hs : s.size < 4294967281) (w : World) : Ret Tryd.prog 66 #[.string s] w fun v w' => v = .bool (!decide (bs s = []) && (bs s).all isWord) ∧ w' = w := by
  refine run66 _ _ _ ⟨fun vals w' => ∃ j : Nat, vals = [.int .i64 j] ∧ j ≤ s.size ∧ w' = w ∧ (bs s).all isWord = (rest s j).all isWord, mu1 s.size, ⟨0, rfl, Nat.zero_le _, rfl, rfl⟩, ?_⟩
  rintro n w1 ⟨j, hv, hj, rfl, ha⟩
  cases hv
  refine cond_dec (fun hlt => ?_) (fun hlt => ?_)
  · have hl' : j < s.size := by omega
    refine ⟨⟨by omega, hlt⟩, ?_⟩
    rw [bt_eq]
    refine Called.of (c42 _ _) ?_
    rintro v w2 ⟨rfl, rfl⟩
    rw [rest_cons hl', List.all_cons] at ha
    refine ⟨_, rfl, cond_intro (fun hb => ⟨?_, rfl⟩) (fun hb => ?_)⟩
    · have hb' : isWord ((bs s).getD j 0) = false := by simpa using hb
      rw [ha, hb', Bool.false_and, Bool.and_false]
    · have hb' : isWord ((bs s).getD j 0) = true := by simpa using hb
      rw [wrap_succ (by omega)]
      rw [hb', Bool.true_and] at ha
      refine ⟨⟨j + 1, rfl, hl', rfl, ha⟩, ?_⟩
      simp only [mu1, Int.toNat_natCast]; omega
  · rw [bytes_lt hlt] at ha
    rw [beq_empty, ha]
    exact ⟨by simp, rfl⟩

/-- Are the fields of an item permitted? -/
def okItem (x : It) : Bool := if x.kind = 5 then decide (0 ≤ x.kids) && decide (bs x.text = []) else decide (x.kids = 0) && okLeaf x.kind (bs x.text)

theorem c55 (x : It) (hs : x.text.size < 4294967281) (w : World) :
    Ret Tryd.prog 55 #[.agg #[.int .i64 x.kind, .string x.text, .int .i64 x.kids, .int .i64 x.pos]] w fun v w' => v = .bool (okItem x) ∧ Ext w w' := by
  have hb : (w.alloc (.cells #[.int .i64 x.kind, .string x.text, .int .i64 x.kids, .int .i64 x.pos] 34)).heap[w.heap.size]? = some (.cells #[.int .i64 x.kind, .string x.text, .int .i64 x.kids, .int .i64 x.pos] 34 (0, 0)) := heap_alloc_new w _
  have he := (Ext.refl w).alloc (.cells #[.int .i64 x.kind, .string x.text, .int .i64 x.kids, .int .i64 x.pos] 34)
  refine run55 _ _ _ _ _ _ fun K hK => ?_
  have bad : ∀ b, b = true → okItem x = false → K [.bool b] (w.alloc (.cells #[.int .i64 x.kind, .string x.text, .int .i64 x.kids, .int .i64 x.pos] 34)) := by
    intro b hb1 h
    refine hK b ?_
    rw [hb1]
    exact ⟨by rw [h], he⟩
  have good : ∀ b, b = false → (x.kind ≠ 5 → x.kids = 0) → 0 ≤ x.kids → K [.bool b] (w.alloc (.cells #[.int .i64 x.kind, .string x.text, .int .i64 x.kids, .int .i64 x.pos] 34)) := by
    intro b hb1 h1 h2
    refine hK b ?_
    rw [hb1]
    refine ⟨_, blk_cell (j := 0) hb, cond_intro (fun h5 => ⟨_, blk_cell (j := 1) hb, ?_, he⟩) (fun h5 K1 hK1 => ?_)⟩
    · have h5' : x.kind = 5 := by simpa using h5
      rw [beq_empty]
      unfold okItem
      rw [if_pos h5', decide_eq_true h2, Bool.true_and]
    have h5' : x.kind ≠ 5 := by simpa using h5
    have ho : okItem x = okLeaf x.kind (bs x.text) := by
      unfold okItem
      rw [if_neg h5', decide_eq_true (h1 h5'), Bool.true_and]
    -- a word
    have wd : ∀ b, b = true → (x.kind = 1 ∨ x.kind = 2 ∨ x.kind = 3) → K1 [.bool b] (w.alloc (.cells #[.int .i64 x.kind, .string x.text, .int .i64 x.kids, .int .i64 x.pos] 34)) := by
      intro b hb2 hk
      have ho2 : okItem x = (!decide (bs x.text = []) && (bs x.text).all isWord && decide (kindW (bs x.text) = x.kind)) := by
        rw [ho]
        unfold okLeaf
        rw [if_neg (by omega), if_pos hk]
        cases bs x.text <;> simp
      refine hK1 b ?_
      rw [hb2]
      intro K2 hK2
      refine ⟨_, blk_cell (j := 1) hb, Called.of (c66 _ hs _) ?_⟩
      rintro v w2 ⟨rfl, rfl⟩
      refine ⟨_, rfl, Below.refl _ _, cond_intro (fun hw => ?_) (fun hw => hK2 _ _ ⟨by rw [ho2, hw]; rfl, he.drew⟩)⟩
      refine ⟨_, blk_cell (j := 1) hb, _, blk_cell (j := 0) hb, Called.of (c43 _ hs ?_ _) ?_⟩
      · intro hn; rw [hn] at hw; cases hw
      rintro v w3 ⟨rfl, he3⟩
      refine ⟨_, rfl, he3, hK2 _ _ ⟨?_, he.drew.trans he3⟩⟩
      rw [ho2, hw, Bool.true_and]
      congr 1
    have other : ∀ b, b = false → (¬ (x.kind = 1 ∨ x.kind = 2 ∨ x.kind = 3)) → K1 [.bool b] (w.alloc (.cells #[.int .i64 x.kind, .string x.text, .int .i64 x.kids, .int .i64 x.pos] 34)) := by
      intro b hb2 hk
      refine hK1 b ?_
      rw [hb2, cond_false]
      refine cond_intro (fun h4 => ?_) (fun h4 => ?_)
      · have h4' : x.kind = 4 := by simpa using h4
        have ho2 : okItem x = (bs x.text).all isPrint := by
          rw [ho]; unfold okLeaf; rw [if_pos h4']
        refine ⟨fun vals w' => ∃ j : Nat, vals = [.int .i64 j] ∧ j ≤ x.text.size ∧ w' = w.alloc (.cells #[.int .i64 x.kind, .string x.text, .int .i64 x.kids, .int .i64 x.pos] 34) ∧ (bs x.text).all isPrint = (rest x.text j).all isPrint,
          mu1 x.text.size, ⟨0, rfl, Nat.zero_le _, rfl, rfl⟩, ?_⟩
        rintro n w1 ⟨j, hv, hj, rfl, ha⟩
        cases hv
        refine ⟨_, blk_cell (j := 1) hb, cond_dec (fun hlt => ?_) (fun hlt => ⟨?_, he⟩)⟩
        case refine_2 => rw [ho2, ha, bytes_lt hlt]; rfl
        intro K3 hK3
        have hl' : j < x.text.size := by omega
        rw [rest_cons hl', List.all_cons] at ha
        have no : ∀ b, b = true → isPrint ((bs x.text).getD j 0) = false → K3 [.bool b] (w.alloc (.cells #[.int .i64 x.kind, .string x.text, .int .i64 x.kids, .int .i64 x.pos] 34)) := by
          intro b hb3 hp
          refine hK3 b ?_
          rw [hb3]
          refine ⟨?_, he⟩
          rw [ho2, ha, hp, Bool.false_and]
        have yes : ∀ b, b = false → isPrint ((bs x.text).getD j 0) = true → K3 [.bool b] (w.alloc (.cells #[.int .i64 x.kind, .string x.text, .int .i64 x.kids, .int .i64 x.pos] 34)) := by
          intro b hb3 hp
          refine hK3 b ?_
          rw [hb3]
          rw [hp, Bool.true_and] at ha
          rw [wrap_succ (by omega)]
          refine ⟨⟨j + 1, rfl, hl', rfl, ha⟩, ?_⟩
          simp only [mu1, Int.toNat_natCast]; omega
        refine ⟨_, blk_cell (j := 1) hb, ⟨by omega, hlt⟩, ?_⟩
        rw [bt_eq]
        have hpr : isPrint ((bs x.text).getD j 0) = (!decide ((((bs x.text).getD j 0).toNat : Int) < 32) && !decide ((((bs x.text).getD j 0).toNat : Int) > 126)) := by
          unfold isPrint
          rw [Bool.eq_iff_iff]
          simp only [Bool.and_eq_true, decide_eq_true_eq, Bool.not_eq_true', decide_eq_false_iff_not]
          omega
        refine cond_intro (fun h32 => no _ rfl ?_) (fun h32 => ⟨_, blk_cell (j := 1) hb, ⟨by omega, hlt⟩, ?_⟩)
        · rw [hpr, h32]; rfl
        · rw [h32] at hpr
          cases h126 : decide ((((bs x.text).getD j 0).toNat : Int) > 126) with
          | true => rw [h126] at hpr; exact no _ (by rw [bt_eq]; exact h126) hpr
          | false => rw [h126] at hpr; exact yes _ (by rw [bt_eq]; exact h126) hpr
      · have h4' : x.kind ≠ 4 := by simpa using h4
        refine ⟨?_, he⟩
        rw [ho]
        unfold okLeaf
        rw [if_neg h4', if_neg hk]
    refine cond_intro (fun h1 => wd _ rfl ?_) (fun h1 => cond_intro (fun h2 => wd _ rfl ?_) (fun h2 => ?_))
    · have := beq_iff_eq.1 h1; exact .inl this
    · have := beq_iff_eq.1 h2; exact .inr (.inl this)
    · have h1' : x.kind ≠ 1 := by simpa using h1
      have h2' : x.kind ≠ 2 := by simpa using h2
      cases h3 : (x.kind == 3) with
      | true => have := beq_iff_eq.1 h3; exact wd _ rfl (.inr (.inr this))
      | false =>
        have h3' : x.kind ≠ 3 := by simpa using h3
        exact other _ rfl (by omega)
  refine ⟨_, blk_cell (j := 0) hb, cond_intro (fun hk => ⟨_, blk_cell (j := 2) hb, cond_intro (fun h0 => ?_) (fun h0 => ⟨_, blk_cell (j := 2) hb, ?_⟩)⟩) (fun hk => ⟨_, blk_cell (j := 2) hb, ?_⟩)⟩
  · have hk' : x.kind ≠ 5 := by simpa using hk
    have h0' : x.kids ≠ 0 := by simpa using h0
    refine bad _ rfl ?_
    unfold okItem
    rw [if_neg hk', decide_eq_false h0']; rfl
  · have h0' : x.kids = 0 := by simpa using h0
    exact good _ (by rw [h0']; rfl) (fun _ => h0') (by omega)
  · have hk' : x.kind = 5 := by simpa using hk
    cases hn : decide (x.kids < 0) with
    | true =>
      have := of_decide_eq_true hn
      refine bad _ rfl ?_
      unfold okItem
      rw [if_pos hk', decide_eq_false (by omega)]; rfl
    | false =>
      have := of_decide_eq_false hn
      exact good _ rfl (fun h => absurd hk' h) (by omega)
end Go.Proofs.Sx
