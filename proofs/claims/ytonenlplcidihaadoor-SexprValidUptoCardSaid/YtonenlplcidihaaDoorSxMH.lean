/- Part of the proof: SxMH. -/
import Derived.Test.YtonenlplcidihaaDoorSxMG
/-! The reference's check of one item. -/
namespace Go.Proofs.Sx
open Go Go.V Go.Proofs Go.RowKit
set_option maxRecDepth 100000

theorem bytes_lt {s : ByteArray} {j : Nat} (h : ¬ (j : Int) < s.size) : rest s j = [] := rest_nil (by omega)
theorem c66 (s : ByteArray) (hs : s.size < 4294967281) (w : World) : Ret Tryd.prog 66 #[.string s] w fun v w' => v = .bool (!decide (bs s = []) && (bs s).all isWord) ∧ w' = w := by
  refine run66 _ _ _ ⟨fun vals w' => ∃ j : Nat, vals = [.int .i64 j] ∧ j ≤ s.size ∧ w' = w ∧ (bs s).all isWord = (rest s j).all isWord, mu1 s.size, ⟨0, rfl, Nat.zero_le _, rfl, rfl⟩, ?_⟩
  rintro n w1 ⟨j, hv, hj, rfl, ha⟩
  cases hv
  refine cond_dec (fun hlt => ?_) (fun hlt => ?_)
  · have hl' : j < s.size := by omega
    refine ⟨⟨by omega, hlt⟩, ?_⟩
    rw [bt_eq]
    refine Called.of (c42 _ _) ?_
    rintro v w2 ⟨rfl, rfl⟩
    rw [rest_cons hl', List.all_cons] at ha
    refine ⟨_, rfl, cond_intro (fun hb => ⟨?_, rfl⟩) (fun hb => ?_)⟩
    · have hb' : isWord ((bs s).getD j 0) = false := by simpa using hb
      rw [ha, hb', Bool.false_and, Bool.and_false]
    · have hb' : isWord ((bs s).getD j 0) = true := by simpa using hb
      rw [wrap_succ (by omega)]
      rw [hb', Bool.true_and] at ha
      refine ⟨⟨j + 1, rfl, hl', rfl, ha⟩, ?_⟩
      simp only [mu1, Int.toNat_natCast]; omega
  · rw [bytes_lt hlt] at ha
    rw [beq_empty, ha]
    exact ⟨by simp, rfl⟩

/-- Are the fields of an item permitted? -/
def okItem (x : It) : Bool := if x.kind = 5 then decide (0 ≤ x.kids) && decide (bs x.text = []) else decide (x.kids = 0) && okLeaf x.kind (bs x.text)

theorem c55 (x : It) (hs : x.text.size < 4294967281) (w : World) :
    Ret Tryd.prog 55 #[.agg #[.int .i64 x.kind, .string x.text, .int .i64 x.kids, .int .i64 x.pos]] w fun v w' => v = .bool (okItem x) ∧ Ext w w' := by
  have hb : (w.alloc (.cells #[.int .i64 x.kind, .string x.text, .int .i64 x.kids, .int .i64 x.pos] 34)).heap[w.heap.size]? = some (.cells #[.int .i64 x.kind, .string x.text, .int .i64 x.kids, .int .i64 x.pos] 34 (0, 0)) := heap_alloc_new w _
  have he := (Ext.refl w).alloc (.cells #[.int .i64 x.kind, .string x.text, .int .i64 x.kids, .int .i64 x.pos] 34)
  refine run55 _ _ _ _ _ _ fun K hK => ?_
  have bad : ∀ b, b = true → okItem x = false → K [.bool b] (w.alloc (.cells #[.int .i64 x.kind, .string x.text, .int .i64 x.kids, .int .i64 x.pos] 34)) := by
    intro b hb1 h
    refine hK b ?_
    rw [hb1]
    exact ⟨by rw [h], he⟩
  have good : ∀ b, b = false → (x.kind ≠ 5 → x.kids = 0) → 0 ≤ x.kids → K [.bool b] (w.alloc (.cells #[.int .i64 x.kind, .string x.text, .int .i64 x.kids, .int .i64 x.pos] 34)) := by
    intro b hb1 h1 h2
    refine hK b ?_
    rw [hb1]
    refine ⟨_, blk_cell (j := 0) hb, cond_intro (fun h5 => ⟨_, blk_cell (j := 1) hb, ?_, he⟩) (fun h5 K1 hK1 => ?_)⟩
    · have h5' : x.kind = 5 := by simpa using h5
      rw [beq_empty]
      unfold okItem
      rw [if_pos h5', decide_eq_true h2, Bool.true_and]
    have h5' : x.kind ≠ 5 := by simpa using h5
    have ho : okItem x = okLeaf x.kind (bs x.text) := by
      unfold okItem
      rw [if_neg h5', decide_eq_true (h1 h5'), Bool.true_and]
    -- a word
    have wd : ∀ b, b = true → (x.kind = 1 ∨ x.kind = 2 ∨ x.kind = 3) → K1 [.bool b] (w.alloc (.cells #[.int .i64 x.kind, .string x.text, .int .i64 x.kids, .int .i64 x.pos] 34)) := by
      intro b hb2 hk
      have ho2 : okItem x = (!decide (bs x.text = []) && (bs x.text).all isWord && decide (kindW (bs x.text) = x.kind)) := by
        rw [ho]
        unfold okLeaf
        rw [if_neg (by omega), if_pos hk]
        cases bs x.text <;> simp
      refine hK1 b ?_
      rw [hb2]
      intro K2 hK2
      refine ⟨_, blk_cell (j := 1) hb, Called.of (c66 _ hs _) ?_⟩
      rintro v w2 ⟨rfl, rfl⟩
      refine ⟨_, rfl, Below.refl _ _, cond_intro (fun hw => ?_) (fun hw => hK2 _ _ ⟨by rw [ho2, hw]; rfl, he.drew⟩)⟩
      refine ⟨_, blk_cell (j := 1) hb, _, blk_cell (j := 0) hb, Called.of (c43 _ hs ?_ _) ?_⟩
      · intro hn; rw [hn] at hw; cases hw
      rintro v w3 ⟨rfl, he3⟩
      refine ⟨_, rfl, he3, hK2 _ _ ⟨?_, he.drew.trans he3⟩⟩
      rw [ho2, hw, Bool.true_and]
      congr 1
    have other : ∀ b, b = false → (¬ (x.kind = 1 ∨ x.kind = 2 ∨ x.kind = 3)) → K1 [.bool b] (w.alloc (.cells #[.int .i64 x.kind, .string x.text, .int .i64 x.kids, .int .i64 x.pos] 34)) := by
      intro b hb2 hk
      refine hK1 b ?_
      rw [hb2, cond_false]
      refine cond_intro (fun h4 => ?_) (fun h4 => ?_)
      · have h4' : x.kind = 4 := by simpa using h4
        have ho2 : okItem x = (bs x.text).all isPrint := by
          rw [ho]; unfold okLeaf; rw [if_pos h4']
        refine ⟨fun vals w' => ∃ j : Nat, vals = [.int .i64 j] ∧ j ≤ x.text.size ∧ w' = w.alloc (.cells #[.int .i64 x.kind, .string x.text, .int .i64 x.kids, .int .i64 x.pos] 34) ∧ (bs x.text).all isPrint = (rest x.text j).all isPrint,
          mu1 x.text.size, ⟨0, rfl, Nat.zero_le _, rfl, rfl⟩, ?_⟩
        rintro n w1 ⟨j, hv, hj, rfl, ha⟩
        cases hv
        refine ⟨_, blk_cell (j := 1) hb, cond_dec (fun hlt => ?_) (fun hlt => ⟨?_, he⟩)⟩
        case refine_2 => rw [ho2, ha, bytes_lt hlt]; rfl
        intro K3 hK3
        have hl' : j < x.text.size := by omega
        rw [rest_cons hl', List.all_cons] at ha
        have no : ∀ b, b = true → isPrint ((bs x.text).getD j 0) = false → K3 [.bool b] (w.alloc (.cells #[.int .i64 x.kind, .string x.text, .int .i64 x.kids, .int .i64 x.pos] 34)) := by
          intro b hb3 hp
          refine hK3 b ?_
          rw [hb3]
          refine ⟨?_, he⟩
          rw [ho2, ha, hp, Bool.false_and]
        have yes : ∀ b, b = false → isPrint ((bs x.text).getD j 0) = true → K3 [.bool b] (w.alloc (.cells #[.int .i64 x.kind, .string x.text, .int .i64 x.kids, .int .i64 x.pos] 34)) := by
          intro b hb3 hp
          refine hK3 b ?_
          rw [hb3]
          rw [hp, Bool.true_and] at ha
          rw [wrap_succ (by omega)]
          refine ⟨⟨j + 1, rfl, hl', rfl, ha⟩, ?_⟩
          simp only [mu1, Int.toNat_natCast]; omega
        refine ⟨_, blk_cell (j := 1) hb, ⟨by omega, hlt⟩, ?_⟩
        rw [bt_eq]
        have hpr : isPrint ((bs x.text).getD j 0) = (!decide ((((bs x.text).getD j 0).toNat : Int) < 32) && !decide ((((bs x.text).getD j 0).toNat : Int) > 126)) := by
          unfold isPrint
          rw [Bool.eq_iff_iff]
          simp only [Bool.and_eq_true, decide_eq_true_eq, Bool.not_eq_true', decide_eq_false_iff_not]
          omega
        refine cond_intro (fun h32 => no _ rfl ?_) (fun h32 => ⟨_, blk_cell (j := 1) hb, ⟨by omega, hlt⟩, ?_⟩)
        · rw [hpr, h32]; rfl
        · rw [h32] at hpr
          cases h126 : decide ((((bs x.text).getD j 0).toNat : Int) > 126) with
          | true => rw [h126] at hpr; exact no _ (by rw [bt_eq]; exact h126) hpr
          | false => rw [h126] at hpr; exact yes _ (by rw [bt_eq]; exact h126) hpr
      · have h4' : x.kind ≠ 4 := by simpa using h4
        refine ⟨?_, he⟩
        rw [ho]
        unfold okLeaf
        rw [if_neg h4', if_neg hk]
    refine cond_intro (fun h1 => wd _ rfl ?_) (fun h1 => cond_intro (fun h2 => wd _ rfl ?_) (fun h2 => ?_))
    · have := beq_iff_eq.1 h1; exact .inl this
    · have := beq_iff_eq.1 h2; exact .inr (.inl this)
    · have h1' : x.kind ≠ 1 := by simpa using h1
      have h2' : x.kind ≠ 2 := by simpa using h2
      cases h3 : (x.kind == 3) with
      | true => have := beq_iff_eq.1 h3; exact wd _ rfl (.inr (.inr this))
      | false =>
        have h3' : x.kind ≠ 3 := by simpa using h3
        exact other _ rfl (by omega)
  refine ⟨_, blk_cell (j := 0) hb, cond_intro (fun hk => ⟨_, blk_cell (j := 2) hb, cond_intro (fun h0 => ?_) (fun h0 => ⟨_, blk_cell (j := 2) hb, ?_⟩)⟩) (fun hk => ⟨_, blk_cell (j := 2) hb, ?_⟩)⟩
  · have hk' : x.kind ≠ 5 := by simpa using hk
    have h0' : x.kids ≠ 0 := by simpa using h0
    refine bad _ rfl ?_
    unfold okItem
    rw [if_neg hk', decide_eq_false h0']; rfl
  · have h0' : x.kids = 0 := by simpa using h0
    exact good _ (by rw [h0']; rfl) (fun _ => h0') (by omega)
  · have hk' : x.kind = 5 := by simpa using hk
    cases hn : decide (x.kids < 0) with
    | true =>
      have := of_decide_eq_true hn
      refine bad _ rfl ?_
      unfold okItem
      rw [if_pos hk', decide_eq_false (by omega)]; rfl
    | false =>
      have := of_decide_eq_false hn
      exact good _ rfl (fun h => absurd hk' h) (by omega)
end Go.Proofs.Sx

/-! Forests that lie in lists. -/
namespace Go.Proofs.Sx
open Go Go.V Go.Proofs Go.RowKit
set_option maxRecDepth 100000

/-- An item without its place. -/
def strip (x : It) : It := { x with pos := 0 }
/-- How deep lists may stand around: as it is counted by the parsers. -/
def Fo.edep : Fo → Nat
  | .nil => 0
  | .leaf _ _ r => max 1 r.edep
  | .list c r => max (c.edep + 1) r.edep
theorem edep_le (f : Fo) : f.edep ≤ f.dep + 1 := by
  induction f with
  | nil => exact Nat.zero_le _
  | leaf k t r ih => simp only [Fo.edep, Fo.dep]; omega
  | list c r ih1 ih2 => simp only [Fo.edep, Fo.dep]; omega

namespace Fo
def hlen : Fo → Nat
  | nil => 0
  | leaf _ _ _ => 1
  | list c _ => c.flat.length + 1
def next : Fo → Fo
  | nil => nil
  | leaf _ _ r => r
  | list _ r => r
/-- The elements of the first item. -/
def sub : Fo → Fo
  | nil => nil
  | leaf _ _ _ => nil
  | list c _ => c
def hd : Fo → It
  | nil => ⟨0, mk [], 0, 0⟩
  | leaf k t _ => ⟨k, t, 0, 0⟩
  | list c _ => ⟨5, mk [], c.cnt, 0⟩
theorem flat_split {f : Fo} (h : 0 < f.cnt) : f.flat = f.hd :: (f.sub.flat ++ f.next.flat) := by
  cases f with
  | nil => simp [cnt] at h
  | leaf k t r => rfl
  | list c r => rfl
theorem hlen_sub {f : Fo} (h : 0 < f.cnt) : f.hlen = f.sub.flat.length + 1 := by
  cases f with
  | nil => simp [cnt] at h
  | leaf k t r => rfl
  | list c r => rfl
theorem len_split {f : Fo} (h : 0 < f.cnt) : f.flat.length = f.hlen + f.next.flat.length := by
  rw [flat_split h, hlen_sub h, List.length_cons, List.length_append]; omega
theorem cnt_next {f : Fo} (h : 0 < f.cnt) : f.cnt = f.next.cnt + 1 := by
  cases f with
  | nil => simp [cnt] at h
  | leaf k t r => rfl
  | list c r => rfl
theorem good_next {f : Fo} (h : f.goodV) : f.next.goodV := by
  cases f with
  | nil => exact h
  | leaf k t r => exact h.2.2
  | list c r => exact h.2
theorem good_sub {f : Fo} (h : f.goodV) : f.sub.goodV := by
  cases f with
  | nil => exact h
  | leaf k t r => trivial
  | list c r => exact h.1
theorem edep_next (f : Fo) : f.next.edep ≤ f.edep := by
  cases f with
  | nil => exact Nat.le_refl _
  | leaf k t r => exact Nat.le_max_right _ _
  | list c r => exact Nat.le_max_right _ _
theorem edep_sub {f : Fo} (h : 0 < f.sub.cnt) : f.sub.edep + 1 ≤ f.edep := by
  cases f with
  | nil => simp [sub, cnt] at h
  | leaf k t r => simp [sub, cnt] at h
  | list c r => exact Nat.le_max_left _ _
theorem edep_pos {f : Fo} (h : 0 < f.cnt) : 1 ≤ f.edep := by
  cases f with
  | nil => simp [cnt] at h
  | leaf k t r => exact Nat.le_max_left _ _
  | list c r => exact Nat.le_trans (Nat.succ_le_succ (Nat.zero_le _)) (Nat.le_max_left _ _)
theorem hd_kids (f : Fo) : f.hd.kids = (f.sub.cnt : Int) := by cases f <;> rfl
theorem hd_ok {f : Fo} (h : f.goodV) (h0 : 0 < f.cnt) : okItem f.hd = true := by
  cases f with
  | nil => simp [cnt] at h0
  | leaf k t r =>
    have h1 : k ≠ 5 := by
      intro e; subst e; have := h.1; simp [okLeaf] at this
    unfold okItem
    rw [if_neg (show (hd (leaf k t r)).kind ≠ 5 from h1)]
    show (decide ((0 : Int) = 0) && okLeaf k (bs t)) = true
    rw [h.1]; rfl
  | list c r =>
    unfold okItem
    rw [if_pos (show (hd (list c r)).kind = 5 from rfl)]
    show (decide ((0 : Int) ≤ (c.cnt : Int)) && decide (bs (mk []) = [])) = true
    rw [decide_eq_true (by omega), decide_eq_true (bs_mk [])]; rfl
theorem hd_size {f : Fo} (h : f.goodV) : f.hd.text.size ≤ 1048576 := by
  cases f with
  | nil => exact Nat.zero_le _
  | leaf k t r => exact h.2.1
  | list c r => exact Nat.zero_le _
end Fo

/-- A forest lies in a list from i on. -/
def Here (L : List It) (i : Nat) (f : Fo) : Prop := ∃ R, (L.map strip).drop i = f.flat ++ R
theorem Here.next {L : List It} {i : Nat} {f : Fo} (h : Here L i f) (h0 : 0 < f.cnt) : Here L (i + f.hlen) f.next := by
  obtain ⟨R, hR⟩ := h
  refine ⟨R, ?_⟩
  rw [← List.drop_drop, hR, Fo.flat_split h0, Fo.hlen_sub h0]
  rw [List.cons_append, List.drop_succ_cons, List.append_assoc, List.drop_left]
theorem Here.sub {L : List It} {i : Nat} {f : Fo} (h : Here L i f) (h0 : 0 < f.cnt) : Here L (i + 1) f.sub := by
  obtain ⟨R, hR⟩ := h
  refine ⟨f.next.flat ++ R, ?_⟩
  rw [← List.drop_drop, hR, Fo.flat_split h0]
  rw [List.cons_append, List.drop_succ_cons, List.append_assoc]; rfl
theorem Here.get {L : List It} {i : Nat} {f : Fo} (h : Here L i f) (h0 : 0 < f.cnt) : ∃ y, L[i]? = some y ∧ strip y = f.hd := by
  obtain ⟨R, hR⟩ := h
  have h1 : ((L.map strip).drop i)[0]? = some f.hd := by rw [hR, Fo.flat_split h0]; rfl
  rw [List.getElem?_drop, Nat.add_zero, List.getElem?_map] at h1
  cases hy : L[i]? with
  | none => rw [hy] at h1; cases h1
  | some y => rw [hy] at h1; exact ⟨y, rfl, Option.some.inj h1⟩
theorem Here.le {L : List It} {i : Nat} {f : Fo} (h : Here L i f) (h0 : 0 < f.cnt) : i + f.flat.length ≤ L.length := by
  obtain ⟨y, hy, _⟩ := h.get h0
  have hi := (List.getElem?_eq_some_iff.1 hy).1
  obtain ⟨R, hR⟩ := h
  have := congrArg List.length hR
  rw [List.length_drop, List.length_map, List.length_append] at this
  omega
theorem okItem_strip (y : It) : okItem (strip y) = okItem y := rfl

/-- An item of a slice is read. -/
theorem sl_item {w : World} {A : Option Addr} {L : List It} (h : SlAt w A (itcs L)) {i : Nat} {y : It} (hy : L[i]? = some y) :
    ∃ ad, A = some ad ∧ ad.spot = none ∧ vcells w (ad.add (i * 4)) 0 (itc y) ∧ w.cell? ((ad.add (i * 4)).add 2) = some (.int .i64 y.kids) := by
  have hi := (List.getElem?_eq_some_iff.1 hy).1
  obtain ⟨ad, hA, hs, hr⟩ := h.at (j := 0) (by rw [itcs_len]; omega)
  refine ⟨ad, hA, hs, item_cells hs hr hy, ?_⟩
  rw [add_add _ hs]
  exact hr _ _ (itcs_get hy 2 _ rfl)

theorem c39 {A : Option Addr} {C : Nat} {L : List It} (hL : L.length < 4294967296) : ∀ (m : Nat) (f : Fo), f.flat.length ≤ m → f.goodV → 0 < f.cnt → ∀ (depth : Nat), depth + f.edep ≤ 257 → ∀ (i : Nat), Here L i f → ∀ (w : World), SlAt w A (itcs L) →
    Ret Tryd.prog 39 #[.slice A L.length C, .int .i64 i, .int .i64 depth] w fun v w' => v = .int .i64 ((i + f.hlen : Nat) : Int) ∧ Ext w w' := by
  intro m
  induction m with
  | zero => intro f hf _ h0; have := f.cnt_le; omega
  | succ m ih =>
    intro f hf hg h0 depth hd i hh w hs
    obtain ⟨y, hy, hyf⟩ := hh.get h0
    have hle := hh.le h0
    have hsp := Fo.len_split h0
    have hsub := Fo.hlen_sub h0
    have hlt : i < L.length := (List.getElem?_eq_some_iff.1 hy).1
    have hk : y.kids = (f.sub.cnt : Int) := by rw [← Fo.hd_kids, ← hyf]; rfl
    have hkle : f.sub.cnt ≤ L.length := by have := f.sub.cnt_le; omega
    have hep := Fo.edep_pos h0
    obtain ⟨ad, rfl, hsp2, hv, -⟩ := sl_item hs hy
    refine run39 _ _ _ _ _ _ _ fun K hK => ?_
    have hc0 : (decide ((i : Int) ≥ (L.length : Int)) || decide ((depth : Int) > 256)) = false := by
      rw [Bool.or_eq_false_iff, decide_eq_false_iff_not, decide_eq_false_iff_not]; omega
    refine cond_intro (fun h => by rw [hc0] at h; cases h) (fun _ => ?_)
    refine ⟨ad, rfl, ⟨by omega, by omega⟩, y.kind, y.text, y.kids, y.pos, hv, Called.of (c55 y (by have := Fo.hd_size hg; rw [← hyf] at this; have h5 : y.text.size ≤ 1048576 := this; omega) w) ?_⟩
    rintro v w4 ⟨rfl, he4⟩
    have hok : okItem y = true := by rw [← okItem_strip, hyf]; exact Fo.hd_ok hg h0
    refine ⟨_, rfl, cond_intro (fun h => by rw [hok] at h; cases h) (fun _ => ?_)⟩
    have hs4 := hs.ext he4
    obtain ⟨ad', e', -, -, hc4⟩ := sl_item hs4 hy
    cases e'
    refine ⟨ad, rfl, ⟨by omega, by omega⟩, _, hc4, ?_⟩
    rw [decide_eq_false (show ¬ y.kids > (L.length : Int) by omega)]
    refine hK _ _ ?_
    show ∃ I, _
    refine ⟨fun vals w2 => ∃ (n j : Nat) (g : Fo), vals = [.int .i64 n, .int .i64 j] ∧ n + g.cnt = f.sub.cnt ∧ i + 1 ≤ j ∧ j + g.flat.length = i + f.hlen ∧ Here L j g ∧ g.goodV ∧ g.edep ≤ f.sub.edep ∧ Ext w w2, mu1 f.sub.cnt,
      ⟨0, i + 1, f.sub, by rw [wrap_succ (by omega)]; rfl, Nat.zero_add _, Nat.le_refl _, by rw [hsub]; omega, hh.sub h0, Fo.good_sub hg, Nat.le_refl _, he4⟩, ?_⟩
    rintro n1 n2 w2 ⟨n, j, g, hv2, hn, hij, hj, hgh, hgg, hgd, he2⟩
    cases hv2
    obtain ⟨ad', e', -, -, hc2⟩ := sl_item (hs.ext he2) hy
    cases e'
    refine ⟨ad, rfl, ⟨by omega, by omega⟩, _, hc2, ?_⟩
    rw [hk]
    refine cond_dec (fun hlt2 => ?_) (fun hge => ?_)
    · have hg0 : 0 < g.cnt := by omega
      have hfs : 0 < f.sub.cnt := by omega
      have hds := Fo.edep_sub hfs
      have hgl := Fo.len_split hg0
      have hgc := Fo.cnt_next hg0
      rw [wrap_succ (by omega)]
      refine Called.of (ih g (by omega) hgg hg0 (depth + 1) (by omega) j hgh w2 (hs.ext he2)) ?_
      rintro v w3 ⟨rfl, he3⟩
      refine ⟨_, rfl, cond_dec (fun hneg => absurd hneg (by omega)) (fun _ => ?_)⟩
      rw [wrap_succ (by omega)]
      refine ⟨⟨n + 1, j + g.hlen, g.next, rfl, by omega, by omega, by omega, hgh.next hg0, Fo.good_next hgg, Nat.le_trans g.edep_next hgd, he2.trans he3⟩, ?_⟩
      simp only [mu1, Int.toNat_natCast]; omega
    · have hg0 : g.cnt = 0 := by omega
      have hgn : g = .nil := by
        cases g with
        | nil => rfl
        | leaf k t r => simp [Fo.cnt] at hg0
        | list c r => simp [Fo.cnt] at hg0
      subst hgn
      have : j = i + f.hlen := by simpa [Fo.flat] using hj
      rw [this]
      exact ⟨rfl, he2⟩
theorem cnt_zero {g : Fo} (h : g.cnt = 0) : g = .nil := by
  cases g with
  | nil => rfl
  | leaf k t r => simp [Fo.cnt] at h
  | list c r => simp [Fo.cnt] at h

/-- Where the items that stand side by side begin. -/
def starts : Nat → Fo → List Nat
  | _, .nil => []
  | p, .leaf _ _ r => p :: starts (p + 1) r
  | p, .list c r => p :: starts (p + (c.flat.length + 1)) r
theorem starts_step {f : Fo} (h : 0 < f.cnt) (p : Nat) : starts p f = p :: starts (p + f.hlen) f.next := by
  cases f with
  | nil => simp [Fo.cnt] at h
  | leaf k t r => rfl
  | list c r => rfl
theorem starts_len (f : Fo) : ∀ p, (starts p f).length = f.cnt := by
  induction f with
  | nil => exact fun _ => rfl
  | leaf k t r ih => intro p; simp [starts, Fo.cnt, ih]
  | list c r _ ih => intro p; simp [starts, Fo.cnt, ih]

theorem c23 {A : Option Addr} {C : Nat} {L : List It} (hL : L.length < 4294967296) {f : Fo} (hf : L.map strip = f.flat) (hg : f.goodV) (hd : f.edep ≤ 257) (w : World) (hs : SlAt w A (itcs L)) :
    Ret Tryd.prog 23 #[.slice A L.length C] w fun v w' => v = .bool true ∧ Ext w w' := by
  have hlen : L.length = f.flat.length := by rw [← hf, List.length_map]
  refine run23 _ _ _ _ _ ⟨fun vals w2 => ∃ (j : Nat) (g : Fo), vals = [.int .i64 j] ∧ j + g.flat.length = L.length ∧ Here L j g ∧ g.goodV ∧ g.edep ≤ 257 ∧ Ext w w2, mu1 L.length,
    ⟨0, f, rfl, by omega, ⟨[], by rw [List.drop_zero, hf, List.append_nil]⟩, hg, hd, Ext.refl _⟩, ?_⟩
  rintro n1 w2 ⟨j, g, hv2, hj, hgh, hgg, hgd, he2⟩
  cases hv2
  refine cond_dec (fun hlt => ?_) (fun hge => ⟨rfl, he2⟩)
  have hg0 : 0 < g.cnt := by
    rcases Nat.eq_zero_or_pos g.cnt with h | h
    · rw [cnt_zero h] at hj; simp [Fo.flat] at hj; omega
    · exact h
  have hgl := Fo.len_split hg0
  have hh1 := Fo.hlen_sub hg0
  refine Called.of (c39 hL _ g (Nat.le_refl _) hgg hg0 0 (by omega) j hgh w2 (hs.ext he2)) ?_
  rintro v w3 ⟨rfl, he3⟩
  refine ⟨_, rfl, cond_dec (fun h => absurd h (by omega)) (fun _ => ⟨⟨j + g.hlen, g.next, rfl, by omega, hgh.next hg0, Fo.good_next hgg, Nat.le_trans g.edep_next hgd, he2.trans he3⟩, ?_⟩)⟩
  simp only [mu1, Int.toNat_natCast]; omega

theorem plain_nats (l : List Nat) : plainCells (nats l) = true := by
  induction l with
  | nil => rfl
  | cons x l ih => exact ih
theorem nats_app (a b : List Nat) : nats (a ++ b) = nats a ++ nats b := by simp [nats]

theorem c25 {A : Option Addr} {C : Nat} {L : List It} (hL : L.length < 4294967296) {f : Fo} (hf : L.map strip = f.flat) (hg : f.goodV) (hd : f.edep ≤ 257) (w : World) (hs : SlAt w A (itcs L)) :
    Ret Tryd.prog 25 #[.slice A L.length C] w fun v w' => (∃ p k, v = .slice p (starts 0 f).length k ∧ w'.ownsRow w.heap.size 3 1 (.slice p (starts 0 f).length k) (starts 0 f).length (nats (starts 0 f))) ∧ Ext w w' := by
  have hlen : L.length = f.flat.length := by rw [← hf, List.length_map]
  refine run25 _ _ _ _ _ (Called.of (c23 hL hf hg hd w hs) ?_)
  rintro v w1 ⟨rfl, he1⟩
  refine ⟨_, rfl, ?_⟩
  refine ⟨fun vals w2 => ∃ (j : Nat) (g : Fo) (D : List Nat) (p : Option Addr) (k : Nat), vals = [.int .i64 j, .slice p D.length k] ∧ D ++ starts j g = starts 0 f ∧ w2.ownsRow w.heap.size 3 1 (.slice p D.length k) D.length (nats D) ∧
    j + g.flat.length = L.length ∧ Here L j g ∧ g.goodV ∧ g.edep ≤ 257 ∧ Ext w w2, mu1 L.length,
    ⟨0, f, [], none, 0, rfl, rfl, ⟨rfl, .inl ⟨rfl, rfl⟩⟩, by omega, ⟨[], by rw [List.drop_zero, hf, List.append_nil]⟩, hg, hd, he1⟩, ?_⟩
  rintro n1 p' k' k1' w2 ⟨j, g, D, p, k, hv2, hD, ho, hj, hgh, hgg, hgd, he2⟩
  cases hv2
  have hDl := congrArg List.length hD
  rw [List.length_append, starts_len, starts_len] at hDl
  have hfc := f.cnt_le
  refine cond_dec (fun hlt => ?_) (fun hge => ?_)
  · have hg0 : 0 < g.cnt := by
      rcases Nat.eq_zero_or_pos g.cnt with h | h
      · rw [cnt_zero h] at hj; simp [Fo.flat] at hj; omega
      · exact h
    have hgl := Fo.len_split hg0
    have hh1 := Fo.hlen_sub hg0
    refine ⟨_, _, _, AppOk.one ho rfl rfl (by unfold maxLen; omega) (by omega) he2.size, ?_⟩
    intro p1 k3 w3 r
    have hx := (Ext.refl w2).alloc (.cells #[Value.int IntKind.i64 (j : Int)] 3)
    have hb3 : Ext w w3 := r.below (own_ext ho hx) (he2.trans hx) (by rw [size_alloc]; have := he2.size; omega) (Nat.le_refl _)
    refine Called.of (c39 hL _ g (Nat.le_refl _) hgg hg0 0 (by omega) j hgh w3 (hs.ext hb3)) ?_
    rintro v w4 ⟨rfl, he4⟩
    have e1 : (D ++ [j]).length = D.length + 1 := by simp
    refine ⟨_, rfl, ⟨j + g.hlen, g.next, D ++ [j], p1, k3, by rw [e1], ?_, ?_, by omega, hgh.next hg0, Fo.good_next hgg, Nat.le_trans g.edep_next hgd, hb3.trans he4⟩, ?_⟩
    · rw [List.append_assoc, ← hD, starts_step hg0]; rfl
    · rw [e1, nats_app]; exact own_ext r.own he4
    · simp only [mu1, Int.toNat_natCast]; omega
  · have hg0 : g = .nil := by
      apply cnt_zero
      have := g.cnt_le
      omega
    subst hg0
    have hD' : D = starts 0 f := by rw [← hD]; simp [starts]
    rw [← hD']
    exact ⟨⟨_, _, rfl, ho⟩, he2⟩

theorem c40 {A : Option Addr} {C : Nat} {L : List It} (hL : L.length < 4294967296) {f : Fo} (hg : f.goodV) (h0 : 0 < f.cnt) (hd : f.edep ≤ 257) {i : Nat} (hh : Here L i f) (w : World) (hs : SlAt w A (itcs L)) :
    Ret Tryd.prog 40 #[.slice A L.length C, .int .i64 i] w fun v w' =>
      (∃ p k, v = .slice p (starts (i + 1) f.sub).length k ∧ w'.ownsRow w.heap.size 3 1 (.slice p (starts (i + 1) f.sub).length k) (starts (i + 1) f.sub).length (nats (starts (i + 1) f.sub))) ∧ Ext w w' := by
  obtain ⟨y, hy, hyf⟩ := hh.get h0
  have hle := hh.le h0
  have hsp := Fo.len_split h0
  have hsub := Fo.hlen_sub h0
  have hlt : i < L.length := (List.getElem?_eq_some_iff.1 hy).1
  have hk : y.kids = (f.sub.cnt : Int) := by rw [← Fo.hd_kids, ← hyf]; rfl
  have hkle : f.sub.cnt ≤ L.length := by have := f.sub.cnt_le; omega
  refine run40 _ _ _ _ _ _ ⟨fun vals w2 => ∃ (j : Nat) (g : Fo) (D : List Nat) (p : Option Addr) (k : Nat), vals = [.int .i64 D.length, .int .i64 j, .slice p D.length k] ∧ D ++ starts j g = starts (i + 1) f.sub ∧
      w2.ownsRow w.heap.size 3 1 (.slice p D.length k) D.length (nats D) ∧ D.length + g.cnt = f.sub.cnt ∧ j + g.flat.length = i + f.hlen ∧ Here L j g ∧ g.goodV ∧ g.edep ≤ 257 ∧ Ext w w2, mu1 f.sub.cnt,
    ⟨i + 1, f.sub, [], none, 0, by rw [wrap_succ (by omega)]; rfl, rfl, ⟨rfl, .inl ⟨rfl, rfl⟩⟩, by simp, by rw [hsub]; omega, hh.sub h0, Fo.good_sub hg, ?_, Ext.refl _⟩, ?_⟩
  · rcases Nat.eq_zero_or_pos f.sub.cnt with h | h
    · rw [cnt_zero h]; exact Nat.zero_le _
    · have := Fo.edep_sub h; omega
  rintro n n1 p' k' k1' w2 ⟨j, g, D, p, k, hv2, hD, ho, hn, hj, hgh, hgg, hgd, he2⟩
  cases hv2
  obtain ⟨ad, rfl, -, -, hc2⟩ := sl_item (hs.ext he2) hy
  refine ⟨ad, rfl, ⟨by omega, by omega⟩, _, hc2, ?_⟩
  rw [hk]
  refine cond_dec (fun hlt => ?_) (fun hge => ?_)
  · have hg0 : 0 < g.cnt := by omega
    have hgl := Fo.len_split hg0
    have hgc := Fo.cnt_next hg0
    refine ⟨_, _, _, AppOk.one ho rfl rfl (by unfold maxLen; omega) (by omega) he2.size, ?_⟩
    intro p1 k3 w3 r
    have hx := (Ext.refl w2).alloc (.cells #[Value.int IntKind.i64 (j : Int)] 3)
    have hb3 : Ext w w3 := r.below (own_ext ho hx) (he2.trans hx) (by rw [size_alloc]; have := he2.size; omega) (Nat.le_refl _)
    refine Called.of (c39 hL _ g (Nat.le_refl _) hgg hg0 0 (by omega) j hgh w3 (hs.ext hb3)) ?_
    rintro v w4 ⟨rfl, he4⟩
    have e1 : (D ++ [j]).length = D.length + 1 := by simp
    rw [wrap_succ (by omega)]
    refine ⟨_, rfl, ⟨j + g.hlen, g.next, D ++ [j], p1, k3, by rw [e1], ?_, ?_, by rw [e1]; omega, by omega, hgh.next hg0, Fo.good_next hgg, Nat.le_trans g.edep_next hgd, hb3.trans he4⟩, ?_⟩
    · rw [List.append_assoc, ← hD, starts_step hg0]; rfl
    · rw [e1, nats_app]; exact own_ext r.own he4
    · simp only [mu1, Int.toNat_natCast]; omega
  · have hg0 : g = .nil := cnt_zero (by omega)
    subst hg0
    have hD' : D = starts (i + 1) f.sub := by rw [← hD]; simp [starts]
    rw [← hD']
    exact ⟨⟨_, _, rfl, ho⟩, he2⟩
end Go.Proofs.Sx

/-! Items are written by the reference. -/
namespace Go.Proofs.Sx
open Go Go.V Go.Proofs Go.RowKit
set_option maxRecDepth 100000

def esc : List UInt8 → List UInt8
  | [] => []
  | c :: t => if c = 34 then 34 :: 34 :: esc t else c :: esc t
def ltxt (k : Int) (t : List UInt8) : List UInt8 := if k = 4 then 34 :: (esc t ++ [34]) else t
namespace Fo
/-- The items' texts, each behind a space. -/
def more : Fo → List UInt8
  | nil => []
  | leaf k t r => 32 :: (ltxt k (bs t) ++ r.more)
  | list c r => 32 :: ((40 :: (c.more.tail ++ [41])) ++ r.more)
/-- The first item's text. -/
def htxt : Fo → List UInt8
  | nil => []
  | leaf k t _ => ltxt k (bs t)
  | list c _ => 40 :: (c.more.tail ++ [41])
/-- The items' texts, each a line. -/
def lines : Fo → List UInt8
  | nil => []
  | leaf k t r => ltxt k (bs t) ++ 10 :: r.lines
  | list c r => (40 :: (c.more.tail ++ [41])) ++ 10 :: r.lines
theorem more_step {f : Fo} (h : 0 < f.cnt) : f.more = 32 :: (f.htxt ++ f.next.more) := by
  cases f with
  | nil => simp [cnt] at h
  | leaf k t r => rfl
  | list c r => rfl
theorem lines_step {f : Fo} (h : 0 < f.cnt) : f.lines = f.htxt ++ 10 :: f.next.lines := by
  cases f with
  | nil => simp [cnt] at h
  | leaf k t r => rfl
  | list c r => rfl
end Fo
theorem esc_len (l : List UInt8) : (esc l).length ≤ 2 * l.length := by
  induction l with
  | nil => simp [esc]
  | cons c t ih =>
    unfold esc
    split <;> simp only [List.length_cons] <;> omega
theorem ltxt_len (k : Int) (t : List UInt8) : (ltxt k t).length ≤ 2 * t.length + 2 := by
  unfold ltxt
  split
  · have := esc_len t; simp only [List.length_cons, List.length_append, List.length_nil]; omega
  · omega
theorem more_len : ∀ {f : Fo}, f.goodV → f.more.length ≤ 2097156 * f.flat.length
  | .nil, _ => Nat.le_refl _
  | .leaf k t r, h => by
    have h1 := ltxt_len k (bs t)
    have h2 := more_len h.2.2
    have h3 := h.2.1
    rw [size_bs] at h3
    simp only [Fo.more, Fo.flat, List.length_cons, List.length_append]
    omega
  | .list c r, h => by
    have h1 := more_len h.1
    have h2 := more_len h.2
    simp only [Fo.more, Fo.flat, List.length_cons, List.length_append, List.length_tail, List.length_nil]
    omega
theorem htxt_len {f : Fo} (h : f.goodV) : f.htxt.length ≤ 2097156 * f.flat.length := by
  rcases Nat.eq_zero_or_pos f.cnt with h0 | h0
  · rw [cnt_zero h0]; exact Nat.zero_le _
  · have := more_len h
    rw [Fo.more_step h0, List.length_cons, List.length_append] at this
    omega
theorem lines_len : ∀ {f : Fo}, f.goodV → f.lines.length ≤ 2097156 * f.flat.length
  | .nil, _ => Nat.le_refl _
  | .leaf k t r, h => by
    have h1 := ltxt_len k (bs t)
    have h2 := lines_len h.2.2
    have h3 := h.2.1
    rw [size_bs] at h3
    simp only [Fo.lines, Fo.flat, List.length_cons, List.length_append]
    omega
  | .list c r, h => by
    have h1 := more_len h.1
    have h2 := lines_len h.2
    simp only [Fo.lines, Fo.flat, List.length_cons, List.length_append, List.length_tail, List.length_nil]
    omega
theorem more_len20 : ∀ {f : Fo}, f.good → f.more.length ≤ 44 * f.flat.length
  | .nil, _ => Nat.le_refl _
  | .leaf k t r, h => by
    have h1 := ltxt_len k (bs t)
    have h2 := more_len20 h.2.2
    have h3 := h.2.1
    rw [size_bs] at h3
    simp only [Fo.more, Fo.flat, List.length_cons, List.length_append]
    omega
  | .list c r, h => by
    have h1 := more_len20 h.1
    have h2 := more_len20 h.2
    simp only [Fo.more, Fo.flat, List.length_cons, List.length_append, List.length_tail, List.length_nil]
    omega
theorem htxt_len20 {f : Fo} (h : f.good) : f.htxt.length ≤ 44 * f.flat.length := by
  rcases Nat.eq_zero_or_pos f.cnt with h0 | h0
  · rw [cnt_zero h0]; exact Nat.zero_le _
  · have := more_len20 h
    rw [Fo.more_step h0, List.length_cons, List.length_append] at this
    omega
theorem lines_len20 : ∀ {f : Fo}, f.good → f.lines.length ≤ 44 * f.flat.length
  | .nil, _ => Nat.le_refl _
  | .leaf k t r, h => by
    have h1 := ltxt_len k (bs t)
    have h2 := lines_len20 h.2.2
    have h3 := h.2.1
    rw [size_bs] at h3
    simp only [Fo.lines, Fo.flat, List.length_cons, List.length_append]
    omega
  | .list c r, h => by
    have h1 := more_len20 h.1
    have h2 := lines_len20 h.2
    simp only [Fo.lines, Fo.flat, List.length_cons, List.length_append, List.length_tail, List.length_nil]
    omega
theorem bs_lit (l : List UInt8) : bs { data := l.toArray } = l := bs_mk l
theorem extract_one {s : ByteArray} {j : Nat} (h : j < s.size) : bs (s.extract j (j + 1)) = [(bs s).getD j 0] := by
  rw [extract_bs, rest_cons h, show j + 1 - j = 1 by omega]; rfl
theorem nats_at {w : World} {B n : Nat} {p : Option Addr} {k : Nat} {l : List Nat} (ho : w.ownsRow B 3 1 (.slice p n k) n (nats l)) {j x : Nat} (hj : l[j]? = some x) :
    ∃ ad, p = some ad ∧ w.cell? (ad.add (j * 1)) = some (.int .i64 x) := by
  have hl := (List.getElem?_eq_some_iff.1 hj).1
  obtain ⟨ad, hA, -, hr⟩ := (own_row ho).at (j := j) (by rw [nats_len]; exact hl)
  exact ⟨ad, hA, by rw [Nat.mul_one]; exact hr j _ (by rw [nats, List.getElem?_map, hj]; rfl)⟩

theorem c28 {A : Option Addr} {C : Nat} {L : List It} (hL : L.length < 4294967296) : ∀ (m : Nat) (f : Fo), f.flat.length ≤ m → f.goodV → 0 < f.cnt → f.edep ≤ 257 → ∀ (i : Nat), Here L i f → ∀ (w : World), SlAt w A (itcs L) →
    Ret Tryd.prog 28 #[.slice A L.length C, .int .i64 i] w fun v w' => (∃ s, v = .string s ∧ bs s = f.htxt) ∧ Ext w w' := by
  intro m
  induction m with
  | zero => intro f hf _ h0; have := f.cnt_le; omega
  | succ m ih =>
    intro f hf hg h0 hd i hh w hs
    obtain ⟨y, hy, hyf⟩ := hh.get h0
    have hle := hh.le h0
    have hsp := Fo.len_split h0
    have hsub := Fo.hlen_sub h0
    have hlt : i < L.length := (List.getElem?_eq_some_iff.1 hy).1
    have hts : y.text.size ≤ 1048576 := by have := Fo.hd_size hg; rw [← hyf] at this; exact this
    obtain ⟨ad, rfl, hsp2, hv, -⟩ := sl_item hs hy
    have hb0 : (w.alloc (.cells #[.int .i64 0, .string { data := #[] }, .int .i64 0, .int .i64 0] 34)).heap[w.heap.size]? = some (.cells #[.int .i64 0, .string { data := #[] }, .int .i64 0, .int .i64 0] 34 (0, 0)) := heap_alloc_new w _
    have he0 := (Ext.refl w).alloc (.cells #[.int .i64 0, .string { data := #[] }, .int .i64 0, .int .i64 0] 34)
    have hb := set4_blk hb0 (.int .i64 y.kind) (.string y.text) (.int .i64 y.kids) (.int .i64 y.pos)
    have he := set4_below he0 (Nat.le_refl _) (.int .i64 y.kind) (.string y.text) (.int .i64 y.kids) (.int .i64 y.pos)
    refine run28 _ _ _ _ _ _ ⟨ad, rfl, ⟨by omega, by omega⟩, y.kind, y.text, y.kids, y.pos, hv, writable4 hb0, _, blk_cell (j := 0) hb, ?_⟩
    refine cond_intro (fun h4 => ?_) (fun h4 => cond_intro (fun h5 => ?_) (fun h5 => ?_))
    · -- a string
      have h4' : y.kind = 4 := by simpa using h4
      have hx : f.htxt = 34 :: (esc (bs y.text) ++ [34]) := by
        cases f with
        | nil => simp [Fo.cnt] at h0
        | leaf k t r =>
          have e1 : y.kind = k := congrArg It.kind hyf
          have e2 : y.text = t := congrArg It.text hyf
          rw [Fo.htxt, ltxt, if_pos (by omega), e2]
        | list c r =>
          have e1 : y.kind = 5 := congrArg It.kind hyf
          omega
      have hel := esc_len (bs y.text)
      rw [← size_bs] at hel
      refine ⟨fun vals w1 => ∃ (j : Nat) (s1 : ByteArray), vals = [.int .i64 j, .string s1] ∧ j ≤ y.text.size ∧ bs s1 ++ esc (rest y.text j) = esc (bs y.text) ∧
          w1 = setCells (w.alloc (.cells #[.int .i64 0, .string { data := #[] }, .int .i64 0, .int .i64 0] 34)) ⟨w.heap.size, 0, none⟩ 0 [.int .i64 y.kind, .string y.text, .int .i64 y.kids, .int .i64 y.pos], mu1 y.text.size,
        ⟨0, _, rfl, Nat.zero_le _, rfl, rfl⟩, ?_⟩
      rintro n4 s1 w1 ⟨j, s1', hv2, hj, hs1, rfl⟩
      cases hv2
      have hl1 := congrArg List.length hs1
      rw [List.length_append, ← size_bs] at hl1
      refine ⟨_, blk_cell (j := 1) hb, cond_dec (fun hlt2 => ?_) (fun hge => ?_)⟩
      · have hl' : j < y.text.size := by omega
        have e1 := extract_one hl'
        have z1 : (y.text.extract j (j + 1)).size = 1 := by rw [size_bs, e1]; rfl
        refine ⟨_, blk_cell (j := 1) hb, ?_⟩
        rw [wrap_succ (by omega), Int.toNat_natCast, Int.toNat_natCast]
        refine ⟨⟨by omega, by omega, by omega⟩, by omega, _, blk_cell (j := 1) hb, ⟨by omega, hlt2⟩, ?_⟩
        rw [bt_eq, show ((((bs y.text).getD j 0).toNat : Int) == 34) = ((bs y.text).getD j 0 == 34) from u8_beq _ 34 (by omega)]
        rw [rest_cons hl'] at hs1
        refine cond_intro (fun hq => ?_) (fun hq => ?_)
        · have hq' : (bs y.text).getD j 0 = 34 := by simpa using hq
          refine ⟨?_, ⟨j + 1, _, rfl, hl', ?_, rfl⟩, ?_⟩
          · rw [size_bs, bs_append, List.length_append, ← size_bs, ← size_bs]; omega
          · rw [bs_append, bs_append, e1, ← hs1, hq', esc, if_pos rfl]
            simp [bs]
          · simp only [mu1, Int.toNat_natCast]; omega
        · have hq' : (bs y.text).getD j 0 ≠ 34 := by simpa using hq
          refine ⟨⟨j + 1, _, rfl, hl', ?_, rfl⟩, ?_⟩
          · rw [bs_append, e1, ← hs1, esc, if_neg hq']
            simp
          · simp only [mu1, Int.toNat_natCast]; omega
      · rw [rest_nil (by omega)] at hs1
        have hs1' : bs s1 = esc (bs y.text) := by rw [← hs1]; simp [esc]
        refine ⟨by omega, ?_, ⟨_, rfl, ?_⟩, he⟩
        · rw [size_bs, bs_append, List.length_append, ← size_bs, ← size_bs]
          show 1 + s1.size + 1 ≤ _
          omega
        · rw [bs_append, bs_append, hs1', hx]; rfl
    · -- a list
      have h5' : y.kind = 5 := by simpa using h5
      have hx : f.htxt = 40 :: (f.sub.more.tail ++ [41]) := by
        cases f with
        | nil => simp [Fo.cnt] at h0
        | leaf k t r =>
          have e1 : y.kind = k := congrArg It.kind hyf
          have := hg.1
          rw [← e1, h5'] at this
          simp [okLeaf] at this
        | list c r => rfl
      have hsm := more_len (Fo.good_sub hg)
      refine Called.of (c40 hL hg h0 hd hh _ (hs.ext he)) ?_
      rintro v w2 ⟨⟨p, k, rfl, ho⟩, he2⟩
      have hsl := starts_len f.sub (i + 1)
      have hsc := f.sub.cnt_le
      refine ⟨_, _, _, rfl, fun vals w3 => ∃ (j : Nat) (g : Fo) (q : Nat) (s5 : ByteArray), vals = [.int .i64 j, .string s5] ∧ j + g.cnt = f.sub.cnt ∧ (starts (i + 1) f.sub).drop j = starts q g ∧ Here L q g ∧ g.goodV ∧ g.edep ≤ 257 ∧
          g.flat.length ≤ f.sub.flat.length ∧ bs s5 ++ (if j = 0 then g.more.tail else g.more) = f.sub.more.tail ∧ Ext w2 w3, mu1 f.sub.cnt,
        ⟨0, f.sub, i + 1, _, rfl, Nat.zero_add _, rfl, hh.sub h0, Fo.good_sub hg, ?_, Nat.le_refl _, rfl, Ext.refl _⟩, ?_⟩
      · rcases Nat.eq_zero_or_pos f.sub.cnt with h | h
        · rw [cnt_zero h]; exact Nat.zero_le _
        · have := Fo.edep_sub h; omega
      rintro n5 s5 w3 ⟨j, g, q, s5', hv3, hjc, hst, hgh, hgg, hgd, hgl, hs5, he3⟩
      cases hv3
      have hl5 := congrArg List.length hs5
      rw [List.length_append, ← size_bs, List.length_tail] at hl5
      rw [hsl]
      refine cond_dec (fun hlt2 => ?_) (fun hge => ?_)
      · have hg0 : 0 < g.cnt := by omega
        have hglen := Fo.len_split hg0
        have hgs := Fo.hlen_sub hg0
        have hgc := Fo.cnt_next hg0
        have hht := htxt_len hgg
        have hq : (starts (i + 1) f.sub)[j]? = some q := by
          have h1 : ((starts (i + 1) f.sub).drop j)[0]? = some q := by rw [hst, starts_step hg0]; rfl
          simpa using h1
        have hst2 : (starts (i + 1) f.sub).drop (j + 1) = starts (q + g.hlen) g.next := by
          rw [← List.drop_drop, hst, starts_step hg0]; rfl
        intro K hK
        have step : ∀ s6 : ByteArray, bs s6 ++ (g.htxt ++ g.next.more) = f.sub.more.tail → K [.string s6] w3 := by
          intro s6 hs6
          refine hK s6 ?_
          have hl6 := congrArg List.length hs6
          rw [List.length_append, ← size_bs, List.length_tail] at hl6
          obtain ⟨ad2, hA2, hc2⟩ := nats_at (own_ext ho he3) hq
          refine ⟨ad2, hA2, ⟨by omega, by omega⟩, _, by rw [Int.toNat_natCast]; exact hc2, Called.of (ih g (by omega) hgg hg0 hgd q hgh w3 (hs.ext (Ext.trans he (he2.trans he3)))) ?_⟩
          rintro v w4 ⟨⟨s7, rfl, hs7⟩, he4⟩
          have hz7 : s7.size = g.htxt.length := by rw [size_bs, hs7]
          rw [wrap_succ (by omega)]
          refine ⟨s7, rfl, by omega, ⟨j + 1, g.next, q + g.hlen, s6 ++ s7, rfl, by omega, hst2, hgh.next hg0, Fo.good_next hgg, Nat.le_trans g.edep_next hgd, by omega, ?_, he3.trans he4⟩, ?_⟩
          · rw [if_neg (Nat.succ_ne_zero _), bs_append, hs7, ← hs6, List.append_assoc]
          · simp only [mu1, Int.toNat_natCast]; omega
        rw [Fo.more_step hg0] at hs5
        refine cond_dec (fun hpos => ?_) (fun hz => ?_)
        · rw [if_neg (by omega)] at hs5
          refine ⟨by omega, step _ ?_⟩
          rw [bs_append, ← hs5]
          simp [bs]
        · rw [if_pos (by omega)] at hs5
          exact step _ hs5
      · have hg0 : g = .nil := cnt_zero (by omega)
        subst hg0
        have hs5' : bs s5 = f.sub.more.tail := by rw [← hs5]; simp [Fo.more]
        refine ⟨by omega, ?_, ⟨_, rfl, ?_⟩, Ext.trans he (he2.trans he3)⟩
        · rw [size_bs, bs_append, List.length_append, ← size_bs, ← size_bs]
          show 1 + s5.size + 1 ≤ _
          omega
        · rw [bs_append, bs_append, hs5', hx]; rfl
    · -- a word
      have h4' : y.kind ≠ 4 := by simpa using h4
      have h5' : y.kind ≠ 5 := by simpa using h5
      have hx : f.htxt = bs y.text := by
        cases f with
        | nil => simp [Fo.cnt] at h0
        | leaf k t r =>
          have e1 : y.kind = k := congrArg It.kind hyf
          have e2 : y.text = t := congrArg It.text hyf
          rw [Fo.htxt, ltxt, if_neg (by omega), e2]
        | list c r =>
          have e1 : y.kind = 5 := congrArg It.kind hyf
          omega
      exact ⟨_, blk_cell (j := 1) hb, ⟨_, rfl, hx.symm⟩, he⟩

theorem c13 {A : Option Addr} {C : Nat} {L : List It} (hL : L.length < 4294967296) {f : Fo} (hf : L.map strip = f.flat) (hg : f.goodV) (hd : f.edep ≤ 257) (w : World) (hs : SlAt w A (itcs L)) :
    Ret Tryd.prog 13 #[.slice A L.length C] w fun v w' => (∃ s, v = .string s ∧ bs s = f.lines) ∧ Ext w w' := by
  have hlen : L.length = f.flat.length := by rw [← hf, List.length_map]
  have hfl := lines_len hg
  refine run13 _ _ _ _ _ (Called.of (c25 hL hf hg hd w hs) ?_)
  rintro v w1 ⟨⟨p, k, rfl, ho⟩, he1⟩
  have hsl := starts_len f 0
  refine ⟨_, _, _, rfl, fun vals w2 => ∃ (j : Nat) (g : Fo) (q : Nat) (s5 : ByteArray), vals = [.int .i64 j, .string s5] ∧ j + g.cnt = f.cnt ∧ (starts 0 f).drop j = starts q g ∧ Here L q g ∧ g.goodV ∧ g.edep ≤ 257 ∧
      g.flat.length ≤ f.flat.length ∧ bs s5 ++ g.lines = f.lines ∧ Ext w1 w2, mu1 f.cnt,
    ⟨0, f, 0, _, rfl, Nat.zero_add _, rfl, ⟨[], by rw [List.drop_zero, hf, List.append_nil]⟩, hg, hd, Nat.le_refl _, rfl, Ext.refl _⟩, ?_⟩
  rintro n s w2 ⟨j, g, q, s5, hv, hjc, hst, hgh, hgg, hgd, hgl, hs5, he2⟩
  cases hv
  have hfc := f.cnt_le
  have hl5 := congrArg List.length hs5
  rw [List.length_append, ← size_bs] at hl5
  rw [hsl]
  refine cond_dec (fun hlt2 => ?_) (fun hge => ?_)
  · have hg0 : 0 < g.cnt := by omega
    have hglen := Fo.len_split hg0
    have hgs := Fo.hlen_sub hg0
    have hgc := Fo.cnt_next hg0
    have hht := htxt_len hgg
    have hq : (starts 0 f)[j]? = some q := by
      have h1 : ((starts 0 f).drop j)[0]? = some q := by rw [hst, starts_step hg0]; rfl
      simpa using h1
    have hst2 : (starts 0 f).drop (j + 1) = starts (q + g.hlen) g.next := by
      rw [← List.drop_drop, hst, starts_step hg0]; rfl
    obtain ⟨ad2, hA2, hc2⟩ := nats_at (own_ext ho he2) hq
    refine ⟨ad2, hA2, ⟨by omega, by omega⟩, _, by rw [Int.toNat_natCast]; exact hc2, Called.of (c28 hL _ g (Nat.le_refl _) hgg hg0 hgd q hgh w2 (hs.ext (he1.trans he2))) ?_⟩
    rintro v w4 ⟨⟨s7, rfl, hs7⟩, he4⟩
    have hz7 : s7.size = g.htxt.length := by rw [size_bs, hs7]
    have hz8 : (s7 ++ { data := #[10] } : ByteArray).size = g.htxt.length + 1 := by rw [size_bs, bs_append, List.length_append, ← size_bs, hz7]; rfl
    rw [wrap_succ (by omega)]
    refine ⟨s7, rfl, by omega, by omega, ⟨j + 1, g.next, q + g.hlen, _, rfl, by omega, hst2, hgh.next hg0, Fo.good_next hgg, Nat.le_trans g.edep_next hgd, by omega, ?_, he2.trans he4⟩, ?_⟩
    · rw [bs_append, bs_append, hs7, ← hs5, Fo.lines_step hg0]
      simp [bs]
    · simp only [mu1, Int.toNat_natCast]; omega
  · have hg0 : g = .nil := cnt_zero (by omega)
    subst hg0
    exact ⟨⟨_, rfl, by rw [← hs5]; simp [Fo.lines]⟩, he1.trans he2⟩
end Go.Proofs.Sx

/-! A text is spoiled; SexprSpoiled. -/
namespace Go.Proofs.Sx
open Go Go.V Go.Proofs Go.RowKit
set_option maxRecDepth 100000

theorem ext_size (s : ByteArray) (i j : Nat) : (s.extract i j).size ≤ s.size := by
  rw [size_bs, extract_bs, List.length_take, rest_len]; omega
theorem app_size (s t : ByteArray) : (s ++ t).size = s.size + t.size := by rw [size_bs, bs_append, List.length_append, ← size_bs, ← size_bs]

theorem c15 (s : ByteArray) (hs : s.size < 4294967296) (at' how : Int) (b : UInt8) (w : World) :
    Ret Tryd.prog 15 #[.string s, .int .i64 at', .int .u8 b.toNat, .int .i64 how] w fun v w' => (∃ s' : ByteArray, v = .string s') ∧ Ext w w' := by
  have hb : ∀ w : World, BytesAt (w.alloc (.cells #[.int .u8 b.toNat] 5)) (some ⟨w.heap.size, 0, none⟩) 1 [b] := by
    intro w
    refine ⟨rfl, .inr ⟨_, rfl, rfl, ?_⟩⟩
    intro i hi
    have : i = 0 := by omega
    subst this
    exact alloc_new_cell w [.int .u8 b.toNat] 5 0
  have h1 : ({ data := [b].toArray } : ByteArray).size = 1 := rfl
  refine run15 _ _ _ _ _ _ ?_
  unfold vc15
  rw [wrap_succ (by omega)]
  refine Called.of (c18 at' _ (by omega) (by omega) w) ?_
  rintro v w1 ⟨⟨n, rfl, hn⟩, rfl⟩
  refine ⟨_, rfl, fun K hK => ?_⟩
  have fall : ∀ w2, Ext w1 w2 → K [] w2 := by
    intro w2 he
    refine hK _ fun K1 hK1 => ⟨⟨by omega, by omega⟩, ⟨by omega, by omega⟩, _, hb _, ?_, ?_, hK1 _ _ ⟨⟨_, rfl⟩, (he.drew).alloc _⟩⟩
    · have := ext_size s 0 (n : Int).toNat; rw [h1]; omega
    · have := ext_size s 0 (n : Int).toNat
      have := ext_size s (n : Int).toNat s.size
      rw [app_size, h1]; omega
  refine Called.of (c18 how 3 (by omega) (by omega) w1) ?_
  rintro v w4 ⟨⟨m, rfl, hm⟩, rfl⟩
  refine ⟨_, rfl, cond_intro (fun _ => cond_dec (fun hlt => ?_) (fun _ => fall _ (Ext.refl _))) (fun _ => cond_intro (fun _ => cond_dec (fun hlt => ?_) (fun _ => fall _ (Ext.refl _))) (fun _ => fall _ (Ext.refl _)))⟩
  · intro K2 hK2
    rw [wrap_succ (by omega)]
    refine ⟨⟨by omega, by omega⟩, ⟨by omega, by omega⟩, _, hb _, ?_, ?_, hK2 _ _ ⟨⟨_, rfl⟩, ((Ext.refl _).drew).alloc _⟩⟩
    · have := ext_size s 0 (n : Int).toNat; rw [h1]; omega
    · have := ext_size s 0 (n : Int).toNat
      have := ext_size s ((n + 1 : Nat) : Int).toNat s.size
      rw [app_size, h1]; omega
  · rw [wrap_succ (by omega)]
    refine ⟨⟨by omega, by omega⟩, ⟨by omega, by omega⟩, ?_, ⟨_, rfl⟩, (Ext.refl _).drew⟩
    have := ext_size s 0 (n : Int).toNat
    have := ext_size s ((n + 1 : Nat) : Int).toNat s.size
    omega

theorem strip_flat (f : Fo) : f.flat.map strip = f.flat := by
  induction f with
  | nil => rfl
  | leaf k t r ih => simp only [Fo.flat, List.map_cons, ih]; rfl
  | list c r ih1 ih2 => simp only [Fo.flat, List.map_cons, List.map_append, ih1, ih2]; rfl
/-- FormatItems of a sequence that was drawn. -/
theorem fmtSeq {w0 w : World} {f : Fo} {A : Option Addr} {C : Nat} (hg : f.good) (hd : f.dep ≤ 4) (hl : f.flat.length ≤ 363) {B : Nat} (ho : w.ownsRow B 34 4 (.slice A f.flat.length C) f.flat.length (itcs f.flat)) (he : Ext w0 w) :
    Ret Tryd.prog 13 #[.slice A f.flat.length C] w fun v w' => (∃ s, v = .string s ∧ bs s = f.lines ∧ s.size ≤ 15972) ∧ Ext w0 w' := by
  refine Ret.mono (c13 (L := f.flat) (by omega) (strip_flat f) (good_V hg) (Nat.le_trans (edep_le f) (by omega)) w (own_row ho)) ?_
  rintro v w' ⟨⟨s, rfl, hs⟩, he'⟩
  refine ⟨⟨s, rfl, hs, ?_⟩, he.trans he'⟩
  have := lines_len20 hg
  rw [size_bs, hs]; omega

theorem c4 (T : TrimOk) {lA : Option Addr} {lN lC : Nat} {l : List Int} {w : World} (hl : l.length = lN) (hc : lN ≤ lC) (h : SlAt w lA (l.map fun n => .int .i64 n)) (at' how : Int) (b : UInt8) :
    Ret Tryd.prog 4 #[.slice lA lN lC, .int .i64 at', .int .u8 b.toNat, .int .i64 how] w fun v w' => v = .bool true ∧ Ext w w' := by
  refine run4 _ _ _ _ _ _ _ _ (Called.of (c14 hl hc h) ?_)
  rintro v w1 ⟨⟨f, A, C, hg, hd, hfl, rfl, ho⟩, he1⟩
  refine ⟨_, _, _, rfl, Called.of (fmtSeq hg hd hfl ho he1) ?_⟩
  rintro v w2 ⟨⟨s, rfl, -, hsz⟩, he2⟩
  refine ⟨s, rfl, fun K hK => Called.of (c12 T s w2) ?_⟩
  rintro v w4 ⟨rfl, he4⟩
  refine ⟨_, rfl, Called.of (c15 s (by omega) at' how b w4) ?_⟩
  rintro v w5 ⟨⟨s1, rfl⟩, he5⟩
  refine ⟨_, rfl, Called.of (c12 T s1 w5) ?_⟩
  rintro v w6 ⟨rfl, he6⟩
  refine ⟨_, rfl, ?_⟩
  have hb := b.toNat_lt
  have e : (((b.toNat : Int)).tmod 9) = ((b.toNat % 9 : Nat) : Int) := by rw [Int.tmod_eq_emod_of_nonneg (by omega)]; omega
  have := Nat.mod_lt b.toNat (by omega : 9 > 0)
  show _ ∧ _
  rw [e]
  refine ⟨⟨by omega, by omega⟩, ?_⟩
  rw [bt_eq]
  refine Called.of (c15 s (by omega) at' how _ w6) ?_
  rintro v w7 ⟨⟨s2, rfl⟩, he7⟩
  refine ⟨_, rfl, Called.of (c12 T s2 w7) ?_⟩
  rintro v w8 ⟨rfl, he8⟩
  refine ⟨_, rfl, Called.of (c11 T w8) ?_⟩
  rintro v w9 ⟨rfl, he9⟩
  exact ⟨_, rfl, hK _ _ ⟨rfl, (((((he2.trans he4).trans he5).trans he6).trans he7).trans he8).trans he9⟩⟩
end Go.Proofs.Sx

/-! Where the items stand that are parsed. -/
namespace Go.Proofs.Sx
open Go Go.V Go.Proofs Go.RowKit
set_option maxRecDepth 100000

/-- What holds at the start and through each step holds at the end. -/
theorem parseL_inv {n : Nat} {P : St → Prop} (hs : ∀ st st', P st → stepL n st = .ok st' → P st') : ∀ (m : Nat) (st : St), st.l.length ≤ m → P st → ∀ {out : List It}, parseL n st = .ok out → ∃ st', P st' ∧ st'.l = [] ∧ st'.opn = [] ∧ st'.out = out := by
  intro m
  induction m with
  | zero =>
    intro st hm hp out h
    have hl : st.l = [] := List.eq_nil_of_length_eq_zero (by omega)
    rw [parseL_nil hl] at h
    split at h
    · rename_i ho; cases h; exact ⟨st, hp, hl, ho, rfl⟩
    · cases h
  | succ m ih =>
    intro st hm hp out h
    by_cases hl : st.l = []
    · rw [parseL_nil hl] at h
      split at h
      · rename_i ho; cases h; exact ⟨st, hp, hl, ho, rfl⟩
      · cases h
    · cases hst : stepL n st with
      | error e => rw [parseL_err hl hst] at h; cases h
      | ok st' =>
        rw [parseL_ok hst] at h
        have := stepL_lt hst
        exact ih st' (by omega) (hs st st' hp hst) h
theorem addI_okA {n : Nat} {st st' : St} {k : Int} {x l : List UInt8} (h : addI n st k x l = .ok st') :
    st' = ⟨l, outsOf st.out st.opn ⟨k, mk x, 0, ((n - st.l.length : Nat) : Int)⟩, opnOf st.out st.opn k⟩ ∧ st.opn.length ≤ 256 := by
  unfold addI at h
  split at h
  · cases h
  · rename_i hlt
    cases h
    exact ⟨rfl, by omega⟩
/-- How a step goes on. -/
inductive Step (n : Nat) (st : St) : St → Prop
  | skip (l : List UInt8) (h : l <:+ st.l) : Step n st { st with l := l }
  | close (t : List UInt8) (h : st.l = 41 :: t) (ho : st.opn ≠ []) : Step n st { st with l := t, opn := st.opn.dropLast }
  | opn (t : List UInt8) (h : st.l = 40 :: t) (hd : st.opn.length ≤ 256) : Step n st ⟨t, outsOf st.out st.opn ⟨5, mk [], 0, ((n - st.l.length : Nat) : Int)⟩, st.opn ++ [st.out.length]⟩
  | str (t v r : List UInt8) (h : st.l = 34 :: t) (hs : strL t = some (v, r)) (hd : st.opn.length ≤ 256) : Step n st ⟨r, outsOf st.out st.opn ⟨4, mk v, 0, ((n - st.l.length : Nat) : Int)⟩, st.opn⟩
  | word (c : UInt8) (t : List UInt8) (h : st.l = c :: t) (hw : isWord c = true) (hk : kindW (st.l.takeWhile isWord) ≠ 0) (hd : st.opn.length ≤ 256) :
      Step n st ⟨st.l.dropWhile isWord, outsOf st.out st.opn ⟨kindW (st.l.takeWhile isWord), mk (st.l.takeWhile isWord), 0, ((n - st.l.length : Nat) : Int)⟩, st.opn⟩
theorem kindW_range (l : List UInt8) : kindW l = 0 ∨ kindW l = 1 ∨ kindW l = 2 ∨ kindW l = 3 := by
  unfold kindW
  split
  · exact .inl rfl
  · split
    · simp only
      split
      · split
        · exact .inr (.inr (.inr rfl))
        · exact .inl rfl
      · split
        · exact .inr (.inr (.inl rfl))
        · exact .inl rfl
    · exact .inr (.inl rfl)
theorem step_of {n : Nat} {st st' : St} (h : stepL n st = .ok st') : Step n st st' := by
  unfold stepL at h
  split at h
  · cases h
  rename_i c t hl
  split at h
  · cases h; exact .skip t (by rw [hl]; exact List.suffix_cons _ _)
  split at h
  · cases h; exact .skip _ (by rw [hl]; exact (List.dropWhile_suffix _).trans (List.suffix_cons _ _))
  split at h
  · rename_i hc
    split at h
    · cases h
    · rename_i ho
      cases h
      exact .close t (by rw [hl, hc]) ho
  split at h
  · rename_i hc
    obtain ⟨rfl, hd⟩ := addI_okA h
    exact .opn t (by rw [hl, hc]) hd
  split at h
  · rename_i hc
    split at h
    · cases h
    · rename_i v r hs
      obtain ⟨rfl, hd⟩ := addI_okA h
      exact .str t v r (by rw [hl, hc]) hs hd
  split at h
  · rename_i hw
    split at h
    · cases h
    · rename_i hk
      obtain ⟨rfl, hd⟩ := addI_okA h
      have h5 : kindW (st.l.takeWhile isWord) ≠ 5 := by
        rcases kindW_range (st.l.takeWhile isWord) with h | h | h | h <;> omega
      have := Step.word (n := n) c t hl hw hk hd
      unfold opnOf
      rw [if_neg h5]
      exact this
  · cases h
theorem strL_suffix {l v r : List UInt8} (h : strL l = some (v, r)) : r <:+ l := by
  obtain ⟨m, rfl⟩ := strL_drop h
  exact List.drop_suffix _ _
theorem Step.suffix {n : Nat} {st st' : St} (h : Step n st st') : st'.l <:+ st.l := by
  cases h with
  | skip l h => exact h
  | close t h ho => rw [h]; exact List.suffix_cons _ _
  | opn t h hd => rw [h]; exact List.suffix_cons _ _
  | str t v r h hs hd => rw [h]; exact (strL_suffix hs).trans (List.suffix_cons _ _)
  | word c t h hw hk hd => exact List.dropWhile_suffix _
/-- Items, but for how many elements they have. -/
theorem outs_cases {out : List It} {opn : List Nat} {x y : It} (h : y ∈ outsOf out opn x) : y = x ∨ ∃ z ∈ out, y.kind = z.kind ∧ y.text = z.text ∧ y.pos = z.pos := by
  unfold outsOf at h
  rcases List.mem_append.1 h with h | h
  · right
    split at h
    · rename_i j _
      obtain ⟨i, hi⟩ := List.getElem?_of_mem h
      rw [bump, List.getElem?_modify] at hi
      split at hi
      · cases ho : out[i]? with
        | none => rw [ho] at hi; cases hi
        | some z => rw [ho] at hi; cases hi; exact ⟨z, List.mem_of_getElem? ho, rfl, rfl, rfl⟩
      · exact ⟨y, List.mem_of_getElem? (by simpa using hi), rfl, rfl, rfl⟩
    · exact ⟨y, h, rfl, rfl, rfl⟩
  · exact .inl (List.mem_singleton.1 h)
theorem map_bump {α : Type} (f : It → α) (hf : ∀ x : It, f { x with kids := x.kids + 1 } = f x) (l : List It) (j : Nat) : (bump l j).map f = l.map f := by
  apply List.ext_getElem?
  intro i
  rw [List.getElem?_map, List.getElem?_map, bump, List.getElem?_modify]
  cases l[i]? with
  | none => simp
  | some x => by_cases h : j = i <;> simp [h, hf]
theorem map_outs {α : Type} (f : It → α) (hf : ∀ x : It, f { x with kids := x.kids + 1 } = f x) (out : List It) (opn : List Nat) (x : It) : (outsOf out opn x).map f = out.map f ++ [f x] := by
  unfold outsOf
  rw [List.map_append]
  split
  · rw [map_bump f hf]; rfl
  · rfl

/-- An item stands where it says. -/
def PosOk (s : ByteArray) (x : It) : Prop := ∃ q : Nat, x.pos = (q : Int) ∧ q < s.size ∧ (x.kind = 5 → (bs s).getD q 0 = 40) ∧ (x.kind = 4 → (bs s).getD q 0 = 34) ∧
  (x.kind ≠ 5 → x.kind ≠ 4 → bs x.text ≠ [] ∧ bs x.text <+: rest s q)
theorem PosOk.like {s : ByteArray} {x y : It} (h : PosOk s x) (h1 : y.kind = x.kind) (h2 : y.text = x.text) (h3 : y.pos = x.pos) : PosOk s y := by
  unfold PosOk
  rw [h1, h2, h3]
  exact h
theorem suffix_rest {s : ByteArray} {l : List UInt8} (h : l <:+ bs s) : l = rest s (s.size - l.length) := by
  rw [rest, size_bs]
  exact List.suffix_iff_eq_drop.1 h
theorem parse_pos {s : ByteArray} {out : List It} (h : parse s = .ok out) : (∀ x ∈ out, PosOk s x) ∧ (out.map It.pos).Pairwise (· < ·) := by
  unfold parse at h
  split at h
  · cases h
  have step0 : ∀ st st', (fun st : St => st.l <:+ bs s ∧ (∀ x ∈ st.out, PosOk s x ∧ x.pos < ((s.size - st.l.length : Nat) : Int)) ∧ (st.out.map It.pos).Pairwise (· < ·)) st → stepL s.size st = .ok st' → (fun st : St => st.l <:+ bs s ∧ (∀ x ∈ st.out, PosOk s x ∧ x.pos < ((s.size - st.l.length : Nat) : Int)) ∧ (st.out.map It.pos).Pairwise (· < ·)) st' := by
    rintro st st' ⟨hsuf, hp, hw⟩ hst
    have hlt := stepL_lt hst
    have hstep := step_of hst
    have hsuf' := hstep.suffix.trans hsuf
    have hlen := hsuf.length_le
    rw [← size_bs] at hlen
    refine ⟨hsuf', ?_⟩
    have old : ∀ z ∈ st.out, PosOk s z ∧ z.pos < ((s.size - st'.l.length : Nat) : Int) := fun z hz => ⟨(hp z hz).1, by have := (hp z hz).2; omega⟩
    -- an item is put behind
    have put : ∀ (x : It) (o : List Nat), st'.out = outsOf st.out o x → x.pos = ((s.size - st.l.length : Nat) : Int) → PosOk s x →
        (∀ y ∈ st'.out, PosOk s y ∧ y.pos < ((s.size - st'.l.length : Nat) : Int)) ∧ (st'.out.map It.pos).Pairwise (· < ·) := by
      intro x o ho hx hx2
      rw [ho]
      refine ⟨fun y hy => ?_, ?_⟩
      · rcases outs_cases hy with rfl | ⟨z, hz, h1, h2, h3⟩
        · exact ⟨hx2, by rw [hx]; omega⟩
        · have := old z hz
          exact ⟨this.1.like h1 h2 h3, by rw [h3]; exact this.2⟩
      · rw [map_outs It.pos (fun _ => rfl), List.pairwise_append]
        refine ⟨hw, List.pairwise_singleton _ _, fun a ha b hb => ?_⟩
        obtain ⟨z, hz, rfl⟩ := List.mem_map.1 ha
        rw [List.mem_singleton.1 hb, hx]
        exact (hp z hz).2
    have hr := suffix_rest hsuf
    have get : ∀ c t, st.l = c :: t → s.size - st.l.length < s.size ∧ (bs s).getD (s.size - st.l.length) 0 = c := by
      intro c t hl
      have h0 : 0 < st.l.length := by rw [hl]; simp
      have h1 : s.size - st.l.length < s.size := by omega
      refine ⟨h1, ?_⟩
      have h2 := rest_cons h1
      rw [← hr, hl] at h2
      rw [hl]
      exact (List.cons.inj h2).1.symm
    cases hstep with
    | skip l h => exact ⟨old, hw⟩
    | close t h ho => exact ⟨old, hw⟩
    | opn t h hd =>
      obtain ⟨h1, h2⟩ := get _ _ h
      exact put _ _ rfl rfl ⟨_, rfl, h1, fun _ => h2, fun e => absurd e (by show (5 : Int) ≠ 4; omega), fun e => absurd rfl e⟩
    | str t v r h hs hd =>
      obtain ⟨h1, h2⟩ := get _ _ h
      exact put _ _ rfl rfl ⟨_, rfl, h1, fun e => absurd e (by show (4 : Int) ≠ 5; omega), fun _ => h2, fun _ e => absurd rfl e⟩
    | word c t h hw' hk hd =>
      obtain ⟨h1, h2⟩ := get _ _ h
      have hkr := kindW_range (st.l.takeWhile isWord)
      refine put _ _ rfl rfl ⟨_, rfl, h1, fun e => ?_, fun e => ?_, fun _ _ => ?_⟩
      · have e' : kindW (st.l.takeWhile isWord) = 5 := e
        omega
      · have e' : kindW (st.l.takeWhile isWord) = 4 := e
        omega
      · show bs (mk _) ≠ [] ∧ bs (mk _) <+: _
        rw [bs_mk, ← hr]
        refine ⟨?_, List.takeWhile_prefix _⟩
        rw [h, List.takeWhile_cons, if_pos hw']
        simp
  obtain ⟨st, ⟨-, hp, hw⟩, -, -, rfl⟩ := parseL_inv step0 _ _ (Nat.le_refl _) ⟨List.suffix_refl _, fun x hx => by simp at hx, List.Pairwise.nil⟩ h
  exact ⟨fun x hx => (hp x hx).1, hw⟩
end Go.Proofs.Sx

/-! SexprPositions. -/
namespace Go.Proofs.Sx
open Go Go.V Go.Proofs Go.RowKit
set_option maxRecDepth 100000

theorem stepL_err {n : Nat} {st : St} {p : Nat} {e : Int} (h : stepL n st = .error (p, e)) : e = 2 ∨ e = 6 := by
  have hadd : ∀ {k : Int} {x l : List UInt8}, addI n st k x l = .error (p, e) → e = 6 := by
    intro k x l h
    unfold addI at h
    split at h <;> cases h
    rfl
  unfold stepL at h
  split at h
  · cases h; exact .inl rfl
  split at h
  · cases h
  split at h
  · cases h
  split at h
  · split at h <;> cases h
    exact .inl rfl
  split at h
  · exact .inr (hadd h)
  split at h
  · split at h
    · cases h; exact .inl rfl
    · exact .inr (hadd h)
  split at h
  · split at h
    · cases h; exact .inl rfl
    · exact .inr (hadd h)
  · cases h; exact .inl rfl
theorem parseL_code {n : Nat} : ∀ (m : Nat) (st : St), st.l.length ≤ m → ∀ {p : Nat} {e : Int}, parseL n st = .error (p, e) → e = 2 ∨ e = 6 := by
  intro m
  induction m with
  | zero =>
    intro st hm p e h
    rw [parseL_nil (List.eq_nil_of_length_eq_zero (by omega))] at h
    split at h <;> cases h
    exact .inl rfl
  | succ m ih =>
    intro st hm p e h
    by_cases hl : st.l = []
    · rw [parseL_nil hl] at h
      split at h <;> cases h
      exact .inl rfl
    · cases hst : stepL n st with
      | error e' => rw [parseL_err hl hst] at h; cases h; exact stepL_err hst
      | ok st' => rw [parseL_ok hst] at h; have := stepL_lt hst; exact ih st' (by omega) h
theorem parse_code {s : ByteArray} {p : Nat} {e : Int} (h : parse s = .error (p, e)) : e = 2 ∨ e = 6 := by
  unfold parse at h
  split at h
  · cases h; exact .inr rfl
  · exact parseL_code _ _ (Nat.le_refl _) h

/-- A field of an item of a slice. -/
theorem sl_field {w : World} {A : Option Addr} {L : List It} (h : SlAt w A (itcs L)) {i : Nat} {y : It} (hy : L[i]? = some y) :
    ∃ ad, A = some ad ∧ w.cell? (ad.add (i * 4)) = some (.int .i64 y.kind) ∧ w.cell? ((ad.add (i * 4)).add 1) = some (.string y.text) ∧ w.cell? ((ad.add (i * 4)).add 2) = some (.int .i64 y.kids) ∧ w.cell? ((ad.add (i * 4)).add 3) = some (.int .i64 y.pos) := by
  have hi := (List.getElem?_eq_some_iff.1 hy).1
  obtain ⟨ad, hA, hs, hr⟩ := h.at (j := 0) (by rw [itcs_len]; omega)
  refine ⟨ad, hA, hr _ _ (itcs_get hy 0 _ rfl), ?_, ?_, ?_⟩ <;> rw [add_add _ hs]
  · exact hr _ _ (itcs_get hy 1 _ rfl)
  · exact hr _ _ (itcs_get hy 2 _ rfl)
  · exact hr _ _ (itcs_get hy 3 _ rfl)

theorem c5 (T : TrimOk) (s : ByteArray) {lA : Option Addr} {lN lC : Nat} {l : List Int} {w : World} (hl : l.length = lN) (hc : lN ≤ lC) (h : SlAt w lA (l.map fun n => .int .i64 n)) :
    Ret Tryd.prog 5 #[.string s, .slice lA lN lC] w fun v w' => v = .bool true ∧ Ext w w' := by
  have wake : ∀ {w1 : World}, Ext w w1 → Called Tryd.prog 11 #[] w1 fun v w2 => ∃ b, v = .bool b ∧ (Value.bool b = .bool true ∧ Ext w w2) := by
    intro w1 he
    refine Called.of (c11 T w1) ?_
    rintro v w2 ⟨rfl, he2⟩
    exact ⟨_, rfl, rfl, he.trans he2⟩
  refine run5 _ _ _ _ _ _ (cond_dec (fun _ => wake (Ext.refl _)) (fun hsm => ?_))
  refine Called.of (c14 hl hc h) ?_
  rintro v w1 ⟨⟨f, A, C, hg, hd, hfl, rfl, ho⟩, he1⟩
  refine ⟨_, _, _, rfl, Called.of (fmtSeq hg hd hfl ho he1) ?_⟩
  rintro v w3 ⟨⟨s1, rfl, -, hsz⟩, he3⟩
  refine ⟨s1, rfl, by omega, Called.of (c16 T (s1 ++ s) w3) ?_⟩
  have hts : (s1 ++ s).size ≤ 16272 := by rw [app_size]; omega
  generalize hte : s1 ++ s = t at hts ⊢
  rintro v w4 ⟨hr, he4⟩
  have he4' := he3.trans he4
  unfold ParseRes at hr
  cases hp : parse t with
  | error e =>
    obtain ⟨p, e⟩ := e
    rw [hp] at hr
    have hr' : v = .tuple #[.slice none 0 0, .int .i64 p, .int .i64 e] := hr
    subst hr'
    have hcode := parse_code hp
    exact ⟨_, _, _, _, _, rfl, cond_intro (fun _ => wake he4') (fun h0 => absurd (by simpa using h0) (show e ≠ 0 by omega))⟩
  | ok out =>
    rw [hp] at hr
    obtain ⟨A2, C2, rfl, ho2⟩ := hr
    obtain ⟨hpos, hasc⟩ := parse_pos hp
    refine ⟨_, _, _, _, _, rfl, cond_intro (fun h0 => absurd h0 (by decide)) (fun _ => ?_)⟩
    have hol : out.length ≤ 9223372036854775807 := by
      rcases ho2.2 with ⟨_, h0⟩ | ⟨g, cap, cur, _, _, _, hnc, hm, _⟩
      · omega
      · unfold maxLen at hm; omega
    refine ⟨fun vals w6 => ∃ j : Nat, vals = [.int .i64 j] ∧ j ≤ out.length ∧ Ext w4 w6, mu1 out.length, ⟨0, rfl, Nat.zero_le _, Ext.refl _⟩, ?_⟩
    rintro n2 w6 ⟨j, hv, hj, he6⟩
    cases hv
    refine cond_dec (fun hlt => ?_) (fun _ => wake (he4'.trans he6))
    have hjl : j < out.length := by omega
    obtain ⟨x, hx⟩ : ∃ x, out[j]? = some x := ⟨_, List.getElem?_eq_getElem hjl⟩
    have hsl := (own_row ho2).ext he6
    obtain ⟨ad, rfl, hf0, hf1, -, hf3⟩ := sl_field hsl hx
    obtain ⟨q, hq, hql, hk5, hk4, hkw⟩ := hpos x (List.mem_of_getElem? hx)
    rw [hq] at hf3
    have go : ∀ w7, Ext w6 w7 → (∃ j' : Nat, [Value.int .i64 (IntKind.i64.wrap ((j : Int) + 1))] = [.int .i64 j'] ∧ j' ≤ out.length ∧ Ext w4 w7) ∧
        mu1 out.length [Value.int .i64 (IntKind.i64.wrap ((j : Int) + 1))] w7 < mu1 out.length [.int .i64 j] w6 := by
      intro w7 he7
      rw [wrap_succ (by omega)]
      refine ⟨⟨j + 1, rfl, hjl, he6.trans he7⟩, ?_⟩
      simp only [mu1, Int.toNat_natCast]; omega
    refine ⟨ad, rfl, ⟨by omega, hlt⟩, _, by rw [Int.toNat_natCast]; exact hf3, fun K hK => ?_⟩
    have main : ∀ b, b = false → K [.bool b] w6 := by
      intro b hb
      refine hK b ?_
      rw [hb, cond_false]
      refine ⟨ad, rfl, ⟨by omega, hlt⟩, _, by rw [Int.toNat_natCast]; exact hf1, ad, rfl, ⟨by omega, hlt⟩, _, by rw [Int.toNat_natCast]; exact hf0, ?_⟩
      refine cond_intro (fun h5 => ⟨⟨by omega, by omega⟩, ?_⟩) (fun h5 => cond_intro (fun h4 => ⟨⟨by omega, by omega⟩, ?_⟩) (fun h4 => ?_))
      · have h5' : x.kind = 5 := by simpa using h5
        rw [bt_eq, hk5 h5']
        exact cond_intro (fun h => absurd h (by decide)) (fun _ => go _ (Ext.refl _))
      · have h4' : x.kind = 4 := by simpa using h4
        rw [bt_eq, hk4 h4']
        exact cond_intro (fun h => absurd h (by decide)) (fun _ => go _ (Ext.refl _))
      · have h5' : x.kind ≠ 5 := by simpa using h5
        have h4' : x.kind ≠ 4 := by simpa using h4
        obtain ⟨hne, hpre⟩ := hkw h5' h4'
        have hpl := hpre.length_le
        rw [rest_len, ← size_bs] at hpl
        have hne2 : x.text.size ≠ 0 := fun e => hne (List.eq_nil_of_length_eq_zero (by rw [← size_bs]; exact e))
        intro K1 hK1
        have fin : ∀ b, b = false → K1 [.bool b] w6.drew := by
          intro b hb
          refine hK1 b ?_
          rw [hb, cond_false]
          have := go w6.drew ((Ext.refl _).drew)
          exact this
        refine cond_intro (fun h0 => ?_) (fun h0 => cond_dec (fun hgt => ?_) (fun hgt => ?_))
        · have h0' : (x.text.size : Int) = 0 := by simpa using h0
          omega
        · rw [wrap64_in (by omega) (by omega)] at hgt
          omega
        · have e1 : IntKind.i64.wrap ((q : Int) + (x.text.size : Int)) = ((q + x.text.size : Nat) : Int) := by rw [wrap64_in (by omega) (by omega)]; omega
          rw [e1]
          refine ⟨⟨by omega, by omega, by omega⟩, ad, rfl, ⟨by omega, hlt⟩, _, by rw [Int.toNat_natCast]; exact hf1, fin _ ?_⟩
          rw [beq_bytes, extract_bs, Int.toNat_natCast, Int.toNat_natCast, show q + x.text.size - q = x.text.size by omega, size_bs, ← List.prefix_iff_eq_take.1 hpre]
          simp
    refine cond_dec (fun h => absurd h (by omega)) (fun _ => cond_dec (fun h => absurd h (by omega)) (fun _ => cond_dec (fun hpos0 => ?_) (fun _ => main _ rfl)))
    have hj1 : j - 1 < out.length := by omega
    obtain ⟨y, hy⟩ : ∃ y, out[j - 1]? = some y := ⟨_, List.getElem?_eq_getElem hj1⟩
    obtain ⟨ad', e', -, -, -, hy3⟩ := sl_field hsl hy
    cases e'
    rw [wrap_pred (by omega) (by omega)]
    refine ⟨ad, rfl, ⟨by omega, by omega⟩, _, by rw [Int.toNat_natCast]; exact hy3, main _ ?_⟩
    have hlt2 : y.pos < x.pos := by
      have h1 := List.pairwise_iff_getElem.1 hasc (j - 1) j (by rw [List.length_map]; exact hj1) (by rw [List.length_map]; exact hjl) (by omega)
      rw [List.getElem_map, List.getElem_map] at h1
      rw [List.getElem?_eq_getElem hj1] at hy
      rw [List.getElem?_eq_getElem hjl] at hx
      cases hy
      cases hx
      exact h1
    rw [decide_eq_false_iff_not]
    omega
end Go.Proofs.Sx

/-! Valid: one item, a list. -/
namespace Go.Proofs.Sx
open Go Go.V Go.Proofs Go.RowKit
set_option maxRecDepth 100000

theorem okItem_word {x : It} (h : x.kind = 1 ∨ x.kind = 2 ∨ x.kind = 3) : okItem x = (decide (x.kids = 0) && (decide (kindW (bs x.text) = x.kind) && (bs x.text).all isWord)) := by
  unfold okItem
  rw [if_neg (by omega)]
  congr 1
  unfold okLeaf
  rw [if_neg (by omega), if_pos h]
  cases hb : bs x.text with
  | nil =>
    have : kindW [] = 0 := rfl
    rw [this, decide_eq_false (by omega)]
    rfl
  | cons c l => simp [Bool.and_comm]

theorem c34 (T : TrimOk) (x : It) (hs : x.text.size < 4294967281) (w : World) :
    Ret Tryd.prog 34 #[.agg #[.int .i64 x.kind, .string x.text, .int .i64 x.kids, .int .i64 x.pos]] w fun v w' => v = .bool (okItem x) ∧ Ext w w' := by
  have hb : (w.alloc (.cells #[.int .i64 x.kind, .string x.text, .int .i64 x.kids, .int .i64 x.pos] 34)).heap[w.heap.size]? = some (.cells #[.int .i64 x.kind, .string x.text, .int .i64 x.kids, .int .i64 x.pos] 34 (0, 0)) := heap_alloc_new w _
  have he := (Ext.refl w).alloc (.cells #[.int .i64 x.kind, .string x.text, .int .i64 x.kids, .int .i64 x.pos] 34)
  refine run34 _ _ _ _ _ _ ⟨_, blk_cell (j := 0) hb, cond_intro (fun h5 K hK => ⟨_, blk_cell (j := 1) hb, ?_⟩) (fun h5 => cond_intro (fun h4 => ⟨_, blk_cell (j := 1) hb, ?_⟩) (fun h4 K1 hK1 => ?_))⟩
  · have h5' : x.kind = 5 := by simpa using h5
    have ho : okItem x = (decide (0 ≤ x.kids) && decide (bs x.text = [])) := by unfold okItem; rw [if_pos h5']
    rw [beq_empty]
    refine cond_intro (fun ht => ⟨_, blk_cell (j := 2) hb, hK _ ⟨?_, he⟩⟩) (fun ht => hK _ ⟨?_, he⟩)
    · rw [ho, ht, Bool.and_true]
    · rw [ho, ht, Bool.and_false]
  · have h4' : x.kind = 4 := by simpa using h4
    have ho : okItem x = (decide (x.kids = 0) && (bs x.text).all isPrint) := by
      unfold okItem; rw [if_neg (by omega)]; unfold okLeaf; rw [if_pos h4']
    refine ⟨fun vals w' => ∃ j : Nat, vals = [.int .i64 j] ∧ j ≤ x.text.size ∧ w' = w.alloc (.cells #[.int .i64 x.kind, .string x.text, .int .i64 x.kids, .int .i64 x.pos] 34) ∧ (bs x.text).all isPrint = (rest x.text j).all isPrint,
      mu1 x.text.size, ⟨0, rfl, Nat.zero_le _, rfl, rfl⟩, ?_⟩
    rintro n w1 ⟨j, hv, hj, rfl, ha⟩
    cases hv
    refine cond_dec (fun hlt => ?_) (fun hge => ⟨_, blk_cell (j := 2) hb, ?_, he⟩)
    · have hl' : j < x.text.size := by omega
      rw [rest_cons hl', List.all_cons] at ha
      refine ⟨_, blk_cell (j := 1) hb, ⟨by omega, hlt⟩, ?_⟩
      rw [bt_eq]
      refine Called.of (c50 _ _) ?_
      rintro v w2 ⟨rfl, rfl⟩
      refine ⟨_, rfl, cond_intro (fun hp => ⟨?_, he⟩) (fun hp => ?_)⟩
      · have hp' : isPrint ((bs x.text).getD j 0) = false := by simpa using hp
        rw [ho, ha, hp', Bool.false_and, Bool.and_false]
      · have hp' : isPrint ((bs x.text).getD j 0) = true := by simpa using hp
        rw [hp', Bool.true_and] at ha
        rw [wrap_succ (by omega)]
        refine ⟨⟨j + 1, rfl, hl', rfl, ha⟩, ?_⟩
        simp only [mu1, Int.toNat_natCast]; omega
    · rw [ho, ha, bytes_lt hge, List.all_nil, Bool.and_true]; rfl
  · have h5' : x.kind ≠ 5 := by simpa using h5
    have h4' : x.kind ≠ 4 := by simpa using h4
    have wd : ∀ b, b = true → (x.kind = 1 ∨ x.kind = 2 ∨ x.kind = 3) → K1 [.bool b] (w.alloc (.cells #[.int .i64 x.kind, .string x.text, .int .i64 x.kids, .int .i64 x.pos] 34)) := by
      intro b hb2 hk
      have ho := okItem_word hk
      refine hK1 b ?_
      rw [hb2, cond_true]
      refine ⟨_, blk_cell (j := 1) hb, fun vals w' => ∃ j : Nat, vals = [.int .i64 j] ∧ j ≤ x.text.size ∧ w' = w.alloc (.cells #[.int .i64 x.kind, .string x.text, .int .i64 x.kids, .int .i64 x.pos] 34) ∧ (bs x.text).all isWord = (rest x.text j).all isWord,
        mu1 x.text.size, ⟨0, rfl, Nat.zero_le _, rfl, rfl⟩, ?_⟩
      rintro n w1 ⟨j, hv, hj, rfl, ha⟩
      cases hv
      refine cond_dec (fun hlt => ?_) (fun hge K2 hK2 => ⟨_, blk_cell (j := 2) hb, cond_intro (fun h0 => ?_) (fun h0 => ?_)⟩)
      · have hl' : j < x.text.size := by omega
        rw [rest_cons hl', List.all_cons] at ha
        refine ⟨_, blk_cell (j := 1) hb, ⟨by omega, hlt⟩, ?_⟩
        rw [bt_eq]
        refine Called.of (c51 _ _) ?_
        rintro v w2 ⟨rfl, rfl⟩
        refine ⟨_, rfl, cond_intro (fun hp => ⟨?_, he⟩) (fun hp => ?_)⟩
        · have hp' : isWord ((bs x.text).getD j 0) = false := by simpa using hp
          rw [ho, ha, hp', Bool.false_and, Bool.and_false, Bool.and_false]
        · have hp' : isWord ((bs x.text).getD j 0) = true := by simpa using hp
          rw [hp', Bool.true_and] at ha
          rw [wrap_succ (by omega)]
          refine ⟨⟨j + 1, rfl, hl', rfl, ha⟩, ?_⟩
          simp only [mu1, Int.toNat_natCast]; omega
      · have h0' : x.kids = 0 := by simpa using h0
        refine ⟨_, blk_cell (j := 1) hb, _, blk_cell (j := 0) hb, Called.of (c49 T _ hs _) ?_⟩
        rintro v w3 ⟨rfl, he3⟩
        refine ⟨_, rfl, he3, hK2 _ _ ⟨?_, he.drew.trans he3⟩⟩
        rw [ho, decide_eq_true h0', Bool.true_and, ha, bytes_lt hge, List.all_nil, Bool.and_true]; rfl
      · have h0' : x.kids ≠ 0 := by simpa using h0
        refine hK2 _ _ ⟨?_, he.drew⟩
        rw [ho, decide_eq_false h0', Bool.false_and]
    refine cond_intro (fun h1 => wd _ rfl ?_) (fun h1 => cond_intro (fun h2 => wd _ rfl ?_) (fun h2 => ?_))
    · have := beq_iff_eq.1 h1; exact .inl this
    · have := beq_iff_eq.1 h2; exact .inr (.inl this)
    · have h1' : x.kind ≠ 1 := by simpa using h1
      have h2' : x.kind ≠ 2 := by simpa using h2
      cases h3 : (x.kind == 3) with
      | true => have := beq_iff_eq.1 h3; exact wd _ rfl (.inr (.inr this))
      | false =>
        have h3' : x.kind ≠ 3 := by simpa using h3
        refine hK1 _ ?_
        refine ⟨?_, he⟩
        unfold okItem
        rw [if_neg h5']
        unfold okLeaf
        rw [if_neg h4', if_neg (by omega), Bool.and_false]

/-- The lists around: how many elements are to come, the inmost first. -/
def popZ (st : List Int) : List Int := st.dropWhile (· == 0)
def decTop : List Int → List Int
  | [] => []
  | n :: t => (n - 1) :: t
def pushK (st : List Int) (x : It) : List Int := if x.kind = 5 then x.kids :: st else st
def validGo : List Int → List It → Bool
  | st, [] => st.all fun n => decide (n ≤ 0)
  | st, x :: l => if (popZ st).length > 256 then false else if okItem x then validGo (pushK (decTop (popZ st)) x) l else false
def ints (l : List Int) : List Value := l.map fun n => Value.int .i64 n
theorem ints_len (l : List Int) : (ints l).length = l.length := by simp [ints]
def muL : List Value → World → Nat
  | .slice _ n _ :: _, _ => n
  | _, _ => 0
theorem own_at {w : World} {B n m : Nat} {p : Option Addr} {k : Nat} {l : List Int} (ho : w.ownsRow B 3 1 (.slice p n m) k (ints l)) {j : Nat} {x : Int} (hj : l[j]? = some x) :
    ∃ g, p = some ⟨g, 0, none⟩ ∧ (Value.slice p n m).ownBlock = some g ∧ w.cell? ((⟨g, 0, none⟩ : Addr).add (j * 1)) = some (.int .i64 x) := by
  have hl := (List.getElem?_eq_some_iff.1 hj).1
  have hk : k = l.length := by have := ho.1; rw [ints_len] at this; omega
  obtain ⟨g, rfl, hg, -, -⟩ := own_some ho (by omega)
  exact ⟨g, rfl, hg, World.ownsRow.cells ho hg _ _ (by rw [Nat.mul_one, ints, List.getElem?_map, hj]; rfl)⟩
theorem rev_top {n : Int} {t : List Int} : (n :: t).reverse[t.length]? = some n := by
  rw [List.reverse_cons, List.getElem?_append_right (by rw [List.length_reverse]; exact Nat.le_refl _), List.length_reverse, Nat.sub_self]; rfl

theorem c19 (T : TrimOk) {A : Option Addr} {C : Nat} {L : List It} (hL : L.length < 4294967296) (hx : ∀ x ∈ L, x.text.size < 4294967281 ∧ x.kids ≤ 9223372036854775807) (w : World) (hs : SlAt w A (itcs L)) :
    Ret Tryd.prog 19 #[.slice A L.length C] w fun v w' => v = .bool (validGo [] L) ∧ Ext w w' := by
  refine run19 _ _ _ _ _ ⟨fun vals w1 => ∃ (j : Nat) (st : List Int) (p : Option Addr) (k1 : Nat), vals = [.int .i64 j, .slice p st.length k1] ∧ j ≤ L.length ∧ w1.ownsRow w.heap.size 3 1 (.slice p st.length k1) st.length (ints st.reverse) ∧
      (∀ n ∈ st, 0 ≤ n ∧ n ≤ 9223372036854775807) ∧ st.length ≤ 257 ∧ validGo [] L = validGo st (L.drop j) ∧ Ext w w1, mu1 L.length,
    ⟨0, [], none, 0, rfl, Nat.zero_le _, ⟨rfl, .inl ⟨rfl, rfl⟩⟩, fun _ h => (List.not_mem_nil h).elim, Nat.zero_le _, rfl, Ext.refl _⟩, ?_⟩
  rintro n p k k1 w1 ⟨j, st, p0, k0, hv, hj, ho, hst, hsl, hval, he1⟩
  cases hv
  refine cond_dec (fun hlt => ?_) (fun hge => ?_)
  · have hjl : j < L.length := by omega
    obtain ⟨x, hxj⟩ : ∃ x, L[j]? = some x := ⟨_, List.getElem?_eq_getElem hjl⟩
    obtain ⟨hxt, hxk⟩ := hx x (List.mem_of_getElem? hxj)
    have hdrop : L.drop j = x :: L.drop (j + 1) := by
      rw [List.getElem?_eq_getElem hjl] at hxj
      cases hxj
      exact List.drop_eq_getElem_cons hjl
    rw [hdrop] at hval
    obtain ⟨ad, rfl, -, hcells, -⟩ := sl_item (hs.ext he1) hxj
    have hb0 : (w1.alloc (.cells #[.int .i64 0, .string { data := #[] }, .int .i64 0, .int .i64 0] 34)).heap[w1.heap.size]? = some (.cells #[.int .i64 0, .string { data := #[] }, .int .i64 0, .int .i64 0] 34 (0, 0)) := heap_alloc_new w1 _
    have he0 := (Ext.refl w1).alloc (.cells #[.int .i64 0, .string { data := #[] }, .int .i64 0, .int .i64 0] 34)
    have hb := set4_blk hb0 (.int .i64 x.kind) (.string x.text) (.int .i64 x.kids) (.int .i64 x.pos)
    have heW : Ext w1 _ := set4_below he0 (Nat.le_refl _) (.int .i64 x.kind) (.string x.text) (.int .i64 x.kids) (.int .i64 x.pos)
    refine ⟨ad, rfl, ⟨by omega, hlt⟩, x.kind, x.text, x.kids, x.pos, by rw [Int.toNat_natCast]; exact hcells, writable4 hb0, ?_⟩
    generalize hW : setCells (w1.alloc (.cells #[.int .i64 0, .string { data := #[] }, .int .i64 0, .int .i64 0] 34)) ⟨w1.heap.size, 0, none⟩ 0 [.int .i64 x.kind, .string x.text, .int .i64 x.kids, .int .i64 x.pos] = W at hb heW ⊢
    have heW2 := he1.trans heW
    refine ⟨fun vals w2 => ∃ (s2 : List Int) (p2 : Option Addr) (k3 : Nat), vals = [.slice p2 s2.length k3] ∧ w2 = W ∧ W.ownsRow w.heap.size 3 1 (.slice p2 s2.length k3) s2.length (ints s2.reverse) ∧ (∀ n ∈ s2, 0 ≤ n ∧ n ≤ 9223372036854775807) ∧ s2.length ≤ 257 ∧
      popZ st = popZ s2 ∧ ∀ g, (Value.slice p2 s2.length k3).ownBlock = some g → g < w1.heap.size, muL, ⟨st, p, k1, rfl, rfl, own_ext ho heW, hst, hsl, rfl, fun g hg => (own_lt ho g hg).2⟩, ?_⟩
    rintro p2 k2 k3 w2 ⟨s2, p20, k30, hv2, rfl, ho2, hs2, hl2, hpop, hgb⟩
    cases hv2
    intro K hK
    have hlen2 : (s2.length : Int) ≤ 257 := by omega
    -- the list is not popped further
    have main : popZ s2 = s2 → ∀ b, b = false → K [.bool b] w2 := by
      intro hz b hbf
      refine hK b ?_
      rw [hbf, cond_false]
      intro K1 hK1
      rw [validGo, hpop, hz] at hval
      refine cond_dec (fun hgt => hK1 true _ ⟨?_, heW2⟩) (fun hle => ?_)
      · rw [hval, if_pos (by omega)]
      rw [if_neg (by omega)] at hval
      refine ⟨_, _, _, _, vcells4 hb, Called.of (c34 T x hxt w2) ?_⟩
      rintro v w6 ⟨rfl, he6⟩
      refine ⟨_, rfl, hK1 _ _ ?_⟩
      cases hok : okItem x with
      | false =>
        rw [hok] at hval
        exact ⟨by rw [hval]; rfl, heW2.trans he6⟩
      | true =>
        rw [hok, if_pos rfl] at hval
        show ∀ K2, _
        intro K2 hK2
        have ho6 := own_ext ho2 he6
        have hb6 := he6.blk hb
        have dl : (decTop s2).length = s2.length := by cases s2 <;> rfl
        have post : ∀ w4, w4.ownsRow w.heap.size 3 1 (.slice p2 s2.length k3) s2.length (ints (decTop s2).reverse) → w4.heap[w1.heap.size]? = some (.cells #[.int .i64 x.kind, .string x.text, .int .i64 x.kids, .int .i64 x.pos] 34 (0, 0)) →
            (∀ n ∈ decTop s2, 0 ≤ n ∧ n ≤ 9223372036854775807) → Ext w w4 → K2 [] w4 := by
          intro w4 ho4 hb4 hs4 he4
          refine hK2 w4 ⟨_, blk_cell (j := 0) hb4, cond_intro (fun h5 => ?_) (fun h5 => ?_)⟩
          · have h5' : x.kind = 5 := by simpa using h5
            have hk0 : 0 ≤ x.kids := by
              unfold okItem at hok
              rw [if_pos h5', Bool.and_eq_true, decide_eq_true_eq] at hok
              exact hok.1
            refine ⟨_, blk_cell (j := 2) hb4, w.heap.size, ints (decTop s2).reverse, [.int .i64 x.kids], AppOk.one ho4 rfl rfl (by unfold maxLen; omega) (by omega) he4.size, ?_⟩
            intro p5 k5 w5 r
            have hx4 := (Ext.refl w4).alloc (.cells #[Value.int IntKind.i64 x.kids] 3)
            have hb5 : Ext w w5 := r.below (own_ext ho4 hx4) (he4.trans hx4) (by rw [size_alloc]; have := he4.size; omega) (Nat.le_refl _)
            have e1 : (x.kids :: decTop s2).length = s2.length + 1 := by rw [List.length_cons, dl]
            rw [wrap_succ (by omega)]
            refine ⟨⟨j + 1, x.kids :: decTop s2, p5, k5, by rw [e1], hjl, ?_, ?_, by rw [e1]; omega, ?_, hb5⟩, ?_⟩
            · rw [e1, List.reverse_cons]
              have := r.own
              simpa [ints] using this
            · intro n hn
              rcases List.mem_cons.1 hn with rfl | hn
              · exact ⟨hk0, hxk⟩
              · exact hs4 n hn
            · rw [hval, pushK, if_pos h5']
            · simp only [mu1, Int.toNat_natCast]; omega
          · have h5' : x.kind ≠ 5 := by simpa using h5
            rw [wrap_succ (by omega)]
            refine ⟨⟨j + 1, decTop s2, p2, k3, by rw [dl], hjl, by rw [dl]; exact ho4, hs4, by omega, ?_, he4⟩, ?_⟩
            · rw [hval, pushK, if_neg h5']
            · simp only [mu1, Int.toNat_natCast]; omega
        cases s2 with
        | nil => exact cond_intro (fun h => by simp at h) (fun _ => post w6 ho6 hb6 (fun _ h => by cases h) (heW2.trans he6))
        | cons n t =>
          have hn0 : n ≠ 0 := by
            intro e
            subst e
            have : (popZ (0 :: t)).length = (0 :: t).length := by rw [hz]
            have h2 : (popZ (0 :: t)).length ≤ t.length := by
              show (List.dropWhile _ _).length ≤ _
              rw [List.dropWhile_cons, if_pos (by decide)]
              exact (List.dropWhile_sublist _).length_le
            simp only [List.length_cons] at this
            omega
          obtain ⟨hn1, hn2⟩ := hs2 n List.mem_cons_self
          have e2 : IntKind.i64.wrap ((((n :: t).length : Nat) : Int) - 1) = (t.length : Int) := by rw [wrap_pred (by omega) (by simp)]; rfl
          obtain ⟨g, hp2, hg, hc⟩ := own_at ho6 (rev_top (n := n) (t := t))
          subst hp2
          have hgl := hgb g hg
          have hgw := (own_lt ho6 g hg).1
          rw [e2]
          refine cond_intro (fun _ => ?_) (fun h => by simp at h)
          have hadr : (⟨g, 0, none⟩ : Addr).add ((t.length : Int).toNat * 1) = ⟨g, t.length, none⟩ := by rw [Int.toNat_natCast, Nat.mul_one, add_eq, Nat.zero_add]
          have hc' : w6.cell? ((⟨g, 0, none⟩ : Addr).add ((t.length : Int).toNat * 1)) = some (.int .i64 n) := by rw [Int.toNat_natCast]; exact hc
          refine ⟨_, rfl, ⟨by omega, by simp only [List.length_cons]; omega⟩, n, hc', _, rfl, ⟨by omega, by simp only [List.length_cons]; omega⟩, ⟨⟨_, hc'⟩, by rw [hadr]; exact own_free ho6 hg _⟩, ?_⟩
          rw [hadr, wrap64_in (by omega) (by omega)]
          refine post _ ?_ ?_ ?_ (Below.setCell (p := ⟨g, _, none⟩) (heW2.trans he6) hgw _)
          · have h7 := own_set ho6 hg (i := t.length) (.int .i64 (n - 1))
            have e3 : (ints (n :: t).reverse).set t.length (.int .i64 (n - 1)) = ints (decTop (n :: t)).reverse := by
              simp only [decTop, List.reverse_cons, ints, List.map_append]
              rw [List.set_append_right _ _ (by simp)]
              simp
            rw [e3] at h7
            exact h7
          · rw [blk_set_ne (by show w1.heap.size ≠ g; omega)]; exact hb6
          · intro m hm
            rcases List.mem_cons.1 hm with rfl | hm
            · omega
            · exact hs2 m (List.mem_cons_of_mem _ hm)
    cases s2 with
    | nil => exact cond_intro (fun h => by simp at h) (fun _ => main rfl _ rfl)
    | cons n t =>
      have e2 : IntKind.i64.wrap ((((n :: t).length : Nat) : Int) - 1) = (t.length : Int) := by rw [wrap_pred (by omega) (by simp)]; rfl
      obtain ⟨g, hp2, hg, hc⟩ := own_at ho2 (rev_top (n := n) (t := t))
      subst hp2
      have hcap := own_cap ho2
      rw [e2] at hK ⊢
      refine cond_intro (fun _ => ?_) (fun h => by simp at h)
      refine ⟨_, rfl, ⟨by omega, by simp only [List.length_cons]; omega⟩, n, by rw [Int.toNat_natCast]; exact hc, ?_⟩
      cases hz : (n == 0) with
      | false =>
        refine main ?_ _ rfl
        show List.dropWhile _ _ = _
        rw [List.dropWhile_cons, hz]; rfl
      | true =>
        refine hK _ ?_
        rw [cond_true, Int.toNat_natCast]
        simp only [List.length_cons] at hcap
        refine ⟨⟨by omega, by omega⟩, ⟨t, some ⟨g, 0, none⟩, k3, rfl, rfl, ?_, fun m hm => hs2 m (List.mem_cons_of_mem _ hm), by simp only [List.length_cons] at hl2; omega, ?_, hgb⟩, ?_⟩
        · have h7 := own_cut ho2 (m := t.length) (by simp)
          have e3 : (ints (n :: t).reverse).take (t.length * 1) = ints t.reverse := by
            simp only [List.reverse_cons, ints, List.map_append, Nat.mul_one]
            rw [List.take_append_of_le_length (by simp), List.take_of_length_le (by simp)]
          rw [e3] at h7
          exact h7
        · rw [hpop]
          show List.dropWhile _ _ = _
          rw [List.dropWhile_cons, hz]; rfl
        · show t.length < (n :: t).length
          simp
  · have hd : L.drop j = [] := List.drop_eq_nil_of_le (by omega)
    rw [hd, validGo] at hval
    refine ⟨fun vals w7 => ∃ i : Nat, vals = [.int .i64 i] ∧ i ≤ st.length ∧ w7 = w1 ∧ (st.reverse.take i).all (fun n => decide (n ≤ 0)) = true, mu1 st.length, ⟨0, rfl, Nat.zero_le _, rfl, rfl⟩, ?_⟩
    rintro n11 w7 ⟨i, hv2, hi, rfl, ha⟩
    cases hv2
    refine cond_dec (fun hlt2 => ?_) (fun hge2 => ⟨?_, he1⟩)
    · have hil : i < st.reverse.length := by rw [List.length_reverse]; omega
      obtain ⟨y, hy⟩ : ∃ y, st.reverse[i]? = some y := ⟨_, List.getElem?_eq_getElem hil⟩
      obtain ⟨g, rfl, hg, hc⟩ := own_at ho hy
      refine ⟨_, rfl, ⟨by omega, by omega⟩, y, by rw [Int.toNat_natCast]; exact hc, cond_dec (fun hpos => ⟨?_, he1⟩) (fun hle => ?_)⟩
      · rw [hval]
        congr 1
        symm
        rw [← List.all_reverse, List.all_eq_false]
        exact ⟨y, List.mem_of_getElem? hy, by simpa using hpos⟩
      · rw [wrap_succ (by omega)]
        refine ⟨⟨i + 1, rfl, by omega, rfl, ?_⟩, ?_⟩
        · rw [List.take_add_one, hy, List.all_append, ha]
          simpa using hle
        · simp only [mu1, Int.toNat_natCast]; omega
    · rw [hval, ← List.all_reverse]
      rw [List.take_of_length_le (by rw [List.length_reverse]; omega)] at ha
      rw [ha]
end Go.Proofs.Sx
