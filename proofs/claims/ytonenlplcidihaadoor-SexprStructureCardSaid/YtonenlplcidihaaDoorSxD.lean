/- Part of the proof: SxD. -/
import Derived.Test.YtonenlplcidihaaDoorSxA2
/-! Valid: one item, a list. -/
namespace Go.Proofs.Sx
open Go Go.V Go.Proofs Go.RowKit
set_option maxRecDepth 100000

theorem okItem_word {x : It} (h : x.kind = 1 ∨ x.kind = 2 ∨ x.kind = 3) : okItem x = (decide (x.kids = 0) && (decide (kindW (bs x.text) = x.kind) && (bs x.text).all isWord)) := by
  unfold okItem
  rw [if_neg (by omega)]
  congr 1
  unfold okLeaf
  rw [if_neg (by omega), if_pos h]
  cases hb : bs x.text with
  | nil =>
    have : kindW [] = 0 := rfl
    rw [this, decide_eq_false (by omega)]
    rfl
  | cons c l => simp [Bool.and_comm]

theorem c34 (T : TrimOk) (x : It) (hs : x.text.size < 4294967281) (w : World) :
    Ret Tryd.prog 34 #[.agg #[.int .i64 x.kind, .string x.text, .int .i64 x.kids, .int .i64 x.pos]] w fun v w' => v = .bool (okItem x) ∧ Ext w w' := by
  have hb : (w.alloc (.cells #[.int .i64 x.kind, .string x.text, .int .i64 x.kids, .int .i64 x.pos] 34)).heap[w.heap.size]? = some (.cells #[.int .i64 x.kind, .string x.text, .int .i64 x.kids, .int .i64 x.pos] 34 (0, 0)) := heap_alloc_new w _
  have he := (Ext.refl w).alloc (.cells #[.int .i64 x.kind, .string x.text, .int .i64 x.kids, .int .i64 x.pos] 34)
  refine run34 _ _ _ _ _ _ ⟨_, blk_cell (j := 0) hb, cond_intro (fun h5 K hK => ⟨_, blk_cell (j := 1) hb, ?_⟩) (fun h5 => cond_intro (fun h4 => ⟨_, blk_cell (j := 1) hb, ?_⟩) (fun h4 K1 hK1 => ?_))⟩
  · have h5' : x.kind = 5 := by simpa using h5
    have ho : okItem x = (decide (0 ≤ x.kids) && decide (bs x.text = [])) := by unfold okItem; rw [if_pos h5']
    rw [beq_empty]
    refine cond_intro (fun ht => ⟨_, blk_cell (j := 2) hb, hK _ ⟨?_, he⟩⟩) (fun ht => hK _ ⟨?_, he⟩)
    · rw [ho, ht, Bool.and_true]
    · rw [ho, ht, Bool.and_false]
  · have h4' : x.kind = 4 := by simpa using h4
    have ho : okItem x = (decide (x.kids = 0) && (bs x.text).all isPrint) := by
      unfold okItem; rw [if_neg (by omega)]; unfold okLeaf; rw [if_pos h4']
    refine ⟨fun vals w' => ∃ j : Nat, vals = [.int .i64 j] ∧ j ≤ x.text.size ∧ w' = w.alloc (.cells #[.int .i64 x.kind, .string x.text, .int .i64 x.kids, .int .i64 x.pos] 34) ∧ (bs x.text).all isPrint = (rest x.text j).all isPrint,
      mu1 x.text.size, ⟨0, rfl, Nat.zero_le _, rfl, rfl⟩, ?_⟩
    rintro n w1 ⟨j, hv, hj, rfl, ha⟩
    cases hv
    refine cond_dec (fun hlt => ?_) (fun hge => ⟨_, blk_cell (j := 2) hb, ?_, he⟩)
    · have hl' : j < x.text.size := by omega
      rw [rest_cons hl', List.all_cons] at ha
      refine ⟨_, blk_cell (j := 1) hb, ⟨by omega, hlt⟩, ?_⟩
      rw [bt_eq]
      refine Called.of (c50 _ _) ?_
      rintro v w2 ⟨rfl, rfl⟩
      refine ⟨_, rfl, cond_intro (fun hp => ⟨?_, he⟩) (fun hp => ?_)⟩
      · have hp' : isPrint ((bs x.text).getD j 0) = false := by simpa using hp
        rw [ho, ha, hp', Bool.false_and, Bool.and_false]
      · have hp' : isPrint ((bs x.text).getD j 0) = true := by simpa using hp
        rw [hp', Bool.true_and] at ha
        rw [wrap_succ (by omega)]
        refine ⟨⟨j + 1, rfl, hl', rfl, ha⟩, ?_⟩
        simp only [mu1, Int.toNat_natCast]; omega
    · rw [ho, ha, bytes_lt hge, List.all_nil, Bool.and_true]; rfl
  · have h5' : x.kind ≠ 5 := by simpa using h5
    have h4' : x.kind ≠ 4 := by simpa using h4
    have wd : ∀ b, b = true → (x.kind = 1 ∨ x.kind = 2 ∨ x.kind = 3) → K1 [.bool b] (w.alloc (.cells #[.int .i64 x.kind, .string x.text, .int .i64 x.kids, .int .i64 x.pos] 34)) := by
      intro b hb2 hk
      have ho := okItem_word hk
      refine hK1 b ?_
      rw [hb2, cond_true]
      refine ⟨_, blk_cell (j := 1) hb, fun vals w' => ∃ j : Nat, vals = [.int .i64 j] ∧ j ≤ x.text.size ∧ w' = w.alloc (.cells #[.int .i64 x.kind, .string x.text, .int .i64 x.kids, .int .i64 x.pos] 34) ∧ (bs x.text).all isWord = (rest x.text j).all isWord,
        mu1 x.text.size, ⟨0, rfl, Nat.zero_le _, rfl, rfl⟩, ?_⟩
      rintro n w1 ⟨j, hv, hj, rfl, ha⟩
      cases hv
      refine cond_dec (fun hlt => ?_) (fun hge K2 hK2 => ⟨_, blk_cell (j := 2) hb, cond_intro (fun h0 => ?_) (fun h0 => ?_)⟩)
      · have hl' : j < x.text.size := by omega
        rw [rest_cons hl', List.all_cons] at ha
        refine ⟨_, blk_cell (j := 1) hb, ⟨by omega, hlt⟩, ?_⟩
        rw [bt_eq]
        refine Called.of (c51 _ _) ?_
        rintro v w2 ⟨rfl, rfl⟩
        refine ⟨_, rfl, cond_intro (fun hp => ⟨?_, he⟩) (fun hp => ?_)⟩
        · have hp' : isWord ((bs x.text).getD j 0) = false := by simpa using hp
          rw [ho, ha, hp', Bool.false_and, Bool.and_false, Bool.and_false]
        · have hp' : isWord ((bs x.text).getD j 0) = true := by simpa using hp
          rw [hp', Bool.true_and] at ha
          rw [wrap_succ (by omega)]
          refine ⟨⟨j + 1, rfl, hl', rfl, ha⟩, ?_⟩
          simp only [mu1, Int.toNat_natCast]; omega
      · have h0' : x.kids = 0 := by simpa using h0
        refine ⟨_, blk_cell (j := 1) hb, _, blk_cell (j := 0) hb, Called.of (c49 T _ hs _) ?_⟩
        rintro v w3 ⟨rfl, he3⟩
        refine ⟨_, rfl, he3, hK2 _ _ ⟨?_, he.drew.trans he3⟩⟩
        rw [ho, decide_eq_true h0', Bool.true_and, ha, bytes_lt hge, List.all_nil, Bool.and_true]; rfl
      · have h0' : x.kids ≠ 0 := by simpa using h0
        refine hK2 _ _ ⟨?_, he.drew⟩
        rw [ho, decide_eq_false h0', Bool.false_and]
    refine cond_intro (fun h1 => wd _ rfl ?_) (fun h1 => cond_intro (fun h2 => wd _ rfl ?_) (fun h2 => ?_))
    · have := beq_iff_eq.1 h1; exact .inl this
    · have := beq_iff_eq.1 h2; exact .inr (.inl this)
    · have h1' : x.kind ≠ 1 := by simpa using h1
      have h2' : x.kind ≠ 2 := by simpa using h2
      cases h3 : (x.kind == 3) with
      | true => have := beq_iff_eq.1 h3; exact wd _ rfl (.inr (.inr this))
      | false =>
        have h3' : x.kind ≠ 3 := by simpa using h3
        refine hK1 _ ?_
        refine ⟨?_, he⟩
        unfold okItem
        rw [if_neg h5']
        unfold okLeaf
        rw [if_neg h4', if_neg (by omega), Bool.and_false]

/-- The lists around: how many elements are to come, the inmost first. -/
def popZ (st : List Int) : List Int := st.dropWhile (· == 0)
def decTop : List Int → List Int
  | [] => []
  | n :: t => (n - 1) :: t
def pushK (st : List Int) (x : It) : List Int := if x.kind = 5 then x.kids :: st else st
def validGo : List Int → List It → Bool
  | st, [] => st.all fun n => decide (n ≤ 0)
  | st, x :: l => if (popZ st).length > 256 then false else if okItem x then validGo (pushK (decTop (popZ st)) x) l else false
def ints (l : List Int) : List Value := l.map fun n => Value.int .i64 n
theorem ints_len (l : List Int) : (ints l).length = l.length := by simp [ints]
def muL : List Value → World → Nat
  | .slice _ n _ :: _, _ => n
  | _, _ => 0
theorem own_at {w : World} {B n m : Nat} {p : Option Addr} {k : Nat} {l : List Int} (ho : w.ownsRow B 3 1 (.slice p n m) k (ints l)) {j : Nat} {x : Int} (hj : l[j]? = some x) :
    ∃ g, p = some ⟨g, 0, none⟩ ∧ (Value.slice p n m).ownBlock = some g ∧ w.cell? ((⟨g, 0, none⟩ : Addr).add (j * 1)) = some (.int .i64 x) := by
  have hl := (List.getElem?_eq_some_iff.1 hj).1
  have hk : k = l.length := by have := ho.1; rw [ints_len] at this; omega
  obtain ⟨g, rfl, hg, -, -⟩ := own_some ho (by omega)
  exact ⟨g, rfl, hg, World.ownsRow.cells ho hg _ _ (by rw [Nat.mul_one, ints, List.getElem?_map, hj]; rfl)⟩
theorem rev_top {n : Int} {t : List Int} : (n :: t).reverse[t.length]? = some n := by
  rw [List.reverse_cons, List.getElem?_append_right (by rw [List.length_reverse]; exact Nat.le_refl _), List.length_reverse, Nat.sub_self]; rfl

theorem c19 (T : TrimOk) {A : Option Addr} {C : Nat} {L : List It} (hL : L.length < 4294967296) (hx : ∀ x ∈ L, x.text.size < 4294967281 ∧ x.kids ≤ 9223372036854775807) (w : World) (hs : SlAt w A (itcs L)) :
    Ret Tryd.prog 19 #[.slice A L.length C] w fun v w' => v = .bool (validGo [] L) ∧ Ext w w' := by
  refine run19 _ _ _ _ _ ⟨fun vals w1 => ∃ (j : Nat) (st : List Int) (p : Option Addr) (k1 : Nat), vals = [.int .i64 j, .slice p st.length k1] ∧ j ≤ L.length ∧ w1.ownsRow w.heap.size 3 1 (.slice p st.length k1) st.length (ints st.reverse) ∧
      (∀ n ∈ st, 0 ≤ n ∧ n ≤ 9223372036854775807) ∧ st.length ≤ 257 ∧ validGo [] L = validGo st (L.drop j) ∧ Ext w w1, mu1 L.length,
    ⟨0, [], none, 0, rfl, Nat.zero_le _, ⟨rfl, .inl ⟨rfl, rfl⟩⟩, fun _ h => (List.not_mem_nil h).elim, Nat.zero_le _, rfl, Ext.refl _⟩, ?_⟩
  rintro n p k k1 w1 ⟨j, st, p0, k0, hv, hj, ho, hst, hsl, hval, he1⟩
  cases hv
  refine cond_dec (fun hlt => ?_) (fun hge => ?_)
  · have hjl : j < L.length := by omega
    obtain ⟨x, hxj⟩ : ∃ x, L[j]? = some x := ⟨_, List.getElem?_eq_getElem hjl⟩
    obtain ⟨hxt, hxk⟩ := hx x (List.mem_of_getElem? hxj)
    have hdrop : L.drop j = x :: L.drop (j + 1) := by
      rw [List.getElem?_eq_getElem hjl] at hxj
      cases hxj
      exact List.drop_eq_getElem_cons hjl
    rw [hdrop] at hval
    obtain ⟨ad, rfl, -, hcells, -⟩ := sl_item (hs.ext he1) hxj
    have hb0 : (w1.alloc (.cells #[.int .i64 0, .string { data := #[] }, .int .i64 0, .int .i64 0] 34)).heap[w1.heap.size]? = some (.cells #[.int .i64 0, .string { data := #[] }, .int .i64 0, .int .i64 0] 34 (0, 0)) := heap_alloc_new w1 _
    have he0 := (Ext.refl w1).alloc (.cells #[.int .i64 0, .string { data := #[] }, .int .i64 0, .int .i64 0] 34)
    have hb := set4_blk hb0 (.int .i64 x.kind) (.string x.text) (.int .i64 x.kids) (.int .i64 x.pos)
    have heW : Ext w1 _ := set4_below he0 (Nat.le_refl _) (.int .i64 x.kind) (.string x.text) (.int .i64 x.kids) (.int .i64 x.pos)
    refine ⟨ad, rfl, ⟨by omega, hlt⟩, x.kind, x.text, x.kids, x.pos, by rw [Int.toNat_natCast]; exact hcells, writable4 hb0, ?_⟩
    generalize hW : setCells (w1.alloc (.cells #[.int .i64 0, .string { data := #[] }, .int .i64 0, .int .i64 0] 34)) ⟨w1.heap.size, 0, none⟩ 0 [.int .i64 x.kind, .string x.text, .int .i64 x.kids, .int .i64 x.pos] = W at hb heW ⊢
    have heW2 := he1.trans heW
    refine ⟨fun vals w2 => ∃ (s2 : List Int) (p2 : Option Addr) (k3 : Nat), vals = [.slice p2 s2.length k3] ∧ w2 = W ∧ W.ownsRow w.heap.size 3 1 (.slice p2 s2.length k3) s2.length (ints s2.reverse) ∧ (∀ n ∈ s2, 0 ≤ n ∧ n ≤ 9223372036854775807) ∧ s2.length ≤ 257 ∧
      popZ st = popZ s2 ∧ ∀ g, (Value.slice p2 s2.length k3).ownBlock = some g → g < w1.heap.size, muL, ⟨st, p, k1, rfl, rfl, own_ext ho heW, hst, hsl, rfl, fun g hg => (own_lt ho g hg).2⟩, ?_⟩
    rintro p2 k2 k3 w2 ⟨s2, p20, k30, hv2, rfl, ho2, hs2, hl2, hpop, hgb⟩
    cases hv2
    intro K hK
    have hlen2 : (s2.length : Int) ≤ 257 := by omega
    -- the list is not popped further
    have main : popZ s2 = s2 → ∀ b, b = false → K [.bool b] w2 := by
      intro hz b hbf
      refine hK b ?_
      rw [hbf, cond_false]
      intro K1 hK1
      rw [validGo, hpop, hz] at hval
      refine cond_dec (fun hgt => hK1 true _ ⟨?_, heW2⟩) (fun hle => ?_)
      · rw [hval, if_pos (by omega)]
      rw [if_neg (by omega)] at hval
      refine ⟨_, _, _, _, vcells4 hb, Called.of (c34 T x hxt w2) ?_⟩
      rintro v w6 ⟨rfl, he6⟩
      refine ⟨_, rfl, hK1 _ _ ?_⟩
      cases hok : okItem x with
      | false =>
        rw [hok] at hval
        exact ⟨by rw [hval]; rfl, heW2.trans he6⟩
      | true =>
        rw [hok, if_pos rfl] at hval
        show ∀ K2, _
        intro K2 hK2
        have ho6 := own_ext ho2 he6
        have hb6 := he6.blk hb
        have dl : (decTop s2).length = s2.length := by cases s2 <;> rfl
        have post : ∀ w4, w4.ownsRow w.heap.size 3 1 (.slice p2 s2.length k3) s2.length (ints (decTop s2).reverse) → w4.heap[w1.heap.size]? = some (.cells #[.int .i64 x.kind, .string x.text, .int .i64 x.kids, .int .i64 x.pos] 34 (0, 0)) →
            (∀ n ∈ decTop s2, 0 ≤ n ∧ n ≤ 9223372036854775807) → Ext w w4 → K2 [] w4 := by
          intro w4 ho4 hb4 hs4 he4
          refine hK2 w4 ⟨_, blk_cell (j := 0) hb4, cond_intro (fun h5 => ?_) (fun h5 => ?_)⟩
          · have h5' : x.kind = 5 := by simpa using h5
            have hk0 : 0 ≤ x.kids := by
              unfold okItem at hok
              rw [if_pos h5', Bool.and_eq_true, decide_eq_true_eq] at hok
              exact hok.1
            refine ⟨_, blk_cell (j := 2) hb4, w.heap.size, ints (decTop s2).reverse, [.int .i64 x.kids], AppOk.one ho4 rfl rfl (by unfold maxLen; omega) (by omega) he4.size, ?_⟩
            intro p5 k5 w5 r
            have hx4 := (Ext.refl w4).alloc (.cells #[Value.int IntKind.i64 x.kids] 3)
            have hb5 : Ext w w5 := r.below (own_ext ho4 hx4) (he4.trans hx4) (by rw [size_alloc]; have := he4.size; omega) (Nat.le_refl _)
            have e1 : (x.kids :: decTop s2).length = s2.length + 1 := by rw [List.length_cons, dl]
            rw [wrap_succ (by omega)]
            refine ⟨⟨j + 1, x.kids :: decTop s2, p5, k5, by rw [e1], hjl, ?_, ?_, by rw [e1]; omega, ?_, hb5⟩, ?_⟩
            · rw [e1, List.reverse_cons]
              have := r.own
              simpa [ints] using this
            · intro n hn
              rcases List.mem_cons.1 hn with rfl | hn
              · exact ⟨hk0, hxk⟩
              · exact hs4 n hn
            · rw [hval, pushK, if_pos h5']
            · simp only [mu1, Int.toNat_natCast]; omega
          · have h5' : x.kind ≠ 5 := by simpa using h5
            rw [wrap_succ (by omega)]
            refine ⟨⟨j + 1, decTop s2, p2, k3, by rw [dl], hjl, by rw [dl]; exact ho4, hs4, by omega, ?_, he4⟩, ?_⟩
            · rw [hval, pushK, if_neg h5']
            · simp only [mu1, Int.toNat_natCast]; omega
        cases s2 with
        | nil => exact cond_intro (fun h => by simp at h) (fun _ => post w6 ho6 hb6 (fun _ h => by cases h) (heW2.trans he6))
        | cons n t =>
          have hn0 : n ≠ 0 := by
            intro e
            subst e
            have : (popZ (0 :: t)).length = (0 :: t).length := by rw [hz]
            have h2 : (popZ (0 :: t)).length ≤ t.length := by
              show (List.dropWhile _ _).length ≤ _
              rw [List.dropWhile_cons, if_pos (by decide)]
              exact (List.dropWhile_sublist _).length_le
            simp only [List.length_cons] at this
            omega
          obtain ⟨hn1, hn2⟩ := hs2 n List.mem_cons_self
          have e2 : IntKind.i64.wrap ((((n :: t).length : Nat) : Int) - 1) = (t.length : Int) := by rw [wrap_pred (by omega) (by simp)]; rfl
          obtain ⟨g, hp2, hg, hc⟩ := own_at ho6 (rev_top (n := n) (t := t))
          subst hp2
          have hgl := hgb g hg
          have hgw := (own_lt ho6 g hg).1
          rw [e2]
          refine cond_intro (fun _ => ?_) (fun h => by simp at h)
          have hadr : (⟨g, 0, none⟩ : Addr).add ((t.length : Int).toNat * 1) = ⟨g, t.length, none⟩ := by rw [Int.toNat_natCast, Nat.mul_one, add_eq, Nat.zero_add]
          have hc' : w6.cell? ((⟨g, 0, none⟩ : Addr).add ((t.length : Int).toNat * 1)) = some (.int .i64 n) := by rw [Int.toNat_natCast]; exact hc
          refine ⟨_, rfl, ⟨by omega, by simp only [List.length_cons]; omega⟩, n, hc', _, rfl, ⟨by omega, by simp only [List.length_cons]; omega⟩, ⟨⟨_, hc'⟩, by rw [hadr]; exact own_free ho6 hg _⟩, ?_⟩
          rw [hadr, wrap64_in (by omega) (by omega)]
          refine post _ ?_ ?_ ?_ (Below.setCell (p := ⟨g, _, none⟩) (heW2.trans he6) hgw _)
          · have h7 := own_set ho6 hg (i := t.length) (.int .i64 (n - 1))
            have e3 : (ints (n :: t).reverse).set t.length (.int .i64 (n - 1)) = ints (decTop (n :: t)).reverse := by
              simp only [decTop, List.reverse_cons, ints, List.map_append]
              rw [List.set_append_right _ _ (by simp)]
              simp
            rw [e3] at h7
            exact h7
          · rw [blk_set_ne (by show w1.heap.size ≠ g; omega)]; exact hb6
          · intro m hm
            rcases List.mem_cons.1 hm with rfl | hm
            · omega
            · exact hs2 m (List.mem_cons_of_mem _ hm)
    cases s2 with
    | nil => exact cond_intro (fun h => by simp at h) (fun _ => main rfl _ rfl)
    | cons n t =>
      have e2 : IntKind.i64.wrap ((((n :: t).length : Nat) : Int) - 1) = (t.length : Int) := by rw [wrap_pred (by omega) (by simp)]; rfl
      obtain ⟨g, hp2, hg, hc⟩ := own_at ho2 (rev_top (n := n) (t := t))
      subst hp2
      have hcap := own_cap ho2
      rw [e2] at hK ⊢
      refine cond_intro (fun _ => ?_) (fun h => by simp at h)
      refine ⟨_, rfl, ⟨by omega, by simp only [List.length_cons]; omega⟩, n, by rw [Int.toNat_natCast]; exact hc, ?_⟩
      cases hz : (n == 0) with
      | false =>
        refine main ?_ _ rfl
        show List.dropWhile _ _ = _
        rw [List.dropWhile_cons, hz]; rfl
      | true =>
        refine hK _ ?_
        rw [cond_true, Int.toNat_natCast]
        simp only [List.length_cons] at hcap
        refine ⟨⟨by omega, by omega⟩, ⟨t, some ⟨g, 0, none⟩, k3, rfl, rfl, ?_, fun m hm => hs2 m (List.mem_cons_of_mem _ hm), by simp only [List.length_cons] at hl2; omega, ?_, hgb⟩, ?_⟩
        · have h7 := own_cut ho2 (m := t.length) (by simp)
          have e3 : (ints (n :: t).reverse).take (t.length * 1) = ints t.reverse := by
            simp only [List.reverse_cons, ints, List.map_append, Nat.mul_one]
            rw [List.take_append_of_le_length (by simp), List.take_of_length_le (by simp)]
          rw [e3] at h7
          exact h7
        · rw [hpop]
          show List.dropWhile _ _ = _
          rw [List.dropWhile_cons, hz]; rfl
        · show t.length < (n :: t).length
          simp
  · have hd : L.drop j = [] := List.drop_eq_nil_of_le (by omega)
    rw [hd, validGo] at hval
    refine ⟨fun vals w7 => ∃ i : Nat, vals = [.int .i64 i] ∧ i ≤ st.length ∧ w7 = w1 ∧ (st.reverse.take i).all (fun n => decide (n ≤ 0)) = true, mu1 st.length, ⟨0, rfl, Nat.zero_le _, rfl, rfl⟩, ?_⟩
    rintro n11 w7 ⟨i, hv2, hi, rfl, ha⟩
    cases hv2
    refine cond_dec (fun hlt2 => ?_) (fun hge2 => ⟨?_, he1⟩)
    · have hil : i < st.reverse.length := by rw [List.length_reverse]; omega
      obtain ⟨y, hy⟩ : ∃ y, st.reverse[i]? = some y := ⟨_, List.getElem?_eq_getElem hil⟩
      obtain ⟨g, rfl, hg, hc⟩ := own_at ho hy
      refine ⟨_, rfl, ⟨by omega, by omega⟩, y, by rw [Int.toNat_natCast]; exact hc, cond_dec (fun hpos => ⟨?_, he1⟩) (fun hle => ?_)⟩
      · rw [hval]
        congr 1
        symm
        rw [← List.all_reverse, List.all_eq_false]
        exact ⟨y, List.mem_of_getElem? hy, by simpa using hpos⟩
      · rw [wrap_succ (by omega)]
        refine ⟨⟨i + 1, rfl, by omega, rfl, ?_⟩, ?_⟩
        · rw [List.take_add_one, hy, List.all_append, ha]
          simpa using hle
        · simp only [mu1, Int.toNat_natCast]; omega
    · rw [hval, ← List.all_reverse]
      rw [List.take_of_length_le (by rw [List.length_reverse]; omega)] at ha
      rw [ha]
end Go.Proofs.Sx
