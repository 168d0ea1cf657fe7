/- Part of the proof: SxP8. -/
import Derived.Test.YtonenlplcidihaaDoorSxP7
/-! Two lists of items are compared. -/
namespace Go.Proofs.Sx
open Go Go.V Go.Proofs Go.RowKit
set_option maxRecDepth 100000

theorem ba_beq (a b : ByteArray) : (a == b) = decide (a = b) := by
  rw [Bool.eq_iff_iff, decide_eq_true_eq]
  obtain ⟨a⟩ := a
  obtain ⟨b⟩ := b
  show (a == b) = true ↔ _
  simp
theorem set4_blk {w : World} {b e : Nat} {a0 a1 a2 a3 : Value} (h : w.heap[b]? = some (.cells #[a0, a1, a2, a3] e (0, 0))) (v0 v1 v2 v3 : Value) :
    (setCells w ⟨b, 0, none⟩ 0 [v0, v1, v2, v3]).heap[b]? = some (.cells #[v0, v1, v2, v3] e (0, 0)) := by
  simp only [setCells, add_eq, Nat.zero_add]
  exact blk_set_eq (j := 3) (blk_set_eq (j := 2) (blk_set_eq (j := 1) (blk_set_eq (j := 0) h v0) v1) v2) v3
theorem set4_ne {w : World} {b k : Nat} (h : k ≠ b) (v0 v1 v2 v3 : Value) : (setCells w ⟨b, 0, none⟩ 0 [v0, v1, v2, v3]).heap[k]? = w.heap[k]? := by
  simp only [setCells, add_eq, Nat.zero_add]
  rw [blk_set_ne h, blk_set_ne h, blk_set_ne h, blk_set_ne h]
theorem set4_below {N : Nat} {w0 w : World} {b : Nat} (h : Below N w0 w) (hb : N ≤ b) (v0 v1 v2 v3 : Value) : Below N w0 (setCells w ⟨b, 0, none⟩ 0 [v0, v1, v2, v3]) := by
  simp only [setCells, add_eq, Nat.zero_add]
  exact (((h.setCell (p := ⟨b, _, none⟩) hb v0).setCell (p := ⟨b, _, none⟩) hb v1).setCell (p := ⟨b, _, none⟩) hb v2).setCell (p := ⟨b, _, none⟩) hb v3
theorem writable4 {w : World} {b e : Nat} {a0 a1 a2 a3 : Value} (h : w.heap[b]? = some (.cells #[a0, a1, a2, a3] e (0, 0))) : writable w ⟨b, 0, none⟩ 4 := by
  intro i hi
  rw [add_eq, Nat.zero_add]
  exact ⟨⟨#[a0, a1, a2, a3][i]'hi, (blk_cell h).trans (Array.getElem?_eq_getElem (xs := #[a0, a1, a2, a3]) hi)⟩, blk_free h⟩
theorem vcells4 {w : World} {b e : Nat} {a0 a1 a2 a3 : Value} (h : w.heap[b]? = some (.cells #[a0, a1, a2, a3] e (0, 0))) : vcells w ⟨b, 0, none⟩ 0 [a0, a1, a2, a3] :=
  ⟨blk_cell h, blk_cell (j := 1) h, blk_cell (j := 2) h, blk_cell (j := 3) h, trivial⟩

/-- An item as it is compared. -/
def seen (pos : Bool) (x : It) : It := if pos then x else { x with pos := 0 }
def sameItems (pos : Bool) (a b : List It) : Bool := decide (a.map (seen pos) = b.map (seen pos))

/-- An item that lies in a slice is read. -/
theorem item_cells {w : World} {ad : Addr} (hs : ad.spot = none) {l : List It} (h : RowAt w ad (itcs l)) {i : Nat} {x : It} (hx : l[i]? = some x) : vcells w (ad.add (i * 4)) 0 (itc x) := by
  rw [vcells_row]
  intro j v hj
  rw [add_add _ hs]
  exact h _ _ (itcs_get hx j v hj)

theorem c17 {aA bA : Option Addr} {aC bC : Nat} {la lb : List It} (pos : Bool) {w : World} (ha : SlAt w aA (itcs la)) (hb : SlAt w bA (itcs lb)) (hla : la.length ≤ 9223372036854775807) :
    Ret Tryd.prog 17 #[.slice aA la.length aC, .slice bA lb.length bC, .bool pos] w fun v w' => v = .bool (sameItems pos la lb) ∧ Ext w w' := by
  refine run17 _ _ _ _ _ _ _ _ _ (cond_intro (fun hne => ⟨?_, Ext.refl _⟩) (fun hne => ?_))
  · congr 1
    symm
    rw [sameItems, decide_eq_false_iff_not]
    intro h
    have := congrArg List.length h
    simp only [List.length_map] at this
    rw [bne_iff_ne] at hne
    exact hne (by omega)
  have hlen : la.length = lb.length := by
    have h2 : (la.length : Int) = lb.length := by simpa using hne
    omega
  refine ⟨fun vals w' => ∃ i : Nat, vals = [.int .i64 i] ∧ i ≤ la.length ∧ Ext w w' ∧ (la.take i).map (seen pos) = (lb.take i).map (seen pos), mu1 la.length, ⟨0, rfl, Nat.zero_le _, Ext.refl _, rfl⟩, ?_⟩
  rintro n w1 ⟨i, hv, hi, he1, heq⟩
  cases hv
  refine cond_dec (fun hlt => ?_) (fun hlt => ⟨?_, he1⟩)
  case refine_2 =>
    congr 1
    symm
    rw [sameItems, decide_eq_true_iff]
    rwa [List.take_of_length_le (by omega), List.take_of_length_le (by omega)] at heq
  have hlt' : i < la.length := by omega
  obtain ⟨x, hx⟩ : ∃ x, la[i]? = some x := ⟨_, List.getElem?_eq_getElem hlt'⟩
  obtain ⟨y, hy⟩ : ∃ y, lb[i]? = some y := ⟨_, List.getElem?_eq_getElem (by omega)⟩
  obtain ⟨ad, rfl, hs, hr⟩ := ha.at (j := 0) (by rw [itcs_len]; omega)
  obtain ⟨bd, rfl, ht, hq⟩ := hb.at (j := 0) (by rw [itcs_len]; omega)
  intro K hK
  have main : ∀ (p q : Nat) (w2 : World), Ext w w2 → w.heap.size ≤ p → w.heap.size ≤ q → p ≠ q → w2.heap[p]? = some (.cells #[.int .i64 x.kind, .string x.text, .int .i64 x.kids, .int .i64 x.pos] 34 (0, 0)) →
      w2.heap[q]? = some (.cells #[.int .i64 y.kind, .string y.text, .int .i64 y.kids, .int .i64 y.pos] 34 (0, 0)) → K [.pointer (some ⟨p, 0, none⟩), .pointer (some ⟨q, 0, none⟩)] w2 := by
    intro p q w2 he2 hp hq hpq hwp hwq
    refine hK _ _ _ fun K1 hK1 => ?_
    have fin : ∀ (w3 : World), Ext w w3 → w3.heap[p]? = some (.cells #[.int .i64 x.kind, .string x.text, .int .i64 x.kids, .int .i64 (seen pos x).pos] 34 (0, 0)) →
        w3.heap[q]? = some (.cells #[.int .i64 y.kind, .string y.text, .int .i64 y.kids, .int .i64 (seen pos y).pos] 34 (0, 0)) → K1 [] w3 := by
      intro w3 he3 h3p h3q
      refine hK1 _ ⟨_, _, _, _, vcells4 h3p, _, _, _, _, vcells4 h3q, ?_⟩
      have hE : (x.kind == y.kind && (x.text == y.text && (x.kids == y.kids && ((seen pos x).pos == (seen pos y).pos && true)))) = decide (seen pos x = seen pos y) := by
        rw [ba_beq, Bool.eq_iff_iff]
        simp only [Bool.and_eq_true, beq_iff_eq, decide_eq_true_eq, and_true]
        have h1 : ∀ z : It, (seen pos z).kind = z.kind ∧ (seen pos z).text = z.text ∧ (seen pos z).kids = z.kids := by
          intro z; cases pos <;> exact ⟨rfl, rfl, rfl⟩
        constructor
        · rintro ⟨a, b, c, d⟩
          obtain ⟨x1, x2, x3⟩ := h1 x
          obtain ⟨y1, y2, y3⟩ := h1 y
          cases hsx : seen pos x
          cases hsy : seen pos y
          rw [hsx] at x1 x2 x3 d
          rw [hsy] at y1 y2 y3 d
          simp only at x1 x2 x3 y1 y2 y3 d
          rw [x1, x2, x3, y1, y2, y3, a, b, c, d]
        · intro h
          obtain ⟨x1, x2, x3⟩ := h1 x
          obtain ⟨y1, y2, y3⟩ := h1 y
          exact ⟨by rw [← x1, ← y1, h], by rw [← x2, ← y2, h], by rw [← x3, ← y3, h], by rw [h]⟩
      rw [hE]
      refine cond_intro (fun hn => ⟨?_, he3⟩) (fun hn => ?_)
      · have hn' : seen pos x ≠ seen pos y := by simpa using hn
        congr 1
        symm
        rw [sameItems, decide_eq_false_iff_not]
        intro h
        apply hn'
        have h1 := congrArg (·[i]?) h
        simp only [List.getElem?_map, hx, hy, Option.map_some, Option.some.injEq] at h1
        exact h1
      · have hn' : seen pos x = seen pos y := by simpa using hn
        rw [wrap_succ (by omega)]
        refine ⟨⟨i + 1, rfl, hlt', he3, ?_⟩, ?_⟩
        · rw [List.take_add_one, List.take_add_one, hx, hy, List.map_append, List.map_append, heq]
          simp [hn']
        · simp only [mu1, Int.toNat_natCast]; omega
    refine cond_intro (fun hpos => ?_) (fun hpos => ?_)
    · have hpos' : pos = false := by simpa using hpos
      subst hpos'
      have h3p := blk_set_eq (j := 3) hwp (Value.int .i64 0)
      have h3q : (w2.setCell ((⟨p, 0, none⟩ : Addr).add 3) (Value.int .i64 0)).heap[q]? = _ := (blk_set_ne (a := ⟨p, 3, none⟩) (fun e => hpq e.symm)).trans hwq
      refine ⟨⟨⟨_, blk_cell (j := 3) hwp⟩, blk_free (j := 3) hwp⟩, ⟨⟨_, blk_cell (j := 3) h3q⟩, blk_free (j := 3) h3q⟩, fin _ ?_ ?_ ?_⟩
      · exact Below.setCell (p := ⟨q, 3, none⟩) (Below.setCell (p := ⟨p, 3, none⟩) he2 hp _) hq _
      · exact (blk_set_ne (a := ⟨q, 3, none⟩) hpq).trans h3p
      · exact blk_set_eq (j := 3) h3q _
    · have hpos' : pos = true := by simpa using hpos
      subst hpos'
      exact fin _ he2 hwp hwq
  have hw1 : w.heap.size ≤ w1.drew.heap.size := he1.size
  have hE : Ext w w1.drew := he1.drew
  -- two new blocks
  have hA : ∀ o : Obj, RowKit.Below w1.drew.heap.size w1.drew (w1.drew.alloc o) := fun o => (Ext.refl _).alloc o
  have hAA : ∀ o : Obj, RowKit.Below w1.drew.heap.size w1.drew ((w1.drew.alloc o).alloc o) := fun o => ((Ext.refl _).alloc o).alloc o
  have hs1 : ∀ o : Obj, (w1.drew.alloc o).heap.size = w1.drew.heap.size + 1 := fun o => size_alloc _ _
  have hb1 : ∀ o : Obj, ((w1.drew.alloc o).alloc o).heap[w1.drew.heap.size]? = some o := fun o => by
    rw [Below.heap_alloc _ _ _ (by rw [hs1]; exact Nat.lt_succ_self _)]; exact heap_alloc_new _ _
  have hb2 : ∀ o : Obj, ((w1.drew.alloc o).alloc o).heap[w1.drew.heap.size + 1]? = some o := fun o => by
    have := heap_alloc_new (w1.drew.alloc o) o
    rwa [hs1] at this
  have hEA : ∀ o : Obj, Ext w ((w1.drew.alloc o).alloc o) := fun o => hE.trans (hAA o)
  refine ⟨ad, rfl, ⟨by omega, hlt⟩, x.kind, x.text, x.kids, x.pos, ?_, bd, rfl, ⟨by omega, by omega⟩, y.kind, y.text, y.kids, y.pos, ?_, ⟨hA _, hAA _, ?_⟩, ⟨hA _, hAA _, ?_⟩⟩
  · rw [Int.toNat_natCast]; exact item_cells hs (hr.ext hE) hx
  · rw [Int.toNat_natCast]; exact item_cells ht (hq.ext hE) hy
  · rw [hs1]
    refine ⟨writable4 (hb1 _), set4_below (hAA _) (Nat.le_refl _) _ _ _ _, writable4 ((set4_ne (Nat.succ_ne_self _) _ _ _ _).trans (hb2 _)), main _ _ _ ?_ hw1 (Nat.le_trans hw1 (Nat.le_succ _)) (Nat.ne_of_lt (Nat.lt_succ_self _)) ?_ ?_⟩
    · exact set4_below (set4_below (hEA _) hw1 _ _ _ _) (Nat.le_trans hw1 (Nat.le_succ _)) _ _ _ _
    · exact (set4_ne (Nat.ne_of_lt (Nat.lt_succ_self _)) _ _ _ _).trans (set4_blk (hb1 _) _ _ _ _)
    · exact set4_blk ((set4_ne (Nat.succ_ne_self _) _ _ _ _).trans (hb2 _)) _ _ _ _
  · rw [hs1]
    refine ⟨writable4 (hb2 _), set4_below (hAA _) (Nat.le_succ _) _ _ _ _, writable4 ((set4_ne (Nat.ne_of_lt (Nat.lt_succ_self _)) _ _ _ _).trans (hb1 _)), main _ _ _ ?_ (Nat.le_trans hw1 (Nat.le_succ _)) hw1 (Nat.succ_ne_self _) ?_ ?_⟩
    · exact set4_below (set4_below (hEA _) (Nat.le_trans hw1 (Nat.le_succ _)) _ _ _ _) hw1 _ _ _ _
    · exact (set4_ne (Nat.succ_ne_self _) _ _ _ _).trans (set4_blk (hb2 _) _ _ _ _)
    · exact set4_blk ((set4_ne (Nat.ne_of_lt (Nat.lt_succ_self _)) _ _ _ _).trans (hb1 _)) _ _ _ _
end Go.Proofs.Sx
