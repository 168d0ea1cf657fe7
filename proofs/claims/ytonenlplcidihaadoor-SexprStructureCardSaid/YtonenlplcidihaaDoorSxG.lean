/- Part of the proof: SxG. -/
import Derived.Test.YtonenlplcidihaaDoorSxP9
import Derived.Test.YtonenlplcidihaaDoorSxF
/-! The choices. -/
namespace Go.Proofs.Sx
open Go Go.V Go.Proofs Go.RowKit
set_option maxRecDepth 100000

/-- Mod answers below n. -/
theorem c18 (v n : Int) (h0 : 0 < n) (h1 : n < 9223372036854775808) (w : World) : Ret Tryd.prog 18 #[.int .i64 v, .int .i64 n] w fun x w' => (∃ m : Nat, x = .int .i64 m ∧ (m : Int) < n) ∧ w' = w := by
  have hn : IntKind.u64.wrap n = n := by
    show n % 18446744073709551616 = n
    omega
  refine run18 _ _ _ _ (cond_dec (fun h => by rw [hn] at h; omega) (fun _ => ?_))
  rw [hn]
  have hv : 0 ≤ IntKind.u64.wrap v := by
    show 0 ≤ v % 18446744073709551616
    omega
  have h2 : 0 ≤ (IntKind.u64.wrap v).tmod n := Int.tmod_nonneg _ hv
  have h3 : (IntKind.u64.wrap v).tmod n < n := Int.tmod_lt_of_pos _ h0
  rw [wrap64_in (by omega) (by omega)]
  exact ⟨⟨((IntKind.u64.wrap v).tmod n).toNat, by rw [Int.toNat_of_nonneg h2], by rw [Int.toNat_of_nonneg h2]; exact h3⟩, rfl⟩
/-- The choices at block cb. -/
def Ch (cb : Nat) (w : World) : Prop := ∃ (lA : Option Addr) (lN lC : Nat) (i : Nat) (l : List Int), w.heap[cb]? = some (.cells #[.slice lA lN lC, .int .i64 i] 74 (0, 0)) ∧
  l.length = lN ∧ lN ≤ 400 ∧ (l = [] ∨ ∃ ad, lA = some ad ∧ ad.spot = none ∧ ad.block < cb ∧ RowAt w ad (l.map fun n => .int .i64 n))
/-- What a call may turn: the choices, and new memory. -/
abbrev Tn (cb : Nat) (w w' : World) : Prop := w.grownBy w' (some cb)
theorem Tn.refl (cb : Nat) (w : World) : Tn cb w w := ⟨rfl, rfl, rfl, Nat.le_refl _, fun _ _ _ => rfl⟩
theorem Tn.trans {cb : Nat} {a b c : World} (h : Tn cb a b) (k : Tn cb b c) : Tn cb a c :=
  ⟨k.os.trans h.os, k.tape.trans h.tape, k.output.trans h.output, Nat.le_trans h.size k.size, fun i hi hn => (k.block i (Nat.lt_of_lt_of_le hi h.size) hn).trans (h.block i hi hn)⟩
theorem Tn.ext {cb : Nat} {a b c : World} (h : Tn cb a b) (k : Ext b c) : Tn cb a c :=
  h.trans ⟨k.os, k.tape, k.output, k.size, fun i hi _ => k.block i hi⟩
theorem Ch.cell_ne {cb : Nat} {w w' : World} {ad : Addr} {L : List Value} (hne : ad.block ≠ cb) (h : RowAt w ad L) (hk : ∀ k, k ≠ cb → k < w.heap.size → w'.heap[k]? = w.heap[k]?) : RowAt w' ad L := by
  intro j v hj
  have h1 := h j v hj
  have hb : (ad.add j).block = ad.block := by unfold Addr.add; split <;> rfl
  have hlt := World.block_lt_of_cell? w _ h1
  rw [World.cell?_of_block (hk _ (by rw [hb]; exact hne) hlt)]
  exact h1
theorem Ch.lt {cb : Nat} {w : World} (h : Ch cb w) : cb < w.heap.size := by
  obtain ⟨lA, lN, lC, i, l, hb, _⟩ := h
  exact (Array.getElem?_eq_some_iff.1 hb).1

theorem Ch.keep {cb : Nat} {w w' : World} (h : Ch cb w) (hk : ∀ k, k ≤ cb → w'.heap[k]? = w.heap[k]?) : Ch cb w' := by
  obtain ⟨lA, lN, lC, i, l, hb, h1, h2, h4⟩ := h
  refine ⟨lA, lN, lC, i, l, by rw [hk cb (Nat.le_refl _)]; exact hb, h1, h2, h4.imp id fun ⟨ad, a, b, c, d⟩ => ⟨ad, a, b, c, fun j v hj => ?_⟩⟩
  have hbk : (ad.add j).block = ad.block := by unfold Addr.add; split <;> rfl
  rw [World.cell?_of_block (hk _ (by rw [hbk]; omega))]
  exact d j v hj
/-- What an append to a row of the call's own leaves. -/
theorem Tn.app {cb N : Nat} {w w4 w5 : World} (h : Tn cb w w4) {size n c m e : Nat} {a a' : Option Addr} {c' : Nat} {xs news : List Value} (r : AppRes w4 w5 N e size a n c xs m news a' c')
    (ho : w4.ownsRow N e size (.slice a n c) n xs) (hN : w.heap.size ≤ N) : Tn cb w w5 :=
  ⟨r.grown.os.trans h.os, r.grown.tape.trans h.tape, r.grown.output.trans h.output, Nat.le_trans h.size r.grown.size, fun i hi hn =>
    (r.grown.block i (Nat.lt_of_lt_of_le hi h.size) (fun e => by have := (own_lt ho i e.symm).1; omega)).trans (h.block i hi hn)⟩
theorem Tn.set {cb : Nat} {w w' : World} (h : Tn cb w w') {a : Addr} (ha : w.heap.size ≤ a.block) (v : Value) : Tn cb w (w'.setCell a v) :=
  ⟨h.os, h.tape, h.output, by rw [size_setCell]; exact h.size, fun i hi hn => (blk_set_ne (by omega)).trans (h.block i hi hn)⟩
theorem Ch.app {cb N : Nat} {w4 w5 : World} (h : Ch cb w4) {size n c m e : Nat} {a a' : Option Addr} {c' : Nat} {xs news : List Value} (r : AppRes w4 w5 N e size a n c xs m news a' c')
    (ho : w4.ownsRow N e size (.slice a n c) n xs) (hN : cb < N) : Ch cb w5 :=
  h.keep fun k hk => r.grown.block k (Nat.lt_of_le_of_lt hk h.lt) (fun e => by have := (own_lt ho k e.symm).1; omega)
theorem Ch.ext {cb : Nat} {w w' : World} (h : Ch cb w) (he : Ext w w') : Ch cb w' := by
  obtain ⟨lA, lN, lC, i, l, hb, h1, h2, h4⟩ := h
  exact ⟨lA, lN, lC, i, l, he.blk hb, h1, h2, h4.imp id fun ⟨ad, a, b, c, d⟩ => ⟨ad, a, b, c, d.ext he⟩⟩
theorem c30 {cb : Nat} {w : World} (h : Ch cb w) (n : Int) (h0 : 0 < n) (h1 : n < 9223372036854775808) :
    Ret Tryd.prog 30 #[.pointer (some ⟨cb, 0, none⟩), .int .i64 n] w fun x w' => (∃ m : Nat, x = .int .i64 m ∧ (m : Int) < n) ∧ Ch cb w' ∧ Tn cb w w' := by
  obtain ⟨lA, lN, lC, i, l, hb, hl, hN, hsl⟩ := h
  have hbd : w.drew.heap[cb]? = _ := hb
  refine run30 _ _ _ _ ⟨i, blk_cell (j := 1) hbd, _, _, _, blk_cell (j := 0) hbd, cond_dec (fun hge => ⟨⟨0, rfl, h0⟩, ⟨lA, lN, lC, i, l, hbd, hl, hN, hsl⟩, ⟨rfl, rfl, rfl, Nat.le_refl _, fun _ _ _ => rfl⟩⟩) (fun hlt => ?_)⟩
  have hi : i < lN := by omega
  have hb2 := blk_set_eq (j := 1) hbd (Value.int .i64 ((i + 1 : Nat) : Int))
  have hk : ∀ k, k ≠ cb → k < w.drew.heap.size → (w.drew.setCell ⟨cb, 1, none⟩ (Value.int .i64 ((i + 1 : Nat) : Int))).drew.heap[k]? = w.drew.heap[k]? := fun k hk _ => blk_set_ne (a := ⟨cb, 1, none⟩) hk
  obtain ⟨ad, rfl, hs, hne, hr⟩ := hsl.resolve_left (fun e => by rw [e] at hl; simp only [List.length_nil] at hl; omega)
  have hr2 : RowAt (w.drew.setCell ⟨cb, 1, none⟩ (Value.int .i64 ((i + 1 : Nat) : Int))).drew ad _ := Ch.cell_ne (Nat.ne_of_lt hne) hr hk
  refine ⟨i, blk_cell (j := 1) hbd, ⟨⟨_, blk_cell (j := 1) hbd⟩, blk_free (j := 1) hbd⟩, ?_⟩
  rw [wrap_succ (by omega)]
  refine ⟨_, _, _, blk_cell (j := 0) hb2, _, blk_cell (j := 1) hb2, _, rfl, ?_⟩
  rw [show IntKind.i64.wrap (((i + 1 : Nat) : Int) - 1) = (i : Int) by rw [wrap64_in (by omega) (by omega)]; omega]
  refine ⟨⟨by omega, by omega⟩, l[i]'(by omega), ?_, ?_⟩
  · rw [Int.toNat_natCast, Nat.mul_one]
    exact hr2 i _ (by rw [List.getElem?_map, List.getElem?_eq_getElem (by omega)]; rfl)
  · refine Called.of (c18 _ n h0 h1 _) ?_
    rintro v w1 ⟨⟨m, rfl, hm⟩, rfl⟩
    exact ⟨_, rfl, ⟨m, rfl, hm⟩, ⟨some ad, lN, lC, i + 1, l, hb2, hl, hN, .inr ⟨ad, rfl, hs, hne, hr2⟩⟩, ⟨rfl, rfl, rfl, by show _ ≤ (World.setCell _ _ _).heap.size; rw [size_setCell]; exact Nat.le_refl _, fun k hk' hn => hk k (fun e => hn (by rw [e])) hk'⟩⟩

theorem c29 {lA : Option Addr} {lN lC : Nat} {l : List Int} {w : World} (hl : l.length = lN) (hc : lN ≤ lC) (h : SlAt w lA (l.map fun n => .int .i64 n)) :
    Ret Tryd.prog 29 #[.slice lA lN lC] w fun x w' => x = .pointer (some ⟨w.heap.size, 0, none⟩) ∧ Ch w.heap.size w' ∧ Ext w w' := by
  have e : (if 400 < (lN : Int) then 400 else (lN : Int)) = ((min 400 lN : Nat) : Int) := by split <;> omega
  refine run29 _ _ _ _ _ ?_
  rw [vc29, e]
  refine ⟨⟨by omega, by omega⟩, rfl, ?_, (Ext.refl w).alloc _⟩
  refine ⟨lA, min 400 lN, lC, 0, l.take (min 400 lN), heap_alloc_new w _, by rw [List.length_take]; omega, by omega, ?_⟩
  by_cases hn : l = []
  · left; rw [hn]; simp
  · right
    obtain ⟨ad, rfl, hs, hr⟩ := h.at (j := 0) (by rw [List.length_map]; exact List.length_pos_iff.2 hn)
    obtain ⟨x, l', rfl⟩ : ∃ x l', l = x :: l' := by
      cases l with
      | nil => exact absurd rfl hn
      | cons x l' => exact ⟨x, l', rfl⟩
    have h0 := hr 0 _ rfl
    have hlt := World.block_lt_of_cell? w _ h0
    rw [Addr.add] at hlt
    refine ⟨ad, rfl, hs, hlt, fun j v hj => ?_⟩
    have h1 : ((x :: l').map fun n => Value.int .i64 n)[j]? = some v := by
      rw [List.map_take, List.getElem?_take] at hj
      split at hj
      · exact hj
      · cases hj
    exact ((Ext.refl w).alloc _).cell (hr j v h1)
end Go.Proofs.Sx
