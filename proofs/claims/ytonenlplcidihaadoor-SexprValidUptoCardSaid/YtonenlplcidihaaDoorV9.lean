/- Part of the proof: V9. -/
import Derived.Test.YtonenlplcidihaaDoorV8
/-! Memory, for the proofs of the printed statements. -/
namespace Go.V
open Go Go.RowKit

theorem wrap64_in {n : Int} (h0 : -9223372036854775808 ≤ n) (h1 : n ≤ 9223372036854775807) : IntKind.i64.wrap n = n := by
  rw [IntKind.wrap_i64]; omega

/-- What was there is as it was. -/
abbrev Ext (w w' : World) : Prop := Below w.heap.size w w'
theorem Ext.refl (w : World) : Ext w w := Below.refl _ _
theorem Ext.trans {a b c : World} (h : Ext a b) (k : Ext b c) : Ext a c := Below.trans h (Below.mono k h.size)
theorem Ext.drew {a b : World} (h : Ext a b) : Ext a b.drew := Below.drew h
theorem Ext.alloc {a b : World} (h : Ext a b) (o : Obj) : Ext a (b.alloc o) := Below.alloc h h.size o
theorem Ext.cell {w w' : World} (h : Ext w w') {p : Addr} {v : Value} (hc : w.cell? p = some v) : w'.cell? p = some v := by
  rw [Below.cell h (World.block_lt_of_cell? w _ hc)]; exact hc
theorem Ext.blk {w w' : World} (h : Ext w w') {k : Nat} {o : Obj} (hc : w.heap[k]? = some o) : w'.heap[k]? = some o := by
  rw [h.block k ((Array.getElem?_eq_some_iff.1 hc).1)]; exact hc

/-- Cells, one behind the other. -/
def RowAt (w : World) (a : Addr) (L : List Value) : Prop := ∀ j v, L[j]? = some v → w.cell? (a.add j) = some v
theorem RowAt.ext {w w' : World} {a : Addr} {L : List Value} (h : RowAt w a L) (he : Ext w w') : RowAt w' a L := fun j v hj => he.cell (h j v hj)
theorem vcells_iff {w : World} {a : Addr} : ∀ {L : List Value} {i : Nat}, vcells w a i L ↔ ∀ j v, L[j]? = some v → w.cell? (a.add (i + j)) = some v
  | [], i => by simp [vcells]
  | v :: L, i => by
    constructor
    · rintro ⟨h1, h2⟩ j u hj
      cases j with
      | zero => simp at hj; subst hj; exact h1
      | succ j => have := vcells_iff.1 h2 j u (by simpa using hj); rwa [show i + 1 + j = i + (j + 1) by omega] at this
    · intro h
      refine ⟨by simpa using h 0 v rfl, vcells_iff.2 fun j u hj => ?_⟩
      have := h (j + 1) u (by simpa using hj)
      rwa [show i + (j + 1) = i + 1 + j by omega] at this
theorem vcells_row {w : World} {a : Addr} {L : List Value} : vcells w a 0 L ↔ RowAt w a L := by
  rw [vcells_iff]; simp [RowAt]

theorem add_add (a : Addr) (hs : a.spot = none) (i j : Nat) : (a.add i).add j = a.add (i + j) := by
  obtain ⟨b, o, s⟩ := a
  simp only at hs
  subst hs
  unfold Addr.add
  by_cases h1 : i = 0
  · subst h1; simp
  · by_cases h2 : j = 0
    · subst h2; simp
    · simp [h1, h2, Nat.add_assoc]
theorem add_eq (b o i : Nat) : (⟨b, o, none⟩ : Addr).add i = ⟨b, o + i, none⟩ := by
  unfold Addr.add; split <;> simp_all
theorem add_spot (a : Addr) (hs : a.spot = none) (i : Nat) : (a.add i).spot = none := by
  unfold Addr.add; split <;> simp_all

/-- A slice that reads as these cells. -/
def SlAt (w : World) (a : Option Addr) (L : List Value) : Prop := L = [] ∨ ∃ ad, a = some ad ∧ ad.spot = none ∧ RowAt w ad L
theorem SlAt.ext {w w' : World} {a : Option Addr} {L : List Value} (h : SlAt w a L) (he : Ext w w') : SlAt w' a L :=
  h.imp id fun ⟨ad, h1, h2, h3⟩ => ⟨ad, h1, h2, h3.ext he⟩
theorem SlAt.at {w : World} {a : Option Addr} {L : List Value} (h : SlAt w a L) {j : Nat} (hj : j < L.length) : ∃ ad, a = some ad ∧ ad.spot = none ∧ RowAt w ad L := by
  rcases h with rfl | h
  · simp at hj
  · exact h

/-- A row of the call's own reads as its cells. -/
theorem own_row {w : World} {B e size n : Nat} {a : Option Addr} {c : Nat} {xs : List Value} (h : w.ownsRow B e size (.slice a n c) n xs) : SlAt w a xs := by
  rcases h.2 with ⟨hv, hn⟩ | ⟨g, cap, cur, hv, _⟩
  · left
    have := h.1
    rw [hn] at this
    exact List.eq_nil_of_length_eq_zero (by simpa using this)
  · right
    cases hv
    exact ⟨_, rfl, rfl, fun j v hj => h.cells (g := g) rfl j v hj⟩
theorem own_lt {w : World} {B e size n : Nat} {a : Option Addr} {c : Nat} {xs : List Value} (h : w.ownsRow B e size (.slice a n c) n xs) : ∀ k, (Value.slice a n c).ownBlock = some k → B ≤ k ∧ k < w.heap.size := World.ownsRow.lt h
theorem own_ext {w w' : World} {B e size n : Nat} {v : Value} {xs : List Value} (h : w.ownsRow B e size v n xs) (he : Ext w w') : w'.ownsRow B e size v n xs := by
  refine ⟨h.1, ?_⟩
  rcases h.2 with h2 | ⟨g, cap, cur, hv, hb, hg, r⟩
  · exact .inl h2
  · exact .inr ⟨g, cap, cur, hv, hb, he.blk hg, r⟩
theorem own_base {w : World} {B B' e size n : Nat} {v : Value} {xs : List Value} (h : w.ownsRow B e size v n xs) (hb : B' ≤ B) : w.ownsRow B' e size v n xs := by
  refine ⟨h.1, ?_⟩
  rcases h.2 with h2 | ⟨g, cap, cur, hv, hg, r⟩
  · exact .inl h2
  · exact .inr ⟨g, cap, cur, hv, Nat.le_trans hb hg, r⟩
/-- A row written out whole. -/
theorem own_lit (w : World) (L : List Value) (e size n : Nat) (hs : L.length = n * size) (hm : n ≤ maxLen) :
    (w.alloc (.cells L.toArray e)).ownsRow w.heap.size e size (.slice (some ⟨w.heap.size, 0, none⟩) n n) n L := by
  refine ⟨hs, .inr ⟨w.heap.size, n, L.toArray, rfl, Nat.le_refl _, heap_alloc_new w _, Nat.le_refl _, hm, by simpa using hs, ?_⟩⟩
  simp [← hs]

theorem alloc_new_cell (w : World) (L : List Value) (e : Nat) (j : Nat) : (w.alloc (.cells L.toArray e)).cell? ⟨w.heap.size, j, none⟩ = L[j]? := by
  rw [cell_of_row _ _ _ _ _ _ (heap_alloc_new w _)]; simp
theorem alloc_new_row (w : World) (L : List Value) (e : Nat) : RowAt (w.alloc (.cells L.toArray e)) ⟨w.heap.size, 0, none⟩ L := fun j v hj => by
  rw [add_eq, Nat.zero_add, alloc_new_cell]; exact hj
theorem alloc_new_free (w : World) (L : List Value) (e j : Nat) : (w.alloc (.cells L.toArray e)).frozen? ⟨w.heap.size, j, none⟩ = false :=
  frozen_of_row _ _ _ _ _ (heap_alloc_new w _)
theorem size_alloc (w : World) (o : Obj) : (w.alloc o).heap.size = w.heap.size + 1 := World.size_alloc w o
theorem size_drew (w : World) : w.drew.heap.size = w.heap.size := rfl
theorem size_setCell (w : World) (a : Addr) (v : Value) : (w.setCell a v).heap.size = w.heap.size := by simp [World.setCell]

/-- One cell behind a store. -/
theorem cell_set_ne {w : World} {a b : Addr} {v u : Value} (h : w.cell? b = some u) (hne : a.block ≠ b.block ∨ a.off ≠ b.off) : (w.setCell a v).cell? b = some u := by
  unfold World.cell? at h ⊢
  simp only [World.setCell, Array.getElem?_modify]
  by_cases hab : a.block = b.block
  · have ho : a.off ≠ b.off := hne.resolve_left (fun h => h hab)
    simp only [hab, if_true]
    cases hb : w.heap[b.block]? with
    | none => rw [hb] at h; cases h
    | some o =>
      rw [hb] at h
      cases o with
      | cells c e f =>
        by_cases hs : b.spot.isSome = true
        · simp [hs] at h
        · have h2 : c[b.off]? = some u := by simpa [hs] using h
          simp only [Option.map_some]
          by_cases ha : a.spot.isSome = true
          · simp [hs, ha, h2]
          · simp [hs, ha, ho, h2]
      | _ => cases h
  · rw [if_neg hab]; exact h
theorem cell_set_eq {w : World} {a : Addr} {v u : Value} (h : w.cell? a = some u) : (w.setCell a v).cell? a = some v := by
  unfold World.cell? at h ⊢
  simp only [World.setCell, Array.getElem?_modify, if_true]
  cases hb : w.heap[a.block]? with
  | none => rw [hb] at h; cases h
  | some o =>
    rw [hb] at h
    cases o with
    | cells c e f =>
      by_cases hs : a.spot.isSome = true
      · simp [hs] at h
      · have h2 : c[a.off]? = some u := by simpa [hs] using h
        have hlt := (Array.getElem?_eq_some_iff.1 h2).1
        simp [hs, hlt]
    | _ => cases h
theorem blk_set_ne {w : World} {a : Addr} {v : Value} {k : Nat} (h : k ≠ a.block) : (w.setCell a v).heap[k]? = w.heap[k]? := Below.heap_setCell w a v k h

/-- Behind an append: what lies below the row's base is as it was. -/
theorem AppRes.below {w0 w w' : World} {B base e size n c m : Nat} {a a' : Option Addr} {c' : Nat} {xs news : List Value} (r : AppRes w w' base e size a n c xs m news a' c')
    (hown : w.ownsRow base e size (.slice a n c) n xs) (h0 : Below B w0 w) (hB : B ≤ w.heap.size) (hb : B ≤ base) : Below B w0 w' :=
  Below.grown h0 r.grown hB fun k hk => Nat.le_trans hb (own_lt hown k hk).1

/-- An element is appended to a row that has no room. -/
theorem AppOk.full {w : World} {base e size bytes n c : Nat} {ad : Addr} {xs L : List Value} (hx : xs.length = n * size) (hrow : RowAt w ad xs) (hc : c < n + 1) (hl : L.length = size) (hp : plainCells L = true)
    (hm : n + 1 ≤ maxLen) (hby : (n + 1) * bytes ≤ 140737488355328) (hb : base ≤ w.heap.size) :
    AppOk (w.alloc (.cells L.toArray e)) base e size bytes (some ad) n c xs (some ⟨w.heap.size, 0, none⟩) 1 L where
  own := .inr ⟨Nat.one_pos, hc, hx, ad, rfl, hrow.ext ((Ext.refl w).alloc _)⟩
  len := by simpa using hl
  src := .inr ⟨_, rfl, vcells_row.2 (alloc_new_row w L e)⟩
  plain := hp
  max := hm
  bytes := hby
  base := by rw [size_alloc]; omega

/-- An element of one row may be appended. -/
theorem AppOk.one {w : World} {base e size bytes n c : Nat} {a : Option Addr} {xs L : List Value} (hown : w.ownsRow base e size (.slice a n c) n xs) (hl : L.length = size) (hp : plainCells L = true)
    (hm : n + 1 ≤ maxLen) (hby : (n + 1) * bytes ≤ 140737488355328) (hb : base ≤ w.heap.size) :
    AppOk (w.alloc (.cells L.toArray e)) base e size bytes a n c xs (some ⟨w.heap.size, 0, none⟩) 1 L where
  own := .inl (own_ext hown ((Ext.refl w).alloc _))
  len := by simpa using hl
  src := .inr ⟨_, rfl, vcells_row.2 (alloc_new_row w L e)⟩
  plain := hp
  max := hm
  bytes := hby
  base := by rw [size_alloc]; omega
end Go.V
