/- Part of the proof: V10. -/
import Derived.Test.YtonenlplcidihaaDoorV9
import Derived.OneCell
/-! Rows of the call's own, side by side. -/
namespace Go.V
open Go Go.RowKit

theorem own_ne {w : World} {B e e' size n rb : Nat} {v : Value} {xs : List Value} {c : Array Value} {f : Nat × Nat} (h : w.ownsRow B e size v n xs) (hr : w.heap[rb]? = some (.cells c e' f)) (he : e ≠ e') :
    v.ownBlock ≠ some rb := by
  intro hk
  rcases h.2 with ⟨rfl, _⟩ | ⟨g, cap, cur, rfl, _, hg, _⟩
  · cases hk
  · cases hk
    rw [hg] at hr
    cases hr
    exact he rfl
theorem own_ne2 {w : World} {B B' e e' size size' n n' : Nat} {v v' : Value} {xs xs' : List Value} (h : w.ownsRow B e size v n xs) (h' : w.ownsRow B' e' size' v' n' xs') (he : e ≠ e') :
    ∀ k, v.ownBlock = some k → v'.ownBlock ≠ some k := by
  intro k hk
  rcases h.2 with ⟨rfl, _⟩ | ⟨g, cap, cur, rfl, _, hg, _⟩
  · cases hk
  · cases hk
    exact own_ne h' hg (Ne.symm he)
theorem own_keep {w w' : World} {B e size n : Nat} {v : Value} {xs : List Value} (h : w.ownsRow B e size v n xs) (hk : ∀ k, v.ownBlock = some k → w'.heap[k]? = w.heap[k]?) : w'.ownsRow B e size v n xs := by
  refine ⟨h.1, ?_⟩
  rcases h.2 with h2 | ⟨g, cap, cur, rfl, hb, hg, r⟩
  · exact .inl h2
  · exact .inr ⟨g, cap, cur, rfl, hb, by rw [hk g rfl]; exact hg, r⟩
theorem own_other {w : World} {B e size n : Nat} {v : Value} {xs : List Value} (h : w.ownsRow B e size v n xs) {a : Addr} (ha : v.ownBlock ≠ some a.block) (u : Value) : (w.setCell a u).ownsRow B e size v n xs :=
  own_keep h fun k hk => blk_set_ne fun e => ha (by rw [hk, e])
/-- The block behind a store into it. -/
theorem blk_set_eq {w : World} {b j : Nat} {c : Array Value} {e : Nat} {f : Nat × Nat} (h : w.heap[b]? = some (.cells c e f)) (v : Value) :
    (w.setCell ⟨b, j, none⟩ v).heap[b]? = some (.cells (c.setIfInBounds j v) e f) := by
  simp only [World.setCell, Array.getElem?_modify, if_true]
  rw [h]
  simp
theorem blk_cell {w : World} {b j : Nat} {c : Array Value} {e : Nat} {f : Nat × Nat} (h : w.heap[b]? = some (.cells c e f)) : w.cell? ⟨b, j, none⟩ = c[j]? := cell_of_row _ _ _ _ _ _ h
theorem blk_free {w : World} {b j : Nat} {c : Array Value} {e : Nat} (h : w.heap[b]? = some (.cells c e (0, 0))) : w.frozen? ⟨b, j, none⟩ = false := frozen_of_row _ _ _ _ _ h
/-- A cell of a row is set. -/
theorem own_set {w : World} {B e size n i : Nat} {v : Value} {xs : List Value} (h : w.ownsRow B e size v n xs) {g : Nat} (hg : v.ownBlock = some g) (u : Value) :
    (w.setCell ⟨g, i, none⟩ u).ownsRow B e size v n (xs.set i u) := by
  refine ⟨by rw [List.length_set]; exact h.1, ?_⟩
  rcases h.2 with ⟨rfl, _⟩ | ⟨g', cap, cur, rfl, hb, hgg, hnc, hm, hs, ht⟩
  · cases hg
  · cases hg
    refine .inr ⟨_, cap, _, rfl, hb, blk_set_eq hgg u, hnc, hm, by simpa using hs, ?_⟩
    rw [Array.toList_setIfInBounds, List.take_set, ht]
theorem own_free {w : World} {B e size n : Nat} {v : Value} {xs : List Value} (h : w.ownsRow B e size v n xs) {g : Nat} (hg : v.ownBlock = some g) (j : Nat) : w.frozen? ⟨g, j, none⟩ = false := by
  rcases h.2 with ⟨rfl, _⟩ | ⟨g', cap, cur, rfl, _, hgg, _⟩
  · cases hg
  · cases hg; exact blk_free hgg
/-- The row is cut off behind. -/
theorem own_cut {w : World} {B e size n m c : Nat} {a : Option Addr} {xs : List Value} (h : w.ownsRow B e size (.slice a n c) n xs) (hm : m ≤ n) : w.ownsRow B e size (.slice a m c) m (xs.take (m * size)) := by
  have hle : m * size ≤ n * size := Nat.mul_le_mul_right _ hm
  refine ⟨by rw [List.length_take, h.1]; omega, ?_⟩
  rcases h.2 with ⟨hv, hn⟩ | ⟨g, cap, cur, hv, hb, hg, hnc, hx, hs, ht⟩
  · cases hv
    left
    have : m = 0 := by omega
    subst this
    exact ⟨rfl, rfl⟩
  · cases hv
    refine .inr ⟨g, c, cur, rfl, hb, hg, by omega, hx, hs, ?_⟩
    rw [← ht, List.take_take]
    congr 1
    omega
/-- Where a row that is not empty lies. -/
theorem own_some {w : World} {B e size n n' c : Nat} {a : Option Addr} {xs : List Value} (h : w.ownsRow B e size (.slice a n' c) n xs) (hn : 0 < n) : ∃ g, a = some ⟨g, 0, none⟩ ∧ (Value.slice a n' c).ownBlock = some g ∧ n' = n ∧ n ≤ c := by
  rcases h.2 with ⟨_, h0⟩ | ⟨g, cap, cur, hv, _, _, hnc, _⟩
  · omega
  · cases hv
    exact ⟨g, rfl, rfl, rfl, hnc⟩
theorem own_len {w : World} {B e size n n' c : Nat} {a : Option Addr} {xs : List Value} (h : w.ownsRow B e size (.slice a n' c) n xs) : n' = n := by
  rcases h.2 with ⟨hv, h0⟩ | ⟨g, cap, cur, hv, _⟩
  · cases hv; exact h0.symm
  · cases hv; rfl
theorem own_cap {w : World} {B e size n n' c : Nat} {a : Option Addr} {xs : List Value} (h : w.ownsRow B e size (.slice a n' c) n xs) : n' ≤ c := by
  rcases h.2 with ⟨hv, h0⟩ | ⟨g, cap, cur, hv, _, _, hnc, _⟩
  · cases hv; exact Nat.le_refl _
  · cases hv; exact hnc
/-- What an append leaves alone. -/
theorem grown_blk {w w' : World} {row : Option Nat} (h : w.grownBy w' row) {k : Nat} {o : Obj} (hk : w.heap[k]? = some o) (hr : row ≠ some k) : w'.heap[k]? = some o := by
  rw [h.block k (Array.getElem?_eq_some_iff.1 hk).1 (Ne.symm hr)]; exact hk
theorem own_grown {w w' : World} {row : Option Nat} (h : w.grownBy w' row) {B e size n : Nat} {v : Value} {xs : List Value} (ho : w.ownsRow B e size v n xs) (hr : ∀ k, v.ownBlock = some k → row ≠ some k) : w'.ownsRow B e size v n xs :=
  own_keep ho fun k hk => h.block k (World.ownsRow.lt ho k hk).2 (Ne.symm (hr k hk))
/-- A store into what was just laid. -/
theorem setCell_alloc (w : World) (c : Array Value) (e j : Nat) (v : Value) : (w.alloc (.cells c e)).setCell ⟨w.heap.size, j, none⟩ v = w.alloc (.cells (c.setIfInBounds j v) e) := by
  have h : (w.heap.push (.cells c e)).modify w.heap.size (fun o => match o with | .cells c e f => .cells (c.setIfInBounds j v) e f | o => o) = w.heap.push (.cells (c.setIfInBounds j v) e) := by
    apply Array.ext
    · simp
    · intro i h1 h2
      rw [Array.getElem_modify]
      simp only [Array.size_push] at h2
      by_cases hi : i = w.heap.size
      · subst hi; simp
      · rw [if_neg (Ne.symm hi), Array.getElem_push_lt (by omega), Array.getElem_push_lt (by omega)]
  unfold World.setCell World.alloc
  simp only
  rw [← h]
  congr 1
end Go.V
