/- Part of the proof: SxL2. -/
import Derived.Test.YtonenlplcidihaaDoorSxL
/-! Each item of a forest is a root or the child of one: counted. SexprStructure. -/
namespace Go.Proofs.Sx
open Go Go.V Go.Proofs Go.RowKit
set_option maxRecDepth 100000

/-- Each item's elements. -/
def allKids : Nat → Fo → List (List Nat)
  | _, .nil => []
  | p, .leaf _ _ r => [] :: allKids (p + 1) r
  | p, .list c r => starts (p + 1) c :: (allKids (p + 1) c ++ allKids (p + (c.flat.length + 1)) r)
theorem allKids_len : ∀ (f : Fo) (p : Nat), (allKids p f).length = f.flat.length
  | .nil, _ => rfl
  | .leaf k t f, p => by simp [allKids, Fo.flat, allKids_len f]
  | .list c f, p => by simp [allKids, Fo.flat, allKids_len c, allKids_len f]
theorem starts_bd : ∀ (f : Fo) (p : Nat), ∀ y ∈ starts p f, p ≤ y ∧ y < p + f.flat.length
  | .nil, _, y, h => by cases h
  | .leaf k t f, p, y, h => by
    have h' : y ∈ p :: starts (p + 1) f := h
    have e : (Fo.leaf k t f).flat.length = f.flat.length + 1 := rfl
    rcases List.mem_cons.1 h' with rfl | h'
    · omega
    · have := starts_bd f _ y h'; omega
  | .list c f, p, y, h => by
    have h' : y ∈ p :: starts (p + (c.flat.length + 1)) f := h
    have e : (Fo.list c f).flat.length = c.flat.length + f.flat.length + 1 := by simp [Fo.flat]
    rcases List.mem_cons.1 h' with rfl | h'
    · omega
    · have := starts_bd f _ y h'; omega
def one (p n x : Nat) : Nat := if p ≤ x ∧ x < p + n then 1 else 0
theorem count_one : ∀ (f : Fo) (p x : Nat), List.count x (starts p f) + List.count x (allKids p f).flatten = one p f.flat.length x
  | .nil, p, x => by show 0 + 0 = _; unfold one; rw [if_neg (by show ¬ (p ≤ x ∧ x < p + 0); omega)]
  | .leaf k t f, p, x => by
    have ih := count_one f (p + 1) x
    show List.count x (p :: starts (p + 1) f) + List.count x ([] ++ (allKids (p + 1) f).flatten) = one p (f.flat.length + 1) x
    rw [List.count_cons, List.nil_append]
    unfold one at ih ⊢
    by_cases hx : p = x
    · subst hx
      rw [if_neg (by omega)] at ih
      have h2 : p ≤ p ∧ p < p + (f.flat.length + 1) := by omega
      simp only [beq_self_eq_true, if_true, h2, and_self]
      omega
    · have : (p == x) = false := by simpa using hx
      rw [this]
      simp only [Bool.false_eq_true, if_false]
      split at ih <;> split <;> omega
  | .list c f, p, x => by
    have ih1 := count_one c (p + 1) x
    have ih2 := count_one f (p + (c.flat.length + 1)) x
    have e : (Fo.list c f).flat.length = c.flat.length + f.flat.length + 1 := by simp [Fo.flat]
    show List.count x (p :: starts (p + (c.flat.length + 1)) f) + List.count x (starts (p + 1) c :: (allKids (p + 1) c ++ allKids (p + (c.flat.length + 1)) f)).flatten = _
    rw [e, List.count_cons, List.flatten_cons, List.count_append, List.flatten_append, List.count_append]
    unfold one at ih1 ih2 ⊢
    by_cases hx : p = x
    · subst hx
      rw [if_neg (by omega)] at ih1 ih2
      have h2 : p ≤ p ∧ p < p + (c.flat.length + f.flat.length + 1) := by omega
      simp only [beq_self_eq_true, if_true, h2, and_self]
      omega
    · have : (p == x) = false := by simpa using hx
      rw [this]
      simp only [Bool.false_eq_true, if_false]
      split at ih1 <;> split at ih2 <;> split <;> omega
/-- The elements of the item at i. -/
theorem allKids_get {L : List It} : ∀ (f : Fo) {j : Nat}, Here L j f → ∀ {i : Nat}, i < f.flat.length → ∃ g : Fo, 0 < g.cnt ∧ Here L (j + i) g ∧ (allKids j f)[i]? = some (starts (j + i + 1) g.sub) ∧ (j + i) + g.hlen ≤ j + f.flat.length
  | .nil, j, hh, i, h => by simp [Fo.flat] at h
  | .leaf k t f, j, hh, i, h => by
    have e : (Fo.leaf k t f).flat.length = f.flat.length + 1 := rfl
    cases i with
    | zero => exact ⟨.leaf k t f, Nat.succ_pos _, hh, rfl, by show j + 0 + 1 ≤ _; omega⟩
    | succ i =>
      obtain ⟨g, a, b, c, d⟩ := allKids_get f (hh.next (Nat.succ_pos _)) (i := i) (by omega)
      have e2 : j + (Fo.leaf k t f).hlen + i = j + (i + 1) := by show j + 1 + i = _; omega
      rw [e2] at b c d
      refine ⟨g, a, b, c, ?_⟩
      have : (Fo.leaf k t f).hlen = 1 := rfl
      omega
  | .list c f, j, hh, i, h => by
    have e : (Fo.list c f).flat.length = c.flat.length + f.flat.length + 1 := by simp [Fo.flat]
    have e3 : (Fo.list c f).hlen = c.flat.length + 1 := rfl
    cases i with
    | zero => exact ⟨.list c f, Nat.succ_pos _, hh, rfl, by rw [e3]; omega⟩
    | succ i =>
      show ∃ g : Fo, _ ∧ _ ∧ (starts (j + 1) c :: (allKids (j + 1) c ++ allKids (j + (c.flat.length + 1)) f))[i + 1]? = _ ∧ _
      rw [List.getElem?_cons_succ]
      by_cases hi : i < c.flat.length
      · obtain ⟨g, a, b, d, d2⟩ := allKids_get c (hh.sub (Nat.succ_pos _)) hi
        rw [List.getElem?_append_left (by rw [allKids_len]; exact hi)]
        have e2 : j + 1 + i = j + (i + 1) := by omega
        have d' : (allKids (j + 1) c)[i]? = _ := d
        rw [e2] at b d' d2
        have hsub : (Fo.list c f).sub.flat.length = c.flat.length := rfl
        exact ⟨g, a, b, d', by omega⟩
      · rw [List.getElem?_append_right (by rw [allKids_len]; omega), allKids_len]
        obtain ⟨g, a, b, d, d2⟩ := allKids_get f (hh.next (Nat.succ_pos _)) (i := i - c.flat.length) (by omega)
        have e2 : j + (Fo.list c f).hlen + (i - c.flat.length) = j + (i + 1) := by rw [e3]; omega
        have d' : (allKids (j + (c.flat.length + 1)) f)[i - c.flat.length]? = _ := d
        rw [e2] at b d' d2
        exact ⟨g, a, b, d', by rw [e3] at d2; have : (Fo.list c f).next.flat.length = f.flat.length := rfl; omega⟩

/-- How often each index stands in a list. -/
def times (n : Nat) (S : List Nat) : List Nat := (List.range n).map fun x => List.count x S
theorem times_get {n x : Nat} (h : x < n) (S : List Nat) : (times n S)[x]? = some (List.count x S) := by
  rw [times, List.getElem?_map, List.getElem?_range h]; rfl
theorem times_set {n y : Nat} (S : List Nat) : (times n S).set y (List.count y S + 1) = times n (S ++ [y]) := by
  apply List.ext_getElem?
  intro i
  rw [List.getElem?_set]
  by_cases hi : i < n
  · rw [times_get hi, times_get hi, List.count_append, List.count_singleton]
    by_cases hy : y = i
    · subst hy
      rw [if_pos rfl, if_pos (by simpa [times] using hi)]
      simp
    · rw [if_neg hy]
      simp [hy]
  · have h1 : (times n S)[i]? = none := by rw [times, List.getElem?_map, List.getElem?_eq_none (by rw [List.length_range]; omega)]; rfl
    have h2 : (times n (S ++ [y]))[i]? = none := by rw [times, List.getElem?_map, List.getElem?_eq_none (by rw [List.length_range]; omega)]; rfl
    rw [h1, h2]
    split
    · rw [if_neg (by simpa [times] using by omega)]
    · rfl
theorem times_nil (n : Nat) : times n [] = List.replicate n 0 := by
  unfold times
  simp only [List.count_nil]
  rw [List.map_const', List.length_range]
theorem made_zero (n : Nat) : madeCells (Value.int .i64 0).cells n = (nats (times n [])).toArray := by
  rw [times_nil]
  apply Array.ext
  · simp [madeCells, nats]
  · intro i h1 h2
    simp [madeCells, nats, Value.cells, Nat.mod_one]
end Go.Proofs.Sx
