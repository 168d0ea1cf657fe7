/- Part of the proof: V1. -/
import Derived.Tactics
import Derived.Deep.Quiet
import Derived.Below
import Derived.Laws.Entries
/-! The walk as a function: `vcode` turns a body's code into a statement about its values and the memory; `vcode_sound` takes that statement to the walk. -/
namespace Go.V
open Go

/-! ### what an operation asks of the world -/

/-- What the tape may answer. -/
def qOk : Question → Nat → Prop
  | .appendCap need _ _, n => need ≤ n ∧ (need < 2 ^ 63 → n < 2 ^ 63)
  | .zeroSizeEq, n => n < 2
  | .extern _ r, n => r = 0 ∨ n < r
  | _, _ => True

/-- The statement that a piece of semantics ends well, and with what. -/
def swp {α : Type} (P : Program) : Sem α → World → (α → World → Prop) → Prop
  | .pure a, w, K => K a w
  | .load _ a k, w, K => ∃ v, w.cell? a = some v ∧ swp P (k v) w K
  | .store _ _ (.agg _) _, _, _ => False
  | .store _ _ (.tuple _) _, _, _ => False
  | .store _ a v k, w, K => (∃ u, w.cell? a = some u) ∧ w.frozen? a = false ∧ swp P k (w.setCell a v) K
  | .new o k, w, K => swp P (k w.heap.size) (w.alloc o) K
  | .shape r k, w, K => swp P (k (w.shape? r)) w K
  | .freeze a n k, w, K => swp P k (w.freeze a n) K
  | .frozen a k, w, K => swp P (k (w.frozen? a)) w K
  | .getObj r k, w, K => ∃ o, w.heap[r]? = some o ∧ (∀ c e f, o ≠ .cells c e f) ∧ swp P (k o) w K
  | .setObj r o k, w, K => (∃ u, w.heap[r]? = some u ∧ ∀ c e f, u ≠ .cells c e f) ∧ swp P k { w with heap := w.heap.setIfInBounds r o } K
  | .choose q k, w, K => (q.forced = true → swp P (k 0) w K) ∧ (q.forced = false → ∀ n, qOk q n → swp P (k n) w.drew K)
  | .sys _ _, _, _ => False
  | .program k, w, K => swp P (k P) w K
  | .mark _ k, w, K => swp P k w K
  | .halt _, _, _ => False

theorem qOk_cut (q : Question) (t : Nat) : qOk q (q.cut t) := by
  cases q with
  | appendCap need old e =>
    refine ⟨Nat.le_add_right _ _, fun h => ?_⟩
    show need + t % (2 ^ 63 - need) < 2 ^ 63
    have := Nat.mod_lt t (show 0 < 2 ^ 63 - need by omega)
    omega
  | zeroSizeEq => exact Nat.mod_lt _ (by decide)
  | «extern» s r =>
    by_cases h : r = 0
    · exact .inl h
    · right
      show (if r = 0 then t else t % r) < r
      rw [if_neg h]
      exact Nat.mod_lt _ (by omega)
  | _ => trivial

theorem swp_sound {α : Type} (P : Program) : ∀ (s : Sem α) (w : World) (K : α → World → Prop), swp P s w K → ∃ a w', s.run P w = .ok a w' ∧ K a w' := by
  intro s
  induction s with
  | pure a => intro w K h; exact ⟨a, w, rfl, h⟩
  | load m a k ih =>
    intro w K h
    obtain ⟨v, hv, h⟩ := h
    obtain ⟨x, w', hr, hk⟩ := ih v w K h
    exact ⟨x, w', by simp only [Sem.run, hv]; exact hr, hk⟩
  | store m a v k ih =>
    intro w K h
    cases v with
    | agg c => exact h.elim
    | tuple c => exact h.elim
    | _ =>
      obtain ⟨⟨u, hu⟩, hf, h⟩ := h
      obtain ⟨x, w', hr, hk⟩ := ih _ K h
      exact ⟨x, w', by simp only [Sem.run, hu, hf]; exact hr, hk⟩
  | new o k ih =>
    intro w K h
    obtain ⟨x, w', hr, hk⟩ := ih _ _ K h
    exact ⟨x, w', hr, hk⟩
  | shape r k ih => intro w K h; obtain ⟨x, w', hr, hk⟩ := ih _ _ K h; exact ⟨x, w', hr, hk⟩
  | freeze a n k ih => intro w K h; obtain ⟨x, w', hr, hk⟩ := ih _ K h; exact ⟨x, w', hr, hk⟩
  | frozen a k ih => intro w K h; obtain ⟨x, w', hr, hk⟩ := ih _ _ K h; exact ⟨x, w', hr, hk⟩
  | getObj r k ih =>
    intro w K h
    obtain ⟨o, ho, hn, h⟩ := h
    obtain ⟨x, w', hr, hk⟩ := ih _ _ K h
    refine ⟨x, w', ?_, hk⟩
    simp only [Sem.run, ho]
    cases o with
    | cells c e f => exact absurd rfl (hn c e f)
    | _ => exact hr
  | setObj r o k ih =>
    intro w K h
    obtain ⟨⟨u, hu, hn⟩, h⟩ := h
    obtain ⟨x, w', hr, hk⟩ := ih _ K h
    refine ⟨x, w', ?_, hk⟩
    simp only [Sem.run, hu]
    cases u with
    | cells c e f => exact absurd rfl (hn c e f)
    | _ => exact hr
  | choose q k ih =>
    intro w K h
    cases hq : q.forced with
    | true =>
      obtain ⟨x, w', hr, hk⟩ := ih _ _ K (h.1 hq)
      exact ⟨x, w', by simp only [Sem.run, hq, if_true]; exact hr, hk⟩
    | false =>
      obtain ⟨x, w', hr, hk⟩ := ih _ _ K (h.2 hq _ (qOk_cut q (w.tape w.drawn q)))
      exact ⟨x, w', by simp only [Sem.run, hq]; exact hr, hk⟩
  | sys c k ih => intro w K h; exact h.elim
  | program k ih => intro w K h; obtain ⟨x, w', hr, hk⟩ := ih _ _ K h; exact ⟨x, w', hr, hk⟩
  | mark m k ih => intro w K h; obtain ⟨x, w', hr, hk⟩ := ih _ K h; exact ⟨x, w', hr, hk⟩
  | halt h => intro w K h; exact h.elim

theorem swp_mono {α : Type} (P : Program) : ∀ (s : Sem α) (w : World) (K K' : α → World → Prop), (∀ a w, K a w → K' a w) → swp P s w K → swp P s w K' := by
  intro s
  induction s with
  | pure a => intro w K K' hk h; exact hk _ _ h
  | load m a k ih => intro w K K' hk ⟨v, hv, h⟩; exact ⟨v, hv, ih _ _ _ _ hk h⟩
  | store m a v k ih =>
    intro w K K' hk h
    cases v with
    | agg c => exact h.elim
    | tuple c => exact h.elim
    | _ => exact ⟨h.1, h.2.1, ih _ _ _ hk h.2.2⟩
  | new o k ih => intro w K K' hk h; exact ih _ _ _ _ hk h
  | shape r k ih => intro w K K' hk h; exact ih _ _ _ _ hk h
  | freeze a n k ih => intro w K K' hk h; exact ih _ _ _ hk h
  | frozen a k ih => intro w K K' hk h; exact ih _ _ _ _ hk h
  | getObj r k ih => intro w K K' hk ⟨o, ho, hn, h⟩; exact ⟨o, ho, hn, ih _ _ _ _ hk h⟩
  | setObj r o k ih => intro w K K' hk ⟨hu, h⟩; exact ⟨hu, ih _ _ _ hk h⟩
  | choose q k ih => intro w K K' hk h; exact ⟨fun hq => ih _ _ _ _ hk (h.1 hq), fun hq n hn => ih _ _ _ _ hk (h.2 hq n hn)⟩
  | sys c k ih => intro w K K' hk h; exact h.elim
  | program k ih => intro w K K' hk h; exact ih _ _ _ _ hk h
  | mark m k ih => intro w K K' hk h; exact ih _ _ _ hk h
  | halt h => intro w K K' hk h; exact h.elim

theorem swp_bind {α β : Type} (P : Program) (f : α → Sem β) : ∀ (s : Sem α) (w : World) (K : β → World → Prop), swp P s w (fun a w' => swp P (f a) w' K) → swp P (s >>= f) w K := by
  intro s
  show ∀ (w : World) (K : β → World → Prop), swp P s w (fun a w' => swp P (f a) w' K) → swp P (s.bind f) w K
  induction s with
  | pure a => intro w K h; exact h
  | load m a k ih => intro w K ⟨v, hv, h⟩; exact ⟨v, hv, ih _ _ _ h⟩
  | store m a v k ih =>
    intro w K h
    cases v with
    | agg c => exact h.elim
    | tuple c => exact h.elim
    | _ => exact ⟨h.1, h.2.1, ih _ _ h.2.2⟩
  | new o k ih => intro w K h; exact ih _ _ _ h
  | shape r k ih => intro w K h; exact ih _ _ _ h
  | freeze a n k ih => intro w K h; exact ih _ _ h
  | frozen a k ih => intro w K h; exact ih _ _ _ h
  | getObj r k ih => intro w K ⟨o, ho, hn, h⟩; exact ⟨o, ho, hn, ih _ _ _ h⟩
  | setObj r o k ih => intro w K ⟨hu, h⟩; exact ⟨hu, ih _ _ h⟩
  | choose q k ih => intro w K h; exact ⟨fun hq => ih _ _ _ (h.1 hq), fun hq n hn => ih _ _ _ (h.2 hq n hn)⟩
  | sys c k ih => intro w K h; exact h.elim
  | program k ih => intro w K h; exact ih _ _ _ h
  | mark m k ih => intro w K h; exact ih _ _ h
  | halt h => intro w K h; exact h.elim
end Go.V
