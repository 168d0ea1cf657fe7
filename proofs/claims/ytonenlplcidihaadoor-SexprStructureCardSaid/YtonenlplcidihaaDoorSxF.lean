/- Part of the proof: SxF. -/
import Derived.Test.YtonenlplcidihaaDoorSxS
/-! Forests of items. -/
namespace Go.Proofs.Sx
open Go Go.V Go.Proofs
set_option maxRecDepth 100000

inductive Fo where
  | nil
  | leaf (kind : Int) (text : ByteArray) (rest : Fo)
  | list (kids : Fo) (rest : Fo)
namespace Fo
/-- How many items stand side by side. -/
def cnt : Fo → Nat
  | nil => 0
  | leaf _ _ r => r.cnt + 1
  | list _ r => r.cnt + 1
/-- The items in their order. -/
def flat : Fo → List It
  | nil => []
  | leaf k t r => ⟨k, t, 0, 0⟩ :: r.flat
  | list c r => ⟨5, mk [], c.cnt, 0⟩ :: (c.flat ++ r.flat)
def dep : Fo → Nat
  | nil => 0
  | leaf _ _ r => r.dep
  | list c r => max (c.dep + 1) r.dep
def app : Fo → Fo → Fo
  | nil, g => g
  | leaf k t r, g => leaf k t (r.app g)
  | list c r, g => list c (r.app g)
theorem app_cnt (f g : Fo) : (f.app g).cnt = f.cnt + g.cnt := by
  induction f with
  | nil => simp [app, cnt]
  | leaf k t r ih => simp only [app, cnt, ih]; omega
  | list c r _ ih => simp only [app, cnt, ih]; omega
theorem app_flat (f g : Fo) : (f.app g).flat = f.flat ++ g.flat := by
  induction f with
  | nil => simp [app, flat]
  | leaf k t r ih => simp [app, flat, ih]
  | list c r _ ih => simp [app, flat, ih]
theorem cnt_le (f : Fo) : f.cnt ≤ f.flat.length := by
  induction f with
  | nil => simp [cnt, flat]
  | leaf k t r ih => simp only [cnt, flat, List.length_cons]; omega
  | list c r _ ih => simp only [cnt, flat, List.length_cons, List.length_append]; omega
end Fo
end Go.Proofs.Sx
