/- Part of the proof: SxG5. -/
import Derived.Test.YtonenlplcidihaaDoorSxG4
/-! A sequence is drawn. -/
namespace Go.Proofs.Sx
open Go Go.V Go.Proofs Go.RowKit
set_option maxRecDepth 100000

theorem ext_tn {w w1 w3 : World} (he : Ext w w1) (h : Tn w.heap.size w1 w3) : Ext w w3 :=
  ⟨h.os.trans he.os, h.tape.trans he.tape, h.output.trans he.output, Nat.le_trans he.size h.size, fun i hi =>
    (h.block i (Nat.lt_of_lt_of_le hi he.size) (fun e => by have := Option.some.inj e; omega)).trans (he.block i hi)⟩
/-- What sequence hands back. -/
def SeqRes (w : World) (v : Value) (w' : World) : Prop :=
  ∃ (f : Fo) (A : Option Addr) (C : Nat), f.good ∧ f.dep ≤ 4 ∧ f.flat.length ≤ 363 ∧ v = .slice A f.flat.length C ∧ w'.ownsRow w.heap.size 34 4 (.slice A f.flat.length C) f.flat.length (itcs f.flat)

theorem c14 {lA : Option Addr} {lN lC : Nat} {l : List Int} {w : World} (hl : l.length = lN) (hc : lN ≤ lC) (h : SlAt w lA (l.map fun n => .int .i64 n)) :
    Ret Tryd.prog 14 #[.slice lA lN lC] w fun v w' => SeqRes w v w' ∧ Ext w w' := by
  refine run14 _ _ _ _ _ (Called.of (c29 hl hc h) ?_)
  rintro v w1 ⟨rfl, hc1, he1⟩
  refine ⟨_, rfl, Called.of (c30 hc1 4 (by decide) (by decide)) ?_⟩
  rintro v w2 ⟨⟨m1, rfl, hm1⟩, hc2, ht2⟩
  have hcb := hc1.lt
  refine ⟨_, rfl, fun vals w3 => ∃ (m : Nat) (c : Fo) (p : Option Addr) (k1 : Nat), vals = [.int .i64 m, .slice p c.flat.length k1] ∧
    w3.ownsRow w1.heap.size 34 4 (.slice p c.flat.length k1) c.flat.length (itcs c.flat) ∧ c.good ∧ c.dep ≤ 4 ∧ c.cnt + m ≤ 3 ∧ c.flat.length ≤ c.cnt * 121 ∧ Ch w.heap.size w3 ∧ Tn w.heap.size w1 w3, muH,
    ⟨m1, .nil, none, 0, rfl, ⟨rfl, .inl ⟨rfl, rfl⟩⟩, trivial, Nat.zero_le _, by show 0 + m1 ≤ 3; omega, Nat.zero_le _, hc2, ht2⟩, ?_⟩
  rintro n1 p k k1 w3 ⟨m, c, p', k1', hv, ho, hg, hd', hcm, hfl, hc3, ht3⟩
  cases hv
  refine cond_dec (fun hpos => ?_) (fun hz => ?_)
  · refine Called.of (c31 4 (Nat.le_refl _) hc3) ?_
    rintro v w4 ⟨⟨t, A, C, htc, htg, htd, htl, rfl, hto⟩, hc4, ht4⟩
    have ho4 := tn_row ht4 hc3 ho
    have htl2 : t.flat.length ≤ 121 := htl
    have htl1 : 1 ≤ t.flat.length := by rw [← htc]; exact t.cnt_le
    refine ⟨_, _, _, rfl, w1.heap.size, itcs c.flat, itcs t.flat, ⟨.inl ho4, itcs_len _, .inr ?_, plain_itcs _, by unfold maxLen; omega, by omega, Nat.le_trans ht3.size ht4.size⟩, ?_⟩
    · obtain ⟨ad, hA, _, hr⟩ := (own_row hto).at (j := 0) (by rw [itcs_len]; omega)
      exact ⟨ad, hA, vcells_row.2 hr⟩
    intro p2 k5 w5 r
    have e3 : IntKind.i64.wrap ((m : Int) - 1) = ((m - 1 : Nat) : Int) := wrap_pred (by omega) (by omega)
    have e4 : c.flat.length + t.flat.length = (c.app t).flat.length := by rw [Fo.app_flat, List.length_append]
    have e5 : (c.app t).cnt = c.cnt + 1 := by rw [Fo.app_cnt, htc]
    rw [e3]
    refine ⟨⟨m - 1, c.app t, p2, k5, by rw [e4], ?_, app_good hg htg, ?_, by rw [e5]; omega, ?_, hc4.app r ho4 hcb, (ht3.trans ht4).app r ho4 (Nat.le_refl _)⟩, ?_⟩
    · have h6 := r.own
      rw [e4, ← itcs_app, ← Fo.app_flat] at h6
      exact h6
    · rw [app_dep]; omega
    · rw [Fo.app_flat, List.length_append, e5, Nat.add_mul, Nat.one_mul]; omega
    · simp only [muH, Int.toNat_natCast]; omega
  · exact ⟨⟨c, p, k1, hg, hd', by omega, rfl, own_base ho he1.size⟩, ext_tn he1 ht3⟩
end Go.Proofs.Sx
