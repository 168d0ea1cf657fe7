/- The law SexprConcat holds for every input: two texts with a line feed between them are parsed to the items of both, where each of them can be parsed. No condition but the given card's own. -/
import Derived.Test.YtonenlplcidihaaDoorSxC3
import Derived.Test.YtonenlplcidihaaDoorSxT
import Derived.Test.YtonenlplcidihaaDoorRows
import Derived.Test.YtonenlplcidihaaDoorTie
import Derived.Test.YtonenlplcidihaaDoorCards
import Derived.ProofKit
import Derived.OpenShut
import Derived.ShutString
import Derived.Below
import Derived.Lay
import Derived.LaidOnce
import Derived.SevenTiedAt
import Derived.ChangeSlices
import Derived.ChangeOld
import Derived.Carry
namespace Go.Proofs.YtonenlplcidihaaDoor
open Go.ChangeShapes Go.WideShapes Go.ChangeAt Go.RowKit Go.V
open Go.ChangeMaps (open_string shut_string)
set_option linter.unusedVariables false
theorem ownK : ownKnob Tryd.prog.godebug = none := by kernel_rfl
theorem laidOutK : laidOutB Tryd.prog = true := by kernel_rfl
theorem sl_ints {w : World} {x : Addr} {len cap : Nat} {zs : List Int} (hz : zs.length = cap) (hl : len ≤ cap) (hc : ∀ i, i < zs.length → w.cell? (x.add i) = some (.int .i64 (zs.getD i 0))) :
    SlAt w (some x) ((zs.take len).map fun n => .int .i64 n) := by
  cases hzs : zs with
  | nil => left; simp
  | cons z zt =>
    right
    have h0 := hc 0 (by rw [hzs]; simp)
    have hs : x.spot = none := by
      have e : x.add 0 = x := by unfold Addr.add; simp
      rw [e] at h0
      unfold World.cell? at h0
      cases hb : w.heap[x.block]? with
      | none => rw [hb] at h0; cases h0
      | some o =>
        rw [hb] at h0
        cases o with
        | cells c e f =>
          cases hsp : x.spot with
          | none => rfl
          | some y => simp [hsp] at h0
        | _ => cases h0
    refine ⟨x, rfl, hs, fun j v hj => ?_⟩
    rw [← hzs, List.getElem?_map, List.getElem?_take] at hj
    split at hj
    · rename_i hjl
      have hjz : j < zs.length := by omega
      rw [List.getElem?_eq_getElem hjz] at hj
      have := hc j hjz
      rw [List.getD_eq_getElem?_getD, List.getElem?_eq_getElem hjz] at this
      cases hj
      exact this
    · cases hj
set_option maxRecDepth 100000 in
theorem sexprConcatCore (h : ∀ (s0 : ByteArray) (s1 : ByteArray) (a2 : Option Addr) (len2 cap2 : Nat) (z2 : List Int) (l2 : z2.length = len2) (c2 : len2 ≤ cap2) (a3 : Option Addr) (len3 cap3 : Nat) (z3 : List Int) (l3 : z3.length = len3) (c3 : len3 ≤ cap3) (w : World) (q2 : SlAt w a2 (z2.map fun n => .int .i64 n)) (q3 : SlAt w a3 (z3.map fun n => .int .i64 n)), Calls Tryd.prog 6 #[.string s0, .string s1, .slice a2 len2 cap2, .slice a3 len3 cap3] w fun e w' => e = .returned (.bool true) ∧ Below w.heap.size w w') : Rows.SexprConcatSaid := by
  have lifted : ∀ (os : Os) (_ : os.Started) (H : Type) (enc : TypeId × Value → H),
      ReturnsInHanded {} Tryd.checked os 6 .any (fun w args => (Rows.sexprConcatSpec.pre enc Tryd.prog Tryd.f6 [] false w args ∧ laidMetH Tryd.prog Rows.sexprConcatRow.laid w) ∧ sizedMet enc Tryd.prog Tryd.f6 (OpenSpec.ofChange Rows.sexprConcatSpec) false w args)
        (Rows.sexprConcatSpec.post enc Tryd.prog Tryd.f6 false true false false) := by
    intro os started H enc
    refine returnsInHanded_of_change_and (C := Tryd.checked) (X := fun w _ => laidMetH Tryd.prog Rows.sexprConcatRow.laid w) (fun _ _ _ hh h => h.of_heap hh) ownK started (by kernel_rfl) Tryd.func6
      (ChangeSpec.witness_shaped (enc := enc) (C := Tryd.checked) (os := os) (X := fun w _ => laidMetH Tryd.prog Rows.sexprConcatRow.laid w) false (World.laidAll Tryd.prog os Rows.sexprConcatRow.laid) #[.string ByteArray.empty, .string ByteArray.empty, .slice none 0 0, .slice none 0 0] 8 (World.laidAll_os _ _ _)
        (World.shaped_of_ZipB (by kernel_rfl) (by kernel_rfl)) (by kernel_rfl) (by kernel_rfl) (by kernel_rfl)
        (by rw [MakeChecks.laidMetH_plain _ _ _ (by kernel_rfl)]; exact laidMet_laidAll _ (by kernel_rfl) (by kernel_rfl))) ?_
    intro W base args ds gs before hval0 hW _ _ _ _
    have hval : ∀ (j : Nat) t v, Tryd.f6.params[j]? = some t → args[j]? = some v → Value.okWide Tryd.prog W .any base t v := hval0
    have hW' := hW
    obtain ⟨p, q, hA0, hV, rfl, _, _⟩ := hW
    have hA : DataW.TrodAll enc Tryd.prog W 0 (fun _ => true) true Tryd.f6.params.toList args.toList ds p := hA0
    rw [Tryd.params6] at hA hval
    obtain ⟨v0, vs0, d0, ds0, p0, q0, hargs, rfl, rfl, h0, r0⟩ := trodAll_cons hA
    obtain ⟨v1, vs1, d1, ds1, p1, q1, rfl, rfl, rfl, h1, r1⟩ := trodAll_cons r0
    obtain ⟨v2, vs2, d2, ds2, p2, q2, rfl, rfl, rfl, h2, r2⟩ := trodAll_cons r1
    obtain ⟨v3, vs3, d3, ds3, p3, q3, rfl, rfl, rfl, h3, r3⟩ := trodAll_cons r2
    obtain ⟨rfl, rfl, rfl⟩ := trodAll_nil r3
    obtain rfl : args = #[v0, v1, v2, v3] := by cases args; simp_all
    obtain ⟨rfl, rfl⟩ := trodVars_none hV
    obtain ⟨s0, rfl, rfl, rfl, y0⟩ := open_string Tryd.underlying9 (hval 0 9 v0 rfl rfl) h0
    obtain ⟨s1, rfl, rfl, rfl, y1⟩ := open_string Tryd.underlying9 (hval 1 9 v1 rfl rfl) h1
    obtain ⟨a2, len2, cap2, rfl⟩ := okWide_slice Tryd.underlying24 (hval 2 24 v2 rfl rfl)
    have k2 := h2
    have lt2 : ∀ x ∈ p2, x.block < W.heap.size := by obtain ⟨m, hm⟩ := k2; exact DataW.trod_lt m _ _ _ hm
    obtain ⟨z2, l2, c2, q2⟩ : ∃ z : List Int, z.length = len2 ∧ len2 ≤ cap2 ∧ SlAt W a2 (z.map fun n => .int .i64 n) := by
      obtain ⟨fuel, hf⟩ := h2
      rcases open_ints Tryd.underlying24 Tryd.underlying3 (by kernel_rfl) hf with ⟨hcs, _⟩ | ⟨x, l, c, zs, hcs, _, hl, hm, hz, _, hcell, hwz⟩
      · simp [Value.cells] at hcs
        obtain ⟨rfl, rfl, rfl⟩ := hcs
        exact ⟨[], rfl, Nat.le_refl _, .inl rfl⟩
      · simp [Value.cells] at hcs
        obtain ⟨rfl, rfl, rfl⟩ := hcs
        have hz2 : zs.length = cap2 := by simpa using hz
        exact ⟨zs.take len2, by rw [List.length_take]; omega, hl, sl_ints hz2 hl hcell⟩
    obtain ⟨a3, len3, cap3, rfl⟩ := okWide_slice Tryd.underlying24 (hval 3 24 v3 rfl rfl)
    have k3 := h3
    have lt3 : ∀ x ∈ p3, x.block < W.heap.size := by obtain ⟨m, hm⟩ := k3; exact DataW.trod_lt m _ _ _ hm
    obtain ⟨z3, l3, c3, q3⟩ : ∃ z : List Int, z.length = len3 ∧ len3 ≤ cap3 ∧ SlAt W a3 (z.map fun n => .int .i64 n) := by
      obtain ⟨fuel, hf⟩ := h3
      rcases open_ints Tryd.underlying24 Tryd.underlying3 (by kernel_rfl) hf with ⟨hcs, _⟩ | ⟨x, l, c, zs, hcs, _, hl, hm, hz, _, hcell, hwz⟩
      · simp [Value.cells] at hcs
        obtain ⟨rfl, rfl, rfl⟩ := hcs
        exact ⟨[], rfl, Nat.le_refl _, .inl rfl⟩
      · simp [Value.cells] at hcs
        obtain ⟨rfl, rfl, rfl⟩ := hcs
        have hz2 : zs.length = cap3 := by simpa using hz
        exact ⟨zs.take len3, by rw [List.length_take]; omega, hl, sl_ints hz2 hl hcell⟩
    refine (h s0 s1 a2 len2 cap2 z2 l2 c2 a3 len3 cap3 z3 l3 c3 W q2 q3).mono fun e W' ⟨he, hb⟩ => ?_
    subst he
    exact ⟨_, rfl, _, _, _, [], _, [], hW', trodAll_mk1 (shut_bool Tryd.underlying4 _), (trodAll_cons_mk (shut_string Tryd.underlying9 y0) (trodAll_cons_mk (shut_string Tryd.underlying9 y1) (trodAll_cons_mk (Below.trod laidOutK (by kernel_rfl) (of_decide_eq_true (by kernel_rfl)) k2 hb lt2) (trodAll_cons_mk (Below.trod laidOutK (by kernel_rfl) (of_decide_eq_true (by kernel_rfl)) k3 hb lt3) trodAll_mk0)))), rfl, hb.frame _, fun h => by cases h⟩
  exact OpenClaim.holds_of_wide 6 Tryd.f6 rfl rfl rfl rfl rfl rfl rfl ⟨rfl, rfl, rfl, rfl, rfl⟩ rfl rfl rfl rfl rfl (by kernel_rfl) Tryd.func6 (by kernel_rfl)
    (of_decide_eq_true (by kernel_rfl)) (by unfold Func.isWrapper; first | (rw [if_pos (by decide +kernel)]; kernel_rfl) | (rw [if_neg (by decide +kernel)]; exact ⟨rfl, rfl⟩))
    (fun os started H enc _ => lifted os started H enc)
theorem sexprConcatCardOf (h : Rows.SexprConcatSaid) : Rows.SexprConcatCardSaid :=
  Claim7.holds_tied_plain_at .later [] [.data, .pinned] true (true, "4104577aa53ef28f94370e91399e8514372385fcd8c879a2a68e549d2b349cba") false h (fun _ h => by cases h) (by kernel_rfl) (fun _ h => by cases h) sexprConcat_row_tie rfl ⟨rfl, rfl⟩ (by kernel_rfl) rfl
    (fun f fn hf hfn => by
      obtain rfl : f = 6 := Option.some.inj ((show Tryd.prog.funcNamed "chcsolver/chcsolverlaw02.SexprConcat" = some 6 by kernel_rfl).symm.trans hf) |>.symm
      obtain rfl : fn = Tryd.f6 := (Option.some.inj (Tryd.func6.symm.trans hfn)).symm
      exact ⟨by kernel_rfl, fun j t ht => by
        rw [Tryd.params6] at ht
        have hm : t ∈ [9, 9, 24, 24] := by simpa using Array.mem_of_getElem? ht
        have hall : ([9, 9, 24, 24].all fun u => !Tryd.prog.wantsStandIn u) = true := by kernel_rfl
        exact (show Tryd.prog.wantsStandIn t = false by simpa using List.all_eq_true.1 hall t hm)⟩)
    (by kernel_rfl)
theorem sexprConcatWalk (s0 : ByteArray) (s1 : ByteArray) (a2 : Option Addr) (len2 cap2 : Nat) (z2 : List Int) (l2 : z2.length = len2) (c2 : len2 ≤ cap2) (a3 : Option Addr) (len3 cap3 : Nat) (z3 : List Int) (l3 : z3.length = len3) (c3 : len3 ≤ cap3) (w : World)
    (q2 : SlAt w a2 (z2.map fun n => .int .i64 n)) (q3 : SlAt w a3 (z3.map fun n => .int .i64 n)) :
    Calls Tryd.prog 6 #[.string s0, .string s1, .slice a2 len2 cap2, .slice a3 len3 cap3] w fun e w' => e = .returned (.bool true) ∧ Below w.heap.size w w' :=
  Calls.mono (Sx.run_of_ret (Sx.c6 Sx.trimOk s0 s1 l2 c2 q2 l3 c3 q3)) fun _ _ ⟨_, he, hv, hb⟩ => ⟨by rw [he, hv], hb⟩
/-- The card of SexprConcat. -/
theorem sexprConcat_card : Rows.SexprConcatCardSaid := sexprConcatCardOf (sexprConcatCore sexprConcatWalk)
#print axioms sexprConcat_card
end Go.Proofs.YtonenlplcidihaaDoor
