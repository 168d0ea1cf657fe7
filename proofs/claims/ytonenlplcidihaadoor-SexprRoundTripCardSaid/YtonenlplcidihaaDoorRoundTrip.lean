/- The law SexprRoundTrip holds for every input: the formatted text of a drawn list is parsed to its items, and these are formatted to the same text. No condition but the given card's own. -/
import Derived.Test.YtonenlplcidihaaDoorSxMW
import Derived.Test.YtonenlplcidihaaDoorSxT
import Derived.Test.YtonenlplcidihaaDoorRows
import Derived.Test.YtonenlplcidihaaDoorTie
import Derived.Test.YtonenlplcidihaaDoorCards
import Derived.ProofKit
import Derived.OpenShut
import Derived.ShutString
import Derived.Below
import Derived.Lay
import Derived.LaidOnce
import Derived.SevenTiedAt
import Derived.ChangeSlices
import Derived.ChangeOld
import Derived.Carry
namespace Go.Proofs.YtonenlplcidihaaDoor
open Go.ChangeShapes Go.WideShapes Go.ChangeAt Go.RowKit Go.V
open Go.ChangeMaps (open_string shut_string)
set_option linter.unusedVariables false
theorem ownK : ownKnob Tryd.prog.godebug = none := by kernel_rfl
theorem laidOutK : laidOutB Tryd.prog = true := by kernel_rfl
theorem sl_ints {w : World} {x : Addr} {len cap : Nat} {zs : List Int} (hz : zs.length = cap) (hl : len ≤ cap) (hc : ∀ i, i < zs.length → w.cell? (x.add i) = some (.int .i64 (zs.getD i 0))) :
    SlAt w (some x) ((zs.take len).map fun n => .int .i64 n) := by
  cases hzs : zs with
  | nil => left; simp
  | cons z zt =>
    right
    have h0 := hc 0 (by rw [hzs]; simp)
    have hs : x.spot = none := by
      have e : x.add 0 = x := by unfold Addr.add; simp
      rw [e] at h0
      unfold World.cell? at h0
      cases hb : w.heap[x.block]? with
      | none => rw [hb] at h0; cases h0
      | some o =>
        rw [hb] at h0
        cases o with
        | cells c e f =>
          cases hsp : x.spot with
          | none => rfl
          | some y => simp [hsp] at h0
        | _ => cases h0
    refine ⟨x, rfl, hs, fun j v hj => ?_⟩
    rw [← hzs, List.getElem?_map, List.getElem?_take] at hj
    split at hj
    · rename_i hjl
      have hjz : j < zs.length := by omega
      rw [List.getElem?_eq_getElem hjz] at hj
      have := hc j hjz
      rw [List.getD_eq_getElem?_getD, List.getElem?_eq_getElem hjz] at this
      cases hj
      exact this
    · cases hj
set_option maxRecDepth 100000 in
theorem sexprRoundTripCore (h : ∀ (a0 : Option Addr) (len0 cap0 : Nat) (z0 : List Int) (l0 : z0.length = len0) (c0 : len0 ≤ cap0) (w : World) (q0 : SlAt w a0 (z0.map fun n => .int .i64 n)) (hm : ∃ m, w.cell? ⟨0, 0, none⟩ = some (.int .i64 m)), Calls Tryd.prog 9 #[.slice a0 len0 cap0] w fun e w' => e = .returned (.bool true) ∧ Below w.heap.size w w') : Rows.SexprRoundTripSaid := by
  have lifted : ∀ (os : Os) (_ : os.Started) (H : Type) (enc : TypeId × Value → H),
      ReturnsInHanded {} Tryd.checked os 9 .any (fun w args => (Rows.sexprRoundTripSpec.pre enc Tryd.prog Tryd.f9 [] false w args ∧ laidMetH Tryd.prog Rows.sexprRoundTripRow.laid w) ∧ sizedMet enc Tryd.prog Tryd.f9 (OpenSpec.ofChange Rows.sexprRoundTripSpec) false w args)
        (Rows.sexprRoundTripSpec.post enc Tryd.prog Tryd.f9 false true false false) := by
    intro os started H enc
    refine returnsInHanded_of_calls ownK started (by kernel_rfl)
      (ChangeSpec.witness_shaped (enc := enc) (C := Tryd.checked) (os := os) (X := fun w _ => laidMetH Tryd.prog Rows.sexprRoundTripRow.laid w) false (World.laidAll Tryd.prog os Rows.sexprRoundTripRow.laid) #[.slice none 0 0] 8 (World.laidAll_os _ _ _)
        (World.shaped_of_ZipB (by kernel_rfl) (by kernel_rfl)) (by kernel_rfl) (by kernel_rfl) (by kernel_rfl)
        (by rw [MakeChecks.laidMetH_plain _ _ _ (by kernel_rfl)]; exact laidMet_laidAll _ (by kernel_rfl) (by kernel_rfl))) ?_
    have core : ∀ (W : World) (base : Nat) (args : Array Value) (ds gs : List (DataW H)) (before : List MemPlace), (∀ (j : Nat) t v, Tryd.f9.params[j]? = some t → args[j]? = some v → Value.okWide Tryd.checked.prog W .any base t v) →
        DataW.Whole enc Tryd.checked.prog Tryd.f9.params.toList Rows.sexprRoundTripSpec.vars false W args.toList ds gs before → W.ShapedOpen Tryd.checked.prog →
        Calls Tryd.checked.prog 9 args W fun e W' => ∃ v, e = .returned v ∧ Rows.sexprRoundTripSpec.post enc Tryd.checked.prog Tryd.f9 false true false false W args v W' := by
      intro W base args ds gs before hval0 hW hsh
      have hval : ∀ (j : Nat) t v, Tryd.f9.params[j]? = some t → args[j]? = some v → Value.okWide Tryd.prog W .any base t v := hval0
      have hW' := hW
      obtain ⟨p, q, hA0, hV, rfl, _, _⟩ := hW
      have hA : DataW.TrodAll enc Tryd.prog W 0 (fun _ => true) true Tryd.f9.params.toList args.toList ds p := hA0
      rw [Tryd.params9] at hA hval
      obtain ⟨v0, vs0, d0, ds0, p0, q0, hargs, rfl, rfl, h0, r0⟩ := trodAll_cons hA
      obtain ⟨rfl, rfl, rfl⟩ := trodAll_nil r0
      obtain rfl : args = #[v0] := by cases args; simp_all
      obtain ⟨rfl, rfl⟩ := trodVars_none hV
      obtain ⟨a0, len0, cap0, rfl⟩ := okWide_slice Tryd.underlying24 (hval 0 24 v0 rfl rfl)
      have k0 := h0
      have lt0 : ∀ x ∈ p0, x.block < W.heap.size := by obtain ⟨m, hm⟩ := k0; exact DataW.trod_lt m _ _ _ hm
      obtain ⟨z0, l0, c0, q0⟩ : ∃ z : List Int, z.length = len0 ∧ len0 ≤ cap0 ∧ SlAt W a0 (z.map fun n => .int .i64 n) := by
        obtain ⟨fuel, hf⟩ := h0
        rcases open_ints Tryd.underlying24 Tryd.underlying3 (by kernel_rfl) hf with ⟨hcs, _⟩ | ⟨x, l, c, zs, hcs, _, hl, hm, hz, _, hcell, hwz⟩
        · simp [Value.cells] at hcs
          obtain ⟨rfl, rfl, rfl⟩ := hcs
          exact ⟨[], rfl, Nat.le_refl _, .inl rfl⟩
        · simp [Value.cells] at hcs
          obtain ⟨rfl, rfl, rfl⟩ := hcs
          have hz2 : zs.length = cap0 := by simpa using hz
          exact ⟨zs.take len0, by rw [List.length_take]; omega, hl, sl_ints hz2 hl hcell⟩
      refine (h a0 len0 cap0 z0 l0 c0 W q0 (cell_of_shapedOpen_int (zero := #[.int .i64 0]) (t := 3) hsh (of_decide_eq_true (by kernel_rfl)) (by kernel_rfl) rfl (by kernel_rfl) (by kernel_rfl) Tryd.underlying3)).mono fun e W' ⟨he, hb⟩ => ?_
      subst he
      exact ⟨_, rfl, _, _, _, [], _, [], hW', trodAll_mk1 (shut_bool Tryd.underlying4 _), (trodAll_cons_mk (Below.trod laidOutK (by kernel_rfl) (of_decide_eq_true (by kernel_rfl)) k0 hb lt0) trodAll_mk0), rfl, hb.frame _, fun h => by cases h⟩
    intro w tape i _ hsh _ hok hpre _
    obtain ⟨_, _, _, fn2, hfn2, _, _, _, _, hval⟩ := hok
    obtain rfl : fn2 = Tryd.f9 := Option.some.inj (hfn2.symm.trans Tryd.func9)
    obtain ⟨⟨⟨ds, gs, before, hw, _⟩, _⟩, _⟩ := hpre
    refine (core (w.forCall tape i) w.heap.size i.args ds gs before hval (DataW.Whole.of_heap (w' := w.forCall tape i) (by rfl) hw) hsh).mono fun e W' ⟨v, he, hp⟩ => ?_
    subst he
    exact ChangeSpec.post_blind hp
  exact OpenClaim.holds_of_wide 9 Tryd.f9 rfl rfl rfl rfl rfl rfl rfl ⟨rfl, rfl, rfl, rfl, rfl⟩ rfl rfl rfl rfl rfl (by kernel_rfl) Tryd.func9 (by kernel_rfl)
    (of_decide_eq_true (by kernel_rfl)) (by unfold Func.isWrapper; first | (rw [if_pos (by decide +kernel)]; kernel_rfl) | (rw [if_neg (by decide +kernel)]; exact ⟨rfl, rfl⟩))
    (fun os started H enc _ => lifted os started H enc)
theorem sexprRoundTripCardOf (h : Rows.SexprRoundTripSaid) : Rows.SexprRoundTripCardSaid :=
  Claim7.holds_tied_plain_at .later [] [.data, .pinned] true (true, "4104577aa53ef28f94370e91399e8514372385fcd8c879a2a68e549d2b349cba") false h (fun _ h => by cases h) (by kernel_rfl) (fun _ h => by cases h) sexprRoundTrip_row_tie rfl ⟨rfl, rfl⟩ (by kernel_rfl) rfl
    (fun f fn hf hfn => by
      obtain rfl : f = 9 := Option.some.inj ((show Tryd.prog.funcNamed "chcsolver/chcsolverlaw02.SexprRoundTrip" = some 9 by kernel_rfl).symm.trans hf) |>.symm
      obtain rfl : fn = Tryd.f9 := (Option.some.inj (Tryd.func9.symm.trans hfn)).symm
      exact ⟨by kernel_rfl, fun j t ht => by
        rw [Tryd.params9] at ht
        have hm : t ∈ [24] := by simpa using Array.mem_of_getElem? ht
        have hall : ([24].all fun u => !Tryd.prog.wantsStandIn u) = true := by kernel_rfl
        exact (show Tryd.prog.wantsStandIn t = false by simpa using List.all_eq_true.1 hall t hm)⟩)
    (by kernel_rfl)
theorem sexprRoundTripWalk (a0 : Option Addr) (len0 cap0 : Nat) (z0 : List Int) (l0 : z0.length = len0) (c0 : len0 ≤ cap0) (w : World) (q0 : SlAt w a0 (z0.map fun n => .int .i64 n)) (hm : ∃ m, w.cell? ⟨0, 0, none⟩ = some (.int .i64 m)) :
    Calls Tryd.prog 9 #[.slice a0 len0 cap0] w fun e w' => e = .returned (.bool true) ∧ Below w.heap.size w w' :=
  Calls.mono (Sx.run_of_ret (Sx.c9 Sx.trimOk l0 c0 q0 hm)) fun _ _ ⟨_, he, hv, hb⟩ => ⟨by rw [he, hv], hb⟩
/-- The card of SexprRoundTrip. -/
theorem sexprRoundTrip_card : Rows.SexprRoundTripCardSaid := sexprRoundTripCardOf (sexprRoundTripCore sexprRoundTripWalk)
#print axioms sexprRoundTrip_card
end Go.Proofs.YtonenlplcidihaaDoor
