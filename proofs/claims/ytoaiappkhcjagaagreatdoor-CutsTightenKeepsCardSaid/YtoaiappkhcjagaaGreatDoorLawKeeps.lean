/- The law CutsTightenKeeps holds for every input: integers satisfy a row exactly if they satisfy the tightened row, and no integers satisfy an impossible row. No condition but the given card's own. -/
import Derived.Test.YtoaiappkhcjagaaGreatDoorMSiZI
import Derived.Test.YtoaiappkhcjagaaGreatDoorSiF1
import Derived.Test.YtoaiappkhcjagaaGreatDoorSiF4
import Derived.Test.YtoaiappkhcjagaaGreatDoorRows
import Derived.Test.YtoaiappkhcjagaaGreatDoorTie
import Derived.Test.YtoaiappkhcjagaaGreatDoorCards
namespace Go.Proofs.YtoaiappkhcjagaaGreatDoor
open Go.ChangeShapes Go.WideShapes Go.ChangeAt Go.RowKit Go.V Go.Proofs.Si
open Go.ChangeMaps (open_string shut_string)
set_option linter.unusedVariables false
set_option maxRecDepth 100000 in
theorem cutsTightenKeepsFn : Tryz.pinned.checked.prog.funcNamed Rows.cutsTightenKeepsRow.func = some 13 := by kernel_rfl
set_option maxRecDepth 100000 in
theorem cutsTightenKeepsClosed : joinedFacts Tryz.prog 13 Tryz.f13 Rows.cutsTightenKeepsSpec Rows.cutsTightenKeepsRow = true := by
  unfold joinedFacts
  rw [mayEnterFact, liftsFact, makeFact]
  kernel_rfl
theorem cutsTightenKeepsInst : Tryz.f13.isInstance Tryz.pinned.checked.prog Rows.cutsTightenKeepsRow.origin Rows.cutsTightenKeepsRow.targs := of_decide_eq_true (by kernel_rfl)
theorem cutsTightenKeepsWrap : Tryz.f13.isWrapper Tryz.pinned.checked.prog Rows.cutsTightenKeepsRow.wrapper Rows.cutsTightenKeepsRow.mainSum := by unfold Func.isWrapper; first | (rw [if_pos (by decide +kernel)]; kernel_rfl) | (rw [if_neg (by decide +kernel)]; exact ⟨rfl, rfl⟩)
set_option maxRecDepth 100000 in
theorem cutsTightenKeepsCore (h : ∀ (X0 : Si.TX) (B0 : Si.TA) (m0 : X0.m = 1) (t1 : Nat → ByteArray) (a1 : Option Addr) (n1 c1 : Nat) (w : World) (q0 : Si.SS w (B0.cA 0) (X0.C 0) (X0.n 0)) (q1 : Si.SS w a1 t1 n1) (hg : Gl w), Calls Tryz.prog 13 #[.agg #[.slice (B0.cA 0) (X0.n 0) (B0.cC 0), .int .i64 (X0.rel 0), .string (X0.K 0)], .slice a1 n1 c1] w fun e w' => e = .returned (.bool true) ∧ Below w.heap.size w w') : Rows.CutsTightenKeepsSaid := by
  have lifted : ∀ (os : Os) (_ : os.Started) (H : Type) (enc : TypeId × Value → H),
      ReturnsInHanded {} Tryz.checked os 13 .any (fun w args => (Rows.cutsTightenKeepsSpec.pre enc Tryz.prog Tryz.f13 [] false w args ∧ laidMetH Tryz.prog Rows.cutsTightenKeepsRow.laid w) ∧ sizedMet enc Tryz.prog Tryz.f13 (OpenSpec.ofChange Rows.cutsTightenKeepsSpec) false w args)
        (Rows.cutsTightenKeepsSpec.post enc Tryz.prog Tryz.f13 false true false false) := by
    intro os started H enc
    refine returnsInHanded_of_calls ownFact started (by kernel_rfl)
      (ChangeSpec.witness_shaped (enc := enc) (C := Tryz.checked) (os := os) (X := fun w _ => laidMetH Tryz.prog Rows.cutsTightenKeepsRow.laid w) false (World.laidAll Tryz.prog os laidL) #[.agg #[.slice none 0 0, .int .i64 0, .string ByteArray.empty], .slice none 0 0] 8 (World.laidAll_os _ _ _)
        (shapedFact os _) (by kernel_rfl) (by kernel_rfl) (by kernel_rfl) (laidFact os _)) ?_
    have core : ∀ (W : World) (base : Nat) (args : Array Value) (ds gs : List (DataW H)) (before : List MemPlace), (∀ (j : Nat) t v, Tryz.f13.params[j]? = some t → args[j]? = some v → Value.okWide Tryz.checked.prog W .any base t v) →
        DataW.Whole enc Tryz.checked.prog Tryz.f13.params.toList Rows.cutsTightenKeepsSpec.vars false W args.toList ds gs before → Gl W →
        Calls Tryz.checked.prog 13 args W fun e W' => ∃ v, e = .returned v ∧ Rows.cutsTightenKeepsSpec.post enc Tryz.checked.prog Tryz.f13 false true false false W args v W' := by
      intro W base args ds gs before hval0 hW hg
      have hval : ∀ (j : Nat) t v, Tryz.f13.params[j]? = some t → args[j]? = some v → Value.okWide Tryz.prog W .any base t v := hval0
      have hW' := hW
      obtain ⟨p, q, hA0, hV, rfl, _, _⟩ := hW
      have hA : DataW.TrodAll enc Tryz.prog W 0 (fun _ => true) true Tryz.f13.params.toList args.toList ds p := hA0
      rw [Tryz.params13] at hA hval
      obtain ⟨v0, vs0, d0, ds0, p0, r0, hargs, rfl, rfl, h0, rr0⟩ := trodAll_cons hA
      obtain ⟨v1, vs1, d1, ds1, p1, r1, rfl, rfl, rfl, h1, rr1⟩ := trodAll_cons rr0
      obtain ⟨rfl, rfl, rfl⟩ := trodAll_nil rr1
      obtain rfl : args = #[v0, v1] := by cases args; simp_all
      obtain ⟨rfl, rfl⟩ := trodVars_none hV
      obtain ⟨cs0, rfl, _⟩ := okWide_struct Tryz.underlying49 (hval 0 49 v0 rfl rfl)
      have k0 := h0
      have lt0 : ∀ x ∈ p0, x.block < W.heap.size := by obtain ⟨m, hm⟩ := k0; exact DataW.trod_lt m _ _ _ hm
      obtain ⟨X0, B0, m0, hcs0, q0⟩ : ∃ (X : TX) (B : TA), X.m = 1 ∧ cs0 = #[.slice (B.cA 0) (X.n 0) (B.cC 0), .int .i64 (X.rel 0), .string (X.K 0)] ∧ SS W (B.cA 0) (X.C 0) (X.n 0) := by
        obtain ⟨fuel, hf⟩ := h0
        obtain ⟨ra, rn, rc, rt, rrel, rk, hy, hs⟩ := open_row (x := (d0, p0)) hf
        exact ⟨⟨1, fun _ => rn, fun _ => rt, fun _ => rrel, fun _ => rk⟩, ⟨fun _ => ra, fun _ => rc⟩, rfl, by cases cs0; simpa [Value.cells] using hy, hs⟩
      subst hcs0
      obtain ⟨a1, n1, c1, rfl⟩ := okWide_slice Tryz.underlying23 (hval 1 23 v1 rfl rfl)
      have k1 := h1
      have lt1 : ∀ x ∈ p1, x.block < W.heap.size := by obtain ⟨m, hm⟩ := k1; exact DataW.trod_lt m _ _ _ hm
      obtain ⟨t1, q1⟩ : ∃ t, SS W a1 t n1 := by obtain ⟨fuel, hf⟩ := h1; exact open_strs (x := (d1, p1)) hf
      refine (h X0 B0 m0 t1 a1 n1 c1 W q0 q1 hg).mono fun e W' ⟨he, hb⟩ => ?_
      subst he
      exact ⟨_, rfl, _, _, _, [], _, [], hW', trodAll_mk1 (shut_bool Tryz.underlying4 _), (trodAll_cons_mk (Below.trod laidOutK (by kernel_rfl) (of_decide_eq_true (by kernel_rfl)) k0 hb lt0) (trodAll_cons_mk (Below.trod laidOutK (by kernel_rfl) (of_decide_eq_true (by kernel_rfl)) k1 hb lt1) trodAll_mk0)), rfl, hb.frame _, fun h => by cases h⟩
    intro w tape i _ hsh _ hok hpre _
    obtain ⟨_, _, _, fn2, hfn2, _, _, _, _, hval⟩ := hok
    obtain rfl : fn2 = Tryz.f13 := Option.some.inj (hfn2.symm.trans Tryz.func13)
    obtain ⟨⟨⟨ds, gs, before, hw, _⟩, hlaid⟩, _⟩ := hpre
    refine (core (w.forCall tape i) w.heap.size i.args ds gs before hval (DataW.Whole.of_heap (w' := w.forCall tape i) (by rfl) hw) (gl_of (laidMetH.of_heap (w' := w.forCall tape i) (by rfl) hlaid) hsh)).mono fun e W' ⟨v, he, hp⟩ => ?_
    subst he
    exact ChangeSpec.post_blind hp
  exact OpenClaim.holds_of_wide 13 Tryz.f13 rfl rfl rfl rfl rfl rfl rfl ⟨rfl, rfl, rfl, rfl, rfl⟩ rfl rfl rfl rfl rfl cutsTightenKeepsFn Tryz.func13 cutsTightenKeepsClosed cutsTightenKeepsInst cutsTightenKeepsWrap
    (fun os started H enc _ => lifted os started H enc)
theorem cutsTightenKeepsGoes : false = Rows.cutsTightenKeepsRow.goesBy Tryz.pinned.checked.prog := by kernel_rfl
theorem cutsTightenKeepsCardOf (h : Rows.CutsTightenKeepsSaid) : Rows.CutsTightenKeepsCardSaid :=
  Claim7.holds_tied_plain_at .later [] _ _ _ _ h (fun _ h => by cases h) (by kernel_rfl) (fun _ h => by cases h) cutsTightenKeeps_row_tie rfl ⟨rfl, rfl⟩ mainFact rfl
    (fun f fn hf hfn => by
      obtain rfl : f = 13 := Option.some.inj (cutsTightenKeepsFn.symm.trans hf) |>.symm
      obtain rfl : fn = Tryz.f13 := (Option.some.inj (Tryz.func13.symm.trans hfn)).symm
      exact ⟨looksFact, fun j t ht => by
        rw [Tryz.params13] at ht
        have hm : t ∈ [23, 49] := by simpa [or_comm, or_left_comm, or_assoc] using Array.mem_of_getElem? ht
        have hall : ([23, 49].all fun u => !Tryz.prog.wantsStandIn u) = true := by kernel_rfl
        exact (show Tryz.prog.wantsStandIn t = false by simpa using List.all_eq_true.1 hall t hm)⟩)
    cutsTightenKeepsGoes
/-- The card of CutsTightenKeeps. -/
theorem cutsTightenKeeps_card : Rows.CutsTightenKeepsCardSaid := cutsTightenKeepsCardOf (cutsTightenKeepsCore fun X0 B0 m0 t1 a1 n1 c1 w q0 q1 hg => Calls.mono (run_of_ret (c13 m0 w q0 q1 hg)) fun _ _ ⟨_, he, hv, hb⟩ => ⟨by rw [he, hv], hb⟩)
#print axioms cutsTightenKeeps_card
end Go.Proofs.YtoaiappkhcjagaaGreatDoor
