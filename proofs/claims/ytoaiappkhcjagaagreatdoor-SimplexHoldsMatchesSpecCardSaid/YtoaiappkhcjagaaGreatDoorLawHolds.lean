/- The law SimplexHoldsMatchesSpec holds for every input: simplex.Holds agrees with the reference on whether a point satisfies rows, for arbitrary rows and points. No condition but the given card's own. -/
import Derived.Test.YtoaiappkhcjagaaGreatDoorSiF1
import Derived.Test.YtoaiappkhcjagaaGreatDoorSiF4
import Derived.JoinedOf
import Derived.Test.YtoaiappkhcjagaaGreatDoorRows
import Derived.Test.YtoaiappkhcjagaaGreatDoorTie
import Derived.Test.YtoaiappkhcjagaaGreatDoorCards
namespace Go.Proofs.YtoaiappkhcjagaaGreatDoor
open Go.ChangeShapes Go.WideShapes Go.ChangeAt Go.RowKit Go.V Go.Proofs.Si
open Go.ChangeMaps (open_string shut_string)
set_option linter.unusedVariables false
set_option linter.unusedSimpArgs false
set_option maxRecDepth 100000 in
theorem simplexHoldsMatchesSpecFn : Tryz.pinned.checked.prog.funcNamed Rows.simplexHoldsMatchesSpecRow.func = some 3 := by kernel_rfl
set_option maxRecDepth 100000 in
theorem simplexHoldsMatchesSpecClosed : joinedFacts Tryz.prog 3 Tryz.f3 Rows.simplexHoldsMatchesSpecSpec Rows.simplexHoldsMatchesSpecRow = true := by
  unfold joinedFacts
  rw [mayEnterFact, liftsFact, makeFact]
  kernel_rfl
theorem simplexHoldsMatchesSpecInst : Tryz.f3.isInstance Tryz.pinned.checked.prog Rows.simplexHoldsMatchesSpecRow.origin Rows.simplexHoldsMatchesSpecRow.targs := of_decide_eq_true (by kernel_rfl)
theorem simplexHoldsMatchesSpecWrap : Tryz.f3.isWrapper Tryz.pinned.checked.prog Rows.simplexHoldsMatchesSpecRow.wrapper Rows.simplexHoldsMatchesSpecRow.mainSum := by unfold Func.isWrapper; first | (rw [if_pos (by decide +kernel)]; kernel_rfl) | (rw [if_neg (by decide +kernel)]; exact ⟨rfl, rfl⟩)
set_option maxRecDepth 100000 in
theorem simplexHoldsMatchesSpecCore (h : ∀ (X0 : Si.TX) (A0 : Si.TA) (a0 : Option Addr) (c0 : Nat) (t1 : Nat → ByteArray) (a1 : Option Addr) (n1 c1 : Nat) (w : World) (q0 : Si.RowsT w a0 X0 A0) (q1 : Si.SS w a1 t1 n1) (hg : Gl w), Calls Tryz.prog 3 #[.slice a0 X0.m c0, .slice a1 n1 c1] w fun e w' => e = .returned (.bool true) ∧ Below w.heap.size w w') : Rows.SimplexHoldsMatchesSpecSaid := by
  have lifted : ∀ (os : Os) (_ : os.Started) (H : Type) (enc : TypeId × Value → H),
      ReturnsInHanded {} Tryz.checked os 3 .any (fun w args => (Rows.simplexHoldsMatchesSpecSpec.pre enc Tryz.prog Tryz.f3 [] false w args ∧ laidMetH Tryz.prog Rows.simplexHoldsMatchesSpecRow.laid w) ∧ sizedMet enc Tryz.prog Tryz.f3 (OpenSpec.ofChange Rows.simplexHoldsMatchesSpecSpec) false w args)
        (Rows.simplexHoldsMatchesSpecSpec.post enc Tryz.prog Tryz.f3 false true false false) := by
    intro os started H enc
    refine returnsInHanded_of_calls ownFact started (by kernel_rfl)
      (ChangeSpec.witness_shaped (enc := enc) (C := Tryz.checked) (os := os) (X := fun w _ => laidMetH Tryz.prog Rows.simplexHoldsMatchesSpecRow.laid w) false (World.laidAll Tryz.prog os laidL) #[.slice none 0 0, .slice none 0 0] 8 (World.laidAll_os _ _ _)
        (shapedFact os _) (by kernel_rfl) (by kernel_rfl) (by kernel_rfl) (laidFact os _)) ?_
    have core : ∀ (W : World) (base : Nat) (args : Array Value) (ds gs : List (DataW H)) (before : List MemPlace), (∀ (j : Nat) t v, Tryz.f3.params[j]? = some t → args[j]? = some v → Value.okWide Tryz.checked.prog W .any base t v) →
        DataW.Whole enc Tryz.checked.prog Tryz.f3.params.toList Rows.simplexHoldsMatchesSpecSpec.vars false W args.toList ds gs before → Gl W →
        Calls Tryz.checked.prog 3 args W fun e W' => ∃ v, e = .returned v ∧ Rows.simplexHoldsMatchesSpecSpec.post enc Tryz.checked.prog Tryz.f3 false true false false W args v W' := by
      intro W base args ds gs before hval0 hW hg
      have hval : ∀ (j : Nat) t v, Tryz.f3.params[j]? = some t → args[j]? = some v → Value.okWide Tryz.prog W .any base t v := hval0
      have hW' := hW
      obtain ⟨p, q, hA0, hV, rfl, _, _⟩ := hW
      have hA : DataW.TrodAll enc Tryz.prog W 0 (fun _ => true) true Tryz.f3.params.toList args.toList ds p := hA0
      rw [Tryz.params3] at hA hval
      obtain ⟨v0, vs0, d0, ds0, p0, r0, hargs, rfl, rfl, h0, rr0⟩ := trodAll_cons hA
      obtain ⟨v1, vs1, d1, ds1, p1, r1, rfl, rfl, rfl, h1, rr1⟩ := trodAll_cons rr0
      obtain ⟨rfl, rfl, rfl⟩ := trodAll_nil rr1
      obtain rfl : args = #[v0, v1] := by cases args; simp_all
      obtain ⟨rfl, rfl⟩ := trodVars_none hV
      obtain ⟨a0, n0, c0, rfl⟩ := okWide_slice Tryz.underlying22 (hval 0 22 v0 rfl rfl)
      have k0 := h0
      have lt0 : ∀ x ∈ p0, x.block < W.heap.size := by obtain ⟨m, hm⟩ := k0; exact DataW.trod_lt m _ _ _ hm
      obtain ⟨X0, A0, rfl, q0⟩ : ∃ (X : TX) (A : TA), X.m = n0 ∧ RowsT W a0 X A := by obtain ⟨fuel, hf⟩ := h0; exact open_rows (x := (d0, p0)) hf
      obtain ⟨a1, n1, c1, rfl⟩ := okWide_slice Tryz.underlying23 (hval 1 23 v1 rfl rfl)
      have k1 := h1
      have lt1 : ∀ x ∈ p1, x.block < W.heap.size := by obtain ⟨m, hm⟩ := k1; exact DataW.trod_lt m _ _ _ hm
      obtain ⟨t1, q1⟩ : ∃ t, SS W a1 t n1 := by obtain ⟨fuel, hf⟩ := h1; exact open_strs (x := (d1, p1)) hf
      refine (h X0 A0 a0 c0 t1 a1 n1 c1 W q0 q1 hg).mono fun e W' ⟨he, hb⟩ => ?_
      subst he
      exact ⟨_, rfl, _, _, _, [], _, [], hW', trodAll_mk1 (shut_bool Tryz.underlying4 _), (trodAll_cons_mk (Below.trod laidOutK (by kernel_rfl) (of_decide_eq_true (by kernel_rfl)) k0 hb lt0) (trodAll_cons_mk (Below.trod laidOutK (by kernel_rfl) (of_decide_eq_true (by kernel_rfl)) k1 hb lt1) trodAll_mk0)), rfl, hb.frame _, fun h => by cases h⟩
    intro w tape i _ hsh _ hok hpre _
    obtain ⟨_, _, _, fn2, hfn2, _, _, _, _, hval⟩ := hok
    obtain rfl : fn2 = Tryz.f3 := Option.some.inj (hfn2.symm.trans Tryz.func3)
    obtain ⟨⟨⟨ds, gs, before, hw, _⟩, hlaid⟩, _⟩ := hpre
    refine (core (w.forCall tape i) w.heap.size i.args ds gs before hval (DataW.Whole.of_heap (w' := w.forCall tape i) (by rfl) hw) (gl_of (laidMetH.of_heap (w' := w.forCall tape i) (by rfl) hlaid) hsh)).mono fun e W' ⟨v, he, hp⟩ => ?_
    subst he
    exact ChangeSpec.post_blind hp
  exact OpenClaim.holds_of_wide 3 Tryz.f3 rfl rfl rfl rfl rfl rfl rfl ⟨rfl, rfl, rfl, rfl, rfl⟩ rfl rfl rfl rfl rfl simplexHoldsMatchesSpecFn Tryz.func3 simplexHoldsMatchesSpecClosed simplexHoldsMatchesSpecInst simplexHoldsMatchesSpecWrap
    (fun os started H enc _ => lifted os started H enc)
theorem simplexHoldsMatchesSpecGoes : false = Rows.simplexHoldsMatchesSpecRow.goesBy Tryz.pinned.checked.prog := by kernel_rfl
theorem simplexHoldsMatchesSpecCardOf (h : Rows.SimplexHoldsMatchesSpecSaid) : Rows.SimplexHoldsMatchesSpecCardSaid :=
  Claim7.holds_tied_plain_at .later [] _ _ _ _ h (fun _ h => by cases h) (by kernel_rfl) (fun _ h => by cases h) simplexHoldsMatchesSpec_row_tie rfl ⟨rfl, rfl⟩ mainFact rfl
    (fun f fn hf hfn => by
      obtain rfl : f = 3 := Option.some.inj (simplexHoldsMatchesSpecFn.symm.trans hf) |>.symm
      obtain rfl : fn = Tryz.f3 := (Option.some.inj (Tryz.func3.symm.trans hfn)).symm
      exact ⟨looksFact, fun j t ht => by
        rw [Tryz.params3] at ht
        have hm : t ∈ [22, 23] := by simpa [or_comm, or_left_comm, or_assoc] using Array.mem_of_getElem? ht
        have hall : ([22, 23].all fun u => !Tryz.prog.wantsStandIn u) = true := by kernel_rfl
        exact (show Tryz.prog.wantsStandIn t = false by simpa using List.all_eq_true.1 hall t hm)⟩)
    simplexHoldsMatchesSpecGoes
/-- The card of SimplexHoldsMatchesSpec. -/
theorem simplexHoldsMatchesSpec_card : Rows.SimplexHoldsMatchesSpecCardSaid := simplexHoldsMatchesSpecCardOf (simplexHoldsMatchesSpecCore fun X0 A0 a0 c0 t1 a1 n1 c1 w q0 q1 hg => Calls.mono (run_of_ret (c3 w q0 q1 hg)) fun _ _ ⟨_, he, hv, hb⟩ => ⟨by rw [he, hv], hb⟩)
#print axioms simplexHoldsMatchesSpec_card
end Go.Proofs.YtoaiappkhcjagaaGreatDoor
