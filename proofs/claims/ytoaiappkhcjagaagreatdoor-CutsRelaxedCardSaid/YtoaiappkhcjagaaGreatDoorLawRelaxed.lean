/- The law CutsRelaxed holds for every input: if multipliers refute the rows, or one of them has no integer solution, the answer is Unsat for every budget. No condition but the given card's own. -/
import Derived.Test.YtoaiappkhcjagaaGreatDoorMSiZI
import Derived.Test.YtoaiappkhcjagaaGreatDoorSiF1
import Derived.Test.YtoaiappkhcjagaaGreatDoorSiF4
import Derived.Test.YtoaiappkhcjagaaGreatDoorRows
import Derived.Test.YtoaiappkhcjagaaGreatDoorTie
import Derived.Test.YtoaiappkhcjagaaGreatDoorCards
namespace Go.Proofs.YtoaiappkhcjagaaGreatDoor
open Go.ChangeShapes Go.WideShapes Go.ChangeAt Go.RowKit Go.V Go.Proofs.Si
open Go.ChangeMaps (open_string shut_string)
set_option linter.unusedVariables false
set_option maxRecDepth 100000 in
theorem cutsRelaxedFn : Tryz.pinned.checked.prog.funcNamed Rows.cutsRelaxedRow.func = some 12 := by kernel_rfl
set_option maxRecDepth 100000 in
theorem cutsRelaxedClosed : joinedFacts Tryz.prog 12 Tryz.f12 Rows.cutsRelaxedSpec Rows.cutsRelaxedRow = true := by
  unfold joinedFacts
  rw [mayEnterFact, liftsFact, makeFact]
  kernel_rfl
theorem cutsRelaxedInst : Tryz.f12.isInstance Tryz.pinned.checked.prog Rows.cutsRelaxedRow.origin Rows.cutsRelaxedRow.targs := of_decide_eq_true (by kernel_rfl)
theorem cutsRelaxedWrap : Tryz.f12.isWrapper Tryz.pinned.checked.prog Rows.cutsRelaxedRow.wrapper Rows.cutsRelaxedRow.mainSum := by unfold Func.isWrapper; first | (rw [if_pos (by decide +kernel)]; kernel_rfl) | (rw [if_neg (by decide +kernel)]; exact ⟨rfl, rfl⟩)
set_option maxRecDepth 100000 in
theorem cutsRelaxedCore (h : ∀ (n0 : Int) (X1 : Si.TX) (A1 : Si.TA) (a1 : Option Addr) (c1 : Nat) (t2 : Nat → ByteArray) (a2 : Option Addr) (n2 c2 : Nat) (n3 : Int) (w : World) (q1 : Si.RowsT w a1 X1 A1) (q2 : Si.SS w a2 t2 n2) (hg : Gl w), Calls Tryz.prog 12 #[.int .i64 n0, .slice a1 X1.m c1, .slice a2 n2 c2, .int .i64 n3] w fun e w' => e = .returned (.bool true) ∧ Below w.heap.size w w') : Rows.CutsRelaxedSaid := by
  have lifted : ∀ (os : Os) (_ : os.Started) (H : Type) (enc : TypeId × Value → H),
      ReturnsInHanded {} Tryz.checked os 12 .any (fun w args => (Rows.cutsRelaxedSpec.pre enc Tryz.prog Tryz.f12 [] false w args ∧ laidMetH Tryz.prog Rows.cutsRelaxedRow.laid w) ∧ sizedMet enc Tryz.prog Tryz.f12 (OpenSpec.ofChange Rows.cutsRelaxedSpec) false w args)
        (Rows.cutsRelaxedSpec.post enc Tryz.prog Tryz.f12 false true false false) := by
    intro os started H enc
    refine returnsInHanded_of_calls ownFact started (by kernel_rfl)
      (ChangeSpec.witness_shaped (enc := enc) (C := Tryz.checked) (os := os) (X := fun w _ => laidMetH Tryz.prog Rows.cutsRelaxedRow.laid w) false (World.laidAll Tryz.prog os laidL) #[.int .i64 0, .slice none 0 0, .slice none 0 0, .int .i64 0] 8 (World.laidAll_os _ _ _)
        (shapedFact os _) (by kernel_rfl) (by kernel_rfl) (by kernel_rfl) (laidFact os _)) ?_
    have core : ∀ (W : World) (base : Nat) (args : Array Value) (ds gs : List (DataW H)) (before : List MemPlace), (∀ (j : Nat) t v, Tryz.f12.params[j]? = some t → args[j]? = some v → Value.okWide Tryz.checked.prog W .any base t v) →
        DataW.Whole enc Tryz.checked.prog Tryz.f12.params.toList Rows.cutsRelaxedSpec.vars false W args.toList ds gs before → Gl W →
        Calls Tryz.checked.prog 12 args W fun e W' => ∃ v, e = .returned v ∧ Rows.cutsRelaxedSpec.post enc Tryz.checked.prog Tryz.f12 false true false false W args v W' := by
      intro W base args ds gs before hval0 hW hg
      have hval : ∀ (j : Nat) t v, Tryz.f12.params[j]? = some t → args[j]? = some v → Value.okWide Tryz.prog W .any base t v := hval0
      have hW' := hW
      obtain ⟨p, q, hA0, hV, rfl, _, _⟩ := hW
      have hA : DataW.TrodAll enc Tryz.prog W 0 (fun _ => true) true Tryz.f12.params.toList args.toList ds p := hA0
      rw [Tryz.params12] at hA hval
      obtain ⟨v0, vs0, d0, ds0, p0, r0, hargs, rfl, rfl, h0, rr0⟩ := trodAll_cons hA
      obtain ⟨v1, vs1, d1, ds1, p1, r1, rfl, rfl, rfl, h1, rr1⟩ := trodAll_cons rr0
      obtain ⟨v2, vs2, d2, ds2, p2, r2, rfl, rfl, rfl, h2, rr2⟩ := trodAll_cons rr1
      obtain ⟨v3, vs3, d3, ds3, p3, r3, rfl, rfl, rfl, h3, rr3⟩ := trodAll_cons rr2
      obtain ⟨rfl, rfl, rfl⟩ := trodAll_nil rr3
      obtain rfl : args = #[v0, v1, v2, v3] := by cases args; simp_all
      obtain ⟨rfl, rfl⟩ := trodVars_none hV
      obtain ⟨n0, rfl, rfl, rfl, w0⟩ := open_int Tryz.underlying3 (hval 0 3 v0 rfl rfl) h0
      obtain ⟨a1, n1, c1, rfl⟩ := okWide_slice Tryz.underlying22 (hval 1 22 v1 rfl rfl)
      have k1 := h1
      have lt1 : ∀ x ∈ p1, x.block < W.heap.size := by obtain ⟨m, hm⟩ := k1; exact DataW.trod_lt m _ _ _ hm
      obtain ⟨X1, A1, rfl, q1⟩ : ∃ (X : TX) (A : TA), X.m = n1 ∧ RowsT W a1 X A := by obtain ⟨fuel, hf⟩ := h1; exact open_rows (x := (d1, p1)) hf
      obtain ⟨a2, n2, c2, rfl⟩ := okWide_slice Tryz.underlying23 (hval 2 23 v2 rfl rfl)
      have k2 := h2
      have lt2 : ∀ x ∈ p2, x.block < W.heap.size := by obtain ⟨m, hm⟩ := k2; exact DataW.trod_lt m _ _ _ hm
      obtain ⟨t2, q2⟩ : ∃ t, SS W a2 t n2 := by obtain ⟨fuel, hf⟩ := h2; exact open_strs (x := (d2, p2)) hf
      obtain ⟨n3, rfl, rfl, rfl, w3⟩ := open_int Tryz.underlying3 (hval 3 3 v3 rfl rfl) h3
      refine (h n0 X1 A1 a1 c1 t2 a2 n2 c2 n3 W q1 q2 hg).mono fun e W' ⟨he, hb⟩ => ?_
      subst he
      exact ⟨_, rfl, _, _, _, [], _, [], hW', trodAll_mk1 (shut_bool Tryz.underlying4 _), (trodAll_cons_mk (shut_int Tryz.underlying3 w0) (trodAll_cons_mk (Below.trod laidOutK (by kernel_rfl) (of_decide_eq_true (by kernel_rfl)) k1 hb lt1) (trodAll_cons_mk (Below.trod laidOutK (by kernel_rfl) (of_decide_eq_true (by kernel_rfl)) k2 hb lt2) (trodAll_cons_mk (shut_int Tryz.underlying3 w3) trodAll_mk0)))), rfl, hb.frame _, fun h => by cases h⟩
    intro w tape i _ hsh _ hok hpre _
    obtain ⟨_, _, _, fn2, hfn2, _, _, _, _, hval⟩ := hok
    obtain rfl : fn2 = Tryz.f12 := Option.some.inj (hfn2.symm.trans Tryz.func12)
    obtain ⟨⟨⟨ds, gs, before, hw, _⟩, hlaid⟩, _⟩ := hpre
    refine (core (w.forCall tape i) w.heap.size i.args ds gs before hval (DataW.Whole.of_heap (w' := w.forCall tape i) (by rfl) hw) (gl_of (laidMetH.of_heap (w' := w.forCall tape i) (by rfl) hlaid) hsh)).mono fun e W' ⟨v, he, hp⟩ => ?_
    subst he
    exact ChangeSpec.post_blind hp
  exact OpenClaim.holds_of_wide 12 Tryz.f12 rfl rfl rfl rfl rfl rfl rfl ⟨rfl, rfl, rfl, rfl, rfl⟩ rfl rfl rfl rfl rfl cutsRelaxedFn Tryz.func12 cutsRelaxedClosed cutsRelaxedInst cutsRelaxedWrap
    (fun os started H enc _ => lifted os started H enc)
theorem cutsRelaxedGoes : false = Rows.cutsRelaxedRow.goesBy Tryz.pinned.checked.prog := by kernel_rfl
theorem cutsRelaxedCardOf (h : Rows.CutsRelaxedSaid) : Rows.CutsRelaxedCardSaid :=
  Claim7.holds_tied_plain_at .later [] _ _ _ _ h (fun _ h => by cases h) (by kernel_rfl) (fun _ h => by cases h) cutsRelaxed_row_tie rfl ⟨rfl, rfl⟩ mainFact rfl
    (fun f fn hf hfn => by
      obtain rfl : f = 12 := Option.some.inj (cutsRelaxedFn.symm.trans hf) |>.symm
      obtain rfl : fn = Tryz.f12 := (Option.some.inj (Tryz.func12.symm.trans hfn)).symm
      exact ⟨looksFact, fun j t ht => by
        rw [Tryz.params12] at ht
        have hm : t ∈ [3, 22, 23] := by simpa [or_comm, or_left_comm, or_assoc] using Array.mem_of_getElem? ht
        have hall : ([3, 22, 23].all fun u => !Tryz.prog.wantsStandIn u) = true := by kernel_rfl
        exact (show Tryz.prog.wantsStandIn t = false by simpa using List.all_eq_true.1 hall t hm)⟩)
    cutsRelaxedGoes
/-- The card of CutsRelaxed. -/
theorem cutsRelaxed_card : Rows.CutsRelaxedCardSaid := cutsRelaxedCardOf (cutsRelaxedCore fun n0 X1 A1 a1 c1 t2 a2 n2 c2 n3 w q1 q2 hg => Calls.mono (run_of_ret (c12 w q1 q2 hg)) fun _ _ ⟨_, he, hv, hb⟩ => ⟨by rw [he, hv], hb⟩)
#print axioms cutsRelaxed_card
end Go.Proofs.YtoaiappkhcjagaaGreatDoor
