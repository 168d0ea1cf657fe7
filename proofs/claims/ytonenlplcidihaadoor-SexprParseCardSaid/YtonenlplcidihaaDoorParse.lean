/- The law SexprParse holds for every string: the program's parser and the reference's agree on every text of at most 300 bytes. No condition but the given card's own. -/
import Derived.Test.YtonenlplcidihaaDoorSxP9
import Derived.Test.YtonenlplcidihaaDoorSxT
import Derived.Test.YtonenlplcidihaaDoorRows
import Derived.Test.YtonenlplcidihaaDoorTie
import Derived.Test.YtonenlplcidihaaDoorCards
import Derived.ProofKit
import Derived.OpenShut
import Derived.ShutString
import Derived.Below
import Derived.Lay
import Derived.LaidOnce
import Derived.SevenTiedAt
namespace Go.Proofs.YtonenlplcidihaaDoor
open Go.ChangeShapes Go.WideShapes Go.ChangeAt Go.RowKit
open Go.ChangeMaps (open_string shut_string)
theorem ownK : ownKnob Tryd.prog.godebug = none := by kernel_rfl
set_option maxRecDepth 100000 in
theorem parseCore (h : ∀ (s : ByteArray) (w : World), Calls Tryd.prog 3 #[.string s] w fun e w' => e = .returned (.bool true) ∧ Below w.heap.size w w') : Rows.SexprParseSaid := by
  have lifted : ∀ (os : Os) (_ : os.Started) (H : Type) (enc : TypeId × Value → H),
      ReturnsInHanded {} Tryd.checked os 3 .any (fun w args => (Rows.sexprParseSpec.pre enc Tryd.prog Tryd.f3 [] false w args ∧ laidMetH Tryd.prog Rows.sexprParseRow.laid w) ∧ sizedMet enc Tryd.prog Tryd.f3 (OpenSpec.ofChange Rows.sexprParseSpec) false w args)
        (Rows.sexprParseSpec.post enc Tryd.prog Tryd.f3 false true false false) := by
    intro os started H enc
    refine returnsInHanded_of_change_and (C := Tryd.checked) (X := fun w _ => laidMetH Tryd.prog Rows.sexprParseRow.laid w) (fun _ _ _ hh h => h.of_heap hh) ownK started (by kernel_rfl) Tryd.func3
      (ChangeSpec.witness_shaped (enc := enc) (C := Tryd.checked) (os := os) (X := fun w _ => laidMetH Tryd.prog Rows.sexprParseRow.laid w) false (World.laidAll Tryd.prog os Rows.sexprParseRow.laid) #[.string ByteArray.empty] 8 (World.laidAll_os _ _ _)
        (World.shaped_of_ZipB (by kernel_rfl) (by kernel_rfl)) (by kernel_rfl) (by kernel_rfl) (by kernel_rfl)
        (by rw [MakeChecks.laidMetH_plain _ _ _ (by kernel_rfl)]; exact laidMet_laidAll _ (by kernel_rfl) (by kernel_rfl))) ?_
    intro W base args ds gs before hval0 hW _ _ _ _
    have hval : ∀ (j : Nat) t v, Tryd.f3.params[j]? = some t → args[j]? = some v → Value.okWide Tryd.prog W .any base t v := hval0
    have hW' := hW
    obtain ⟨p, q, hA0, hV, rfl, _, _⟩ := hW
    have hA : DataW.TrodAll enc Tryd.prog W 0 (fun _ => true) true Tryd.f3.params.toList args.toList ds p := hA0
    rw [Tryd.params3] at hA hval
    obtain ⟨v0, d0, rfl, rfl, h0⟩ := trodAll_one hA
    obtain ⟨rfl, rfl⟩ := trodVars_none hV
    obtain ⟨s, rfl, rfl, rfl, y0⟩ := open_string Tryd.underlying9 (hval 0 9 v0 rfl rfl) h0
    simp only [List.append_nil] at hW'
    refine (h s W).mono fun e W' ⟨he, hb⟩ => ?_
    subst he
    exact ⟨_, rfl, _, _, _, [], [], [], hW', trodAll_mk1 (shut_bool Tryd.underlying4 _), trodAll_mk1 (shut_string Tryd.underlying9 y0), rfl, hb.frame _, fun h => by cases h⟩
  exact OpenClaim.holds_of_wide 3 Tryd.f3 rfl rfl rfl rfl rfl rfl rfl ⟨rfl, rfl, rfl, rfl, rfl⟩ rfl rfl rfl rfl rfl (by kernel_rfl) Tryd.func3 (by kernel_rfl)
    (of_decide_eq_true (by kernel_rfl)) (by unfold Func.isWrapper; first | (rw [if_pos (by decide +kernel)]; kernel_rfl) | (rw [if_neg (by decide +kernel)]; exact ⟨rfl, rfl⟩))
    (fun os started H enc _ => lifted os started H enc)
theorem parseCard (h : Rows.SexprParseSaid) : Rows.SexprParseCardSaid :=
  Claim7.holds_tied_plain_at .later [] [.data, .pinned] true (true, "4104577aa53ef28f94370e91399e8514372385fcd8c879a2a68e549d2b349cba") false h (fun _ h => by cases h) (by kernel_rfl) (fun _ h => by cases h) sexprParse_row_tie rfl ⟨rfl, rfl⟩ (by kernel_rfl) rfl
    (fun f fn hf hfn => by
      obtain rfl : f = 3 := Option.some.inj ((show Tryd.prog.funcNamed "chcsolver/chcsolverlaw02.SexprParse" = some 3 by kernel_rfl).symm.trans hf) |>.symm
      obtain rfl : fn = Tryd.f3 := (Option.some.inj (Tryd.func3.symm.trans hfn)).symm
      exact ⟨by kernel_rfl, fun j t ht => by
        rw [Tryd.params3] at ht
        have hm : t ∈ [9] := by simpa using Array.mem_of_getElem? ht
        have hall : ([9].all fun u => !Tryd.prog.wantsStandIn u) = true := by kernel_rfl
        exact (show Tryd.prog.wantsStandIn t = false by simpa using List.all_eq_true.1 hall t hm)⟩)
    (by kernel_rfl)
theorem parseWalk (s : ByteArray) (w : World) : Calls Tryd.prog 3 #[.string s] w fun e w' => e = .returned (.bool true) ∧ Below w.heap.size w w' :=
  Calls.mono (Sx.run_of_ret (Sx.c3 Sx.trimOk s w)) fun _ _ ⟨_, he, hv, hb⟩ => ⟨by rw [he, hv], hb⟩
/-- The card of SexprParse. -/
theorem sexprParse_card : Rows.SexprParseCardSaid := parseCard (parseCore parseWalk)
#print axioms sexprParse_card
end Go.Proofs.YtonenlplcidihaaDoor
