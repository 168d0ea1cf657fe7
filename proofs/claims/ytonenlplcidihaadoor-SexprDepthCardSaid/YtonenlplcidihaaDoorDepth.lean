/- The law SexprDepth holds for every input: lists are parsed as deep as MaxDepth says and no deeper. No condition but the given card's own. -/
import Derived.Test.YtonenlplcidihaaDoorSxK
import Derived.Test.YtonenlplcidihaaDoorSxT
import Derived.Test.YtonenlplcidihaaDoorRows
import Derived.Test.YtonenlplcidihaaDoorTie
import Derived.Test.YtonenlplcidihaaDoorCards
import Derived.ProofKit
import Derived.OpenShut
import Derived.ShutString
import Derived.Below
import Derived.Lay
import Derived.LaidOnce
import Derived.SevenTiedAt
import Derived.ChangeSlices
import Derived.ChangeOld
import Derived.Carry
namespace Go.Proofs.YtonenlplcidihaaDoor
open Go.ChangeShapes Go.WideShapes Go.ChangeAt Go.RowKit Go.V
open Go.ChangeMaps (open_string shut_string)
set_option linter.unusedVariables false
theorem ownK : ownKnob Tryd.prog.godebug = none := by kernel_rfl
set_option maxRecDepth 100000 in
theorem sexprDepthCore (h : ∀ (n0 : Int) (w : World) , Calls Tryd.prog 7 #[.int .i64 n0] w fun e w' => e = .returned (.bool true) ∧ Below w.heap.size w w') : Rows.SexprDepthSaid := by
  have lifted : ∀ (os : Os) (_ : os.Started) (H : Type) (enc : TypeId × Value → H),
      ReturnsInHanded {} Tryd.checked os 7 .any (fun w args => (Rows.sexprDepthSpec.pre enc Tryd.prog Tryd.f7 [] false w args ∧ laidMetH Tryd.prog Rows.sexprDepthRow.laid w) ∧ sizedMet enc Tryd.prog Tryd.f7 (OpenSpec.ofChange Rows.sexprDepthSpec) false w args)
        (Rows.sexprDepthSpec.post enc Tryd.prog Tryd.f7 false true false false) := by
    intro os started H enc
    refine returnsInHanded_of_change_and (C := Tryd.checked) (X := fun w _ => laidMetH Tryd.prog Rows.sexprDepthRow.laid w) (fun _ _ _ hh h => h.of_heap hh) ownK started (by kernel_rfl) Tryd.func7
      (ChangeSpec.witness_shaped (enc := enc) (C := Tryd.checked) (os := os) (X := fun w _ => laidMetH Tryd.prog Rows.sexprDepthRow.laid w) false (World.laidAll Tryd.prog os Rows.sexprDepthRow.laid) #[.int .i64 0] 8 (World.laidAll_os _ _ _)
        (World.shaped_of_ZipB (by kernel_rfl) (by kernel_rfl)) (by kernel_rfl) (by kernel_rfl) (by kernel_rfl)
        (by rw [MakeChecks.laidMetH_plain _ _ _ (by kernel_rfl)]; exact laidMet_laidAll _ (by kernel_rfl) (by kernel_rfl))) ?_
    intro W base args ds gs before hval0 hW _ _ _ _
    have hval : ∀ (j : Nat) t v, Tryd.f7.params[j]? = some t → args[j]? = some v → Value.okWide Tryd.prog W .any base t v := hval0
    have hW' := hW
    obtain ⟨p, q, hA0, hV, rfl, _, _⟩ := hW
    have hA : DataW.TrodAll enc Tryd.prog W 0 (fun _ => true) true Tryd.f7.params.toList args.toList ds p := hA0
    rw [Tryd.params7] at hA hval
    obtain ⟨v0, vs0, d0, ds0, p0, q0, hargs, rfl, rfl, h0, r0⟩ := trodAll_cons hA
    obtain ⟨rfl, rfl, rfl⟩ := trodAll_nil r0
    obtain rfl : args = #[v0] := by cases args; simp_all
    obtain ⟨rfl, rfl⟩ := trodVars_none hV
    obtain ⟨n0, rfl, rfl, rfl, w0⟩ := open_int Tryd.underlying3 (hval 0 3 v0 rfl rfl) h0
    refine (h n0 W ).mono fun e W' ⟨he, hb⟩ => ?_
    subst he
    exact ⟨_, rfl, _, _, _, [], _, [], hW', trodAll_mk1 (shut_bool Tryd.underlying4 _), (trodAll_cons_mk (shut_int Tryd.underlying3 w0) trodAll_mk0), rfl, hb.frame _, fun h => by cases h⟩
  exact OpenClaim.holds_of_wide 7 Tryd.f7 rfl rfl rfl rfl rfl rfl rfl ⟨rfl, rfl, rfl, rfl, rfl⟩ rfl rfl rfl rfl rfl (by kernel_rfl) Tryd.func7 (by kernel_rfl)
    (of_decide_eq_true (by kernel_rfl)) (by unfold Func.isWrapper; first | (rw [if_pos (by decide +kernel)]; kernel_rfl) | (rw [if_neg (by decide +kernel)]; exact ⟨rfl, rfl⟩))
    (fun os started H enc _ => lifted os started H enc)
theorem sexprDepthCardOf (h : Rows.SexprDepthSaid) : Rows.SexprDepthCardSaid :=
  Claim7.holds_tied_plain_at .later [] [.data, .pinned] true (true, "4104577aa53ef28f94370e91399e8514372385fcd8c879a2a68e549d2b349cba") false h (fun _ h => by cases h) (by kernel_rfl) (fun _ h => by cases h) sexprDepth_row_tie rfl ⟨rfl, rfl⟩ (by kernel_rfl) rfl
    (fun f fn hf hfn => by
      obtain rfl : f = 7 := Option.some.inj ((show Tryd.prog.funcNamed "chcsolver/chcsolverlaw02.SexprDepth" = some 7 by kernel_rfl).symm.trans hf) |>.symm
      obtain rfl : fn = Tryd.f7 := (Option.some.inj (Tryd.func7.symm.trans hfn)).symm
      exact ⟨by kernel_rfl, fun j t ht => by
        rw [Tryd.params7] at ht
        have hm : t ∈ [3] := by simpa using Array.mem_of_getElem? ht
        have hall : ([3].all fun u => !Tryd.prog.wantsStandIn u) = true := by kernel_rfl
        exact (show Tryd.prog.wantsStandIn t = false by simpa using List.all_eq_true.1 hall t hm)⟩)
    (by kernel_rfl)
theorem sexprDepthWalk (n0 : Int) (w : World) : Calls Tryd.prog 7 #[.int .i64 n0] w fun e w' => e = .returned (.bool true) ∧ Below w.heap.size w w' :=
  Calls.mono (Sx.run_of_ret (Sx.c7 Sx.trimOk n0 w)) fun _ _ ⟨_, he, hv, hb⟩ => ⟨by rw [he, hv], hb⟩
/-- The card of SexprDepth. -/
theorem sexprDepth_card : Rows.SexprDepthCardSaid := sexprDepthCardOf (sexprDepthCore sexprDepthWalk)
#print axioms sexprDepth_card
end Go.Proofs.YtonenlplcidihaaDoor
