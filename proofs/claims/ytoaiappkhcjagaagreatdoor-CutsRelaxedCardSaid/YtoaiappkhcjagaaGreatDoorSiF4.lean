/- Part of the proof: SiF4. -/
import Derived.Test.YtoaiappkhcjagaaGreatDoorSiF3
import Derived.Test.YtoaiappkhcjagaaGreatDoorMSiZA
set_option linter.unusedVariables false
set_option linter.unusedSimpArgs false
namespace Go.Proofs.Si
open Go Go.V Go.Proofs Go.Proofs.YtoaiappkhcjagaaGreatDoor Go.RowKit Go.ChangeShapes Go.Proofs.Tryz
set_option maxRecDepth 100000
theorem star : "*" ++ "errors.errorString" = "*errors.errorString" := by decide
theorem nameRows : ((List.range prog.types.size).all fun u => prog.typeName? 3 u != some "*errors.errorString" || u == 282) = true := by kernel_rfl
theorem nameNamed : ((List.range prog.types.size).all fun e => prog.typeName? 2 e != some "errors.errorString" || (match (prog.info? e).map (·.desc) with | some (TypeDesc.named _ _) => true | _ => false)) = true := by kernel_rfl
theorem rowName (u : TypeId) (h : prog.typeName? 3 u = some "*errors.errorString") : u = 282 :=
 typeName_ptr_named (nm := "errors.errorString") (by rw [star]; exact nameRows) nameNamed (by decide) u (by rw [star]; exact h)
theorem gPow : prog.globalNamed "internal/strconv.uint64pow10" = some 0 := by kernel_rfl
theorem gErr : prog.globalNamed "strconv.ErrRange" = some 3 := by kernel_rfl
theorem tErr:(prog.globals[3]?).map (·.type)=some 172:=by kernel_rfl
theorem gl_of {w:World} (hl:laidMetH prog laidL w) (hsh:w.ShapedOpen prog):Gl w:=by
 rw [MakeChecks.laidMetH_plain _ _ _ plainFact] at hl
 have h2:=hl.tail.tail
 refine⟨?_,?_,?_⟩
 ·exact Lib.tabIs_of_head (n:=20) (e:=201) (t:=240) gPow (by kernel_rfl) (by kernel_rfl) (by kernel_rfl) (by kernel_rfl) (by kernel_rfl) h2
 ·exact cell_of_shapedOpen_int (zero:=#[.int .i64 0]) (t:=3) hsh (of_decide_eq_true (by kernel_rfl)) (by kernel_rfl) rfl (by kernel_rfl) (by kernel_rfl) underlying3
 ·obtain⟨a,s,h,_⟩:=laid_sentinel h2.tail gErr tErr underlying172 rowName underlying282 underlying284 rfl rfl underlying9 (by kernel_rfl) (by kernel_rfl)
  exact⟨_,_,h⟩
theorem shapedFact (os:Os) (args:Array Value):((World.laidAll prog os laidL).forCall (fun _ _=>0) ⟨#[],args,[]⟩).Shaped prog:=World.shaped_of_ZipB (by kernel_rfl) (by kernel_rfl)
theorem laidFact (os:Os) (args:Array Value):laidMetH prog laidL ((World.laidAll prog os laidL).forCall (fun _ _=>0) ⟨#[],args,[]⟩).memory:=by
 rw [MakeChecks.laidMetH_plain _ _ _ plainFact]
 exact laidMet_laidAll args (fitsFact os) (ifaceFact os)
theorem run_of_ret {P:Program} {f:Nat} {args:Array Value} {w:World} {R:Value->World->Prop} (h:Ret P f args w R):Calls P f args w fun e w'=>∃ v,e = .returned v/\R v w':=h
end Go.Proofs.Si
