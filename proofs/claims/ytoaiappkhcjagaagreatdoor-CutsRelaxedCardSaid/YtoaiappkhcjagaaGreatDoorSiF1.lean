/- Part of the proof: SiF1. -/
import Derived.Test.YtoaiappkhcjagaaGreatDoorProg
import Derived.KernelRfl
import GoSem.ClaimSeven
set_option linter.unusedVariables false
set_option linter.unusedSimpArgs false
namespace Go.Proofs.Si
open Go Go.Proofs Go.Proofs.Tryz
set_option maxRecDepth 100000
theorem zFJ : ∀ (w r:List Char),(∀ c,c∈w->c≠Char.ofNat 32)->wordsSigns (w++Char.ofNat 32::r)=w::wordsSigns r
 | [],r,_=>rfl
 | c::w,r,h=>by
  have ih:=zFJ w r fun d hd=>h d (List.mem_cons_of_mem _ hd)
  have hc:=h c List.mem_cons_self
  rw [List.cons_append,wordsSigns.eq_3 _ _ hc,ih]
theorem noSp {w:List Char} (h:(w.all fun c=>c != Char.ofNat 32)=true) : ∀ c,c∈w->c≠Char.ofNat 32:=fun c hc=>by
 have:=List.all_eq_true.1 h c hc
 simpa using this
def L1:List Char:=List.map Char.ofNat [104,97,114,110,101,115,115]
def L2:List Char:=List.map Char.ofNat [97,48,51,56,52,102,101,49,97,99,102,101,51,49,100,97,102,48,54,97,52,98,56,57,56,57,51,54,52,97,49,54,55,97,48,49,54,53,101,53,102,50,49,101,53,48,100,49,98,50,49,57,52,101,57,101,52,97,48,48,57,54,51,97]
def L3:List Char:=List.map Char.ofNat [99,117,116]
def L4:List Char:=List.map Char.ofNat [97,116,32,99,104,99,115,111,108,118,101,114,47,99,104,99,115,111,108,118,101,114,108,97,119,50,55,46,83,105,109,112,108,101,120,72,111,108,100,115,77,97,116,99,104,101,115,83,112,101,99,32,99,104,99,115,111,108,118,101,114,47,99,104,99,115,111,108,118,101,114,108,97,119,50,55,46,83,105,109,112,108,101,120,67,104,101,99,107,77,97,116,99,104,101,115,83,112,101,99,32,99,104,99,115,111,108,118,101,114,47,99,104,99,115,111,108,118,101,114,108,97,119,50,55,46,83,105,109,112,108,101,120,65,110,115,119,101,114,115,32,99,104,99,115,111,108,118,101,114,47,99,104,99,115,111,108,118,101,114,108,97,119,50,55,46,83,105,109,112,108,101,120,67,111,109,112,108,101,116,101,32,99,104,99,115,111,108,118,101,114,47,99,104,99,115,111,108,118,101,114,108,97,119,50,55,46,83,105,109,112,108,101,120,77,97,120,105,109,105,122,101,115,32,99,104,99,115,111,108,118,101,114,47,99,104,99,115,111,108,118,101,114,108,97,119,50,55,46,83,105,109,112,108,101,120,77,97,120,66,111,117,110,100,115,32,99,104,99,115,111,108,118,101,114,47,99,104,99,115,111,108,118,101,114,108,97,119,50,55,46,83,105,109,112,108,101,120,73,109,112,108,105,101,115,32,99,104,99,115,111,108,118,101,114,47,99,104,99,115,111,108,118,101,114,108,97,119,50,55,46,83,105,109,112,108,101,120,73,109,112,108,105,101,115,72,111,108,100,115,32,99,104,99,115,111,108,118,101,114,47,99,104,99,115,111,108,118,101,114,108,97,119,50,55,46,83,105,109,112,108,101,120,83,99,97,108,101,115,32,99,104,99,115,111,108,118,101,114,47,99,104,99,115,111,108,118,101,114,108,97,119,50,56,46,67,117,116,115,82,101,108,97,120,101,100,32,99,104,99,115,111,108,118,101,114,47,99,104,99,115,111,108,118,101,114,108,97,119,50,56,46,67,117,116,115,84,105,103,104,116,101,110,75,101,101,112,115,32,99,104,99,115,111,108,118,101,114,47,99,104,99,115,111,108,118,101,114,108,97,119,50,56,46,67,117,116,115,84,105,103,104,116,101,110,77,97,116,99,104,101,115,83,112,101,99,32,99,104,99,115,111,108,118,101,114,47,99,104,99,115,111,108,118,101,114,108,97,119,50,56,46,67,117,116,115,67,104,101,99,107,77,97,116,99,104,101,115,83,112,101,99,32,99,104,99,115,111,108,118,101,114,47,99,104,99,115,111,108,118,101,114,108,97,119,50,56,46,67,117,116,115,65,110,115,119,101,114,115,32,99,104,99,115,111,108,118,101,114,47,99,104,99,115,111,108,118,101,114,108,97,119,50,56,46,67,117,116,115,83,111,117,110,100,32,99,104,99,115,111,108,118,101,114,47,99,104,99,115,111,108,118,101,114,108,97,119,50,56,46,67,117,116,115,77,111,110,111,116,111,110,101,32,99,104,99,115,111,108,118,101,114,47,99,104,99,115,111,108,118,101,114,108,97,119,50,56,46,67,117,116,115,66,111,117,110,100,101,100]
def letters:List Char:=L1++Char.ofNat 32::(L2++Char.ofNat 32::(L3++Char.ofNat 32::L4))
theorem initChars:prog.initOrder.toList=letters:=(congrArg String.toList (show prog.initOrder=String.ofList letters by kernel_rfl)).trans String.toList_ofList
theorem wordsFact:wordsSigns prog.initOrder.toList=L1::L2::L3::wordsSigns L4:=by
 rw [initChars,letters,zFJ _ _ (noSp (by kernel_rfl)),zFJ _ _ (noSp (by kernel_rfl)),zFJ _ _ (noSp (by kernel_rfl))]
theorem sumFact:isSumSigns L2=true:=by kernel_rfl
theorem h1Fact : (L1 == "harness".toList) = true := by kernel_rfl
theorem shaFact : L2 = "a0384fe1acfe31daf06a4b8989364a167a0165e5f21e50d1b2194e9e4a00963a".toList := (String.toList_ofList.symm.trans (congrArg String.toList (show String.ofList L2 = "a0384fe1acfe31daf06a4b8989364a167a0165e5f21e50d1b2194e9e4a00963a" by kernel_rfl)))
theorem zDb:behindMainWord (wordsSigns prog.initOrder.toList)=L3::wordsSigns L4:=by
 rw [wordsFact,behindMainWord,h1Fact,sumFact];rfl
theorem mainIs_of {P : Program} {h s : List Char} {r : List (List Char)} (hw : wordsSigns P.initOrder.toList = h :: s :: r) (hs : isSumSigns s = true) (hh : (h == "harness".toList) = true) : P.mainIs = some (true, s) := by
 unfold Program.mainIs
 rw [hw]
 simp only [hs,hh,Bool.not_true,Bool.false_eq_true,if_false,if_true]
theorem mainFact : prog.mainIs = some (true, "a0384fe1acfe31daf06a4b8989364a167a0165e5f21e50d1b2194e9e4a00963a".toList) := (mainIs_of wordsFact sumFact h1Fact).trans (congrArg (fun x => some (true, x)) shaFact)
theorem make_of {P : Program} {c : List Char} {r : List (List Char)} (hb : behindMainWord (wordsSigns P.initOrder.toList) = c :: r) (h1 : (c == "gc".toList || c == "spec".toList) = false) (h2 : (c == "cut".toList) = true) : P.make = some .cut := by
 unfold Program.make
 rw [hb]
 simp only [h1,h2,Bool.true_or,Bool.false_eq_true,if_false,if_true]
theorem mayEnter_of {P : Program} {c : List Char} {r : List (List Char)} (hb : behindMainWord (wordsSigns P.initOrder.toList) = c :: r) (hs : stripLifts liftWords (c :: r) = ([], c :: r)) (h2 : (c == "cut".toList) = true) (hd : P.doorFits [] = true) (hl : P.laysLater = false) (hr : P.bearsReflect = false) : P.mayEnter = true := by
 have hc : c = "cut".toList := by simpa using h2
 unfold Program.mayEnter
 rw [hb]
 simp only [hs,hd,hl,hr,List.head?_cons,<- hc]
 simp
theorem stripFact (r:List (List Char)):stripLifts liftWords (L3::r)=([],L3::r):=by
 unfold liftWords
 simp only [stripLifts]
 repeat rw [if_neg (by decide +kernel)]
theorem zGf:prog.headLifts=[]:=by
 unfold Program.headLifts
 rw [zDb,stripFact]
 exact ite_self _
theorem liftsFact:prog.liftsFinal=false:=by
 unfold Program.liftsFinal
 rw [zGf,zDb]
 show ((some L3 == some "carried".toList && _) || _) = false
 rw [show (some L3 == some "carried".toList) = false by kernel_rfl]; rfl
theorem makeFact:prog.make=some .cut:=make_of zDb (by kernel_rfl) (by kernel_rfl)
theorem doorFact:prog.doorFits []=true:=by kernel_rfl
theorem laterFact:prog.laysLater=false:=by kernel_rfl
theorem reflFact:prog.bearsReflect=false:=by kernel_rfl
theorem mayEnterFact:prog.mayEnter=true:=mayEnter_of zDb (stripFact _) (by kernel_rfl) doorFact laterFact reflFact
end Go.Proofs.Si
