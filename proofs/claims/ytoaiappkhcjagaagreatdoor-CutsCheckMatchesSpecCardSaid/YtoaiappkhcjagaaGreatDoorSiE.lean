/- Part of the proof: SiE. -/
import Derived.Test.YtoaiappkhcjagaaGreatDoorMV7
import Derived.KernelRfl
import Derived.Test.YtoaiappkhcjagaaGreatDoorProg
set_option linter.unusedVariables false
set_option linter.unusedSimpArgs false
namespace Go.Proofs.Si
open Go Go.V Go.Proofs Go.Proofs.Tryz
set_option maxRecDepth 100000
set_option maxHeartbeats 4000000
abbrev xA:Rs:=.one (.one .str)
abbrev xB:Rs:=.one (.one .bool)
abbrev xC:Rs:=.one (.one .slice)
abbrev xD:Rs:=.one (.agg [(.int .i64),(.int .i64),.str])
abbrev xE:Rs:=.one (.one (.int .i64))
abbrev xF:Rs:=.tup []
abbrev xG:Rs:=.one (.agg [.slice,(.int .i64),(.int .i64),(.int .i64),.str])
abbrev xH:Rs:=.one (.agg [(.int .i64),(.int .i64),.str,(.int .i64),(.int .i64),.str])
abbrev xI:Rs:=.tup [(.one .slice),(.one .slice)]
abbrev xJ:Rs:=.one (.agg [.bool,.slice,.slice])
abbrev xK:Rs:=.tup [(.agg [.slice,(.int .i64),.str]),(.one .bool),(.one (.int .i64))]
abbrev xL:Rs:=.tup [(.one .str),(.one .str)]
abbrev xM:Rs:=.tup [(.one (.int .i64)),(.one .any)]
abbrev xN:Rs:=.tup [(.one (.int .i64)),(.one .bool)]
abbrev xO:Rs:=.tup [(.agg [(.int .i64),(.int .i64),.str,(.int .i64),(.int .i64),.str]),(.one .bool)]
abbrev xP:Rs:=.tup [(.one .slice),(.agg [(.int .i64),(.int .i64),.str]),(.one .bool)]
noncomputable def siE:Env:=⟨prog,[(15,xB),(22,xC),(24,xB),(25,xB),(29,xB),(31,xB),(33,.one (.agg [.slice,.str,.bool,.bool])),(34,xB),(36,xA),(37,xE),(39,xB),(41,xB),(42,xB),(43,xE),(44,xA),(45,xB),(46,xB),(47,xB),(48,xK),(49,.tup [(.agg [(.int .i64),.slice,.slice]),(.one (.int .i64))]),(50,xB),(51,xK),(52,xB),(53,xB),(54,xB),(58,xA),(59,xA),(61,xB),(62,xB),(64,xC),(67,xE),(70,.one (.one .ptr)),(71,.tup [(.one .slice),(.one .bool)]),(72,xC),(73,xC),(75,xE),(76,xA),(77,xB),(79,xA),(80,xB),(81,.tup [(.agg [.bool,.str,.str]),(.one .bool)]),(82,.one (.agg [.bool,.str,.str])),(83,xA),(84,xA),(85,xA),(86,xA),(87,xA),(88,xA),(89,xA),(90,xA),(91,xB),(92,xB),(93,.tup [(.one .slice),(.one .slice),(.one (.int .i64))]),(94,xC),(95,xC),(96,xB),(97,.tup [(.agg [.slice,(.int .i64),(.int .i64),(.int .i64),.str]),(.one .bool)]),(98,xG),(99,xF),(100,xF),(101,xB),(102,xB),(103,.tup [(.agg [.slice,(.int .i64),(.int .i64),(.int .i64),.str]),(.agg [.slice,(.int .i64),(.int .i64),(.int .i64),.str])]),(104,xD),(105,xE),(106,xC),(108,xA),(109,xE),(110,xA),(111,xB),(112,xD),(113,xD),(114,xD),(116,.tup [(.one (.int .i64)),(.agg [(.int .i64),(.int .i64),.str,(.int .i64),(.int .i64),.str]),(.one .bool)]),(117,xE),(118,xC),(119,xF),(120,xH),(121,xH),(122,xD),(123,xF),(124,xD),(130,xD),(131,xE),(132,xA),(133,xD),(134,xB),(135,xA),(136,xA),(137,xL),(138,xA),(139,.tup [(.one .slice),(.one (.int .i64))]),(140,xG),(141,xB),(142,xG),(143,xD),(144,xD),(145,xD),(146,xD),(147,xB),(148,xD),(149,.tup [(.one .str),(.one .str),(.one .bool)]),(150,xM),(151,.tup [(.agg [.slice,(.int .i64),.str]),(.agg [.slice,(.int .i64),.str])]),(152,.tup [(.agg [(.int .i64),(.int .i64)]),(.one .bool)]),(153,.tup [(.agg [.bool,.slice,.slice]),(.one .bool)]),(154,xN),(155,xN),(156,xD),(157,xA),(158,xA),(159,xO),(160,xE),(161,xO),(162,xB),(163,xH),(164,xA),(165,xF),(167,xA),(169,xA),(170,xA),(171,xI),(172,xF),(173,xP),(174,xA),(175,.one (.one (.int .u64))),(176,.one (.one (.int .u64))),(177,xA),(178,xB),(179,xA),(183,.tup [(.one .str),(.one .bool)]),(184,xB),(185,xE),(186,xC),(187,xC),(188,xB),(189,.tup [(.one (.int .u64)),(.one (.int .u64))]),(190,xA),(191,xA),(192,xA),(193,xA),(194,xJ),(195,xA),(196,xA),(197,xA),(198,xJ),(199,xA),(200,xA),(206,xB),(207,xP),(208,xA),(209,xA),(210,xA),(218,xC),(219,xI),(220,xC),(221,xJ),(222,xC),(223,xE),(224,xC),(236,xM),(237,xA),(238,.one (.one .any)),(240,xL),(250,xI),(251,.one (.one (.int .u32))),(252,.one (.one (.int .u32))),(258,xF),(259,xA),(260,xF),(261,.tup [(.agg [.bool,.slice,.slice]),(.agg [.bool,.slice,.slice])]),(264,xB),(265,xF)]⟩
def fnB (P:Program)(f:Nat):Bool:=match P.funcs[f]? with
 | some fn=>!(fn.name=="runtime.NumGoroutine")&& !fn.body.isNone
 | none=>false
theorem fnB_ok{P f}(h:fnB P f=true):fnOk P f:=by
 unfold fnB at h
 split at h
 ·rename_i fn hf
  simp only [Bool.and_eq_true,Bool.not_eq_true'] at h
  exact⟨fn,hf,h⟩
 ·cases h
theorem okLs{P}:∀ {l:List (Nat × Rs)},(l.all fun p=>fnB P p.1)=true->∀ f rs,lookR f l=some rs->fnOk P f
 | [],_,f,rs,h=>by cases h
 | (g,r)::l,ha,f,rs,h=>by
  rw [List.all_cons,Bool.and_eq_true] at ha
  unfold lookR at h
  cases hb:Nat.beq g f with
  | true=>rw [<-Nat.eq_of_beq_eq_true hb];exact fnB_ok ha.1
  | false=>rw [hb,cond_false] at h;exact okLs ha.2 f rs h
theorem siE_ok:siE.Ok:=⟨okLs (by kernel_rfl),by kernel_rfl⟩
@[match_pattern] abbrev Iv (n:Int):Value:=.int .i64 n
@[match_pattern] abbrev Sv (s:ByteArray):Value:=.string s
@[match_pattern] abbrev Lv (a:Option Addr) (n c:Nat):Value:=.slice a n c
@[match_pattern] abbrev Bv (b:Bool):Value:=.bool b
abbrev N0 :Value:=.slice none 0 0
theorem yS{n:Nat}{fn:Func}{args:List Value}{w}{R:Value->World->Prop}(hf:prog.funcs[n]? = some fn)(h:vfn siE fn args w R):Ret prog n args.toArray w R:=zAa siE_ok hf h
abbrev Ad (b o:Nat):Addr:=⟨b,o,none⟩
abbrev Cd (f:Nat) (a:Array Value) (w:World) (K:Value->World->Prop):Prop:=Called prog f a w K
abbrev An (w:World) (o:Nat):Addr:=⟨w.heap.size,o,none⟩
abbrev S0 :Value:=.string ⟨#[]⟩
abbrev Z8 :Array Value:=#[.int .i64 0,.int .i64 0,.string ⟨#[]⟩]
abbrev Z9 :Array Value:=#[.slice none 0 0,.int .i64 0,.int .i64 0,.int .i64 0,.string ⟨#[]⟩]
abbrev Z4 :Array Value:=#[.slice none 0 0,.int .i64 0,.string ⟨#[]⟩]
abbrev OA:=Option Addr
abbrev BA:=ByteArray
theorem yL{n:Nat}:n<=n:=Nat.le_refl n
theorem yT(n:Nat):((n:Int)).toNat=n:=rfl
abbrev MT:=List Value->World->Nat
abbrev KT:=List Value->World->Prop
abbrev RT:=Value->World->Prop
end Go.Proofs.Si
