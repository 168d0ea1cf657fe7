/- Part of the proof: SHELF. -/
import Derived.Shelf.Strings.Builder1
import Derived.Shelf.Small.Wraps
import Derived.Shelf.Strings.BuilderF
import Derived.Shelf.Strings.BuilderK
import Derived.Shelf.Strconv.Itoa0
import Derived.Shelf.Strconv.Itoa1
import Derived.Shelf.LaysM
import Derived.Shelf.Strconv.Itoa2
import Derived.Shelf.Strconv.Itoa3
import Derived.Shelf.Strconv.Itoa4
import Derived.Shelf.Strconv.ParseIntEmpty
import Derived.Shelf.Strconv.Clone
import Derived.Shelf.Strconv.SyntaxError
import Derived.Shelf.LaysC
import Derived.Shelf.Strconv.ToError
import Derived.Shelf.Strconv.Lower
import Derived.Shelf.Strconv.ParseUint10
import Derived.Shelf.Strconv.ParseUint10Empty
import Derived.Shelf.Strconv.ParseUint10Any
import Derived.Shelf.Strconv.ParseInt10
import Derived.Shelf.Strconv.RangeError
import Derived.Shelf.Strconv.ToErrorRange
import Derived.Shelf.Strconv.ParseUintEmpty
import Derived.Shelf.Strconv.ParseUint10b64
import Derived.Shelf.Strconv.ParseUint10b32
import Derived.Shelf.Strconv.ParseUint10b16
import Derived.Shelf.Strconv.ParseUint10b8
import Derived.Shelf.Strconv.ParseUint10At
import Derived.Shelf.Strconv.ParseInt10At64
import Derived.Shelf.Strconv.ParseInt10At32
import Derived.Shelf.Strconv.ParseInt10At16
import Derived.Shelf.Strconv.ParseInt10At8
import Derived.Shelf.Strconv.ParseInt10All
import Derived.Shelf.Strconv.ParseIntPublic10
import Derived.Shelf.Strconv.ErrVarParseInt
import Derived.Shelf.Strings.Search1
import Derived.Shelf.Strings.Search2
import Derived.Shelf.Strings.Cut
import Derived.Shelf.Strings.Shaped
import Derived.Shelf.Strings.Prefix
import Derived.Shelf.Bits.Mul64
import Derived.Test.YtoaiappkhcjagaaGreatDoorProg
set_option linter.unusedVariables false
set_option linter.unusedSimpArgs false
namespace Go.Proofs
open Go.Shelf
def Tryz.lays169_ren:Go.Shelf.Ren :=⟨fun | 169=>239 | n=>n,fun | 70=>255 | 9=>9 | 0=>0 | 72=>257 | 37=>133 | 127=>277 | 3=>3 | 5=>5 | n=>n,fun | n=>n⟩
theorem Tryz.lays169:Go.Proofs.Lays.n169 Tryz.prog Tryz.lays169_ren :={
 mixed :=by kernel_rfl
 f169 :=Tryz.func239.trans (congrArg some (by kernel_rfl))
 t0 :=Tryz.underlying0
 a0 :=Tryz.isAgg0
 z0 :=Tryz.sizeOf0
 v0 :=Tryz.zeroValue0
 t3 :=Tryz.underlying3
 a3 :=Tryz.isAgg3
 z3 :=Tryz.sizeOf3
 v3 :=Tryz.zeroValue3
 t9 :=Tryz.underlying9
 a9 :=Tryz.isAgg9
 z9 :=Tryz.sizeOf9
 v9 :=Tryz.zeroValue9
 t37 :=Tryz.underlying133
 a37 :=Tryz.isAgg133
 z37 :=Tryz.sizeOf133
 v37 :=Tryz.zeroValue133
 t70 :=Tryz.underlying255
 a70 :=Tryz.isAgg255
 z70 :=Tryz.sizeOf255
 v70 :=Tryz.zeroValue255
 t72 :=Tryz.underlying257
 a72 :=Tryz.isAgg257
 z72 :=Tryz.sizeOf257
 v72 :=Tryz.zeroValue257
 t127 :=Tryz.underlying277
 a127 :=Tryz.isAgg277
 z127 :=Tryz.sizeOf277
 v127 :=Tryz.zeroValue277 }
theorem Tryz.Builder_Extra_169:Builder.Extra Tryz.prog Tryz.lays169_ren :={
 sizeBuilder :=by kernel_rfl
 liesBuilder :=by kernel_rfl
 t5 :=Tryz.underlying5
 a5 :=Tryz.isAgg5
 z5 :=Tryz.sizeOf5
 v5 :=Tryz.zeroValue5
 infoByte :=by kernel_rfl
 cellsByte :=by kernel_rfl
 sizeByte :=by kernel_rfl
 neB5 :=by decide }
open Go.RowKit in
open Go.RowKit in
open Go.RowKit in
open Go.RowKit in
def Tryz.lays103_ren:Go.Shelf.Ren :=⟨fun | 103=>183 | 210=>217 | 206=>249 | n=>n,fun | 9=>9 | 4=>4 | 24=>205 | 3=>3 | n=>n,fun | n=>n⟩
theorem Tryz.lays103:Go.Proofs.Lays.n103 Tryz.prog Tryz.lays103_ren :={
 mixed :=by kernel_rfl
 f103 :=Tryz.func183.trans (congrArg some (by kernel_rfl))
 f206 :=Tryz.func249.trans (congrArg some (by kernel_rfl))
 f210 :=Tryz.func217.trans (congrArg some (by kernel_rfl))
 t3 :=Tryz.underlying3
 a3 :=Tryz.isAgg3
 z3 :=Tryz.sizeOf3
 v3 :=Tryz.zeroValue3
 t4 :=Tryz.underlying4
 a4 :=Tryz.isAgg4
 z4 :=Tryz.sizeOf4
 v4 :=Tryz.zeroValue4
 t9 :=Tryz.underlying9
 a9 :=Tryz.isAgg9
 z9 :=Tryz.sizeOf9
 v9 :=Tryz.zeroValue9
 t24 :=Tryz.underlying205
 a24 :=Tryz.isAgg205
 z24 :=Tryz.sizeOf205
 v24 :=Tryz.zeroValue205 }
open Go.RowKit in
theorem Tryz.strings_CutPrefix (s p:ByteArray) (w:World) :
 Calls Tryz.prog 183 #[.string s,.string p] w fun e w'=>e = .returned (.tuple #[.string ⟨(Lib.trimPrefix s.data.toList p.data.toList).toArray⟩,.bool (Lib.hasPrefix s.data.toList p.data.toList)])/\w' = w :=Any.strings_CutPrefix Tryz.lays103 s p w
open Go.RowKit in
open Go.RowKit in
open Go.RowKit in
open Go.RowKit in
open Go.RowKit in
open Go.RowKit in
open Go.Lib in
open Go.Lib in
def Tryz.lays283_ren:Go.Shelf.Ren :=⟨fun | 283=>202 | n=>n,fun | 3=>3 | 9=>9 | 4=>4 | n=>n,fun | n=>n⟩
theorem Tryz.lays283:Go.Proofs.Lays.n283 Tryz.prog Tryz.lays283_ren :={
 mixed :=by kernel_rfl
 f283 :=Tryz.func202.trans (congrArg some (by kernel_rfl))
 t3 :=Tryz.underlying3
 a3 :=Tryz.isAgg3
 z3 :=Tryz.sizeOf3
 v3 :=Tryz.zeroValue3
 t4 :=Tryz.underlying4
 a4 :=Tryz.isAgg4
 z4 :=Tryz.sizeOf4
 v4 :=Tryz.zeroValue4
 t9 :=Tryz.underlying9
 a9 :=Tryz.isAgg9
 z9 :=Tryz.sizeOf9
 v9 :=Tryz.zeroValue9 }
open Go.Lib in
theorem Tryz.internal_strconv_small (i:Nat) (h:i<100) (w:World) :
 Calls Tryz.prog 202 #[.int .i64 i] w fun e w'=>e = .returned (.string ⟨(Lib.decDigits i).toArray⟩)/\w' = w :=Any.internal_strconv_small Tryz.lays283 i h w
def Tryz.laysM284_ren:Go.Shelf.Ren :=⟨fun | 284=>203 | 129=>226 | 317=>225 | 318=>227 | n=>n,fun | 53=>201 | 3=>3 | 212=>240 | 0=>0 | 4=>4 | 46=>228 | 5=>5 | 9=>9 | n=>n,fun | 17=>0 | n=>n⟩
theorem Tryz.laysM284:Go.Proofs.LaysM.n284 Tryz.prog Tryz.laysM284_ren :={
 mixed :=by kernel_rfl
 f129 :=Tryz.func226.trans (congrArg some (by kernel_rfl))
 f284 :=Tryz.func203.trans (congrArg some (by kernel_rfl))
 f317 :=Tryz.func225.trans (congrArg some (by kernel_rfl))
 f318 :=Tryz.func227.trans (congrArg some (by kernel_rfl))
 t0 :=Tryz.underlying0
 a0 :=Tryz.isAgg0
 z0 :=Tryz.sizeOf0
 v0 :=Tryz.zeroValue0
 t3 :=Tryz.underlying3
 a3 :=Tryz.isAgg3
 z3 :=Tryz.sizeOf3
 v3 :=Tryz.zeroValue3
 t4 :=Tryz.underlying4
 a4 :=Tryz.isAgg4
 z4 :=Tryz.sizeOf4
 v4 :=Tryz.zeroValue4
 t5 :=Tryz.underlying5
 a5 :=Tryz.isAgg5
 z5 :=Tryz.sizeOf5
 v5 :=Tryz.zeroValue5
 t9 :=Tryz.underlying9
 a9 :=Tryz.isAgg9
 z9 :=Tryz.sizeOf9
 v9 :=Tryz.zeroValue9
 t46 :=Tryz.underlying228
 a46 :=Tryz.isAgg228
 z46 :=Tryz.sizeOf228
 v46 :=Tryz.zeroValue228
 t53 :=Tryz.underlying201
 a53 :=Tryz.isAgg201
 z53 :=Tryz.sizeOf201
 v53 :=Tryz.zeroValue201
 t212 :=Tryz.underlying240
 a212 :=Tryz.isAgg240
 z212 :=Tryz.sizeOf240
 v212 :=Tryz.zeroValue240
 g17 :=by kernel_rfl
 i0 :=by kernel_rfl
 i3 :=by kernel_rfl
 i4 :=by kernel_rfl
 i5 :=by kernel_rfl
 i9 :=by kernel_rfl
 i46 :=by kernel_rfl
 i53 :=by kernel_rfl
 i212 :=by kernel_rfl
 m17 :=by kernel_rfl }
open Go.Lib in
theorem Tryz.internal_strconv_numDigits (u : Nat) (h1 : 1 ≤ u) (h2 : u < 18446744073709551616) (w : World) (htab : Lib.TabIs Tryz.prog w "internal/strconv.uint64pow10" .u64 Lib.pow10Tab) :
 Calls Tryz.prog 203 #[.int .u64 u] w fun e w'=>e = .returned (.int .i64 (Lib.nDigits u))/\w' = w :=Any.internal_strconv_numDigits Tryz.laysM284 u h1 h2 w htab
def Tryz.lays285_ren:Go.Shelf.Ren :=⟨fun | 285=>204 | n=>n,fun | 37=>133 | 53=>201 | 3=>3 | 4=>4 | 51=>209 | 9=>9 | 5=>5 | 0=>0 | n=>n,fun | n=>n⟩
theorem Tryz.lays285:Go.Proofs.Lays.n285 Tryz.prog Tryz.lays285_ren :={
 mixed :=by kernel_rfl
 f285 :=Tryz.func204.trans (congrArg some (by kernel_rfl))
 t0 :=Tryz.underlying0
 a0 :=Tryz.isAgg0
 z0 :=Tryz.sizeOf0
 v0 :=Tryz.zeroValue0
 t3 :=Tryz.underlying3
 a3 :=Tryz.isAgg3
 z3 :=Tryz.sizeOf3
 v3 :=Tryz.zeroValue3
 t4 :=Tryz.underlying4
 a4 :=Tryz.isAgg4
 z4 :=Tryz.sizeOf4
 v4 :=Tryz.zeroValue4
 t5 :=Tryz.underlying5
 a5 :=Tryz.isAgg5
 z5 :=Tryz.sizeOf5
 v5 :=Tryz.zeroValue5
 t9 :=Tryz.underlying9
 a9 :=Tryz.isAgg9
 z9 :=Tryz.sizeOf9
 v9 :=Tryz.zeroValue9
 t37 :=Tryz.underlying133
 a37 :=Tryz.isAgg133
 z37 :=Tryz.sizeOf133
 v37 :=Tryz.zeroValue133
 t51 :=Tryz.underlying209
 a51 :=Tryz.isAgg209
 z51 :=Tryz.sizeOf209
 v51 :=Tryz.zeroValue209
 t53 :=Tryz.underlying201
 a53 :=Tryz.isAgg201
 z53 :=Tryz.sizeOf201
 v53 :=Tryz.zeroValue201 }
open Go.RowKit Go.Sort Go.Lib in
theorem Tryz.internal_strconv_formatBase10 (blk off cap:Nat) (u:Nat) (d:Array UInt8) (w:World) (hH:Holds (fun (b:UInt8)=>Value.int .u8 (b.toNat:Int)) w blk off d) (hu:u<10 ^ d.size) (hu64:u<18446744073709551616) (hsz:d.size<4611686018427387904) :
  Calls Tryz.prog 204 #[.slice (some ⟨blk,off,none⟩) d.size cap,.int .u64 u] w fun e w' =>
   e = .returned (.tuple #[])/\∃ (n v' : Nat) (dk:Array UInt8),w' = (putRow (fun (b:UInt8)=>Value.int .u8 (b.toNat:Int)) w blk off dk).drewN n/\FmtInv d.size u 0 v' dk :=Any.internal_strconv_formatBase10 Tryz.lays285 blk off cap u d w hH hu hu64 hsz
open Go.RowKit Go.Sort Go.Lib in
open Go.RowKit Go.Sort Go.Lib in
open Go.RowKit Go.Sort Go.Lib in
open Go.RowKit Go.Sort Go.Lib in
open Go.RowKit Go.Sort Go.Lib in
open Go.RowKit Go.Sort Go.Lib in
def Tryz.laysM173_ren:Go.Shelf.Ren :=⟨fun | 173=>132 | 246=>168 | 283=>202 | 284=>203 | 285=>204 | 286=>205 | 129=>226 | 317=>225 | 318=>227 | 319=>228 | 320=>229 | 337=>253 | 338=>254 | n=>n,fun | 2=>2 | 3=>3 | 9=>9 | 4=>4 | 171=>218 | 0=>0 | 53=>201 | 37=>133 | 5=>5 | 173=>221 | 212=>240 | 51=>209 | 20=>20 | 213=>241 | 46=>228 | 232=>287 | 233=>288 | n=>n,fun | 17=>0 | 18=>4 | 19=>5 | n=>n⟩
theorem Tryz.laysM173:Go.Proofs.LaysM.n173 Tryz.prog Tryz.laysM173_ren :={
 mixed :=by kernel_rfl
 f129 :=Tryz.func226.trans (congrArg some (by kernel_rfl))
 f173 :=Tryz.func132.trans (congrArg some (by kernel_rfl))
 f246 :=Tryz.func168.trans (congrArg some (by kernel_rfl))
 f283 :=Tryz.func202.trans (congrArg some (by kernel_rfl))
 f284 :=Tryz.func203.trans (congrArg some (by kernel_rfl))
 f285 :=Tryz.func204.trans (congrArg some (by kernel_rfl))
 f286 :=Tryz.func205.trans (congrArg some (by kernel_rfl))
 f317 :=Tryz.func225.trans (congrArg some (by kernel_rfl))
 f318 :=Tryz.func227.trans (congrArg some (by kernel_rfl))
 f319 :=Tryz.func228.trans (congrArg some (by kernel_rfl))
 f320 :=Tryz.func229.trans (congrArg some (by kernel_rfl))
 f337 :=Tryz.func253.trans (congrArg some (by kernel_rfl))
 f338 :=Tryz.func254.trans (congrArg some (by kernel_rfl))
 t0 :=Tryz.underlying0
 a0 :=Tryz.isAgg0
 z0 :=Tryz.sizeOf0
 v0 :=Tryz.zeroValue0
 t2 :=Tryz.underlying2
 a2 :=Tryz.isAgg2
 z2 :=Tryz.sizeOf2
 v2 :=Tryz.zeroValue2
 t3 :=Tryz.underlying3
 a3 :=Tryz.isAgg3
 z3 :=Tryz.sizeOf3
 v3 :=Tryz.zeroValue3
 t4 :=Tryz.underlying4
 a4 :=Tryz.isAgg4
 z4 :=Tryz.sizeOf4
 v4 :=Tryz.zeroValue4
 t5 :=Tryz.underlying5
 a5 :=Tryz.isAgg5
 z5 :=Tryz.sizeOf5
 v5 :=Tryz.zeroValue5
 t9 :=Tryz.underlying9
 a9 :=Tryz.isAgg9
 z9 :=Tryz.sizeOf9
 v9 :=Tryz.zeroValue9
 t20 :=Tryz.underlying20
 a20 :=Tryz.isAgg20
 z20 :=Tryz.sizeOf20
 v20 :=Tryz.zeroValue20
 t37 :=Tryz.underlying133
 a37 :=Tryz.isAgg133
 z37 :=Tryz.sizeOf133
 v37 :=Tryz.zeroValue133
 t46 :=Tryz.underlying228
 a46 :=Tryz.isAgg228
 z46 :=Tryz.sizeOf228
 v46 :=Tryz.zeroValue228
 t51 :=Tryz.underlying209
 a51 :=Tryz.isAgg209
 z51 :=Tryz.sizeOf209
 v51 :=Tryz.zeroValue209
 t53 :=Tryz.underlying201
 a53 :=Tryz.isAgg201
 z53 :=Tryz.sizeOf201
 v53 :=Tryz.zeroValue201
 t171 :=Tryz.underlying218
 a171 :=Tryz.isAgg218
 z171 :=Tryz.sizeOf218
 v171 :=Tryz.zeroValue218
 t173 :=Tryz.underlying221
 a173 :=Tryz.isAgg221
 z173 :=Tryz.sizeOf221
 v173 :=Tryz.zeroValue221
 t212 :=Tryz.underlying240
 a212 :=Tryz.isAgg240
 z212 :=Tryz.sizeOf240
 v212 :=Tryz.zeroValue240
 t213 :=Tryz.underlying241
 a213 :=Tryz.isAgg241
 z213 :=Tryz.sizeOf241
 t232 :=Tryz.underlying287
 a232 :=Tryz.isAgg287
 z232 :=Tryz.sizeOf287
 v232 :=Tryz.zeroValue287
 t233 :=Tryz.underlying288
 a233 :=Tryz.isAgg288
 z233 :=Tryz.sizeOf288
 v233 :=Tryz.zeroValue288
 g17 :=by kernel_rfl
 g18 :=by kernel_rfl
 g19 :=by kernel_rfl
 i0 :=by kernel_rfl
 i2 :=by kernel_rfl
 i3 :=by kernel_rfl
 i4 :=by kernel_rfl
 i5 :=by kernel_rfl
 i9 :=by kernel_rfl
 i20 :=by kernel_rfl
 i37 :=by kernel_rfl
 i46 :=by kernel_rfl
 i51 :=by kernel_rfl
 i53 :=by kernel_rfl
 i171 :=by kernel_rfl
 i173 :=by kernel_rfl
 i212 :=by kernel_rfl
 i232 :=by kernel_rfl
 i233 :=by kernel_rfl
 m17 :=by kernel_rfl
 m18 :=by kernel_rfl
 m19 :=by kernel_rfl }
open Go.RowKit Go.Sort Go.Lib in
theorem Tryz.strconv_FormatInt_10 (n : Int) (h0 : -9223372036854775808 ≤ n) (h1 : n ≤ 9223372036854775807) (w : World) (htab : Lib.TabIs Tryz.prog w "internal/strconv.uint64pow10" .u64 Lib.pow10Tab) :
 Calls Tryz.prog 132 #[.int .i64 n,.int .i64 10] w fun e w'=>e = .returned (.string ⟨(Lib.itoa n).toArray⟩)/\∃ k os,w' = grow (w.drewN k) os :=Any.strconv_FormatInt_10 Tryz.laysM173 n h0 h1 w htab
open Go.RowKit Go.Sort Go.Lib in
open Go.RowKit in
open Go.RowKit in
open Go.RowKit in
open Go.RowKit in
open Go.RowKit in
open Go.RowKit in
open Go.RowKit in
open Go.RowKit in
open Go.RowKit in
open Go.RowKit in
open Go.RowKit in
open Go.RowKit in
open Go.RowKit in
open Go.RowKit in
open Go.RowKit in
open Go.RowKit in
open Go.RowKit in
open Go.RowKit in
open Go.RowKit in
open Go.RowKit in
open Go.RowKit in
open Go.RowKit in
open Go.RowKit in
open Go.RowKit in
open Go.RowKit in
open Go.RowKit in
open Go.RowKit in
open Go.RowKit in
open Go.RowKit in
open Go.RowKit in
def Tryz.laysC174_ren:Go.Shelf.Ren :=⟨fun | 174=>150 | 247=>181 | 245=>182 | 287=>212 | 279=>213 | 280=>214 | 281=>215 | 282=>216 | 321=>245 | 322=>246 | 316=>247 | 171=>167 | 205=>248 | 243=>201 | 246=>168 | 283=>202 | 284=>203 | 285=>204 | 286=>205 | 129=>226 | 317=>225 | 318=>227 | 319=>228 | 320=>229 | 337=>253 | 338=>254 | n=>n,fun | 9=>9 | 3=>3 | 2=>2 | 75=>172 | 85=>173 | 4=>4 | 167=>225 | 5=>5 | 53=>201 | 175=>226 | 46=>228 | 168=>229 | 37=>133 | 0=>0 | 210=>267 | 21=>21 | 127=>277 | 145=>284 | 143=>282 | 171=>218 | 173=>221 | 212=>240 | 51=>209 | 20=>20 | 213=>241 | 232=>287 | 233=>288 | 80=>106 | n=>n,fun | 15=>2 | 16=>3 | 17=>0 | 18=>4 | 19=>5 | n=>n⟩
theorem Tryz.laysC174:Go.Proofs.LaysC.n174 Tryz.prog Tryz.laysC174_ren :={
 mixed :=by kernel_rfl
 f129 :=Tryz.func226.trans (congrArg some (by kernel_rfl))
 f171 :=Tryz.func167.trans (congrArg some (by kernel_rfl))
 f174 :=Tryz.func150.trans (congrArg some (by kernel_rfl))
 f205 :=Tryz.func248.trans (congrArg some (by kernel_rfl))
 f243 :=Tryz.func201.trans (congrArg some (by kernel_rfl))
 f245 :=Tryz.func182.trans (congrArg some (by kernel_rfl))
 f246 :=Tryz.func168.trans (congrArg some (by kernel_rfl))
 f247 :=Tryz.func181.trans (congrArg some (by kernel_rfl))
 f279 :=Tryz.func213.trans (congrArg some (by kernel_rfl))
 f280 :=Tryz.func214.trans (congrArg some (by kernel_rfl))
 f281 :=Tryz.func215.trans (congrArg some (by kernel_rfl))
 f282 :=Tryz.func216.trans (congrArg some (by kernel_rfl))
 f283 :=Tryz.func202.trans (congrArg some (by kernel_rfl))
 f284 :=Tryz.func203.trans (congrArg some (by kernel_rfl))
 f285 :=Tryz.func204.trans (congrArg some (by kernel_rfl))
 f286 :=Tryz.func205.trans (congrArg some (by kernel_rfl))
 f287 :=Tryz.func212.trans (congrArg some (by kernel_rfl))
 f316 :=Tryz.func247.trans (congrArg some (by kernel_rfl))
 f317 :=Tryz.func225.trans (congrArg some (by kernel_rfl))
 f318 :=Tryz.func227.trans (congrArg some (by kernel_rfl))
 f319 :=Tryz.func228.trans (congrArg some (by kernel_rfl))
 f320 :=Tryz.func229.trans (congrArg some (by kernel_rfl))
 f321 :=Tryz.func245.trans (congrArg some (by kernel_rfl))
 f322 :=Tryz.func246.trans (congrArg some (by kernel_rfl))
 f337 :=Tryz.func253.trans (congrArg some (by kernel_rfl))
 f338 :=Tryz.func254.trans (congrArg some (by kernel_rfl))
 t0 :=Tryz.underlying0
 a0 :=Tryz.isAgg0
 z0 :=Tryz.sizeOf0
 v0 :=Tryz.zeroValue0
 t2 :=Tryz.underlying2
 a2 :=Tryz.isAgg2
 z2 :=Tryz.sizeOf2
 v2 :=Tryz.zeroValue2
 t3 :=Tryz.underlying3
 a3 :=Tryz.isAgg3
 z3 :=Tryz.sizeOf3
 v3 :=Tryz.zeroValue3
 t4 :=Tryz.underlying4
 a4 :=Tryz.isAgg4
 z4 :=Tryz.sizeOf4
 v4 :=Tryz.zeroValue4
 t5 :=Tryz.underlying5
 a5 :=Tryz.isAgg5
 z5 :=Tryz.sizeOf5
 v5 :=Tryz.zeroValue5
 t9 :=Tryz.underlying9
 a9 :=Tryz.isAgg9
 z9 :=Tryz.sizeOf9
 v9 :=Tryz.zeroValue9
 t20 :=Tryz.underlying20
 a20 :=Tryz.isAgg20
 z20 :=Tryz.sizeOf20
 v20 :=Tryz.zeroValue20
 t21 :=Tryz.underlying21
 a21 :=Tryz.isAgg21
 z21 :=Tryz.sizeOf21
 v21 :=Tryz.zeroValue21
 t37 :=Tryz.underlying133
 a37 :=Tryz.isAgg133
 z37 :=Tryz.sizeOf133
 v37 :=Tryz.zeroValue133
 t46 :=Tryz.underlying228
 a46 :=Tryz.isAgg228
 z46 :=Tryz.sizeOf228
 v46 :=Tryz.zeroValue228
 t51 :=Tryz.underlying209
 a51 :=Tryz.isAgg209
 z51 :=Tryz.sizeOf209
 v51 :=Tryz.zeroValue209
 t53 :=Tryz.underlying201
 a53 :=Tryz.isAgg201
 z53 :=Tryz.sizeOf201
 v53 :=Tryz.zeroValue201
 t75 :=Tryz.underlying172
 a75 :=Tryz.isAgg172
 z75 :=Tryz.sizeOf172
 v75 :=Tryz.zeroValue172
 t85 :=Tryz.underlying173
 a85 :=Tryz.isAgg173
 z85 :=Tryz.sizeOf173
 v85 :=Tryz.zeroValue173
 t127 :=Tryz.underlying277
 a127 :=Tryz.isAgg277
 z127 :=Tryz.sizeOf277
 v127 :=Tryz.zeroValue277
 t143 :=Tryz.underlying282
 a143 :=Tryz.isAgg282
 z143 :=Tryz.sizeOf282
 v143 :=Tryz.zeroValue282
 t145 :=Tryz.underlying284
 a145 :=Tryz.isAgg284
 z145 :=Tryz.sizeOf284
 v145 :=Tryz.zeroValue284
 t167 :=Tryz.underlying225
 a167 :=Tryz.isAgg225
 z167 :=Tryz.sizeOf225
 v167 :=Tryz.zeroValue225
 t168 :=Tryz.underlying229
 a168 :=Tryz.isAgg229
 z168 :=Tryz.sizeOf229
 v168 :=Tryz.zeroValue229
 t171 :=Tryz.underlying218
 a171 :=Tryz.isAgg218
 z171 :=Tryz.sizeOf218
 v171 :=Tryz.zeroValue218
 t173 :=Tryz.underlying221
 a173 :=Tryz.isAgg221
 z173 :=Tryz.sizeOf221
 v173 :=Tryz.zeroValue221
 t175 :=Tryz.underlying226
 a175 :=Tryz.isAgg226
 z175 :=Tryz.sizeOf226
 v175 :=Tryz.zeroValue226
 t210 :=Tryz.underlying267
 a210 :=Tryz.isAgg267
 z210 :=Tryz.sizeOf267
 v210 :=Tryz.zeroValue267
 t212 :=Tryz.underlying240
 a212 :=Tryz.isAgg240
 z212 :=Tryz.sizeOf240
 v212 :=Tryz.zeroValue240
 t213 :=Tryz.underlying241
 a213 :=Tryz.isAgg241
 z213 :=Tryz.sizeOf241
 t232 :=Tryz.underlying287
 a232 :=Tryz.isAgg287
 z232 :=Tryz.sizeOf287
 v232 :=Tryz.zeroValue287
 t233 :=Tryz.underlying288
 a233 :=Tryz.isAgg288
 z233 :=Tryz.sizeOf288
 v233 :=Tryz.zeroValue288
 g15 :=by kernel_rfl
 g16 :=by kernel_rfl
 g17 :=by kernel_rfl
 g18 :=by kernel_rfl
 g19 :=by kernel_rfl
 t80 :=Tryz.underlying106
 a80 :=Tryz.isAgg106
 z80 :=Tryz.sizeOf106
 v80 :=Tryz.zeroValue106
 i0 :=by kernel_rfl
 i2 :=by kernel_rfl
 i3 :=by kernel_rfl
 i4 :=by kernel_rfl
 i5 :=by kernel_rfl
 i9 :=by kernel_rfl
 i20 :=by kernel_rfl
 i21 :=by kernel_rfl
 i37 :=by kernel_rfl
 i46 :=by kernel_rfl
 i51 :=by kernel_rfl
 i53 :=by kernel_rfl
 i75 :=by kernel_rfl
 i80 :=by kernel_rfl
 i85 :=by kernel_rfl
 i127 :=by kernel_rfl
 i143 :=by kernel_rfl
 i145 :=by kernel_rfl
 i167 :=by kernel_rfl
 i168 :=by kernel_rfl
 i171 :=by kernel_rfl
 i173 :=by kernel_rfl
 i175 :=by kernel_rfl
 i210 :=by kernel_rfl
 i212 :=by kernel_rfl
 i232 :=by kernel_rfl
 i233 :=by kernel_rfl
 m15 :=by kernel_rfl
 m16 :=by kernel_rfl
 m17 :=by kernel_rfl
 m18 :=by kernel_rfl
 m19 :=by kernel_rfl
 c0 :=by kernel_rfl
 c2 :=by kernel_rfl
 c3 :=by kernel_rfl
 c4 :=by kernel_rfl
 c5 :=by kernel_rfl
 c9 :=by kernel_rfl
 c20 :=by kernel_rfl
 c21 :=by kernel_rfl
 c37 :=by kernel_rfl
 c46 :=by kernel_rfl
 c51 :=by kernel_rfl
 c53 :=by kernel_rfl
 c75 :=by kernel_rfl
 c80 :=by kernel_rfl
 c85 :=by kernel_rfl
 c127 :=by kernel_rfl
 c143 :=by kernel_rfl
 c145 :=by kernel_rfl
 c167 :=by kernel_rfl
 c168 :=by kernel_rfl
 c171 :=by kernel_rfl
 c173 :=by kernel_rfl
 c175 :=by kernel_rfl
 c210 :=by kernel_rfl
 c212 :=by kernel_rfl
 c213 :=by kernel_rfl
 c232 :=by kernel_rfl
 c233 :=by kernel_rfl }
open Go.RowKit in
open Go.RowKit in
open Go.RowKit in
open Go.RowKit in
theorem Tryz.strconv_ParseInt_10_at64_ok (s:ByteArray) (hmax:s.size<=9223372036854775806) (v:Int) (h:Lib.parseIntB 64 s.data.toList = .ok v) (w:World) :
 Calls Tryz.prog 150 #[.string s,.int .i64 10,.int .i64 64] w fun e w'=>e = .returned (.tuple #[.int .i64 v,.nilIface])/\(w' = w\/∃ t,w' = Lib.bytesWorld w 5 t) :=Any.strconv_ParseInt_10_at64_ok Tryz.laysC174 s hmax v h w
open Go.RowKit in
open Go.RowKit in
open Go.RowKit in
open Go.RowKit in
open Go.RowKit in
open Go.RowKit in
open Go.RowKit in
open Go.RowKit in
open Go.RowKit in
open Go.RowKit in
open Go.RowKit in
open Go.RowKit in
open Go.RowKit in
open Go.RowKit in
open Go.RowKit in
theorem Tryz.strconv_ParseInt_10_at64_range_var (s : ByteArray) (hlim : s.size ≤ 281474976710656) (h : Lib.parseIntB 64 s.data.toList = .range) (tp : TypeId) (p : Value) (w : World) (hvar : w.var? Tryz.prog "strconv.ErrRange" = some #[.iface tp p]) :
 Calls Tryz.prog 150 #[.string s,.int .i64 10,.int .i64 64] w fun e w'=>∃ N,e = .returned (.tuple #[.int .i64 (Lib.intSat 64 s.data.toList),.iface 229 (.pointer (some ⟨N,0,none⟩))])/\w.heap.size<=N/\w'.heap[N]? = some (.cells #[.string ⟨#[80,97,114,115,101,73,110,116]⟩,.string s,.iface tp p] 267 (0,0))/\Below w.heap.size w w' :=Any.strconv_ParseInt_10_at64_range_var Tryz.laysC174 s hlim h tp p w hvar
open Go.RowKit in
open Go.RowKit in
open Go.RowKit in
open Go.RowKit in
open Go.RowKit in
open Go.RowKit in
open Go.RowKit Go.Lib in
open Go.RowKit Go.Lib in
open Go.RowKit Go.Lib in
open Go.RowKit Go.Lib in
open Go.RowKit Go.Lib in
open Go.RowKit Go.Lib in
open Go.RowKit Go.Lib in
def Tryz.lays145_ren:Go.Shelf.Ren :=⟨fun | 145=>149 | 220=>180 | 219=>211 | 217=>241 | 225=>242 | 224=>243 | 267=>244 | 266=>262 | 314=>263 | n=>n,fun | 9=>9 | 4=>4 | 59=>169 | 3=>3 | 5=>5 | 46=>228 | 146=>280 | 51=>209 | n=>n,fun | 1=>1 | n=>n⟩
theorem Tryz.lays145:Go.Proofs.Lays.n145 Tryz.prog Tryz.lays145_ren :={
 mixed :=by kernel_rfl
 f145 :=Tryz.func149.trans (congrArg some (by kernel_rfl))
 f217 :=Tryz.func241.trans (congrArg some (by kernel_rfl))
 f219 :=Tryz.func211.trans (congrArg some (by kernel_rfl))
 f220 :=Tryz.func180.trans (congrArg some (by kernel_rfl))
 f224 :=Tryz.func243.trans (congrArg some (by kernel_rfl))
 f225 :=Tryz.func242.trans (congrArg some (by kernel_rfl))
 f266 :=Tryz.func262.trans (congrArg some (by kernel_rfl))
 f267 :=Tryz.func244.trans (congrArg some (by kernel_rfl))
 f314 :=Tryz.func263.trans (congrArg some (by kernel_rfl))
 t3 :=Tryz.underlying3
 a3 :=Tryz.isAgg3
 z3 :=Tryz.sizeOf3
 v3 :=Tryz.zeroValue3
 t4 :=Tryz.underlying4
 a4 :=Tryz.isAgg4
 z4 :=Tryz.sizeOf4
 v4 :=Tryz.zeroValue4
 t5 :=Tryz.underlying5
 a5 :=Tryz.isAgg5
 z5 :=Tryz.sizeOf5
 v5 :=Tryz.zeroValue5
 t9 :=Tryz.underlying9
 a9 :=Tryz.isAgg9
 z9 :=Tryz.sizeOf9
 v9 :=Tryz.zeroValue9
 t46 :=Tryz.underlying228
 a46 :=Tryz.isAgg228
 z46 :=Tryz.sizeOf228
 v46 :=Tryz.zeroValue228
 t51 :=Tryz.underlying209
 a51 :=Tryz.isAgg209
 z51 :=Tryz.sizeOf209
 v51 :=Tryz.zeroValue209
 t59 :=Tryz.underlying169
 a59 :=Tryz.isAgg169
 z59 :=Tryz.sizeOf169
 v59 :=Tryz.zeroValue169
 t146 :=Tryz.underlying280
 a146 :=Tryz.isAgg280
 z146 :=Tryz.sizeOf280
 v146 :=Tryz.zeroValue280
 g1 :=by kernel_rfl }
open Go.RowKit Go.Lib in
theorem Tryz.strings_Cut (s sep:ByteArray) (m:Int) (w:World) (hs:s.size<4294967281) (hm:w.cell? ⟨1,0,none⟩=some (.int .i64 m)) :
 Calls Tryz.prog 149 #[.string s,.string sep] w fun e w'=>e = .returned (.tuple #[.string ⟨(Lib.cut s.data.toList sep.data.toList).1.toArray⟩,.string ⟨(Lib.cut s.data.toList sep.data.toList).2.1.toArray⟩,.bool (Lib.cut s.data.toList sep.data.toList).2.2])/\∃ n,w' = w.drewN n :=Any.strings_Cut Tryz.lays145 s sep m w hs hm
open Go.RowKit Go.Lib in
open Go.RowKit Go.Lib in
open Go.RowKit Go.Lib in
open Go.RowKit Go.Lib in
def Tryz.lays264_ren:Go.Shelf.Ren :=⟨fun | 264=>189 | n=>n,fun | 53=>201 | 46=>228 | n=>n,fun | n=>n⟩
theorem Tryz.lays264:Go.Proofs.Lays.n264 Tryz.prog Tryz.lays264_ren :={
 mixed :=by kernel_rfl
 f264 :=Tryz.func189.trans (congrArg some (by kernel_rfl))
 t46 :=Tryz.underlying228
 a46 :=Tryz.isAgg228
 z46 :=Tryz.sizeOf228
 v46 :=Tryz.zeroValue228
 t53 :=Tryz.underlying201
 a53 :=Tryz.isAgg201
 z53 :=Tryz.sizeOf201
 v53 :=Tryz.zeroValue201 }
open Go.RowKit Go.Lib in
theorem Tryz.bits_Mul64 (x y:Nat) (hx:x<18446744073709551616) (hy:y<18446744073709551616) (w:World) :
 Calls Tryz.prog 189 #[.int .u64 x,.int .u64 y] w fun e w'=>e = .returned (.tuple #[.int .u64 ((x*y / 18446744073709551616:Nat):Int),.int .u64 ((x*y % 18446744073709551616:Nat):Int)])/\w' = w :=Any.bits_Mul64 Tryz.lays264 x y hx hy w
end Go.Proofs
