/- Proves CheckPlaces: where a rule is broken or a limit passed, a place of the text is told. No condition. -/
import Derived.Shelf.Bits.Mul64
import Derived.Shelf.LaysC
import Derived.Shelf.LaysM
import Derived.Shelf.Small.Strs
import Derived.Shelf.Small.Utf8
import Derived.Shelf.Small.Wraps
import Derived.Shelf.Strconv.Atoi
import Derived.Shelf.Strconv.AtoiAll
import Derived.Shelf.Strconv.AtoiErr
import Derived.Shelf.Strconv.AtoiErrFast
import Derived.Shelf.Strconv.AtoiFail
import Derived.Shelf.Strconv.AtoiInnerAll
import Derived.Shelf.Strconv.AtoiLong
import Derived.Shelf.Strconv.Clone
import Derived.Shelf.Strconv.ErrVar
import Derived.Shelf.Strconv.ErrVarAll
import Derived.Shelf.Strconv.ErrVarParseInt
import Derived.Shelf.Strconv.Itoa0
import Derived.Shelf.Strconv.Itoa1
import Derived.Shelf.Strconv.Itoa2
import Derived.Shelf.Strconv.Itoa3
import Derived.Shelf.Strconv.Lower
import Derived.Shelf.Strconv.ParseInt10
import Derived.Shelf.Strconv.ParseInt10All
import Derived.Shelf.Strconv.ParseInt10At16
import Derived.Shelf.Strconv.ParseInt10At32
import Derived.Shelf.Strconv.ParseInt10At64
import Derived.Shelf.Strconv.ParseInt10At8
import Derived.Shelf.Strconv.ParseIntEmpty
import Derived.Shelf.Strconv.ParseIntPublic10
import Derived.Shelf.Strconv.ParseUint10
import Derived.Shelf.Strconv.ParseUint10Any
import Derived.Shelf.Strconv.ParseUint10At
import Derived.Shelf.Strconv.ParseUint10Empty
import Derived.Shelf.Strconv.ParseUint10b16
import Derived.Shelf.Strconv.ParseUint10b32
import Derived.Shelf.Strconv.ParseUint10b64
import Derived.Shelf.Strconv.ParseUint10b8
import Derived.Shelf.Strconv.ParseUintEmpty
import Derived.Shelf.Strconv.RangeError
import Derived.Shelf.Strconv.SyntaxError
import Derived.Shelf.Strconv.ToError
import Derived.Shelf.Strconv.ToErrorRange
import Derived.Shelf.Strings.AsciiSet
import Derived.Shelf.Strings.Builder1
import Derived.Shelf.Strings.Builder2
import Derived.Shelf.Strings.Builder2Cap
import Derived.Shelf.Strings.BuilderCap
import Derived.Shelf.Strings.BuilderF
import Derived.Shelf.Strings.BuilderK
import Derived.Shelf.Strings.Cut
import Derived.Shelf.Strings.Prefix
import Derived.Shelf.Strings.Repeat
import Derived.Shelf.Strings.Runes
import Derived.Shelf.Strings.Search1
import Derived.Shelf.Strings.Search2
import Derived.Shelf.Strings.Search3
import Derived.Shelf.Strings.Shaped
import Derived.Shelf.Unicode.DecodeSlow
import Derived.Shelf.Strings.SlTrimAscii
import Derived.Test.YtgebeldoibkkpaaGreatDoorChecked
import Derived.Lib.ParseIntBTie
import Derived.Test.YtgebeldoibkkpaaGreatDoorTie
import Derived.Test.YtgebeldoibkkpaaGreatDoorCards
import Derived.WalkKit
import Derived.ProofKit
import Derived.OpenShut
import Derived.LaidMore
import Derived.ChangeMaps5
import Derived.Lay
import Derived.SevenTiedAt
import Derived.ReadAgain
import Derived.Stop.LaidErr
import Derived.Shelf.Vars
import Derived.Test.YtgebeldoibkkpaaGreatDoorP
set_option maxRecDepth 100000
set_option maxHeartbeats 0
set_option linter.unusedVariables false
set_option linter.unusedSimpArgs false
set_option linter.unusedSectionVars false
namespace Go.Proofs
open Go.Shelf
section
def Tryz.Ju:Go.Shelf.Ren:=⟨fun|162=>157|232=>148|227=>149|234=>151|236=>153|228=>183|271=>186|151=>185|120=>209|197=>184|152=>208|260=>207|137=>98|119=>219|224=>172|225=>171|217=>132|266=>170|n=>n,fun|9=>9|4=>4|3=>3|5=>5|117=>256|116=>255|0=>0|124=>259|21=>21|105=>278|46=>125|119=>303|139=>306|138=>305|n=>n,fun|3=>4|4=>5|n=>n⟩
theorem Tryz.lays162:Go.Proofs.Lays.n162 Tryz.prog Tryz.Ju:={
 mixed:=by kernel_rfl
 f119:=Tryz.func219.trans (congrArg some (by kernel_rfl))
 f120:=Tryz.func209.trans (congrArg some (by kernel_rfl))
 f137:=Tryz.func98.trans (congrArg some (by kernel_rfl))
 f151:=Tryz.func185.trans (congrArg some (by kernel_rfl))
 f152:=Tryz.func208.trans (congrArg some (by kernel_rfl))
 f162:=Tryz.func157.trans (congrArg some (by kernel_rfl))
 f197:=Tryz.func184.trans (congrArg some (by kernel_rfl))
 f217:=Tryz.func132.trans (congrArg some (by kernel_rfl))
 f224:=Tryz.func172.trans (congrArg some (by kernel_rfl))
 f225:=Tryz.func171.trans (congrArg some (by kernel_rfl))
 f227:=Tryz.func149.trans (congrArg some (by kernel_rfl))
 f228:=Tryz.func183.trans (congrArg some (by kernel_rfl))
 f232:=Tryz.func148.trans (congrArg some (by kernel_rfl))
 f234:=Tryz.func151.trans (congrArg some (by kernel_rfl))
 f236:=Tryz.func153.trans (congrArg some (by kernel_rfl))
 f260:=Tryz.func207.trans (congrArg some (by kernel_rfl))
 f266:=Tryz.func170.trans (congrArg some (by kernel_rfl))
 f271:=Tryz.func186.trans (congrArg some (by kernel_rfl))
 t0:=Tryz.underlying0
 a0:=Tryz.isAgg0
 z0:=Tryz.sizeOf0
 v0:=Tryz.zeroValue0
 t3:=Tryz.underlying3
 a3:=Tryz.isAgg3
 z3:=Tryz.sizeOf3
 v3:=Tryz.zeroValue3
 t4:=Tryz.underlying4
 a4:=Tryz.isAgg4
 z4:=Tryz.sizeOf4
 v4:=Tryz.zeroValue4
 t5:=Tryz.underlying5
 a5:=Tryz.isAgg5
 z5:=Tryz.sizeOf5
 v5:=Tryz.zeroValue5
 t9:=Tryz.underlying9
 a9:=Tryz.isAgg9
 z9:=Tryz.sizeOf9
 v9:=Tryz.zeroValue9
 t21:=Tryz.underlying21
 a21:=Tryz.isAgg21
 z21:=Tryz.sizeOf21
 v21:=Tryz.zeroValue21
 t46:=Tryz.underlying125
 a46:=Tryz.isAgg125
 z46:=Tryz.sizeOf125
 v46:=Tryz.zeroValue125
 t105:=Tryz.underlying278
 a105:=Tryz.isAgg278
 z105:=Tryz.sizeOf278
 v105:=Tryz.zeroValue278
 t116:=Tryz.underlying255
 a116:=Tryz.isAgg255
 z116:=Tryz.sizeOf255
 t117:=Tryz.underlying256
 a117:=Tryz.isAgg256
 z117:=Tryz.sizeOf256
 v117:=Tryz.zeroValue256
 t119:=Tryz.underlying303
 a119:=Tryz.isAgg303
 z119:=Tryz.sizeOf303
 t124:=Tryz.underlying259
 a124:=Tryz.isAgg259
 z124:=Tryz.sizeOf259
 v124:=Tryz.zeroValue259
 t138:=Tryz.underlying305
 a138:=Tryz.isAgg305
 z138:=Tryz.sizeOf305
 v138:=Tryz.zeroValue305
 t139:=Tryz.underlying306
 a139:=Tryz.isAgg306
 z139:=Tryz.sizeOf306
 v139:=Tryz.zeroValue306
 g3:=by kernel_rfl
 g4:=by kernel_rfl}
open Go.RowKit in
theorem Tryz.strings_TrimRight_one(s:ByteArray)(c:UInt8)(hc:c.toNat<128)(w:World)(hs:s.size<=9223372036854775807):
 Calls Tryz.prog 157 #[.string s,.string ⟨#[c]⟩] w fun e w'=>e= .returned (.string ⟨(Lib.trimRightB s.data.toList c).toArray⟩)/\w'=w:=Any.strings_TrimRight_one Tryz.lays162 s c hc w hs
def Tryz.Jv:Go.Shelf.Ren:=⟨fun|160=>117|232=>148|231=>147|227=>149|234=>151|233=>150|236=>153|235=>152|228=>183|271=>186|151=>185|197=>184|120=>209|152=>208|260=>207|137=>98|119=>219|224=>172|225=>171|217=>132|266=>170|n=>n,fun|9=>9|4=>4|3=>3|5=>5|117=>256|116=>255|0=>0|124=>259|21=>21|105=>278|46=>125|119=>303|139=>306|138=>305|n=>n,fun|3=>4|4=>5|n=>n⟩
theorem Tryz.lays160:Go.Proofs.Lays.n160 Tryz.prog Tryz.Jv:={
 mixed:=by kernel_rfl
 f119:=Tryz.func219.trans (congrArg some (by kernel_rfl))
 f120:=Tryz.func209.trans (congrArg some (by kernel_rfl))
 f137:=Tryz.func98.trans (congrArg some (by kernel_rfl))
 f151:=Tryz.func185.trans (congrArg some (by kernel_rfl))
 f152:=Tryz.func208.trans (congrArg some (by kernel_rfl))
 f160:=Tryz.func117.trans (congrArg some (by kernel_rfl))
 f197:=Tryz.func184.trans (congrArg some (by kernel_rfl))
 f217:=Tryz.func132.trans (congrArg some (by kernel_rfl))
 f224:=Tryz.func172.trans (congrArg some (by kernel_rfl))
 f225:=Tryz.func171.trans (congrArg some (by kernel_rfl))
 f227:=Tryz.func149.trans (congrArg some (by kernel_rfl))
 f228:=Tryz.func183.trans (congrArg some (by kernel_rfl))
 f231:=Tryz.func147.trans (congrArg some (by kernel_rfl))
 f232:=Tryz.func148.trans (congrArg some (by kernel_rfl))
 f233:=Tryz.func150.trans (congrArg some (by kernel_rfl))
 f234:=Tryz.func151.trans (congrArg some (by kernel_rfl))
 f235:=Tryz.func152.trans (congrArg some (by kernel_rfl))
 f236:=Tryz.func153.trans (congrArg some (by kernel_rfl))
 f260:=Tryz.func207.trans (congrArg some (by kernel_rfl))
 f266:=Tryz.func170.trans (congrArg some (by kernel_rfl))
 f271:=Tryz.func186.trans (congrArg some (by kernel_rfl))
 t0:=Tryz.underlying0
 a0:=Tryz.isAgg0
 z0:=Tryz.sizeOf0
 v0:=Tryz.zeroValue0
 t3:=Tryz.underlying3
 a3:=Tryz.isAgg3
 z3:=Tryz.sizeOf3
 v3:=Tryz.zeroValue3
 t4:=Tryz.underlying4
 a4:=Tryz.isAgg4
 z4:=Tryz.sizeOf4
 v4:=Tryz.zeroValue4
 t5:=Tryz.underlying5
 a5:=Tryz.isAgg5
 z5:=Tryz.sizeOf5
 v5:=Tryz.zeroValue5
 t9:=Tryz.underlying9
 a9:=Tryz.isAgg9
 z9:=Tryz.sizeOf9
 v9:=Tryz.zeroValue9
 t21:=Tryz.underlying21
 a21:=Tryz.isAgg21
 z21:=Tryz.sizeOf21
 v21:=Tryz.zeroValue21
 t46:=Tryz.underlying125
 a46:=Tryz.isAgg125
 z46:=Tryz.sizeOf125
 v46:=Tryz.zeroValue125
 t105:=Tryz.underlying278
 a105:=Tryz.isAgg278
 z105:=Tryz.sizeOf278
 v105:=Tryz.zeroValue278
 t116:=Tryz.underlying255
 a116:=Tryz.isAgg255
 z116:=Tryz.sizeOf255
 t117:=Tryz.underlying256
 a117:=Tryz.isAgg256
 z117:=Tryz.sizeOf256
 v117:=Tryz.zeroValue256
 t119:=Tryz.underlying303
 a119:=Tryz.isAgg303
 z119:=Tryz.sizeOf303
 t124:=Tryz.underlying259
 a124:=Tryz.isAgg259
 z124:=Tryz.sizeOf259
 v124:=Tryz.zeroValue259
 t138:=Tryz.underlying305
 a138:=Tryz.isAgg305
 z138:=Tryz.sizeOf305
 v138:=Tryz.zeroValue305
 t139:=Tryz.underlying306
 a139:=Tryz.isAgg306
 z139:=Tryz.sizeOf306
 v139:=Tryz.zeroValue306
 g3:=by kernel_rfl
 g4:=by kernel_rfl}
def Tryz.Jw:Go.Shelf.Ren:=⟨fun|137=>98|217=>132|266=>170|n=>n,fun|9=>9|5=>5|3=>3|n=>n,fun|n=>n⟩
theorem Tryz.lays137:Go.Proofs.Lays.n137 Tryz.prog Tryz.Jw:={
 mixed:=by kernel_rfl
 f137:=Tryz.func98.trans (congrArg some (by kernel_rfl))
 f217:=Tryz.func132.trans (congrArg some (by kernel_rfl))
 f266:=Tryz.func170.trans (congrArg some (by kernel_rfl))
 t3:=Tryz.underlying3
 a3:=Tryz.isAgg3
 z3:=Tryz.sizeOf3
 v3:=Tryz.zeroValue3
 t5:=Tryz.underlying5
 a5:=Tryz.isAgg5
 z5:=Tryz.sizeOf5
 v5:=Tryz.zeroValue5
 t9:=Tryz.underlying9
 a9:=Tryz.isAgg9
 z9:=Tryz.sizeOf9
 v9:=Tryz.zeroValue9}
open Go.RowKit in
theorem Tryz.strings_IndexByte(s:ByteArray)(c:Int)(w:World):
 Calls Tryz.prog 98 #[.string s,.int .u8 c] w fun e w'=>e= .returned (.int .i64 (Lib.indexByte s.data.toList c.toNat.toUInt8))/\w'=w:=Any.strings_IndexByte Tryz.lays137 s c w
def Tryz.Jx:Go.Shelf.Ren:=⟨fun|103=>136|210=>175|206=>133|n=>n,fun|9=>9|4=>4|24=>239|3=>3|n=>n,fun|n=>n⟩
theorem Tryz.lays103:Go.Proofs.Lays.n103 Tryz.prog Tryz.Jx:={
 mixed:=by kernel_rfl
 f103:=Tryz.func136.trans (congrArg some (by kernel_rfl))
 f206:=Tryz.func133.trans (congrArg some (by kernel_rfl))
 f210:=Tryz.func175.trans (congrArg some (by kernel_rfl))
 t3:=Tryz.underlying3
 a3:=Tryz.isAgg3
 z3:=Tryz.sizeOf3
 v3:=Tryz.zeroValue3
 t4:=Tryz.underlying4
 a4:=Tryz.isAgg4
 z4:=Tryz.sizeOf4
 v4:=Tryz.zeroValue4
 t9:=Tryz.underlying9
 a9:=Tryz.isAgg9
 z9:=Tryz.sizeOf9
 v9:=Tryz.zeroValue9
 t24:=Tryz.underlying239
 a24:=Tryz.isAgg239
 z24:=Tryz.sizeOf239
 v24:=Tryz.zeroValue239}
open Go.RowKit in
theorem Tryz.strings_CutPrefix(s p:ByteArray)(w:World):
 Calls Tryz.prog 136 #[.string s,.string p] w fun e w'=>e= .returned (.tuple #[.string ⟨(Lib.trimPrefix s.data.toList p.data.toList).toArray⟩,.bool (Lib.hasPrefix s.data.toList p.data.toList)])/\w'=w:=Any.strings_CutPrefix Tryz.lays103 s p w
def Tryz.Jy:Go.Shelf.Ren:=⟨fun|104=>155|211=>188|207=>190|n=>n,fun|9=>9|4=>4|24=>239|3=>3|n=>n,fun|n=>n⟩
theorem Tryz.lays104:Go.Proofs.Lays.n104 Tryz.prog Tryz.Jy:={
 mixed:=by kernel_rfl
 f104:=Tryz.func155.trans (congrArg some (by kernel_rfl))
 f207:=Tryz.func190.trans (congrArg some (by kernel_rfl))
 f211:=Tryz.func188.trans (congrArg some (by kernel_rfl))
 t3:=Tryz.underlying3
 a3:=Tryz.isAgg3
 z3:=Tryz.sizeOf3
 v3:=Tryz.zeroValue3
 t4:=Tryz.underlying4
 a4:=Tryz.isAgg4
 z4:=Tryz.sizeOf4
 v4:=Tryz.zeroValue4
 t9:=Tryz.underlying9
 a9:=Tryz.isAgg9
 z9:=Tryz.sizeOf9
 v9:=Tryz.zeroValue9
 t24:=Tryz.underlying239
 a24:=Tryz.isAgg239
 z24:=Tryz.sizeOf239
 v24:=Tryz.zeroValue239}
open Go.RowKit in
theorem Tryz.strings_CutSuffix(s p:ByteArray)(w:World)(hs:s.size<=9223372036854775807):
 Calls Tryz.prog 155 #[.string s,.string p] w fun e w'=>e= .returned (.tuple #[.string ⟨(Lib.trimSuffix s.data.toList p.data.toList).toArray⟩,.bool (Lib.hasSuffix s.data.toList p.data.toList)])/\w'=w:=Any.strings_CutSuffix Tryz.lays104 s p w hs
def Tryz.GS:Go.Shelf.Ren:=⟨fun|173=>139|246=>179|283=>202|284=>203|285=>204|286=>205|129=>215|317=>214|318=>216|319=>217|320=>218|337=>221|338=>222|n=>n,fun|2=>2|3=>3|9=>9|4=>4|171=>290|0=>0|53=>123|37=>142|5=>5|173=>293|212=>300|51=>246|20=>20|213=>301|46=>125|232=>312|233=>313|n=>n,fun|17=>3|18=>6|19=>7|n=>n⟩
theorem Tryz.laysM173:Go.Proofs.LaysM.n173 Tryz.prog Tryz.GS:={
 mixed:=by kernel_rfl
 f129:=Tryz.func215.trans (congrArg some (by kernel_rfl))
 f173:=Tryz.func139.trans (congrArg some (by kernel_rfl))
 f246:=Tryz.func179.trans (congrArg some (by kernel_rfl))
 f283:=Tryz.func202.trans (congrArg some (by kernel_rfl))
 f284:=Tryz.func203.trans (congrArg some (by kernel_rfl))
 f285:=Tryz.func204.trans (congrArg some (by kernel_rfl))
 f286:=Tryz.func205.trans (congrArg some (by kernel_rfl))
 f317:=Tryz.func214.trans (congrArg some (by kernel_rfl))
 f318:=Tryz.func216.trans (congrArg some (by kernel_rfl))
 f319:=Tryz.func217.trans (congrArg some (by kernel_rfl))
 f320:=Tryz.func218.trans (congrArg some (by kernel_rfl))
 f337:=Tryz.func221.trans (congrArg some (by kernel_rfl))
 f338:=Tryz.func222.trans (congrArg some (by kernel_rfl))
 t0:=Tryz.underlying0
 a0:=Tryz.isAgg0
 z0:=Tryz.sizeOf0
 v0:=Tryz.zeroValue0
 t2:=Tryz.underlying2
 a2:=Tryz.isAgg2
 z2:=Tryz.sizeOf2
 v2:=Tryz.zeroValue2
 t3:=Tryz.underlying3
 a3:=Tryz.isAgg3
 z3:=Tryz.sizeOf3
 v3:=Tryz.zeroValue3
 t4:=Tryz.underlying4
 a4:=Tryz.isAgg4
 z4:=Tryz.sizeOf4
 v4:=Tryz.zeroValue4
 t5:=Tryz.underlying5
 a5:=Tryz.isAgg5
 z5:=Tryz.sizeOf5
 v5:=Tryz.zeroValue5
 t9:=Tryz.underlying9
 a9:=Tryz.isAgg9
 z9:=Tryz.sizeOf9
 v9:=Tryz.zeroValue9
 t20:=Tryz.underlying20
 a20:=Tryz.isAgg20
 z20:=Tryz.sizeOf20
 v20:=Tryz.zeroValue20
 t37:=Tryz.underlying142
 a37:=Tryz.isAgg142
 z37:=Tryz.sizeOf142
 v37:=Tryz.zeroValue142
 t46:=Tryz.underlying125
 a46:=Tryz.isAgg125
 z46:=Tryz.sizeOf125
 v46:=Tryz.zeroValue125
 t51:=Tryz.underlying246
 a51:=Tryz.isAgg246
 z51:=Tryz.sizeOf246
 v51:=Tryz.zeroValue246
 t53:=Tryz.underlying123
 a53:=Tryz.isAgg123
 z53:=Tryz.sizeOf123
 v53:=Tryz.zeroValue123
 t171:=Tryz.underlying290
 a171:=Tryz.isAgg290
 z171:=Tryz.sizeOf290
 v171:=Tryz.zeroValue290
 t173:=Tryz.underlying293
 a173:=Tryz.isAgg293
 z173:=Tryz.sizeOf293
 v173:=Tryz.zeroValue293
 t212:=Tryz.underlying300
 a212:=Tryz.isAgg300
 z212:=Tryz.sizeOf300
 v212:=Tryz.zeroValue300
 t213:=Tryz.underlying301
 a213:=Tryz.isAgg301
 z213:=Tryz.sizeOf301
 t232:=Tryz.underlying312
 a232:=Tryz.isAgg312
 z232:=Tryz.sizeOf312
 v232:=Tryz.zeroValue312
 t233:=Tryz.underlying313
 a233:=Tryz.isAgg313
 z233:=Tryz.sizeOf313
 v233:=Tryz.zeroValue313
 g17:=by kernel_rfl
 g18:=by kernel_rfl
 g19:=by kernel_rfl
 i0:=by kernel_rfl
 i2:=by kernel_rfl
 i3:=by kernel_rfl
 i4:=by kernel_rfl
 i5:=by kernel_rfl
 i9:=by kernel_rfl
 i20:=by kernel_rfl
 i37:=by kernel_rfl
 i46:=by kernel_rfl
 i51:=by kernel_rfl
 i53:=by kernel_rfl
 i171:=by kernel_rfl
 i173:=by kernel_rfl
 i212:=by kernel_rfl
 i232:=by kernel_rfl
 i233:=by kernel_rfl
 m17:=by kernel_rfl
 m18:=by kernel_rfl
 m19:=by kernel_rfl}
open Go.RowKit Go.Sort Go.Lib in
theorem Tryz.strconv_FormatInt_10(n:Int)(h0:-9223372036854775808<=n)(h1:n<=9223372036854775807)(w:World)(aft:Lib.TabIs Tryz.prog w "internal/strconv.uint64pow10" .u64 Lib.pow10Tab):
 Calls Tryz.prog 139 #[.int .i64 n,.int .i64 10] w fun e w'=>e= .returned (.string ⟨(Lib.itoa n).toArray⟩)/\∃k os,w'=grow (w.drewN k) os:=Any.strconv_FormatInt_10 Tryz.laysM173 n h0 h1 w aft
def Tryz.GU:Go.Shelf.Ren:=⟨fun|172=>156|244=>189|245=>177|247=>178|279=>198|280=>199|281=>200|282=>201|287=>176|316=>211|171=>213|205=>212|321=>196|322=>197|243=>220|246=>179|283=>202|284=>203|285=>204|286=>205|129=>215|317=>214|318=>216|319=>217|320=>218|337=>221|338=>222|n=>n,fun|9=>9|3=>3|75=>214|76=>215|4=>4|5=>5|167=>284|37=>142|0=>0|85=>243|2=>2|168=>286|53=>123|175=>241|46=>125|210=>297|127=>251|145=>310|143=>308|21=>21|171=>290|173=>293|212=>300|51=>246|20=>20|213=>301|232=>312|233=>313|80=>126|n=>n,fun|15=>1|16=>2|17=>3|18=>6|19=>7|n=>n⟩
theorem Tryz.Dz:Go.Proofs.LaysC.n172 Tryz.prog Tryz.GU:={
 mixed:=by kernel_rfl
 f129:=Tryz.func215.trans (congrArg some (by kernel_rfl))
 f171:=Tryz.func213.trans (congrArg some (by kernel_rfl))
 f172:=Tryz.func156.trans (congrArg some (by kernel_rfl))
 f205:=Tryz.func212.trans (congrArg some (by kernel_rfl))
 f243:=Tryz.func220.trans (congrArg some (by kernel_rfl))
 f244:=Tryz.func189.trans (congrArg some (by kernel_rfl))
 f245:=Tryz.func177.trans (congrArg some (by kernel_rfl))
 f246:=Tryz.func179.trans (congrArg some (by kernel_rfl))
 f247:=Tryz.func178.trans (congrArg some (by kernel_rfl))
 f279:=Tryz.func198.trans (congrArg some (by kernel_rfl))
 f280:=Tryz.func199.trans (congrArg some (by kernel_rfl))
 f281:=Tryz.func200.trans (congrArg some (by kernel_rfl))
 f282:=Tryz.func201.trans (congrArg some (by kernel_rfl))
 f283:=Tryz.func202.trans (congrArg some (by kernel_rfl))
 f284:=Tryz.func203.trans (congrArg some (by kernel_rfl))
 f285:=Tryz.func204.trans (congrArg some (by kernel_rfl))
 f286:=Tryz.func205.trans (congrArg some (by kernel_rfl))
 f287:=Tryz.func176.trans (congrArg some (by kernel_rfl))
 f316:=Tryz.func211.trans (congrArg some (by kernel_rfl))
 f317:=Tryz.func214.trans (congrArg some (by kernel_rfl))
 f318:=Tryz.func216.trans (congrArg some (by kernel_rfl))
 f319:=Tryz.func217.trans (congrArg some (by kernel_rfl))
 f320:=Tryz.func218.trans (congrArg some (by kernel_rfl))
 f321:=Tryz.func196.trans (congrArg some (by kernel_rfl))
 f322:=Tryz.func197.trans (congrArg some (by kernel_rfl))
 f337:=Tryz.func221.trans (congrArg some (by kernel_rfl))
 f338:=Tryz.func222.trans (congrArg some (by kernel_rfl))
 t0:=Tryz.underlying0
 a0:=Tryz.isAgg0
 z0:=Tryz.sizeOf0
 v0:=Tryz.zeroValue0
 t2:=Tryz.underlying2
 a2:=Tryz.isAgg2
 z2:=Tryz.sizeOf2
 v2:=Tryz.zeroValue2
 t3:=Tryz.underlying3
 a3:=Tryz.isAgg3
 z3:=Tryz.sizeOf3
 v3:=Tryz.zeroValue3
 t4:=Tryz.underlying4
 a4:=Tryz.isAgg4
 z4:=Tryz.sizeOf4
 v4:=Tryz.zeroValue4
 t5:=Tryz.underlying5
 a5:=Tryz.isAgg5
 z5:=Tryz.sizeOf5
 v5:=Tryz.zeroValue5
 t9:=Tryz.underlying9
 a9:=Tryz.isAgg9
 z9:=Tryz.sizeOf9
 v9:=Tryz.zeroValue9
 t20:=Tryz.underlying20
 a20:=Tryz.isAgg20
 z20:=Tryz.sizeOf20
 v20:=Tryz.zeroValue20
 t21:=Tryz.underlying21
 a21:=Tryz.isAgg21
 z21:=Tryz.sizeOf21
 v21:=Tryz.zeroValue21
 t37:=Tryz.underlying142
 a37:=Tryz.isAgg142
 z37:=Tryz.sizeOf142
 v37:=Tryz.zeroValue142
 t46:=Tryz.underlying125
 a46:=Tryz.isAgg125
 z46:=Tryz.sizeOf125
 v46:=Tryz.zeroValue125
 t51:=Tryz.underlying246
 a51:=Tryz.isAgg246
 z51:=Tryz.sizeOf246
 v51:=Tryz.zeroValue246
 t53:=Tryz.underlying123
 a53:=Tryz.isAgg123
 z53:=Tryz.sizeOf123
 v53:=Tryz.zeroValue123
 t75:=Tryz.underlying214
 a75:=Tryz.isAgg214
 z75:=Tryz.sizeOf214
 v75:=Tryz.zeroValue214
 t76:=Tryz.underlying215
 a76:=Tryz.isAgg215
 z76:=Tryz.sizeOf215
 v76:=Tryz.zeroValue215
 t85:=Tryz.underlying243
 a85:=Tryz.isAgg243
 z85:=Tryz.sizeOf243
 v85:=Tryz.zeroValue243
 t127:=Tryz.underlying251
 a127:=Tryz.isAgg251
 z127:=Tryz.sizeOf251
 v127:=Tryz.zeroValue251
 t143:=Tryz.underlying308
 a143:=Tryz.isAgg308
 z143:=Tryz.sizeOf308
 v143:=Tryz.zeroValue308
 t145:=Tryz.underlying310
 a145:=Tryz.isAgg310
 z145:=Tryz.sizeOf310
 v145:=Tryz.zeroValue310
 t167:=Tryz.underlying284
 a167:=Tryz.isAgg284
 z167:=Tryz.sizeOf284
 v167:=Tryz.zeroValue284
 t168:=Tryz.underlying286
 a168:=Tryz.isAgg286
 z168:=Tryz.sizeOf286
 v168:=Tryz.zeroValue286
 t171:=Tryz.underlying290
 a171:=Tryz.isAgg290
 z171:=Tryz.sizeOf290
 v171:=Tryz.zeroValue290
 t173:=Tryz.underlying293
 a173:=Tryz.isAgg293
 z173:=Tryz.sizeOf293
 v173:=Tryz.zeroValue293
 t175:=Tryz.underlying241
 a175:=Tryz.isAgg241
 z175:=Tryz.sizeOf241
 v175:=Tryz.zeroValue241
 t210:=Tryz.underlying297
 a210:=Tryz.isAgg297
 z210:=Tryz.sizeOf297
 v210:=Tryz.zeroValue297
 t212:=Tryz.underlying300
 a212:=Tryz.isAgg300
 z212:=Tryz.sizeOf300
 v212:=Tryz.zeroValue300
 t213:=Tryz.underlying301
 a213:=Tryz.isAgg301
 z213:=Tryz.sizeOf301
 t232:=Tryz.underlying312
 a232:=Tryz.isAgg312
 z232:=Tryz.sizeOf312
 v232:=Tryz.zeroValue312
 t233:=Tryz.underlying313
 a233:=Tryz.isAgg313
 z233:=Tryz.sizeOf313
 v233:=Tryz.zeroValue313
 g15:=by kernel_rfl
 g16:=by kernel_rfl
 g17:=by kernel_rfl
 g18:=by kernel_rfl
 g19:=by kernel_rfl
 t80:=Tryz.underlying126
 a80:=Tryz.isAgg126
 z80:=Tryz.sizeOf126
 v80:=Tryz.zeroValue126
 i0:=by kernel_rfl
 i2:=by kernel_rfl
 i3:=by kernel_rfl
 i4:=by kernel_rfl
 i5:=by kernel_rfl
 i9:=by kernel_rfl
 i20:=by kernel_rfl
 i21:=by kernel_rfl
 i37:=by kernel_rfl
 i46:=by kernel_rfl
 i51:=by kernel_rfl
 i53:=by kernel_rfl
 i75:=by kernel_rfl
 i76:=by kernel_rfl
 i80:=by kernel_rfl
 i85:=by kernel_rfl
 i127:=by kernel_rfl
 i143:=by kernel_rfl
 i145:=by kernel_rfl
 i167:=by kernel_rfl
 i168:=by kernel_rfl
 i171:=by kernel_rfl
 i173:=by kernel_rfl
 i175:=by kernel_rfl
 i210:=by kernel_rfl
 i212:=by kernel_rfl
 i232:=by kernel_rfl
 i233:=by kernel_rfl
 m15:=by kernel_rfl
 m16:=by kernel_rfl
 m17:=by kernel_rfl
 m18:=by kernel_rfl
 m19:=by kernel_rfl
 c0:=by kernel_rfl
 c2:=by kernel_rfl
 c3:=by kernel_rfl
 c4:=by kernel_rfl
 c5:=by kernel_rfl
 c9:=by kernel_rfl
 c20:=by kernel_rfl
 c21:=by kernel_rfl
 c37:=by kernel_rfl
 c46:=by kernel_rfl
 c51:=by kernel_rfl
 c53:=by kernel_rfl
 c75:=by kernel_rfl
 c76:=by kernel_rfl
 c80:=by kernel_rfl
 c85:=by kernel_rfl
 c127:=by kernel_rfl
 c143:=by kernel_rfl
 c145:=by kernel_rfl
 c167:=by kernel_rfl
 c168:=by kernel_rfl
 c171:=by kernel_rfl
 c173:=by kernel_rfl
 c175:=by kernel_rfl
 c210:=by kernel_rfl
 c212:=by kernel_rfl
 c213:=by kernel_rfl
 c232:=by kernel_rfl
 c233:=by kernel_rfl}
open Go.RowKit in
theorem Tryz.strconv_Atoi_ok(s:ByteArray)(Ra:s.size<=9223372036854775806)(v:Int)(h:Lib.atoiAll s.data.toList= .ok v)(w:World):
 Calls Tryz.prog 156 #[.string s] w fun e w'=>e= .returned (.tuple #[.int .i64 v,.nilIface])/\(w'=w\/∃t,w'=Lib.bytesWorld w 5 t):=Any.strconv_Atoi_ok Tryz.Dz s Ra v h w
open Go.RowKit in
theorem Tryz.strconv_Atoi_range(s:ByteArray)(aas:s.size<=281474976710656)(h:Lib.atoiAll s.data.toList= .range)(ev:Value)(w:World)(hv:w.cell? ⟨2,0,none⟩=some ev)(NC:ev= .nilIface\/∃te pe,ev= .iface te pe):
 Calls Tryz.prog 156 #[.string s] w fun e w'=>∃N,e= .returned (.tuple #[.int .i64 (Lib.atoiSat s.data.toList),.iface 286 (.pointer (some ⟨N,0,none⟩))])/\w.heap.size<=N/\w'.heap[N]?=some (.cells #[.string ⟨#[65,116,111,105]⟩,.string s,ev] 297 (0,0))/\Below w.heap.size w w':=Any.strconv_Atoi_range Tryz.Dz s aas h ev w hv NC
def Tryz.GV:Go.Shelf.Ren:=⟨fun|174=>138|247=>178|245=>177|287=>176|279=>198|280=>199|281=>200|282=>201|321=>196|322=>197|316=>211|171=>213|205=>212|243=>220|246=>179|283=>202|284=>203|285=>204|286=>205|129=>215|317=>214|318=>216|319=>217|320=>218|337=>221|338=>222|n=>n,fun|9=>9|3=>3|2=>2|75=>214|85=>243|4=>4|167=>284|5=>5|53=>123|175=>241|46=>125|168=>286|37=>142|0=>0|210=>297|21=>21|127=>251|145=>310|143=>308|171=>290|173=>293|212=>300|51=>246|20=>20|213=>301|232=>312|233=>313|80=>126|n=>n,fun|15=>1|16=>2|17=>3|18=>6|19=>7|n=>n⟩
theorem Tryz.R2:Go.Proofs.LaysC.n174 Tryz.prog Tryz.GV:={
 mixed:=by kernel_rfl
 f129:=Tryz.func215.trans (congrArg some (by kernel_rfl))
 f171:=Tryz.func213.trans (congrArg some (by kernel_rfl))
 f174:=Tryz.func138.trans (congrArg some (by kernel_rfl))
 f205:=Tryz.func212.trans (congrArg some (by kernel_rfl))
 f243:=Tryz.func220.trans (congrArg some (by kernel_rfl))
 f245:=Tryz.func177.trans (congrArg some (by kernel_rfl))
 f246:=Tryz.func179.trans (congrArg some (by kernel_rfl))
 f247:=Tryz.func178.trans (congrArg some (by kernel_rfl))
 f279:=Tryz.func198.trans (congrArg some (by kernel_rfl))
 f280:=Tryz.func199.trans (congrArg some (by kernel_rfl))
 f281:=Tryz.func200.trans (congrArg some (by kernel_rfl))
 f282:=Tryz.func201.trans (congrArg some (by kernel_rfl))
 f283:=Tryz.func202.trans (congrArg some (by kernel_rfl))
 f284:=Tryz.func203.trans (congrArg some (by kernel_rfl))
 f285:=Tryz.func204.trans (congrArg some (by kernel_rfl))
 f286:=Tryz.func205.trans (congrArg some (by kernel_rfl))
 f287:=Tryz.func176.trans (congrArg some (by kernel_rfl))
 f316:=Tryz.func211.trans (congrArg some (by kernel_rfl))
 f317:=Tryz.func214.trans (congrArg some (by kernel_rfl))
 f318:=Tryz.func216.trans (congrArg some (by kernel_rfl))
 f319:=Tryz.func217.trans (congrArg some (by kernel_rfl))
 f320:=Tryz.func218.trans (congrArg some (by kernel_rfl))
 f321:=Tryz.func196.trans (congrArg some (by kernel_rfl))
 f322:=Tryz.func197.trans (congrArg some (by kernel_rfl))
 f337:=Tryz.func221.trans (congrArg some (by kernel_rfl))
 f338:=Tryz.func222.trans (congrArg some (by kernel_rfl))
 t0:=Tryz.underlying0
 a0:=Tryz.isAgg0
 z0:=Tryz.sizeOf0
 v0:=Tryz.zeroValue0
 t2:=Tryz.underlying2
 a2:=Tryz.isAgg2
 z2:=Tryz.sizeOf2
 v2:=Tryz.zeroValue2
 t3:=Tryz.underlying3
 a3:=Tryz.isAgg3
 z3:=Tryz.sizeOf3
 v3:=Tryz.zeroValue3
 t4:=Tryz.underlying4
 a4:=Tryz.isAgg4
 z4:=Tryz.sizeOf4
 v4:=Tryz.zeroValue4
 t5:=Tryz.underlying5
 a5:=Tryz.isAgg5
 z5:=Tryz.sizeOf5
 v5:=Tryz.zeroValue5
 t9:=Tryz.underlying9
 a9:=Tryz.isAgg9
 z9:=Tryz.sizeOf9
 v9:=Tryz.zeroValue9
 t20:=Tryz.underlying20
 a20:=Tryz.isAgg20
 z20:=Tryz.sizeOf20
 v20:=Tryz.zeroValue20
 t21:=Tryz.underlying21
 a21:=Tryz.isAgg21
 z21:=Tryz.sizeOf21
 v21:=Tryz.zeroValue21
 t37:=Tryz.underlying142
 a37:=Tryz.isAgg142
 z37:=Tryz.sizeOf142
 v37:=Tryz.zeroValue142
 t46:=Tryz.underlying125
 a46:=Tryz.isAgg125
 z46:=Tryz.sizeOf125
 v46:=Tryz.zeroValue125
 t51:=Tryz.underlying246
 a51:=Tryz.isAgg246
 z51:=Tryz.sizeOf246
 v51:=Tryz.zeroValue246
 t53:=Tryz.underlying123
 a53:=Tryz.isAgg123
 z53:=Tryz.sizeOf123
 v53:=Tryz.zeroValue123
 t75:=Tryz.underlying214
 a75:=Tryz.isAgg214
 z75:=Tryz.sizeOf214
 v75:=Tryz.zeroValue214
 t85:=Tryz.underlying243
 a85:=Tryz.isAgg243
 z85:=Tryz.sizeOf243
 v85:=Tryz.zeroValue243
 t127:=Tryz.underlying251
 a127:=Tryz.isAgg251
 z127:=Tryz.sizeOf251
 v127:=Tryz.zeroValue251
 t143:=Tryz.underlying308
 a143:=Tryz.isAgg308
 z143:=Tryz.sizeOf308
 v143:=Tryz.zeroValue308
 t145:=Tryz.underlying310
 a145:=Tryz.isAgg310
 z145:=Tryz.sizeOf310
 v145:=Tryz.zeroValue310
 t167:=Tryz.underlying284
 a167:=Tryz.isAgg284
 z167:=Tryz.sizeOf284
 v167:=Tryz.zeroValue284
 t168:=Tryz.underlying286
 a168:=Tryz.isAgg286
 z168:=Tryz.sizeOf286
 v168:=Tryz.zeroValue286
 t171:=Tryz.underlying290
 a171:=Tryz.isAgg290
 z171:=Tryz.sizeOf290
 v171:=Tryz.zeroValue290
 t173:=Tryz.underlying293
 a173:=Tryz.isAgg293
 z173:=Tryz.sizeOf293
 v173:=Tryz.zeroValue293
 t175:=Tryz.underlying241
 a175:=Tryz.isAgg241
 z175:=Tryz.sizeOf241
 v175:=Tryz.zeroValue241
 t210:=Tryz.underlying297
 a210:=Tryz.isAgg297
 z210:=Tryz.sizeOf297
 v210:=Tryz.zeroValue297
 t212:=Tryz.underlying300
 a212:=Tryz.isAgg300
 z212:=Tryz.sizeOf300
 v212:=Tryz.zeroValue300
 t213:=Tryz.underlying301
 a213:=Tryz.isAgg301
 z213:=Tryz.sizeOf301
 t232:=Tryz.underlying312
 a232:=Tryz.isAgg312
 z232:=Tryz.sizeOf312
 v232:=Tryz.zeroValue312
 t233:=Tryz.underlying313
 a233:=Tryz.isAgg313
 z233:=Tryz.sizeOf313
 v233:=Tryz.zeroValue313
 g15:=by kernel_rfl
 g16:=by kernel_rfl
 g17:=by kernel_rfl
 g18:=by kernel_rfl
 g19:=by kernel_rfl
 t80:=Tryz.underlying126
 a80:=Tryz.isAgg126
 z80:=Tryz.sizeOf126
 v80:=Tryz.zeroValue126
 i0:=by kernel_rfl
 i2:=by kernel_rfl
 i3:=by kernel_rfl
 i4:=by kernel_rfl
 i5:=by kernel_rfl
 i9:=by kernel_rfl
 i20:=by kernel_rfl
 i21:=by kernel_rfl
 i37:=by kernel_rfl
 i46:=by kernel_rfl
 i51:=by kernel_rfl
 i53:=by kernel_rfl
 i75:=by kernel_rfl
 i80:=by kernel_rfl
 i85:=by kernel_rfl
 i127:=by kernel_rfl
 i143:=by kernel_rfl
 i145:=by kernel_rfl
 i167:=by kernel_rfl
 i168:=by kernel_rfl
 i171:=by kernel_rfl
 i173:=by kernel_rfl
 i175:=by kernel_rfl
 i210:=by kernel_rfl
 i212:=by kernel_rfl
 i232:=by kernel_rfl
 i233:=by kernel_rfl
 m15:=by kernel_rfl
 m16:=by kernel_rfl
 m17:=by kernel_rfl
 m18:=by kernel_rfl
 m19:=by kernel_rfl
 c0:=by kernel_rfl
 c2:=by kernel_rfl
 c3:=by kernel_rfl
 c4:=by kernel_rfl
 c5:=by kernel_rfl
 c9:=by kernel_rfl
 c20:=by kernel_rfl
 c21:=by kernel_rfl
 c37:=by kernel_rfl
 c46:=by kernel_rfl
 c51:=by kernel_rfl
 c53:=by kernel_rfl
 c75:=by kernel_rfl
 c80:=by kernel_rfl
 c85:=by kernel_rfl
 c127:=by kernel_rfl
 c143:=by kernel_rfl
 c145:=by kernel_rfl
 c167:=by kernel_rfl
 c168:=by kernel_rfl
 c171:=by kernel_rfl
 c173:=by kernel_rfl
 c175:=by kernel_rfl
 c210:=by kernel_rfl
 c212:=by kernel_rfl
 c213:=by kernel_rfl
 c232:=by kernel_rfl
 c233:=by kernel_rfl}
open Go.RowKit in
theorem Tryz.strconv_ParseInt_10_at64_ok(s:ByteArray)(Ra:s.size<=9223372036854775806)(v:Int)(h:Lib.parseIntB 64 s.data.toList= .ok v)(w:World):
 Calls Tryz.prog 138 #[.string s,.int .i64 10,.int .i64 64] w fun e w'=>e= .returned (.tuple #[.int .i64 v,.nilIface])/\(w'=w\/∃t,w'=Lib.bytesWorld w 5 t):=Any.strconv_ParseInt_10_at64_ok Tryz.R2 s Ra v h w
def Tryz.Jz:Go.Shelf.Ren:=⟨fun|143=>100|219=>134|217=>132|225=>171|224=>172|267=>173|266=>170|314=>195|n=>n,fun|9=>9|3=>3|4=>4|5=>5|46=>125|146=>247|51=>246|n=>n,fun|1=>0|n=>n⟩
theorem Tryz.lays143:Go.Proofs.Lays.n143 Tryz.prog Tryz.Jz:={
 mixed:=by kernel_rfl
 f143:=Tryz.func100.trans (congrArg some (by kernel_rfl))
 f217:=Tryz.func132.trans (congrArg some (by kernel_rfl))
 f219:=Tryz.func134.trans (congrArg some (by kernel_rfl))
 f224:=Tryz.func172.trans (congrArg some (by kernel_rfl))
 f225:=Tryz.func171.trans (congrArg some (by kernel_rfl))
 f266:=Tryz.func170.trans (congrArg some (by kernel_rfl))
 f267:=Tryz.func173.trans (congrArg some (by kernel_rfl))
 f314:=Tryz.func195.trans (congrArg some (by kernel_rfl))
 t3:=Tryz.underlying3
 a3:=Tryz.isAgg3
 z3:=Tryz.sizeOf3
 v3:=Tryz.zeroValue3
 t4:=Tryz.underlying4
 a4:=Tryz.isAgg4
 z4:=Tryz.sizeOf4
 v4:=Tryz.zeroValue4
 t5:=Tryz.underlying5
 a5:=Tryz.isAgg5
 z5:=Tryz.sizeOf5
 v5:=Tryz.zeroValue5
 t9:=Tryz.underlying9
 a9:=Tryz.isAgg9
 z9:=Tryz.sizeOf9
 v9:=Tryz.zeroValue9
 t46:=Tryz.underlying125
 a46:=Tryz.isAgg125
 z46:=Tryz.sizeOf125
 v46:=Tryz.zeroValue125
 t51:=Tryz.underlying246
 a51:=Tryz.isAgg246
 z51:=Tryz.sizeOf246
 v51:=Tryz.zeroValue246
 t146:=Tryz.underlying247
 a146:=Tryz.isAgg247
 z146:=Tryz.sizeOf247
 v146:=Tryz.zeroValue247
 g1:=by kernel_rfl}
open Go.RowKit Go.Lib in
theorem Tryz.strings_Index(s sub:ByteArray)(m:Int)(w:World)(hs:s.size<4294967281)(hm:w.cell? ⟨0,0,none⟩=some (.int .i64 m)):
 Calls Tryz.prog 100 #[.string s,.string sub] w fun e w'=>e= .returned (.int .i64 (Lib.index s.data.toList sub.data.toList))/\w'=w:=Any.strings_Index Tryz.lays143 s sub m w hs hm
def Tryz.GW:Go.Shelf.Ren:=⟨fun|143=>100|219=>134|217=>132|225=>171|224=>172|267=>173|266=>170|314=>195|n=>n,fun|9=>9|3=>3|4=>4|5=>5|46=>125|146=>247|51=>246|n=>n,fun|1=>0|n=>n⟩
theorem Tryz.laysM143:Go.Proofs.LaysM.n143 Tryz.prog Tryz.GW:={
 mixed:=by kernel_rfl
 f143:=Tryz.func100.trans (congrArg some (by kernel_rfl))
 f217:=Tryz.func132.trans (congrArg some (by kernel_rfl))
 f219:=Tryz.func134.trans (congrArg some (by kernel_rfl))
 f224:=Tryz.func172.trans (congrArg some (by kernel_rfl))
 f225:=Tryz.func171.trans (congrArg some (by kernel_rfl))
 f266:=Tryz.func170.trans (congrArg some (by kernel_rfl))
 f267:=Tryz.func173.trans (congrArg some (by kernel_rfl))
 f314:=Tryz.func195.trans (congrArg some (by kernel_rfl))
 t3:=Tryz.underlying3
 a3:=Tryz.isAgg3
 z3:=Tryz.sizeOf3
 v3:=Tryz.zeroValue3
 t4:=Tryz.underlying4
 a4:=Tryz.isAgg4
 z4:=Tryz.sizeOf4
 v4:=Tryz.zeroValue4
 t5:=Tryz.underlying5
 a5:=Tryz.isAgg5
 z5:=Tryz.sizeOf5
 v5:=Tryz.zeroValue5
 t9:=Tryz.underlying9
 a9:=Tryz.isAgg9
 z9:=Tryz.sizeOf9
 v9:=Tryz.zeroValue9
 t46:=Tryz.underlying125
 a46:=Tryz.isAgg125
 z46:=Tryz.sizeOf125
 v46:=Tryz.zeroValue125
 t51:=Tryz.underlying246
 a51:=Tryz.isAgg246
 z51:=Tryz.sizeOf246
 v51:=Tryz.zeroValue246
 t146:=Tryz.underlying247
 a146:=Tryz.isAgg247
 z146:=Tryz.sizeOf247
 v146:=Tryz.zeroValue247
 g1:=by kernel_rfl
 i3:=by kernel_rfl
 i4:=by kernel_rfl
 i5:=by kernel_rfl
 i9:=by kernel_rfl
 i46:=by kernel_rfl
 i51:=by kernel_rfl
 i146:=by kernel_rfl
 m1:=by kernel_rfl
 s1_3:=fun w h=>Go.Proofs.cell_of_shapedOpen_int (zero:= #[.int .i64 0]) (t:=3) h (of_decide_eq_true (by kernel_rfl)) (by kernel_rfl) rfl (by kernel_rfl) (by kernel_rfl) Tryz.underlying3}
def Tryz.BM:Go.Shelf.Ren:=⟨fun|105=>80|212=>108|99=>99|165=>109|166=>110|170=>111|169=>112|263=>140|264=>141|206=>133|240=>142|241=>143|276=>180|277=>181|n=>n,fun|9=>9|3=>3|4=>4|20=>20|0=>0|46=>125|109=>208|5=>5|72=>212|76=>215|51=>246|146=>247|53=>123|148=>249|70=>210|37=>142|75=>214|127=>251|164=>274|80=>126|n=>n,fun|n=>n⟩
theorem Tryz.lays105:Go.Proofs.Lays.n105 Tryz.prog Tryz.BM:={
 mixed:=by kernel_rfl
 f99:=Tryz.func99.trans (congrArg some (by kernel_rfl))
 f105:=Tryz.func80.trans (congrArg some (by kernel_rfl))
 f165:=Tryz.func109.trans (congrArg some (by kernel_rfl))
 f166:=Tryz.func110.trans (congrArg some (by kernel_rfl))
 f169:=Tryz.func112.trans (congrArg some (by kernel_rfl))
 f170:=Tryz.func111.trans (congrArg some (by kernel_rfl))
 f206:=Tryz.func133.trans (congrArg some (by kernel_rfl))
 f212:=Tryz.func108.trans (congrArg some (by kernel_rfl))
 f240:=Tryz.func142.trans (congrArg some (by kernel_rfl))
 f241:=Tryz.func143.trans (congrArg some (by kernel_rfl))
 f263:=Tryz.func140.trans (congrArg some (by kernel_rfl))
 f264:=Tryz.func141.trans (congrArg some (by kernel_rfl))
 f276:=Tryz.func180.trans (congrArg some (by kernel_rfl))
 f277:=Tryz.func181.trans (congrArg some (by kernel_rfl))
 t0:=Tryz.underlying0
 a0:=Tryz.isAgg0
 z0:=Tryz.sizeOf0
 v0:=Tryz.zeroValue0
 t3:=Tryz.underlying3
 a3:=Tryz.isAgg3
 z3:=Tryz.sizeOf3
 v3:=Tryz.zeroValue3
 t4:=Tryz.underlying4
 a4:=Tryz.isAgg4
 z4:=Tryz.sizeOf4
 v4:=Tryz.zeroValue4
 t5:=Tryz.underlying5
 a5:=Tryz.isAgg5
 z5:=Tryz.sizeOf5
 v5:=Tryz.zeroValue5
 t9:=Tryz.underlying9
 a9:=Tryz.isAgg9
 z9:=Tryz.sizeOf9
 v9:=Tryz.zeroValue9
 t20:=Tryz.underlying20
 a20:=Tryz.isAgg20
 z20:=Tryz.sizeOf20
 v20:=Tryz.zeroValue20
 t37:=Tryz.underlying142
 a37:=Tryz.isAgg142
 z37:=Tryz.sizeOf142
 v37:=Tryz.zeroValue142
 t46:=Tryz.underlying125
 a46:=Tryz.isAgg125
 z46:=Tryz.sizeOf125
 v46:=Tryz.zeroValue125
 t51:=Tryz.underlying246
 a51:=Tryz.isAgg246
 z51:=Tryz.sizeOf246
 v51:=Tryz.zeroValue246
 t53:=Tryz.underlying123
 a53:=Tryz.isAgg123
 z53:=Tryz.sizeOf123
 v53:=Tryz.zeroValue123
 t70:=Tryz.underlying210
 a70:=Tryz.isAgg210
 z70:=Tryz.sizeOf210
 v70:=Tryz.zeroValue210
 t72:=Tryz.underlying212
 a72:=Tryz.isAgg212
 z72:=Tryz.sizeOf212
 v72:=Tryz.zeroValue212
 t75:=Tryz.underlying214
 a75:=Tryz.isAgg214
 z75:=Tryz.sizeOf214
 v75:=Tryz.zeroValue214
 t76:=Tryz.underlying215
 a76:=Tryz.isAgg215
 z76:=Tryz.sizeOf215
 v76:=Tryz.zeroValue215
 t109:=Tryz.underlying208
 a109:=Tryz.isAgg208
 z109:=Tryz.sizeOf208
 v109:=Tryz.zeroValue208
 t127:=Tryz.underlying251
 a127:=Tryz.isAgg251
 z127:=Tryz.sizeOf251
 v127:=Tryz.zeroValue251
 t146:=Tryz.underlying247
 a146:=Tryz.isAgg247
 z146:=Tryz.sizeOf247
 v146:=Tryz.zeroValue247
 t148:=Tryz.underlying249
 a148:=Tryz.isAgg249
 z148:=Tryz.sizeOf249
 v148:=Tryz.zeroValue249
 t164:=Tryz.underlying274
 a164:=Tryz.isAgg274
 z164:=Tryz.sizeOf274
 v164:=Tryz.zeroValue274}
theorem Tryz.zY:Builder.Extra Tryz.prog Tryz.BM:={
 sizeBuilder:=by kernel_rfl
 liesBuilder:=by kernel_rfl
 t5:=Tryz.underlying5
 a5:=Tryz.isAgg5
 z5:=Tryz.sizeOf5
 v5:=Tryz.zeroValue5
 infoByte:=by kernel_rfl
 cellsByte:=by kernel_rfl
 sizeByte:=by kernel_rfl
 neB5:=by decide}
open Go.RowKit Go.Lib in
theorem Tryz.strings_Repeat(s:ByteArray)(c:Nat)(w:World)(hc:c<=9223372036854775807)(hlen:s.size*c<=140737488355328):
 Calls Tryz.prog 80 #[.string s,.int .i64 c] w fun e w'=>e= .returned (.string ⟨(Lib.repeatL s.data.toList c).toArray⟩)/\Below w.heap.size w w':=Any.strings_Repeat Tryz.lays105 Tryz.zY s c w hc hlen
open Go.RowKit Go.Lib in
theorem Tryz.GX(s cs:ByteArray)(w:World)(hs:s.size<=9223372036854775807)(zn:cs.size<4294967281)(ha:∀(j:Nat)(b:UInt8),cs.data.toList[j]?=some b->b.toNat<128):
 Calls Tryz.prog 117 #[.string s,.string cs] w fun e w'=>e= .returned (.string ⟨(Lib.trimS s.data.toList cs.data.toList).toArray⟩)/\Below w.heap.size w w':=
 Any.strings_Trim_laid Tryz.lays160 (by kernel_rfl) s cs w hs zn ha
open Go.RowKit Go.Lib in
theorem Tryz.zZ(s:ByteArray)(aas:s.size<=281474976710656)(h:Am.RE (Lib.atoiAll s.data.toList)=true)(ev:Value)(w:World)(hv:w.cell? ⟨1,0,none⟩=some ev)(NC:ev= .nilIface\/∃te pe,ev= .iface te pe):
 Calls Tryz.prog 156 #[.string s] w fun e w'=>∃N,e= .returned (.tuple #[.int .i64 (0),.iface 286 (.pointer (some ⟨N,0,none⟩))])/\w.heap.size<=N/\w'.heap[N]?=some (.cells #[.string ⟨#[65,116,111,105]⟩,.string s,ev] 297 (0,0))/\Below w.heap.size w w':=by
 cases hx:Lib.atoiAll s.data.toList with
 |ok v=>rw[hx]at h;cases h
 |range=>rw[hx]at h;cases h
 |_=>exact Any.strconv_Atoi_syntax Tryz.Dz s aas hx ev w hv NC
end
end Go.Proofs
namespace Go.Proofs.YtgebeldoibkkpaaGreatDoor
open Go.Am
noncomputable def adM:Env:=yu Tryz.prog ext (zQ prL)
theorem PE:isTrue ((jx adM 400).call 4 [] AS)=true:=by decide+kernel
section
theorem SY:∀k f,ext k=some f->No Tryz.prog k f:=by
 intro k f h;have:=Fe h;simp only[aq,bd,cT,gh]at this;obtain⟨rfl,rfl⟩:=this;exact wh Tryz.func170 kr kr kr kr
theorem WG:adM.Ok:=IX _ _ _ kr SY
theorem ab8:env.Ok:=IX _ _ _ kr SY
abbrev Tab(w:World):Prop:=Lib.TabIs Tryz.prog w "internal/strconv.uint64pow10" .u64 Lib.pow10Tab
theorem SZ(s:List UInt8):[42,47].isPrefixOf s=LM s:=by
 unfold LM;split
 ·simp[List.isPrefixOf]
 ·rename_i jX;cases s with
  |nil=>rfl
  |cons a r=>
   cases r with
   |nil=>simp[List.isPrefixOf]
   |cons b r=>
    by_cases h:a=42
    ·by_cases h2:b=47
     ·subst h h2;exact absurd rfl (jX r)
     ·have:¬47=b:=fun e=>h2 e.symm;simp[List.isPrefixOf,this]
    ·have:¬42=a:=fun e=>h e.symm;simp[List.isPrefixOf,this]
theorem JV:∀s:List UInt8,Lib.index s [42,47]=j3 s
 |[]=>rfl
 |c::s=>by
  have ih:=JV s;have:=AY s;simp only[Lib.index,j3,SZ,ih];split
  ·rfl
  ·by_cases e:j3 s= -1
   ·simp[e]
   ·have e2:(j3 s== -1)=false:=(by simpa using e);have e3:¬j3 s<0:=om;simp[e2,e3]
theorem S1(s:List UInt8):∀n:Nat,Lib.repeatL s n=(List.replicate n s).flatten
 |0=>rfl
 |n+1=>by rw[Lib.repeatL,S1 s n,List.replicate_succ];rfl
section
variable [iY]
theorem ab9{ι:cS}{a:List UInt8}{n:Int}{cp:Array Value}(h:bF ι [.str a,.int .i64 n] cp.toList):cp= #[.string ⟨a.toArray⟩,.int .i64 n]:=by
 obtain⟨y,ys,e1,h1,hr⟩:=h.inv;obtain⟨z,zs,e2,h2,HT⟩:=hr.inv;have:=HT.tV;subst this;cases h1;cases h2;apply jf;simpa[e2]using e1
theorem WH{ι:cS}{a:List UInt8}{n m:Int}{cp:Array Value}(h:bF ι [.str a,.int .i64 n,.int .i64 m] cp.toList):cp= #[.string ⟨a.toArray⟩,.int .i64 n,.int .i64 m]:=by
 obtain⟨y,ys,e1,h1,hr⟩:=h.inv;obtain⟨z,zs,e2,h2,HT⟩:=hr.inv;obtain⟨u,us,e3,h3,Ql⟩:=HT.inv;have:=Ql.tV;subst this;cases h1;cases h2;cases h3;apply jf;simpa[e2,e3]using e1
theorem aba{P:Program}{k:FuncId}{m:Int}(hc:∀(s sub:ByteArray)(m:Int)(w:World),s.size<4294967281->w.cell? ⟨0,0,none⟩=some (.int .i64 m)->Calls P k #[.string s,.string sub] w fun e w'=>e= .returned (.int .i64 (Lib.index s.data.toList sub.data.toList))/\w'=w)(hm:iY.w.cell? ⟨0,0,none⟩=some (.int .i64 m))
 {args:List AV} {h:ah} {out:Out} {h':ah} {ι:cS} {w:World} {cp:Array Value} (hf:eJ ceF args h=some (out,h')) (hH:dV ι h w) (hv:bF ι args cp.toList):CallsIn Fence.wide 0 P k cp w fun e w'=>∃dS,Ext ι h w dS h' w'/\nU dS out e:=by
 unfold eJ at hf;split at hf
 ·rename_i v MR;simp only[bw,gh]at hf;obtain⟨rfl,rfl⟩:=hf;unfold ceF at MR;split at MR
  ·rename_i s;split at MR
   ·rename_i hl;injection MR with MR;subst MR;rw[Go.Am.BI hv];refine lU hH ((hc _ _ m w (by simp[ByteArray.size];omega) (sq hm hH)).mono fun e w' ⟨h1,h2⟩=>⟨?_,h2▸nk.refl w⟩);subst h1;simp only[List.toList_toArray,JV];exact bS.int _ _
   ·cases MR
  ·cases MR
 ·cases hf
theorem WJ{P:Program}{k:FuncId}(hc:∀(s:ByteArray)(c:Nat)(w:World),c<=9223372036854775807->s.size*c<=140737488355328->Calls P k #[.string s,.int .i64 c] w fun e w'=>e= .returned (.string ⟨(Lib.repeatL s.data.toList c).toArray⟩)/\RowKit.Below w.heap.size w w')
 {ι:cS} {args:List AV} {v:AV} {cp:Array Value} (w:World) (hf:GY args=some v) (hv:bF ι args cp.toList):Calls P k cp w fun e w'=>(∃y,e= .returned y/\bS ι v y)/\nk w w':=by
 unfold GY at hf;split at hf
 ·rename_i s n;split at hf
  ·rename_i Qg;obtain⟨h0,h1,h2⟩:=Qg;injection hf with hf;subst hf;rw[ab9 hv];obtain⟨m,rfl⟩:=Int.eq_ofNat_of_zero_le h0;have hm:m<=100000:=om;have ng:s.length*m<=1000*100000:=uw h2 hm;refine(hc ⟨s.toArray⟩ m w om (by simp only[ByteArray.size,List.size_toArray];omega)).mono fun e w' ⟨h3,h4⟩=>⟨⟨_,h3,?_⟩,nk.Ji h4⟩
   simp only[List.toList_toArray,S1,Int.toNat_natCast];exact bS.str _
  ·cases hf
 ·cases hf
theorem PG{P:Program}{k:FuncId}{e5:TypeId}(hc:∀(s:ByteArray),s.size<=9223372036854775806->∀(v:Int),Lib.parseIntB 64 s.data.toList= .ok v->∀w:World,Calls P k #[.string s,.int .i64 10,.int .i64 64] w fun e w'=>e= .returned (.tuple #[.int .i64 v,.nilIface])/\(w'=w\/∃t,w'=Lib.bytesWorld w e5 t))
 {args:List AV} {h:ah} {out:Out} {h':ah} {ι:cS} {w:World} {cp:Array Value} (hf:AZ args h=some (out,h')) (hH:dV ι h w) (hv:bF ι args cp.toList):CallsIn Fence.wide 0 P k cp w fun e w'=>∃dS,Ext ι h w dS h' w'/\nU dS out e:=by
 unfold AZ at hf;split at hf
 ·rename_i s;split at hf
  ·rename_i hl;split at hf
   ·rename_i v rQ;simp only[bw,gh]at hf;obtain⟨rfl,rfl⟩:=hf;rw[WH hv];refine lU hH ((hc ⟨s.toArray⟩ (by simp[ByteArray.size];omega) v (by rw[Lib.parseIntB_64];simpa using rQ) w).mono fun e w' ⟨h1,h2⟩=>⟨?_,?_⟩)
    ·subst h1;exact bS.Er (bF.cons (.int _ _) (bF.cons .nilIface (bF.nil _)))
    ·rcases h2 with rfl|⟨t,rfl⟩
     ·exact nk.refl _
     ·exact vO _ _ _
   ·cases hf
  ·cases hf
 ·cases hf
end
structure S4(W:World):Prop where
 e1:∃ev,W.cell? ⟨1,0,none⟩=some ev/\(ev= .nilIface\/∃te pe,ev= .iface te pe)
 e2:∃ev,W.cell? ⟨2,0,none⟩=some ev/\(ev= .nilIface\/∃te pe,ev= .iface te pe)
 Ft:Tab W
 mx:∃m,W.cell? ⟨0,0,none⟩=some (.int .i64 m)
theorem S5(W:World)(hE:S4 W){k f}(hk:zQ prL k=some f){args h out h'}{ι:cS}{w cp}(hf:f args h=some (out,h'))(hH:@dV ⟨W⟩ ι h w)(hv:bF ι args cp.toList):CallsIn Fence.wide 0 Tryz.prog k cp w fun e w'=>∃dS,@Ext ⟨W⟩ ι h w dS h' w'/\nU dS out e:=by
 letI:iY:=⟨W⟩
 obtain⟨m,hm⟩:=hE.mx;have:=Fe hk;simp only[prL,aq,bd,cT,gh]at this;rcases this with⟨rfl,rfl⟩|⟨rfl,rfl⟩|⟨rfl,rfl⟩|⟨rfl,rfl⟩|⟨rfl,rfl⟩|⟨rfl,rfl⟩|⟨rfl,rfl⟩|⟨rfl,rfl⟩|⟨rfl,rfl⟩|⟨rfl,rfl⟩
 ·exact qm (fun w hf hv=>Z9 Tryz.strings_IndexByte w hf hv) hf hH hv
 ·exact qm (fun w hf hv=>RC Tryz.strings_CutPrefix w hf hv) hf hH hv
 ·exact qm (fun w hf hv=>RB Tryz.GX w hf hv) hf hH hv
 ·exact aba Tryz.strings_Index hm hf hH hv
 ·exact PG (fun s hs v h w=>Tryz.strconv_ParseInt_10_at64_ok s hs v h w) hf hH hv
 ·exact qm (fun w hf hv=>RD (fun s p w hs=>Tryz.strings_CutSuffix s p w hs) w hf hv) hf hH hv
 ·exact qm (fun w hf hv=>OV Tryz.strings_TrimRight_one w hf hv) hf hH hv
 ·exact Jl (fun s hs v h w=>Tryz.strconv_Atoi_ok s hs v h w) (fun s hs h ev w hc he=>Tryz.zZ s hs h ev w hc he) (fun s hs h ev w hc he=>Tryz.strconv_Atoi_range s hs h ev w hc he) hE.e1 hE.e2 hf hH hv
 ·exact LF hE.Ft Tryz.strconv_FormatInt_10 hf hH hv
 ·exact qm (fun w hf hv=>WJ (fun s c w h1 h2=>Tryz.strings_Repeat s c w h1 h2) w hf hv) hf hH hv
theorem PH(W:World)(hE:S4 W):@wR ⟨W⟩ env:=by
 letI:iY:=⟨W⟩
 intro k f hk args h out h' ι w cp hf hH hv;have V:S4 w:=⟨hE.e1.imp fun _ p=>⟨sq p.1 hH,p.2⟩,hE.e2.imp fun _ p=>⟨sq p.1 hH,p.2⟩,Dq hE.Ft hH,hE.mx.imp fun _ p=>sq p hH⟩
 have Cj:(bif Nat.beq k 4 then some w8 else zQ prL k)=some f:=hk;cases e:Nat.beq k 4 with
 |true=>
  rw[e]at Cj;injection Cj with Cj;subst Cj;have:=jz e;subst this;exact Jh (BF WG PE w (by intro k f hk _ _ _ _ _ _ _ hf hH hv;exact S5 w V hk hf hH hv)) hf hH hv
 |false=>
  rw[e]at Cj;exact S5 W hE Cj hf hH hv
end
end Go.Proofs.YtgebeldoibkkpaaGreatDoor
namespace Go.Proofs.YtgebeldoibkkpaaGreatDoor
section
namespace BU
open Go.ChangeShapes Go.WideShapes Go.ChangeAt Go.RowKit Go.ChangeMaps
theorem D0{P:Program}{n nm:String}{d:DataW Unit}{r:List (String×DataW Unit)}{W:World}{g:Nat}{ti:TypeId}{ms:Array (String×TypeId)}
 (h:laidMet P ((n,.iface nm d)::r) W) (hg:P.globalNamed n=some g) (ht:(P.globals[g]?).map (·.type)=some ti) (hi:P.underlying ti=some (.interface ms)):∃u v,W.cell? ⟨g,0,Option.none⟩=some (.iface u v):=by
 obtain⟨ps,⟨g0,t0,cs0,f0,p0,q0,hg0,ht0,hv0,hd0,_,e0⟩,_,agW⟩:=h;obtain rfl:=Option.some.inj (hg.symm.trans hg0);obtain rfl:=Option.some.inj (ht.symm.trans ht0);obtain⟨l0⟩:=cs0;obtain⟨f1,u,v,he,_,_⟩:=iface_of_trod hi hd0;have he:l0=[.iface u v]:=he;subst he;exact⟨u,v,World.var?_cell hg0 hv0 0⟩
theorem g1:Tryz.prog.globalNamed "strconv.ErrRange" =some 2:=by kernel_rfl
theorem g2:Tryz.prog.globalNamed "strconv.ErrSyntax" =some 1:=by kernel_rfl
theorem t1:(Tryz.prog.globals[2]?).map (·.type)=some 214:=by kernel_rfl
theorem t2:(Tryz.prog.globals[1]?).map (·.type)=some 214:=by kernel_rfl
theorem WK{W:World}(hL:laidMetH Tryz.prog Rows.checkPlacesRow.laid W)(hS:W.ShapedOpen Tryz.prog):S4 W:=by
 rw[MakeChecks.laidMetH_plain _ _ _ (by kernel_rfl)]at hL;have h4:=hL.tail.tail.tail.tail;obtain⟨u,v,h1⟩:=D0 h4 g1 t1 Tryz.underlying214;obtain⟨u',v',h2⟩:=D0 h4.tail g2 t2 Tryz.underlying214;exact⟨⟨_,h2,.inr ⟨u',v',rfl⟩⟩,⟨_,h1,.inr ⟨u,v,rfl⟩⟩,Lib.tabIs_of_head (by kernel_rfl) (by kernel_rfl) (g:=3) (t:=300) (e:=123) Tryz.underlying300 Tryz.underlying123 (by kernel_rfl) (by kernel_rfl) hL.tail.tail,
  Go.Proofs.cell_of_shapedOpen_int (zero:= #[.int .i64 0]) (t:=3) hS (of_decide_eq_true (by kernel_rfl)) (by kernel_rfl) rfl (by kernel_rfl) (by kernel_rfl) Tryz.underlying3⟩
theorem walk{W:World}(hV:S4 W)(s:ByteArray):Calls Tryz.prog 3 #[.string s] W fun e W'=>e= .returned (.bool true)/\Am.nk W W':=by
 letI:Am.iY:=⟨W⟩
 have hw:=SX (fun h=>Am.aV.fw pr4 rfl ⟨rfl,rfl⟩) s.data.toList Am.AS (fun i _=>rfl);have hv:Am.bF Am.yv [.str s.data.toList] (#[Value.string s]:Array Value).toList:=Am.bF.cons (by simpa using Am.bS.str (ι:=Am.yv) s.data.toList) (Am.bF.nil _);refine(Am.aV.calls (cp:= #[.string s]) ab8 (PH W hV) hw Am.Dg hv).mono fun e W' ⟨out,h',dS,ho,hx,hr⟩=>?_;subst ho;refine⟨?_,hx.acf⟩;cases e with
 |returned y=>
  have hr:Am.bS dS (.bool true) y:=hr;cases hr;rfl
 |_=>exact hr.elim
theorem own:ownKnob Tryz.prog.godebug=Option.none:=by kernel_rfl
set_option maxRecDepth 100000 in
theorem lifted(os:Os)(started:os.Started)(H:Type)(enc:TypeId×Value->H):
 ReturnsInHanded {} Tryz.checked os 3 .any (fun w args=>(Rows.checkPlacesSpec.pre enc Tryz.prog Tryz.f3 Rows.checkPlacesRow.domain false w args/\laidMetH Tryz.prog Rows.checkPlacesRow.laid w)/\sizedMet enc Tryz.prog Tryz.f3 (OpenSpec.ofChange Rows.checkPlacesSpec) false w args)
  (Rows.checkPlacesSpec.post enc Tryz.prog Tryz.f3 false true false false):=by
 refine returnsInHanded_of_calls (C:=Tryz.checked) own started (by kernel_rfl)
  (ChangeSpec.witness_shaped (enc:=enc) (C:=Tryz.checked) (os:=os) (X:=fun w _=>laidMetH Tryz.prog Rows.checkPlacesRow.laid w) false (World.laidAll Tryz.prog os Rows.checkPlacesRow.laid) #[.string ⟨#[]⟩] 8 (World.laidAll_os _ _ _)
   (World.shaped_of_ZipB (by kernel_rfl) (by kernel_rfl)) (by kernel_rfl) (by kernel_rfl) (by kernel_rfl)
   (by rw[MakeChecks.laidMetH_plain _ _ _ (by kernel_rfl)];exact laidMet_laidAll _ (by kernel_rfl) (by kernel_rfl))) ?_
 intro w tape i _ XB _ gJ aga _;obtain⟨_,_,_,Bz,Gr,_,_,_,_,agb⟩:=gJ;obtain rfl:Bz=Tryz.f3:=Option.some.inj (Gr.symm.trans Tryz.func3);obtain⟨⟨⟨ds,gs,before,hw,hc⟩,hx⟩,hz⟩:=aga;have hW:=DataW.Whole.of_heap (w':=w.forCall tape i) (by rfl) hw;have hL:laidMetH Tryz.prog Rows.checkPlacesRow.laid (w.forCall tape i):=hx.of_heap (by rfl);have hV0:=WK hL XB;generalize w.forCall tape i=W at*;have hW':=hW;obtain⟨p,q,hA0,hV,rfl,_,_⟩:=hW;have hA:DataW.TrodAll enc Tryz.prog W 0 (fun _=>true) true Tryz.f3.params.toList i.args.toList ds p:=hA0;rw[Tryz.params3]at hA;obtain⟨v0,d0,iy,rfl,h0⟩:=trodAll_one hA;obtain⟨rfl,rfl⟩:=trodVars_none hV;have A9:i.args[0]?=some v0:=by
  rw[<-Array.getElem?_toList,iy];rfl
 obtain⟨s,rfl,rfl,rfl,hs⟩:=open_string Tryz.underlying9 (agb 0 9 _ (by rw[Tryz.params3];rfl) A9) h0;have hae:i.args= #[.string s]:=by simpa using iy
 rw[hae];refine(walk hV0 s).mono fun e W' ⟨he,hk⟩=>?_;subst he;simp only[List.append_nil]at hW';rw[hae]at hW';exact ChangeSpec.post_blind ⟨_,_,_,[],_,[],hW',trodAll_mk1 (shut_bool Tryz.underlying4 _),trodAll_mk1 (shut_string Tryz.underlying9 hs),rfl,hk.kept _,fun h=>by cases h⟩
theorem over:Rows.checkPlacesRow.holds Tryz.pinned (OpenSpec.ofChange Rows.checkPlacesSpec):=
 OpenClaim.holds_of_wide 3 Tryz.f3 rfl rfl rfl rfl rfl rfl rfl ⟨rfl,rfl,rfl,rfl,rfl⟩ rfl rfl rfl rfl rfl (by kernel_rfl) Tryz.func3 (by kernel_rfl)
  (of_decide_eq_true (by kernel_rfl)) (by unfold Func.isWrapper;first|(rw[if_pos (by decide+kernel)];kernel_rfl)|(rw[if_neg (by decide+kernel)];exact⟨rfl,rfl⟩))
  (fun os started H enc _=>lifted os started H enc)
end BU
theorem checkPlaces_card:Rows.CheckPlacesCardSaid:=
 Claim7.holds_tied_plain_at .later [] [.data,.data,.data,.data,.sentinel,.sentinel,.pinned] true Rows.checkPlacesCard.stood.harness true
  BU.over (fun _ h=>by cases h) (by kernel_rfl) (fun _ h=>by cases h) checkPlaces_row_tie rfl ⟨rfl,rfl⟩ (by kernel_rfl) rfl
  (fun f fn hf B7=>by
   obtain rfl:f=3:=Option.some.inj ((show Tryz.prog.funcNamed "plumbob/plumboblaw7.CheckPlaces" =some 3 by kernel_rfl).symm.trans hf)|>.symm;obtain rfl:fn=Tryz.f3:=(Option.some.inj (Tryz.func3.symm.trans B7)).symm;exact⟨by kernel_rfl,fun j t ht=>by
    rw[Tryz.params3]at ht;have hm:t∈[9]:=(by simpa using Array.mem_of_getElem? ht);have uJ:([9].all fun u=>!Tryz.prog.wantsStandIn u)=true:=(by kernel_rfl);exact(show Tryz.prog.wantsStandIn t=false by simpa using List.all_eq_true.1 uJ t hm)⟩)
  (by kernel_rfl)
#print axioms checkPlaces_card
end
end Go.Proofs.YtgebeldoibkkpaaGreatDoor
