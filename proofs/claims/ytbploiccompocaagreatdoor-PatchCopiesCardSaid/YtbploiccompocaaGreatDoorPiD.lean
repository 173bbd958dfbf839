/- A part of the proof: nothing is stated here for its own sake. -/
import Derived.Test.YtbploiccompocaaGreatDoorPiC
import Derived.Shelf.Strings.Builder1
import Derived.Shelf.Strings.Builder2
import Derived.Shelf.Strings.Trim
import Derived.Shelf.Small.Utf8
import Derived.Shelf.Small.Strs
import Derived.Shelf.Small.Wraps
import Derived.Shelf.Strings.BuilderF
import Derived.Shelf.Strings.BuilderK
import Derived.Shelf.Utf8.RuneCount
import Derived.Shelf.Strings.Builder2Cap
import Derived.Shelf.Strconv.Atoi
import Derived.Shelf.Strconv.Itoa0
import Derived.Shelf.Strconv.Itoa1
import Derived.Shelf.LaysM
import Derived.Shelf.Strconv.Itoa2
import Derived.Shelf.Strconv.Itoa3
import Derived.Shelf.Strconv.AtoiErrFast
import Derived.Shelf.Strconv.ParseIntEmpty
import Derived.Shelf.Strconv.AtoiFail
import Derived.Shelf.Strconv.Clone
import Derived.Shelf.Strconv.SyntaxError
import Derived.Shelf.LaysC
import Derived.Shelf.Strconv.ToError
import Derived.Shelf.Strconv.AtoiErr
import Derived.Shelf.Strconv.Lower
import Derived.Shelf.Strconv.ParseUint10
import Derived.Shelf.Strconv.ParseUint10Empty
import Derived.Shelf.Strconv.ParseUint10Any
import Derived.Shelf.Strconv.ParseInt10
import Derived.Shelf.Strconv.AtoiLong
import Derived.Shelf.Strconv.AtoiInnerAll
import Derived.Shelf.Strconv.RangeError
import Derived.Shelf.Strconv.ToErrorRange
import Derived.Shelf.Strconv.AtoiAll
import Derived.Shelf.Strconv.ErrVarAll
import Derived.Shelf.Strconv.ParseUintEmpty
import Derived.Shelf.Strconv.ParseUint10b64
import Derived.Shelf.Strconv.ParseUint10b32
import Derived.Shelf.Strconv.ParseUint10b16
import Derived.Shelf.Strconv.ParseUint10b8
import Derived.Shelf.Strconv.ParseUint10At
import Derived.Shelf.Strconv.ParseInt10At64
import Derived.Shelf.Strconv.ParseInt10At32
import Derived.Shelf.Strconv.ParseInt10At16
import Derived.Shelf.Strconv.ParseInt10At8
import Derived.Shelf.Strconv.ParseInt10All
import Derived.Shelf.Strconv.ParseIntPublic10
import Derived.Shelf.Strconv.ErrVarParseInt
import Derived.Shelf.Strings.Search1
import Derived.Shelf.Strings.Search2
import Derived.Shelf.Strings.Search3
import Derived.Shelf.Strings.Cut
import Derived.Shelf.Strings.Count
import Derived.Shelf.Strings.Shaped
import Derived.Shelf.Strings.Prefix
import Derived.Shelf.Strings.Split
import Derived.Shelf.Strings.Replace
import Derived.Shelf.Strings.SplitShaped
import Derived.Shelf.Unicode.Decode
import Derived.Shelf.Strings.Runes
import Derived.Shelf.Strings.RuneCount
import Derived.Shelf.Strings.IndexAny
import Derived.Shelf.Strings.AsciiSet
import Derived.Shelf.Strings.IndexAnyAll
import Derived.Shelf.Strings.Explode
import Derived.Shelf.Bits.Mul64
import Derived.Shelf.Strings.Repeat
import Derived.Shelf.Unicode.DecodeSlow
import Derived.Shelf.Unicode.DecodeAny
import Derived.Shelf.Unicode.DecodeLast
import Derived.Shelf.Strings.BuilderCap
import Derived.Shelf.Slices.Turned
import Derived.Ground.Names2Prog
import Derived.Shelf.Slices.Clone
import Derived.Shelf.Slices.Delete
import Derived.Shelf.Slices.Cells
import Derived.Shelf.Slices.Empties
import Derived.Ground.SlgnProg
import Derived.Shelf.SlicesE.Clone
import Derived.Test.YtbploiccompocaaGreatDoorProg
import Derived.Lib.ItoaNum
import Derived.Lib.ParseIntB
import Derived.Lib.Repeat
import Derived.Test.YtbploiccompocaaGreatDoorRows
import Derived.Test.YtbploiccompocaaGreatDoorTie
import Derived.Test.YtbploiccompocaaGreatDoorCards
import Derived.PinnedBridge
import Derived.Lay
import Derived.HandedShaped
import Derived.Shelf.Vars
import Derived.ChangeVars
import Derived.JoinedOf
import Derived.RowKitTokens
import Derived.LaidLaws
import Derived.MakeChecks
import Derived.SevenTiedAt
import Derived.Stop.Joined
import Derived.Lib.SplitLaws
import Derived.Lib.AtoiAll
import Derived.Lib.IndexAny
import Derived.Lib.SlicesS
import Derived.Lib.Builder
import Derived.Deep.AppendSrc
import Derived.Laws.Externs
import Derived.LoopTactic
import Derived.Scope
import Derived.RegionTactic
import Derived.Deep.RegionWith
import Derived.Laws.Runes
section
namespace Go.Proofs.YtbploiccompocaaGreatDoor
open Go Go.Proofs Go.Shelf Go.RowKit
set_option linter.unusedVariables false
def z_lays161_ren:Go.Shelf.Ren:=⟨fun | 161=>131 | 231=>157 | 227=>158 | 233=>159 | 235=>160 | 228=>193 | 197=>142 | 151=>194 | 260=>171 | 152=>222 | 137=>191 | 119=>237 | 224=>232 | 225=>231 | 217=>221 | 266=>236 | n=>n,fun | 9=>9 | 4=>4 | 3=>3 | 5=>5 | 117=>164 | 116=>163 | 0=>0 | 124=>167 | 105=>119 | 21=>21 | 119=>172 | 46=>176 | 139=>175 | 138=>174 | n=>n,fun | 3=>0 | 4=>1 | n=>n⟩
theorem z_lays161:Go.Proofs.Lays.n161 Tryz.prog z_lays161_ren:={
 mixed:=by kernel_rfl
 f119:=Tryz.func237.trans (congrArg some (by kernel_rfl))
 f137:=Tryz.func191.trans (congrArg some (by kernel_rfl))
 f151:=Tryz.func194.trans (congrArg some (by kernel_rfl))
 f152:=Tryz.func222.trans (congrArg some (by kernel_rfl))
 f161:=Tryz.func131.trans (congrArg some (by kernel_rfl))
 f197:=Tryz.func142.trans (congrArg some (by kernel_rfl))
 f217:=Tryz.func221.trans (congrArg some (by kernel_rfl))
 f224:=Tryz.func232.trans (congrArg some (by kernel_rfl))
 f225:=Tryz.func231.trans (congrArg some (by kernel_rfl))
 f227:=Tryz.func158.trans (congrArg some (by kernel_rfl))
 f228:=Tryz.func193.trans (congrArg some (by kernel_rfl))
 f231:=Tryz.func157.trans (congrArg some (by kernel_rfl))
 f233:=Tryz.func159.trans (congrArg some (by kernel_rfl))
 f235:=Tryz.func160.trans (congrArg some (by kernel_rfl))
 f260:=Tryz.func171.trans (congrArg some (by kernel_rfl))
 f266:=Tryz.func236.trans (congrArg some (by kernel_rfl))
 t0:=Tryz.underlying0
 a0:=Tryz.isAgg0
 z0:=Tryz.sizeOf0
 v0:=Tryz.zeroValue0
 t3:=Tryz.underlying3
 a3:=Tryz.isAgg3
 z3:=Tryz.sizeOf3
 v3:=Tryz.zeroValue3
 t4:=Tryz.underlying4
 a4:=Tryz.isAgg4
 z4:=Tryz.sizeOf4
 v4:=Tryz.zeroValue4
 t5:=Tryz.underlying5
 a5:=Tryz.isAgg5
 z5:=Tryz.sizeOf5
 v5:=Tryz.zeroValue5
 t9:=Tryz.underlying9
 a9:=Tryz.isAgg9
 z9:=Tryz.sizeOf9
 v9:=Tryz.zeroValue9
 t21:=Tryz.underlying21
 a21:=Tryz.isAgg21
 z21:=Tryz.sizeOf21
 v21:=Tryz.zeroValue21
 t46:=Tryz.underlying176
 a46:=Tryz.isAgg176
 z46:=Tryz.sizeOf176
 v46:=Tryz.zeroValue176
 t105:=Tryz.underlying119
 a105:=Tryz.isAgg119
 z105:=Tryz.sizeOf119
 v105:=Tryz.zeroValue119
 t116:=Tryz.underlying163
 a116:=Tryz.isAgg163
 z116:=Tryz.sizeOf163
 t117:=Tryz.underlying164
 a117:=Tryz.isAgg164
 z117:=Tryz.sizeOf164
 v117:=Tryz.zeroValue164
 t119:=Tryz.underlying172
 a119:=Tryz.isAgg172
 z119:=Tryz.sizeOf172
 t124:=Tryz.underlying167
 a124:=Tryz.isAgg167
 z124:=Tryz.sizeOf167
 v124:=Tryz.zeroValue167
 t138:=Tryz.underlying174
 a138:=Tryz.isAgg174
 z138:=Tryz.sizeOf174
 v138:=Tryz.zeroValue174
 t139:=Tryz.underlying175
 a139:=Tryz.isAgg175
 z139:=Tryz.sizeOf175
 v139:=Tryz.zeroValue175
 g3:=by kernel_rfl
 g4:=by kernel_rfl }
theorem z_strings_TrimLeft_one (s:ByteArray) (c:UInt8) (hc:c.toNat < 128) (w:World):
  Calls Tryz.prog 131 #[.string s,.string ⟨#[c]⟩] w fun e w'=>e=.returned (.string ⟨(Lib.trimLeftB s.data.toList c).toArray⟩)∧w'=w:=Any.strings_TrimLeft_one z_lays161 s c hc w
def z_lays162_ren:Go.Shelf.Ren:=⟨fun | 162=>132 | 232=>161 | 227=>158 | 234=>162 | 236=>163 | 228=>193 | 271=>195 | 151=>194 | 120=>223 | 197=>142 | 152=>222 | 260=>171 | 137=>191 | 119=>237 | 224=>232 | 225=>231 | 217=>221 | 266=>236 | n=>n,fun | 9=>9 | 4=>4 | 3=>3 | 5=>5 | 117=>164 | 116=>163 | 0=>0 | 124=>167 | 21=>21 | 105=>119 | 46=>176 | 119=>172 | 139=>175 | 138=>174 | n=>n,fun | 3=>0 | 4=>1 | n=>n⟩
theorem z_lays162:Go.Proofs.Lays.n162 Tryz.prog z_lays162_ren:={
 mixed:=by kernel_rfl
 f119:=Tryz.func237.trans (congrArg some (by kernel_rfl))
 f120:=Tryz.func223.trans (congrArg some (by kernel_rfl))
 f137:=Tryz.func191.trans (congrArg some (by kernel_rfl))
 f151:=Tryz.func194.trans (congrArg some (by kernel_rfl))
 f152:=Tryz.func222.trans (congrArg some (by kernel_rfl))
 f162:=Tryz.func132.trans (congrArg some (by kernel_rfl))
 f197:=Tryz.func142.trans (congrArg some (by kernel_rfl))
 f217:=Tryz.func221.trans (congrArg some (by kernel_rfl))
 f224:=Tryz.func232.trans (congrArg some (by kernel_rfl))
 f225:=Tryz.func231.trans (congrArg some (by kernel_rfl))
 f227:=Tryz.func158.trans (congrArg some (by kernel_rfl))
 f228:=Tryz.func193.trans (congrArg some (by kernel_rfl))
 f232:=Tryz.func161.trans (congrArg some (by kernel_rfl))
 f234:=Tryz.func162.trans (congrArg some (by kernel_rfl))
 f236:=Tryz.func163.trans (congrArg some (by kernel_rfl))
 f260:=Tryz.func171.trans (congrArg some (by kernel_rfl))
 f266:=Tryz.func236.trans (congrArg some (by kernel_rfl))
 f271:=Tryz.func195.trans (congrArg some (by kernel_rfl))
 t0:=Tryz.underlying0
 a0:=Tryz.isAgg0
 z0:=Tryz.sizeOf0
 v0:=Tryz.zeroValue0
 t3:=Tryz.underlying3
 a3:=Tryz.isAgg3
 z3:=Tryz.sizeOf3
 v3:=Tryz.zeroValue3
 t4:=Tryz.underlying4
 a4:=Tryz.isAgg4
 z4:=Tryz.sizeOf4
 v4:=Tryz.zeroValue4
 t5:=Tryz.underlying5
 a5:=Tryz.isAgg5
 z5:=Tryz.sizeOf5
 v5:=Tryz.zeroValue5
 t9:=Tryz.underlying9
 a9:=Tryz.isAgg9
 z9:=Tryz.sizeOf9
 v9:=Tryz.zeroValue9
 t21:=Tryz.underlying21
 a21:=Tryz.isAgg21
 z21:=Tryz.sizeOf21
 v21:=Tryz.zeroValue21
 t46:=Tryz.underlying176
 a46:=Tryz.isAgg176
 z46:=Tryz.sizeOf176
 v46:=Tryz.zeroValue176
 t105:=Tryz.underlying119
 a105:=Tryz.isAgg119
 z105:=Tryz.sizeOf119
 v105:=Tryz.zeroValue119
 t116:=Tryz.underlying163
 a116:=Tryz.isAgg163
 z116:=Tryz.sizeOf163
 t117:=Tryz.underlying164
 a117:=Tryz.isAgg164
 z117:=Tryz.sizeOf164
 v117:=Tryz.zeroValue164
 t119:=Tryz.underlying172
 a119:=Tryz.isAgg172
 z119:=Tryz.sizeOf172
 t124:=Tryz.underlying167
 a124:=Tryz.isAgg167
 z124:=Tryz.sizeOf167
 v124:=Tryz.zeroValue167
 t138:=Tryz.underlying174
 a138:=Tryz.isAgg174
 z138:=Tryz.sizeOf174
 v138:=Tryz.zeroValue174
 t139:=Tryz.underlying175
 a139:=Tryz.isAgg175
 z139:=Tryz.sizeOf175
 v139:=Tryz.zeroValue175
 g3:=by kernel_rfl
 g4:=by kernel_rfl }
theorem z_strings_TrimRight_one (s:ByteArray) (c:UInt8) (hc:c.toNat < 128) (w:World) (hs:s.size≤9223372036854775807):
  Calls Tryz.prog 132 #[.string s,.string ⟨#[c]⟩] w fun e w'=>e=.returned (.string ⟨(Lib.trimRightB s.data.toList c).toArray⟩)∧w'=w:=Any.strings_TrimRight_one z_lays162 s c hc w hs
def z_lays137_ren:Go.Shelf.Ren:=⟨fun | 137=>191 | 217=>221 | 266=>236 | n=>n,fun | 9=>9 | 5=>5 | 3=>3 | n=>n,fun | n=>n⟩
theorem z_lays137:Go.Proofs.Lays.n137 Tryz.prog z_lays137_ren:={
 mixed:=by kernel_rfl
 f137:=Tryz.func191.trans (congrArg some (by kernel_rfl))
 f217:=Tryz.func221.trans (congrArg some (by kernel_rfl))
 f266:=Tryz.func236.trans (congrArg some (by kernel_rfl))
 t3:=Tryz.underlying3
 a3:=Tryz.isAgg3
 z3:=Tryz.sizeOf3
 v3:=Tryz.zeroValue3
 t5:=Tryz.underlying5
 a5:=Tryz.isAgg5
 z5:=Tryz.sizeOf5
 v5:=Tryz.zeroValue5
 t9:=Tryz.underlying9
 a9:=Tryz.isAgg9
 z9:=Tryz.sizeOf9
 v9:=Tryz.zeroValue9 }
theorem z_strings_IndexByte (s:ByteArray) (c:Int) (w:World):
  Calls Tryz.prog 191 #[.string s,.int .u8 c] w fun e w'=>e=.returned (.int .i64 (Lib.indexByte s.data.toList c.toNat.toUInt8))∧w'=w:=Any.strings_IndexByte z_lays137 s c w
def z_lays103_ren:Go.Shelf.Ren:=⟨fun | 103=>154 | 210=>190 | 206=>206 | n=>n,fun | 9=>9 | 4=>4 | 24=>100 | 3=>3 | n=>n,fun | n=>n⟩
theorem z_lays103:Go.Proofs.Lays.n103 Tryz.prog z_lays103_ren:={
 mixed:=by kernel_rfl
 f103:=Tryz.func154.trans (congrArg some (by kernel_rfl))
 f206:=Tryz.func206.trans (congrArg some (by kernel_rfl))
 f210:=Tryz.func190.trans (congrArg some (by kernel_rfl))
 t3:=Tryz.underlying3
 a3:=Tryz.isAgg3
 z3:=Tryz.sizeOf3
 v3:=Tryz.zeroValue3
 t4:=Tryz.underlying4
 a4:=Tryz.isAgg4
 z4:=Tryz.sizeOf4
 v4:=Tryz.zeroValue4
 t9:=Tryz.underlying9
 a9:=Tryz.isAgg9
 z9:=Tryz.sizeOf9
 v9:=Tryz.zeroValue9
 t24:=Tryz.underlying100
 a24:=Tryz.isAgg100
 z24:=Tryz.sizeOf100
 v24:=Tryz.zeroValue100 }
theorem z_strings_CutPrefix (s p:ByteArray) (w:World):
  Calls Tryz.prog 154 #[.string s,.string p] w fun e w'=>e=.returned (.tuple #[.string ⟨(Lib.trimPrefix s.data.toList p.data.toList).toArray⟩,.bool (Lib.hasPrefix s.data.toList p.data.toList)])∧w'=w:=Any.strings_CutPrefix z_lays103 s p w
def z_laysM171_ren:Go.Shelf.Ren:=⟨fun | 171=>97 | 243=>129 | 246=>153 | 283=>186 | 284=>187 | 285=>188 | 286=>189 | 129=>217 | 317=>216 | 318=>218 | 319=>219 | 320=>220 | 337=>234 | 338=>235 | n=>n,fun | 3=>3 | 9=>9 | 2=>2 | 4=>4 | 171=>188 | 0=>0 | 53=>189 | 37=>99 | 5=>5 | 173=>192 | 212=>213 | 51=>200 | 20=>20 | 213=>214 | 46=>176 | 232=>231 | 233=>232 | n=>n,fun | 17=>3 | 18=>6 | 19=>7 | n=>n⟩
theorem z_laysM171:Go.Proofs.LaysM.n171 Tryz.prog z_laysM171_ren:={
 mixed:=by kernel_rfl
 f129:=Tryz.func217.trans (congrArg some (by kernel_rfl))
 f171:=Tryz.func97.trans (congrArg some (by kernel_rfl))
 f243:=Tryz.func129.trans (congrArg some (by kernel_rfl))
 f246:=Tryz.func153.trans (congrArg some (by kernel_rfl))
 f283:=Tryz.func186.trans (congrArg some (by kernel_rfl))
 f284:=Tryz.func187.trans (congrArg some (by kernel_rfl))
 f285:=Tryz.func188.trans (congrArg some (by kernel_rfl))
 f286:=Tryz.func189.trans (congrArg some (by kernel_rfl))
 f317:=Tryz.func216.trans (congrArg some (by kernel_rfl))
 f318:=Tryz.func218.trans (congrArg some (by kernel_rfl))
 f319:=Tryz.func219.trans (congrArg some (by kernel_rfl))
 f320:=Tryz.func220.trans (congrArg some (by kernel_rfl))
 f337:=Tryz.func234.trans (congrArg some (by kernel_rfl))
 f338:=Tryz.func235.trans (congrArg some (by kernel_rfl))
 t0:=Tryz.underlying0
 a0:=Tryz.isAgg0
 z0:=Tryz.sizeOf0
 v0:=Tryz.zeroValue0
 t2:=Tryz.underlying2
 a2:=Tryz.isAgg2
 z2:=Tryz.sizeOf2
 v2:=Tryz.zeroValue2
 t3:=Tryz.underlying3
 a3:=Tryz.isAgg3
 z3:=Tryz.sizeOf3
 v3:=Tryz.zeroValue3
 t4:=Tryz.underlying4
 a4:=Tryz.isAgg4
 z4:=Tryz.sizeOf4
 v4:=Tryz.zeroValue4
 t5:=Tryz.underlying5
 a5:=Tryz.isAgg5
 z5:=Tryz.sizeOf5
 v5:=Tryz.zeroValue5
 t9:=Tryz.underlying9
 a9:=Tryz.isAgg9
 z9:=Tryz.sizeOf9
 v9:=Tryz.zeroValue9
 t20:=Tryz.underlying20
 a20:=Tryz.isAgg20
 z20:=Tryz.sizeOf20
 v20:=Tryz.zeroValue20
 t37:=Tryz.underlying99
 a37:=Tryz.isAgg99
 z37:=Tryz.sizeOf99
 v37:=Tryz.zeroValue99
 t46:=Tryz.underlying176
 a46:=Tryz.isAgg176
 z46:=Tryz.sizeOf176
 v46:=Tryz.zeroValue176
 t51:=Tryz.underlying200
 a51:=Tryz.isAgg200
 z51:=Tryz.sizeOf200
 v51:=Tryz.zeroValue200
 t53:=Tryz.underlying189
 a53:=Tryz.isAgg189
 z53:=Tryz.sizeOf189
 v53:=Tryz.zeroValue189
 t171:=Tryz.underlying188
 a171:=Tryz.isAgg188
 z171:=Tryz.sizeOf188
 v171:=Tryz.zeroValue188
 t173:=Tryz.underlying192
 a173:=Tryz.isAgg192
 z173:=Tryz.sizeOf192
 v173:=Tryz.zeroValue192
 t212:=Tryz.underlying213
 a212:=Tryz.isAgg213
 z212:=Tryz.sizeOf213
 v212:=Tryz.zeroValue213
 t213:=Tryz.underlying214
 a213:=Tryz.isAgg214
 z213:=Tryz.sizeOf214
 t232:=Tryz.underlying231
 a232:=Tryz.isAgg231
 z232:=Tryz.sizeOf231
 v232:=Tryz.zeroValue231
 t233:=Tryz.underlying232
 a233:=Tryz.isAgg232
 z233:=Tryz.sizeOf232
 v233:=Tryz.zeroValue232
 g17:=by kernel_rfl
 g18:=by kernel_rfl
 g19:=by kernel_rfl
 i0:=by kernel_rfl
 i2:=by kernel_rfl
 i3:=by kernel_rfl
 i4:=by kernel_rfl
 i5:=by kernel_rfl
 i9:=by kernel_rfl
 i20:=by kernel_rfl
 i37:=by kernel_rfl
 i46:=by kernel_rfl
 i51:=by kernel_rfl
 i53:=by kernel_rfl
 i171:=by kernel_rfl
 i173:=by kernel_rfl
 i212:=by kernel_rfl
 i232:=by kernel_rfl
 i233:=by kernel_rfl
 m17:=by kernel_rfl
 m18:=by kernel_rfl
 m19:=by kernel_rfl }
open Go.RowKit Go.Sort Go.Lib in
theorem z_strconv_Itoa (n : Int) (h0 : -9223372036854775808 ≤ n) (h1 : n ≤ 9223372036854775807) (w : World) (htab : Lib.TabIs Tryz.prog w "internal/strconv.uint64pow10" .u64 Lib.pow10Tab) :
  Calls Tryz.prog 97 #[.int .i64 n] w fun e w'=>e=.returned (.string ⟨(Lib.itoa n).toArray⟩)∧∃ k os,w'=grow (w.drewN k) os:=Any.strconv_Itoa z_laysM171 n h0 h1 w htab
def z_laysC172_ren:Go.Shelf.Ren:=⟨fun | 172=>173 | 244=>203 | 245=>179 | 247=>178 | 279=>209 | 280=>210 | 281=>211 | 282=>212 | 287=>208 | 316=>229 | 171=>97 | 205=>230 | 321=>227 | 322=>228 | 243=>129 | 246=>153 | 283=>186 | 284=>187 | 285=>188 | 286=>189 | 129=>217 | 317=>216 | 318=>218 | 319=>219 | 320=>220 | 337=>234 | 338=>235 | n=>n,fun | 9=>9 | 3=>3 | 75=>129 | 76=>131 | 4=>4 | 5=>5 | 167=>205 | 37=>99 | 0=>0 | 85=>151 | 2=>2 | 168=>208 | 53=>189 | 175=>206 | 46=>176 | 210=>222 | 127=>154 | 145=>229 | 143=>227 | 21=>21 | 171=>188 | 173=>192 | 212=>213 | 51=>200 | 20=>20 | 213=>214 | 232=>231 | 233=>232 | 80=>134 | n=>n,fun | 15=>4 | 16=>5 | 17=>3 | 18=>6 | 19=>7 | n=>n⟩
theorem z_laysC172:Go.Proofs.LaysC.n172 Tryz.prog z_laysC172_ren:={
 mixed:=by kernel_rfl
 f129:=Tryz.func217.trans (congrArg some (by kernel_rfl))
 f171:=Tryz.func97.trans (congrArg some (by kernel_rfl))
 f172:=Tryz.func173.trans (congrArg some (by kernel_rfl))
 f205:=Tryz.func230.trans (congrArg some (by kernel_rfl))
 f243:=Tryz.func129.trans (congrArg some (by kernel_rfl))
 f244:=Tryz.func203.trans (congrArg some (by kernel_rfl))
 f245:=Tryz.func179.trans (congrArg some (by kernel_rfl))
 f246:=Tryz.func153.trans (congrArg some (by kernel_rfl))
 f247:=Tryz.func178.trans (congrArg some (by kernel_rfl))
 f279:=Tryz.func209.trans (congrArg some (by kernel_rfl))
 f280:=Tryz.func210.trans (congrArg some (by kernel_rfl))
 f281:=Tryz.func211.trans (congrArg some (by kernel_rfl))
 f282:=Tryz.func212.trans (congrArg some (by kernel_rfl))
 f283:=Tryz.func186.trans (congrArg some (by kernel_rfl))
 f284:=Tryz.func187.trans (congrArg some (by kernel_rfl))
 f285:=Tryz.func188.trans (congrArg some (by kernel_rfl))
 f286:=Tryz.func189.trans (congrArg some (by kernel_rfl))
 f287:=Tryz.func208.trans (congrArg some (by kernel_rfl))
 f316:=Tryz.func229.trans (congrArg some (by kernel_rfl))
 f317:=Tryz.func216.trans (congrArg some (by kernel_rfl))
 f318:=Tryz.func218.trans (congrArg some (by kernel_rfl))
 f319:=Tryz.func219.trans (congrArg some (by kernel_rfl))
 f320:=Tryz.func220.trans (congrArg some (by kernel_rfl))
 f321:=Tryz.func227.trans (congrArg some (by kernel_rfl))
 f322:=Tryz.func228.trans (congrArg some (by kernel_rfl))
 f337:=Tryz.func234.trans (congrArg some (by kernel_rfl))
 f338:=Tryz.func235.trans (congrArg some (by kernel_rfl))
 t0:=Tryz.underlying0
 a0:=Tryz.isAgg0
 z0:=Tryz.sizeOf0
 v0:=Tryz.zeroValue0
 t2:=Tryz.underlying2
 a2:=Tryz.isAgg2
 z2:=Tryz.sizeOf2
 v2:=Tryz.zeroValue2
 t3:=Tryz.underlying3
 a3:=Tryz.isAgg3
 z3:=Tryz.sizeOf3
 v3:=Tryz.zeroValue3
 t4:=Tryz.underlying4
 a4:=Tryz.isAgg4
 z4:=Tryz.sizeOf4
 v4:=Tryz.zeroValue4
 t5:=Tryz.underlying5
 a5:=Tryz.isAgg5
 z5:=Tryz.sizeOf5
 v5:=Tryz.zeroValue5
 t9:=Tryz.underlying9
 a9:=Tryz.isAgg9
 z9:=Tryz.sizeOf9
 v9:=Tryz.zeroValue9
 t20:=Tryz.underlying20
 a20:=Tryz.isAgg20
 z20:=Tryz.sizeOf20
 v20:=Tryz.zeroValue20
 t21:=Tryz.underlying21
 a21:=Tryz.isAgg21
 z21:=Tryz.sizeOf21
 v21:=Tryz.zeroValue21
 t37:=Tryz.underlying99
 a37:=Tryz.isAgg99
 z37:=Tryz.sizeOf99
 v37:=Tryz.zeroValue99
 t46:=Tryz.underlying176
 a46:=Tryz.isAgg176
 z46:=Tryz.sizeOf176
 v46:=Tryz.zeroValue176
 t51:=Tryz.underlying200
 a51:=Tryz.isAgg200
 z51:=Tryz.sizeOf200
 v51:=Tryz.zeroValue200
 t53:=Tryz.underlying189
 a53:=Tryz.isAgg189
 z53:=Tryz.sizeOf189
 v53:=Tryz.zeroValue189
 t75:=Tryz.underlying129
 a75:=Tryz.isAgg129
 z75:=Tryz.sizeOf129
 v75:=Tryz.zeroValue129
 t76:=Tryz.underlying131
 a76:=Tryz.isAgg131
 z76:=Tryz.sizeOf131
 v76:=Tryz.zeroValue131
 t85:=Tryz.underlying151
 a85:=Tryz.isAgg151
 z85:=Tryz.sizeOf151
 v85:=Tryz.zeroValue151
 t127:=Tryz.underlying154
 a127:=Tryz.isAgg154
 z127:=Tryz.sizeOf154
 v127:=Tryz.zeroValue154
 t143:=Tryz.underlying227
 a143:=Tryz.isAgg227
 z143:=Tryz.sizeOf227
 v143:=Tryz.zeroValue227
 t145:=Tryz.underlying229
 a145:=Tryz.isAgg229
 z145:=Tryz.sizeOf229
 v145:=Tryz.zeroValue229
 t167:=Tryz.underlying205
 a167:=Tryz.isAgg205
 z167:=Tryz.sizeOf205
 v167:=Tryz.zeroValue205
 t168:=Tryz.underlying208
 a168:=Tryz.isAgg208
 z168:=Tryz.sizeOf208
 v168:=Tryz.zeroValue208
 t171:=Tryz.underlying188
 a171:=Tryz.isAgg188
 z171:=Tryz.sizeOf188
 v171:=Tryz.zeroValue188
 t173:=Tryz.underlying192
 a173:=Tryz.isAgg192
 z173:=Tryz.sizeOf192
 v173:=Tryz.zeroValue192
 t175:=Tryz.underlying206
 a175:=Tryz.isAgg206
 z175:=Tryz.sizeOf206
 v175:=Tryz.zeroValue206
 t210:=Tryz.underlying222
 a210:=Tryz.isAgg222
 z210:=Tryz.sizeOf222
 v210:=Tryz.zeroValue222
 t212:=Tryz.underlying213
 a212:=Tryz.isAgg213
 z212:=Tryz.sizeOf213
 v212:=Tryz.zeroValue213
 t213:=Tryz.underlying214
 a213:=Tryz.isAgg214
 z213:=Tryz.sizeOf214
 t232:=Tryz.underlying231
 a232:=Tryz.isAgg231
 z232:=Tryz.sizeOf231
 v232:=Tryz.zeroValue231
 t233:=Tryz.underlying232
 a233:=Tryz.isAgg232
 z233:=Tryz.sizeOf232
 v233:=Tryz.zeroValue232
 g15:=by kernel_rfl
 g16:=by kernel_rfl
 g17:=by kernel_rfl
 g18:=by kernel_rfl
 g19:=by kernel_rfl
 t80:=Tryz.underlying134
 a80:=Tryz.isAgg134
 z80:=Tryz.sizeOf134
 v80:=Tryz.zeroValue134
 i0:=by kernel_rfl
 i2:=by kernel_rfl
 i3:=by kernel_rfl
 i4:=by kernel_rfl
 i5:=by kernel_rfl
 i9:=by kernel_rfl
 i20:=by kernel_rfl
 i21:=by kernel_rfl
 i37:=by kernel_rfl
 i46:=by kernel_rfl
 i51:=by kernel_rfl
 i53:=by kernel_rfl
 i75:=by kernel_rfl
 i76:=by kernel_rfl
 i80:=by kernel_rfl
 i85:=by kernel_rfl
 i127:=by kernel_rfl
 i143:=by kernel_rfl
 i145:=by kernel_rfl
 i167:=by kernel_rfl
 i168:=by kernel_rfl
 i171:=by kernel_rfl
 i173:=by kernel_rfl
 i175:=by kernel_rfl
 i210:=by kernel_rfl
 i212:=by kernel_rfl
 i232:=by kernel_rfl
 i233:=by kernel_rfl
 m15:=by kernel_rfl
 m16:=by kernel_rfl
 m17:=by kernel_rfl
 m18:=by kernel_rfl
 m19:=by kernel_rfl
 c0:=by kernel_rfl
 c2:=by kernel_rfl
 c3:=by kernel_rfl
 c4:=by kernel_rfl
 c5:=by kernel_rfl
 c9:=by kernel_rfl
 c20:=by kernel_rfl
 c21:=by kernel_rfl
 c37:=by kernel_rfl
 c46:=by kernel_rfl
 c51:=by kernel_rfl
 c53:=by kernel_rfl
 c75:=by kernel_rfl
 c76:=by kernel_rfl
 c80:=by kernel_rfl
 c85:=by kernel_rfl
 c127:=by kernel_rfl
 c143:=by kernel_rfl
 c145:=by kernel_rfl
 c167:=by kernel_rfl
 c168:=by kernel_rfl
 c171:=by kernel_rfl
 c173:=by kernel_rfl
 c175:=by kernel_rfl
 c210:=by kernel_rfl
 c212:=by kernel_rfl
 c213:=by kernel_rfl
 c232:=by kernel_rfl
 c233:=by kernel_rfl }
theorem z_strconv_Atoi_ok (s:ByteArray) (hmax:s.size≤9223372036854775806) (v:Int) (h:Lib.atoiAll s.data.toList=.ok v) (w:World):
  Calls Tryz.prog 173 #[.string s] w fun e w'=>e=.returned (.tuple #[.int .i64 v,.nilIface])∧(w'=w∨∃ t,w'=Lib.bytesWorld w 5 t):=Any.strconv_Atoi_ok z_laysC172 s hmax v h w
theorem z_strconv_Atoi_syntax (s:ByteArray) (hlim:s.size≤281474976710656) (h:Lib.atoiAll s.data.toList=Lib.atoiAll []) (ev:Value) (w:World) (hv:w.cell? ⟨4,0,none⟩=some ev) (hev:ev=.nilIface∨∃ te pe,ev=.iface te pe):
  Calls Tryz.prog 173 #[.string s] w fun e w'=>∃ N,e=.returned (.tuple #[.int .i64 (0),.iface 208 (.pointer (some ⟨N,0,none⟩))])∧w.heap.size≤N∧w'.heap[N]?=some (.cells #[.string ⟨#[65,116,111,105]⟩,.string s,ev] 222 (0,0))∧Below w.heap.size w w':=Any.strconv_Atoi_syntax z_laysC172 s hlim h ev w hv hev
theorem z_strconv_Atoi_range (s:ByteArray) (hlim:s.size≤281474976710656) (h:Lib.atoiAll s.data.toList=.range) (ev:Value) (w:World) (hv:w.cell? ⟨5,0,none⟩=some ev) (hev:ev=.nilIface∨∃ te pe,ev=.iface te pe):
  Calls Tryz.prog 173 #[.string s] w fun e w'=>∃ N,e=.returned (.tuple #[.int .i64 (Lib.atoiSat s.data.toList),.iface 208 (.pointer (some ⟨N,0,none⟩))])∧w.heap.size≤N∧w'.heap[N]?=some (.cells #[.string ⟨#[65,116,111,105]⟩,.string s,ev] 222 (0,0))∧Below w.heap.size w w':=Any.strconv_Atoi_range z_laysC172 s hlim h ev w hv hev
def z_laysC174_ren:Go.Shelf.Ren:=⟨fun | 174=>147 | 247=>178 | 245=>179 | 287=>208 | 279=>209 | 280=>210 | 281=>211 | 282=>212 | 321=>227 | 322=>228 | 316=>229 | 171=>97 | 205=>230 | 243=>129 | 246=>153 | 283=>186 | 284=>187 | 285=>188 | 286=>189 | 129=>217 | 317=>216 | 318=>218 | 319=>219 | 320=>220 | 337=>234 | 338=>235 | n=>n,fun | 9=>9 | 3=>3 | 2=>2 | 75=>129 | 85=>151 | 4=>4 | 167=>205 | 5=>5 | 53=>189 | 175=>206 | 46=>176 | 168=>208 | 37=>99 | 0=>0 | 210=>222 | 21=>21 | 127=>154 | 145=>229 | 143=>227 | 171=>188 | 173=>192 | 212=>213 | 51=>200 | 20=>20 | 213=>214 | 232=>231 | 233=>232 | 80=>134 | n=>n,fun | 15=>4 | 16=>5 | 17=>3 | 18=>6 | 19=>7 | n=>n⟩
theorem z_laysC174:Go.Proofs.LaysC.n174 Tryz.prog z_laysC174_ren:={
 mixed:=by kernel_rfl
 f129:=Tryz.func217.trans (congrArg some (by kernel_rfl))
 f171:=Tryz.func97.trans (congrArg some (by kernel_rfl))
 f174:=Tryz.func147.trans (congrArg some (by kernel_rfl))
 f205:=Tryz.func230.trans (congrArg some (by kernel_rfl))
 f243:=Tryz.func129.trans (congrArg some (by kernel_rfl))
 f245:=Tryz.func179.trans (congrArg some (by kernel_rfl))
 f246:=Tryz.func153.trans (congrArg some (by kernel_rfl))
 f247:=Tryz.func178.trans (congrArg some (by kernel_rfl))
 f279:=Tryz.func209.trans (congrArg some (by kernel_rfl))
 f280:=Tryz.func210.trans (congrArg some (by kernel_rfl))
 f281:=Tryz.func211.trans (congrArg some (by kernel_rfl))
 f282:=Tryz.func212.trans (congrArg some (by kernel_rfl))
 f283:=Tryz.func186.trans (congrArg some (by kernel_rfl))
 f284:=Tryz.func187.trans (congrArg some (by kernel_rfl))
 f285:=Tryz.func188.trans (congrArg some (by kernel_rfl))
 f286:=Tryz.func189.trans (congrArg some (by kernel_rfl))
 f287:=Tryz.func208.trans (congrArg some (by kernel_rfl))
 f316:=Tryz.func229.trans (congrArg some (by kernel_rfl))
 f317:=Tryz.func216.trans (congrArg some (by kernel_rfl))
 f318:=Tryz.func218.trans (congrArg some (by kernel_rfl))
 f319:=Tryz.func219.trans (congrArg some (by kernel_rfl))
 f320:=Tryz.func220.trans (congrArg some (by kernel_rfl))
 f321:=Tryz.func227.trans (congrArg some (by kernel_rfl))
 f322:=Tryz.func228.trans (congrArg some (by kernel_rfl))
 f337:=Tryz.func234.trans (congrArg some (by kernel_rfl))
 f338:=Tryz.func235.trans (congrArg some (by kernel_rfl))
 t0:=Tryz.underlying0
 a0:=Tryz.isAgg0
 z0:=Tryz.sizeOf0
 v0:=Tryz.zeroValue0
 t2:=Tryz.underlying2
 a2:=Tryz.isAgg2
 z2:=Tryz.sizeOf2
 v2:=Tryz.zeroValue2
 t3:=Tryz.underlying3
 a3:=Tryz.isAgg3
 z3:=Tryz.sizeOf3
 v3:=Tryz.zeroValue3
 t4:=Tryz.underlying4
 a4:=Tryz.isAgg4
 z4:=Tryz.sizeOf4
 v4:=Tryz.zeroValue4
 t5:=Tryz.underlying5
 a5:=Tryz.isAgg5
 z5:=Tryz.sizeOf5
 v5:=Tryz.zeroValue5
 t9:=Tryz.underlying9
 a9:=Tryz.isAgg9
 z9:=Tryz.sizeOf9
 v9:=Tryz.zeroValue9
 t20:=Tryz.underlying20
 a20:=Tryz.isAgg20
 z20:=Tryz.sizeOf20
 v20:=Tryz.zeroValue20
 t21:=Tryz.underlying21
 a21:=Tryz.isAgg21
 z21:=Tryz.sizeOf21
 v21:=Tryz.zeroValue21
 t37:=Tryz.underlying99
 a37:=Tryz.isAgg99
 z37:=Tryz.sizeOf99
 v37:=Tryz.zeroValue99
 t46:=Tryz.underlying176
 a46:=Tryz.isAgg176
 z46:=Tryz.sizeOf176
 v46:=Tryz.zeroValue176
 t51:=Tryz.underlying200
 a51:=Tryz.isAgg200
 z51:=Tryz.sizeOf200
 v51:=Tryz.zeroValue200
 t53:=Tryz.underlying189
 a53:=Tryz.isAgg189
 z53:=Tryz.sizeOf189
 v53:=Tryz.zeroValue189
 t75:=Tryz.underlying129
 a75:=Tryz.isAgg129
 z75:=Tryz.sizeOf129
 v75:=Tryz.zeroValue129
 t85:=Tryz.underlying151
 a85:=Tryz.isAgg151
 z85:=Tryz.sizeOf151
 v85:=Tryz.zeroValue151
 t127:=Tryz.underlying154
 a127:=Tryz.isAgg154
 z127:=Tryz.sizeOf154
 v127:=Tryz.zeroValue154
 t143:=Tryz.underlying227
 a143:=Tryz.isAgg227
 z143:=Tryz.sizeOf227
 v143:=Tryz.zeroValue227
 t145:=Tryz.underlying229
 a145:=Tryz.isAgg229
 z145:=Tryz.sizeOf229
 v145:=Tryz.zeroValue229
 t167:=Tryz.underlying205
 a167:=Tryz.isAgg205
 z167:=Tryz.sizeOf205
 v167:=Tryz.zeroValue205
 t168:=Tryz.underlying208
 a168:=Tryz.isAgg208
 z168:=Tryz.sizeOf208
 v168:=Tryz.zeroValue208
 t171:=Tryz.underlying188
 a171:=Tryz.isAgg188
 z171:=Tryz.sizeOf188
 v171:=Tryz.zeroValue188
 t173:=Tryz.underlying192
 a173:=Tryz.isAgg192
 z173:=Tryz.sizeOf192
 v173:=Tryz.zeroValue192
 t175:=Tryz.underlying206
 a175:=Tryz.isAgg206
 z175:=Tryz.sizeOf206
 v175:=Tryz.zeroValue206
 t210:=Tryz.underlying222
 a210:=Tryz.isAgg222
 z210:=Tryz.sizeOf222
 v210:=Tryz.zeroValue222
 t212:=Tryz.underlying213
 a212:=Tryz.isAgg213
 z212:=Tryz.sizeOf213
 v212:=Tryz.zeroValue213
 t213:=Tryz.underlying214
 a213:=Tryz.isAgg214
 z213:=Tryz.sizeOf214
 t232:=Tryz.underlying231
 a232:=Tryz.isAgg231
 z232:=Tryz.sizeOf231
 v232:=Tryz.zeroValue231
 t233:=Tryz.underlying232
 a233:=Tryz.isAgg232
 z233:=Tryz.sizeOf232
 v233:=Tryz.zeroValue232
 g15:=by kernel_rfl
 g16:=by kernel_rfl
 g17:=by kernel_rfl
 g18:=by kernel_rfl
 g19:=by kernel_rfl
 t80:=Tryz.underlying134
 a80:=Tryz.isAgg134
 z80:=Tryz.sizeOf134
 v80:=Tryz.zeroValue134
 i0:=by kernel_rfl
 i2:=by kernel_rfl
 i3:=by kernel_rfl
 i4:=by kernel_rfl
 i5:=by kernel_rfl
 i9:=by kernel_rfl
 i20:=by kernel_rfl
 i21:=by kernel_rfl
 i37:=by kernel_rfl
 i46:=by kernel_rfl
 i51:=by kernel_rfl
 i53:=by kernel_rfl
 i75:=by kernel_rfl
 i80:=by kernel_rfl
 i85:=by kernel_rfl
 i127:=by kernel_rfl
 i143:=by kernel_rfl
 i145:=by kernel_rfl
 i167:=by kernel_rfl
 i168:=by kernel_rfl
 i171:=by kernel_rfl
 i173:=by kernel_rfl
 i175:=by kernel_rfl
 i210:=by kernel_rfl
 i212:=by kernel_rfl
 i232:=by kernel_rfl
 i233:=by kernel_rfl
 m15:=by kernel_rfl
 m16:=by kernel_rfl
 m17:=by kernel_rfl
 m18:=by kernel_rfl
 m19:=by kernel_rfl
 c0:=by kernel_rfl
 c2:=by kernel_rfl
 c3:=by kernel_rfl
 c4:=by kernel_rfl
 c5:=by kernel_rfl
 c9:=by kernel_rfl
 c20:=by kernel_rfl
 c21:=by kernel_rfl
 c37:=by kernel_rfl
 c46:=by kernel_rfl
 c51:=by kernel_rfl
 c53:=by kernel_rfl
 c75:=by kernel_rfl
 c80:=by kernel_rfl
 c85:=by kernel_rfl
 c127:=by kernel_rfl
 c143:=by kernel_rfl
 c145:=by kernel_rfl
 c167:=by kernel_rfl
 c168:=by kernel_rfl
 c171:=by kernel_rfl
 c173:=by kernel_rfl
 c175:=by kernel_rfl
 c210:=by kernel_rfl
 c212:=by kernel_rfl
 c213:=by kernel_rfl
 c232:=by kernel_rfl
 c233:=by kernel_rfl }
theorem z_strconv_ParseInt_10_at64_ok (s:ByteArray) (hmax:s.size≤9223372036854775806) (v:Int) (h:Lib.parseIntB 64 s.data.toList=.ok v) (w:World):
  Calls Tryz.prog 147 #[.string s,.int .i64 10,.int .i64 64] w fun e w'=>e=.returned (.tuple #[.int .i64 v,.nilIface])∧(w'=w∨∃ t,w'=Lib.bytesWorld w 5 t):=Any.strconv_ParseInt_10_at64_ok z_laysC174 s hmax v h w
theorem z_strconv_ParseInt_10_at64_syntax (s:ByteArray) (hlim:s.size≤281474976710656) (h:Lib.parseIntB 64 s.data.toList=Lib.parseIntB 64 []) (ev:Value) (w:World) (hv:w.cell? ⟨4,0,none⟩=some ev) (hev:ev=.nilIface∨∃ te pe,ev=.iface te pe):
  Calls Tryz.prog 147 #[.string s,.int .i64 10,.int .i64 64] w fun e w'=>∃ N,e=.returned (.tuple #[.int .i64 (0),.iface 208 (.pointer (some ⟨N,0,none⟩))])∧w.heap.size≤N∧w'.heap[N]?=some (.cells #[.string ⟨#[80,97,114,115,101,73,110,116]⟩,.string s,ev] 222 (0,0))∧Below w.heap.size w w':=Any.strconv_ParseInt_10_at64_syntax z_laysC174 s hlim h ev w hv hev
theorem z_strconv_ParseInt_10_at64_range (s:ByteArray) (hlim:s.size≤281474976710656) (h:Lib.parseIntB 64 s.data.toList=.range) (ev:Value) (w:World) (hv:w.cell? ⟨5,0,none⟩=some ev) (hev:ev=.nilIface∨∃ te pe,ev=.iface te pe):
  Calls Tryz.prog 147 #[.string s,.int .i64 10,.int .i64 64] w fun e w'=>∃ N,e=.returned (.tuple #[.int .i64 (Lib.intSat 64 s.data.toList),.iface 208 (.pointer (some ⟨N,0,none⟩))])∧w.heap.size≤N∧w'.heap[N]?=some (.cells #[.string ⟨#[80,97,114,115,101,73,110,116]⟩,.string s,ev] 222 (0,0))∧Below w.heap.size w w':=Any.strconv_ParseInt_10_at64_range z_laysC174 s hlim h ev w hv hev
def z_lays101_ren:Go.Shelf.Ren:=⟨fun | 101=>156 | 208=>192 | 206=>206 | n=>n,fun | 9=>9 | 4=>4 | 3=>3 | n=>n,fun | n=>n⟩
theorem z_lays101:Go.Proofs.Lays.n101 Tryz.prog z_lays101_ren:={
 mixed:=by kernel_rfl
 f101:=Tryz.func156.trans (congrArg some (by kernel_rfl))
 f206:=Tryz.func206.trans (congrArg some (by kernel_rfl))
 f208:=Tryz.func192.trans (congrArg some (by kernel_rfl))
 t3:=Tryz.underlying3
 a3:=Tryz.isAgg3
 z3:=Tryz.sizeOf3
 v3:=Tryz.zeroValue3
 t4:=Tryz.underlying4
 a4:=Tryz.isAgg4
 z4:=Tryz.sizeOf4
 v4:=Tryz.zeroValue4
 t9:=Tryz.underlying9
 a9:=Tryz.isAgg9
 z9:=Tryz.sizeOf9
 v9:=Tryz.zeroValue9 }
open Go.RowKit Go.Lib in
theorem z_strings_TrimPrefix (s p:ByteArray) (w:World):
  Calls Tryz.prog 156 #[.string s,.string p] w fun e w'=>e=.returned (.string ⟨(Lib.trimPrefix s.data.toList p.data.toList).toArray⟩)∧w'=w:=Any.strings_TrimPrefix z_lays101 s p w
def z_lays197_ren:Go.Shelf.Ren:=⟨fun | 197=>142 | 260=>171 | n=>n,fun | 9=>9 | 21=>21 | 3=>3 | 4=>4 | 5=>5 | 105=>119 | 119=>172 | 0=>0 | 46=>176 | 139=>175 | 138=>174 | n=>n,fun | 3=>0 | 4=>1 | n=>n⟩
theorem z_lays197:Go.Proofs.Lays.n197 Tryz.prog z_lays197_ren:={
 mixed:=by kernel_rfl
 f197:=Tryz.func142.trans (congrArg some (by kernel_rfl))
 f260:=Tryz.func171.trans (congrArg some (by kernel_rfl))
 t0:=Tryz.underlying0
 a0:=Tryz.isAgg0
 z0:=Tryz.sizeOf0
 v0:=Tryz.zeroValue0
 t3:=Tryz.underlying3
 a3:=Tryz.isAgg3
 z3:=Tryz.sizeOf3
 v3:=Tryz.zeroValue3
 t4:=Tryz.underlying4
 a4:=Tryz.isAgg4
 z4:=Tryz.sizeOf4
 v4:=Tryz.zeroValue4
 t5:=Tryz.underlying5
 a5:=Tryz.isAgg5
 z5:=Tryz.sizeOf5
 v5:=Tryz.zeroValue5
 t9:=Tryz.underlying9
 a9:=Tryz.isAgg9
 z9:=Tryz.sizeOf9
 v9:=Tryz.zeroValue9
 t21:=Tryz.underlying21
 a21:=Tryz.isAgg21
 z21:=Tryz.sizeOf21
 v21:=Tryz.zeroValue21
 t46:=Tryz.underlying176
 a46:=Tryz.isAgg176
 z46:=Tryz.sizeOf176
 v46:=Tryz.zeroValue176
 t105:=Tryz.underlying119
 a105:=Tryz.isAgg119
 z105:=Tryz.sizeOf119
 v105:=Tryz.zeroValue119
 t119:=Tryz.underlying172
 a119:=Tryz.isAgg172
 z119:=Tryz.sizeOf172
 t138:=Tryz.underlying174
 a138:=Tryz.isAgg174
 z138:=Tryz.sizeOf174
 v138:=Tryz.zeroValue174
 t139:=Tryz.underlying175
 a139:=Tryz.isAgg175
 z139:=Tryz.sizeOf175
 v139:=Tryz.zeroValue175
 g3:=by kernel_rfl
 g4:=by kernel_rfl }
def z_lays150_ren:Go.Shelf.Ren:=⟨fun | 150=>172 | 153=>202 | 152=>222 | 226=>225 | 227=>158 | 228=>193 | 137=>191 | 119=>237 | 224=>232 | 225=>231 | 217=>221 | 266=>236 | n=>n,fun | 9=>9 | 4=>4 | 3=>3 | 5=>5 | 21=>21 | 117=>164 | 116=>163 | 0=>0 | 46=>176 | 124=>167 | n=>n,fun | n=>n⟩
theorem z_lays150:Go.Proofs.Lays.n150 Tryz.prog z_lays150_ren:={
 mixed:=by kernel_rfl
 f119:=Tryz.func237.trans (congrArg some (by kernel_rfl))
 f137:=Tryz.func191.trans (congrArg some (by kernel_rfl))
 f150:=Tryz.func172.trans (congrArg some (by kernel_rfl))
 f152:=Tryz.func222.trans (congrArg some (by kernel_rfl))
 f153:=Tryz.func202.trans (congrArg some (by kernel_rfl))
 f217:=Tryz.func221.trans (congrArg some (by kernel_rfl))
 f224:=Tryz.func232.trans (congrArg some (by kernel_rfl))
 f225:=Tryz.func231.trans (congrArg some (by kernel_rfl))
 f226:=Tryz.func225.trans (congrArg some (by kernel_rfl))
 f227:=Tryz.func158.trans (congrArg some (by kernel_rfl))
 f228:=Tryz.func193.trans (congrArg some (by kernel_rfl))
 f266:=Tryz.func236.trans (congrArg some (by kernel_rfl))
 t0:=Tryz.underlying0
 a0:=Tryz.isAgg0
 z0:=Tryz.sizeOf0
 v0:=Tryz.zeroValue0
 t3:=Tryz.underlying3
 a3:=Tryz.isAgg3
 z3:=Tryz.sizeOf3
 v3:=Tryz.zeroValue3
 t4:=Tryz.underlying4
 a4:=Tryz.isAgg4
 z4:=Tryz.sizeOf4
 v4:=Tryz.zeroValue4
 t5:=Tryz.underlying5
 a5:=Tryz.isAgg5
 z5:=Tryz.sizeOf5
 v5:=Tryz.zeroValue5
 t9:=Tryz.underlying9
 a9:=Tryz.isAgg9
 z9:=Tryz.sizeOf9
 v9:=Tryz.zeroValue9
 t21:=Tryz.underlying21
 a21:=Tryz.isAgg21
 z21:=Tryz.sizeOf21
 v21:=Tryz.zeroValue21
 t46:=Tryz.underlying176
 a46:=Tryz.isAgg176
 z46:=Tryz.sizeOf176
 v46:=Tryz.zeroValue176
 t116:=Tryz.underlying163
 a116:=Tryz.isAgg163
 z116:=Tryz.sizeOf163
 t117:=Tryz.underlying164
 a117:=Tryz.isAgg164
 z117:=Tryz.sizeOf164
 v117:=Tryz.zeroValue164
 t124:=Tryz.underlying167
 a124:=Tryz.isAgg167
 z124:=Tryz.sizeOf167
 v124:=Tryz.zeroValue167 }
open Go.RowKit Go.Lib in
theorem z_strings_ContainsAny_laid (s chars:ByteArray) (w:World) (hs:s.size < 4294967281) (hcs:chars.size < 4294967281) (has:∀ (j:Nat) b,s.data.toList[j]?=some b→b.toNat < 128) (hac:∀ (j:Nat) b,chars.data.toList[j]?=some b→b.toNat < 128):
  Calls Tryz.prog 172 #[.string s,.string chars] w fun e w'=>e=.returned (.bool (Lib.containsAny s.data.toList chars.data.toList))∧Below w.heap.size w w':=Any.strings_ContainsAny_laid z_lays150 (by kernel_rfl) s chars w hs hcs has hac
def z_lays105_ren:Go.Shelf.Ren:=⟨fun | 105=>146 | 212=>174 | 99=>175 | 165=>176 | 166=>121 | 170=>177 | 169=>123 | 263=>204 | 264=>205 | 206=>206 | 240=>148 | 241=>207 | 276=>180 | 277=>226 | n=>n,fun | 9=>9 | 3=>3 | 4=>4 | 20=>20 | 0=>0 | 46=>176 | 109=>178 | 5=>5 | 72=>127 | 76=>131 | 51=>200 | 146=>201 | 53=>189 | 148=>203 | 70=>125 | 37=>99 | 75=>129 | 127=>154 | 164=>183 | 80=>134 | n=>n,fun | n=>n⟩
theorem z_lays105:Go.Proofs.Lays.n105 Tryz.prog z_lays105_ren:={
 mixed:=by kernel_rfl
 f99:=Tryz.func175.trans (congrArg some (by kernel_rfl))
 f105:=Tryz.func146.trans (congrArg some (by kernel_rfl))
 f165:=Tryz.func176.trans (congrArg some (by kernel_rfl))
 f166:=Tryz.func121.trans (congrArg some (by kernel_rfl))
 f169:=Tryz.func123.trans (congrArg some (by kernel_rfl))
 f170:=Tryz.func177.trans (congrArg some (by kernel_rfl))
 f206:=Tryz.func206.trans (congrArg some (by kernel_rfl))
 f212:=Tryz.func174.trans (congrArg some (by kernel_rfl))
 f240:=Tryz.func148.trans (congrArg some (by kernel_rfl))
 f241:=Tryz.func207.trans (congrArg some (by kernel_rfl))
 f263:=Tryz.func204.trans (congrArg some (by kernel_rfl))
 f264:=Tryz.func205.trans (congrArg some (by kernel_rfl))
 f276:=Tryz.func180.trans (congrArg some (by kernel_rfl))
 f277:=Tryz.func226.trans (congrArg some (by kernel_rfl))
 t0:=Tryz.underlying0
 a0:=Tryz.isAgg0
 z0:=Tryz.sizeOf0
 v0:=Tryz.zeroValue0
 t3:=Tryz.underlying3
 a3:=Tryz.isAgg3
 z3:=Tryz.sizeOf3
 v3:=Tryz.zeroValue3
 t4:=Tryz.underlying4
 a4:=Tryz.isAgg4
 z4:=Tryz.sizeOf4
 v4:=Tryz.zeroValue4
 t5:=Tryz.underlying5
 a5:=Tryz.isAgg5
 z5:=Tryz.sizeOf5
 v5:=Tryz.zeroValue5
 t9:=Tryz.underlying9
 a9:=Tryz.isAgg9
 z9:=Tryz.sizeOf9
 v9:=Tryz.zeroValue9
 t20:=Tryz.underlying20
 a20:=Tryz.isAgg20
 z20:=Tryz.sizeOf20
 v20:=Tryz.zeroValue20
 t37:=Tryz.underlying99
 a37:=Tryz.isAgg99
 z37:=Tryz.sizeOf99
 v37:=Tryz.zeroValue99
 t46:=Tryz.underlying176
 a46:=Tryz.isAgg176
 z46:=Tryz.sizeOf176
 v46:=Tryz.zeroValue176
 t51:=Tryz.underlying200
 a51:=Tryz.isAgg200
 z51:=Tryz.sizeOf200
 v51:=Tryz.zeroValue200
 t53:=Tryz.underlying189
 a53:=Tryz.isAgg189
 z53:=Tryz.sizeOf189
 v53:=Tryz.zeroValue189
 t70:=Tryz.underlying125
 a70:=Tryz.isAgg125
 z70:=Tryz.sizeOf125
 v70:=Tryz.zeroValue125
 t72:=Tryz.underlying127
 a72:=Tryz.isAgg127
 z72:=Tryz.sizeOf127
 v72:=Tryz.zeroValue127
 t75:=Tryz.underlying129
 a75:=Tryz.isAgg129
 z75:=Tryz.sizeOf129
 v75:=Tryz.zeroValue129
 t76:=Tryz.underlying131
 a76:=Tryz.isAgg131
 z76:=Tryz.sizeOf131
 v76:=Tryz.zeroValue131
 t109:=Tryz.underlying178
 a109:=Tryz.isAgg178
 z109:=Tryz.sizeOf178
 v109:=Tryz.zeroValue178
 t127:=Tryz.underlying154
 a127:=Tryz.isAgg154
 z127:=Tryz.sizeOf154
 v127:=Tryz.zeroValue154
 t146:=Tryz.underlying201
 a146:=Tryz.isAgg201
 z146:=Tryz.sizeOf201
 v146:=Tryz.zeroValue201
 t148:=Tryz.underlying203
 a148:=Tryz.isAgg203
 z148:=Tryz.sizeOf203
 v148:=Tryz.zeroValue203
 t164:=Tryz.underlying183
 a164:=Tryz.isAgg183
 z164:=Tryz.sizeOf183
 v164:=Tryz.zeroValue183 }
theorem z_Builder_Extra_105:Builder.Extra Tryz.prog z_lays105_ren:={
 sizeBuilder:=by kernel_rfl
 liesBuilder:=by kernel_rfl
 t5:=Tryz.underlying5
 a5:=Tryz.isAgg5
 z5:=Tryz.sizeOf5
 v5:=Tryz.zeroValue5
 infoByte:=by kernel_rfl
 cellsByte:=by kernel_rfl
 sizeByte:=by kernel_rfl
 neB5:=by decide }
open Go.RowKit Go.Lib in
theorem z_strings_Repeat (s:ByteArray) (c:Nat) (w:World) (hc:c≤9223372036854775807) (hlen:s.size*c≤140737488355328):
  Calls Tryz.prog 146 #[.string s,.int .i64 c] w fun e w'=>e=.returned (.string ⟨(Lib.repeatL s.data.toList c).toArray⟩)∧Below w.heap.size w w':=Any.strings_Repeat z_lays105 z_Builder_Extra_105 s c w hc hlen
open Go.RowKit Go.Lib in
theorem z_utf8_DecodeRuneInString (s:ByteArray) (w:World) (hT:Lib.Utf8Tabs 0 1 w):
  Calls Tryz.prog 142 #[.string s] w fun e w'=>e=.returned (.tuple #[.int .i32 (Lib.decodeGo s).1,.int .i64 (Lib.decodeGo s).2])∧Below w.heap.size w w':=Any.utf8_DecodeRuneInString z_lays197 s w hT
def z_lays109_ren:Go.Shelf.Ren:=⟨fun | 109=>144 | n=>n,fun | 31=>22 | 9=>9 | 3=>3 | 0=>0 | 4=>4 | n=>n,fun | n=>n⟩
theorem z_lays109:Go.Proofs.Lays.n109 Tryz.prog z_lays109_ren:={
 mixed:=by kernel_rfl
 f109:=Tryz.func144.trans (congrArg some (by kernel_rfl))
 t0:=Tryz.underlying0
 a0:=Tryz.isAgg0
 z0:=Tryz.sizeOf0
 v0:=Tryz.zeroValue0
 t3:=Tryz.underlying3
 a3:=Tryz.isAgg3
 z3:=Tryz.sizeOf3
 v3:=Tryz.zeroValue3
 t4:=Tryz.underlying4
 a4:=Tryz.isAgg4
 z4:=Tryz.sizeOf4
 v4:=Tryz.zeroValue4
 t9:=Tryz.underlying9
 a9:=Tryz.isAgg9
 z9:=Tryz.sizeOf9
 v9:=Tryz.zeroValue9
 t31:=Tryz.underlying22
 a31:=Tryz.isAgg22
 z31:=Tryz.sizeOf22
 v31:=Tryz.zeroValue22 }
open Go.Lib in
theorem z_slices_Index_string (b off n c:Nat) (zs:List ByteArray) (x:ByteArray) (w:World) (hz:n≤zs.length) (hbig:n≤9223372036854775807) (hc:∀ j,j < zs.length→w.cell? ⟨b,off+j,none⟩=some (.string (zs.getD j ByteArray.empty))):
  Calls Tryz.prog 144 #[.slice (some ⟨b,off,none⟩) n c,.string x] w fun e w'=>e=.returned (.int .i64 (Lib.idxOfS (zs.take n) x))∧w'=w:=Any.slices_Index_string z_lays109 b off n c zs x w hz hbig hc
open Go.Lib in
theorem z_slices_Index_string_empty (a:Option Addr) (c:Nat) (x:ByteArray) (w:World):
  Calls Tryz.prog 144 #[.slice a 0 c,.string x] w fun e w'=>e=.returned (.int .i64 (Lib.idxOfS [] x))∧w'=w:=Any.slices_Index_string_empty z_lays109 a c x w
end Go.Proofs.YtbploiccompocaaGreatDoor
end
section
namespace Go.Proofs.YtbploiccompocaaGreatDoor
open Go Go.X Go.Proofs Go.RowKit
set_option linter.unusedVariables false
theorem IndexByte_pc {gl:Fr} {s:ByteArray} {c:Int} {R:Int→Prop} (h:R (Lib.indexByte (lb s) c.toNat.toUInt8)):PC Tryz.prog gl 191 [Arg.mk .str s,Arg.mk (.int .u8) c] [.int .i64] R:=
 PC.of_same rfl (fun _=>ret_int _ _) h fun w _=>z_strings_IndexByte s c w
theorem CutPrefix_pc {gl:Fr} {s p:ByteArray} {R:ByteArray×Bool→Prop} (h:R (bl (Lib.trimPrefix (lb s) (lb p)),Lib.hasPrefix (lb s) (lb p))):PC Tryz.prog gl 154 [Arg.mk .str s,Arg.mk .str p] [.str,.bool] R:=
 PC.of_same rfl (fun M=>⟨[_,_],⟨_,_,rfl,rfl,_,rfl,rfl⟩,rfl⟩) h fun w _=>z_strings_CutPrefix s p w
theorem TrimPrefix_pc {gl:Fr} {s p:ByteArray} {R:ByteArray→Prop} (h:R (bl (Lib.trimPrefix (lb s) (lb p)))):PC Tryz.prog gl 156 [Arg.mk .str s,Arg.mk .str p] [.str] R:=
 PC.of_same rfl (fun _=>ret_str _) h fun w _=>z_strings_TrimPrefix s p w
theorem TrimLeft_pc {gl:Fr} {s:ByteArray} {c:UInt8} (hc:c.toNat < 128) {R:ByteArray→Prop} (h:R (bl (Lib.trimLeftB (lb s) c))):PC Tryz.prog gl 131 [Arg.mk .str s,Arg.mk .str ⟨#[c]⟩] [.str] R:=
 PC.of_same rfl (fun _=>ret_str _) h fun w _=>z_strings_TrimLeft_one s c hc w
theorem TrimRight_pc {gl:Fr} {s:ByteArray} {c:UInt8} (hc:c.toNat < 128) (hs:s.size≤9223372036854775807) {R:ByteArray→Prop} (h:R (bl (Lib.trimRightB (lb s) c))):PC Tryz.prog gl 132 [Arg.mk .str s,Arg.mk .str ⟨#[c]⟩] [.str] R:=
 PC.of_same rfl (fun _=>ret_str _) h fun w _=>z_strings_TrimRight_one s c hc w hs
def MaxLen (gl:Fr):Prop:=∃ (cs:Array Value) (m:Int),gl 2=some cs∧cs[0]?=some (.int .i64 m)
theorem drewN_below (w:World) (n:Nat):Below w.heap.size w (w.drewN n):=⟨rfl,rfl,rfl,Nat.le_refl _,fun _ _=>rfl⟩
theorem Repeat_pc {gl:Fr} {s:ByteArray} {c:Nat} (hc:c≤9223372036854775807) (hlen:s.size*c≤140737488355328) {R:ByteArray→Prop} (h:R (bl (Lib.repeatL (lb s) c))):PC Tryz.prog gl 146 [Arg.mk .str s,Arg.mk (.int .i64) (c:Int)] [.str] R:=
 PC.of_scal rfl (fun _=>ret_str _) h fun w hw=>z_strings_Repeat s c w hc hlen
def Tabs (gl:Fr):Prop:=(∃ cs:Array Value,gl 0=some cs∧∀ c,c < 256→cs[c]?=some (.int .u8 (Lib.firstT c)))∧∃ cs:Array Value,gl 1=some cs∧∀ i,i < 16→cs[2*i]?=some (.int .u8 (Lib.accLo i))∧cs[2*i+1]?=some (.int .u8 (Lib.accHi i))
theorem Tabs.at {gl:Fr} (h:Tabs gl) {w:World} (hw:AgM gl w.heap):Lib.Utf8Tabs 0 1 w:=by
 obtain⟨⟨c1,a1,b1⟩,c2,a2,b2⟩:=h
 exact⟨fun c hc=>hw.glob a1 (b1 c hc),fun i hi=>⟨hw.glob a2 (b2 i hi).1,hw.glob a2 (b2 i hi).2⟩⟩
theorem Decode_pc {gl:Fr} (hg:Tabs gl) {s:ByteArray} {R:Int×Int→Prop} (h:R ((Lib.decodeGo s).1,(Lib.decodeGo s).2)):PC Tryz.prog gl 142 [Arg.mk .str s] [.int .i32,.int .i64] R:=
 PC.of_scal rfl (fun M=>⟨[_,_],⟨_,_,rfl,rfl,_,rfl,rfl⟩,rfl⟩) h fun w hw=>z_utf8_DecodeRuneInString s w (hg.at hw)
theorem grow_below (w:World) (k:Nat) (os:Array Obj):Below w.heap.size w (Go.Sort.grow (w.drewN k) os):=⟨rfl,rfl,rfl,by simp [Go.Sort.grow,World.drewN],fun i hi=>by
 show((w.drewN k).heap++os)[i]?=_
 exact Array.getElem?_append_left hi⟩
def Pow (gl : Fr) : Prop := ∃ b cs, Tryz.prog.globalNamed "internal/strconv.uint64pow10" = some b ∧ gl b = some cs ∧ cs = (Lib.pow10Tab.map fun z => Value.int .u64 z).toArray
theorem Itoa_pc {gl:Fr} (hg:Pow gl) {n:Int} (h0:-9223372036854775808≤n) (h1:n≤9223372036854775807) {R:ByteArray→Prop} (h:R (bl (Lib.itoa n))):PC Tryz.prog gl 97 [Arg.mk (.int .i64) n] [.str] R:=by
 obtain⟨b,cs,e1,e2,e3⟩:=hg
 refine PC.of_scal rfl (fun _=>ret_str _) h fun w hw=>(z_strconv_Itoa n h0 h1 w ?_).mono fun e w' ⟨he,k,os,hw'⟩=>⟨he,hw' ▸ grow_below w k os⟩
 obtain⟨T,m,e4⟩:=hw b cs e2
 unfold Lib.TabIs World.var?
 rw [e1]
 simp only [Option.bind_some,e4,e3]
def atoiR (l:List UInt8):Int×Bool:=match Lib.atoiAll l with
 | .ok v=>(v,true)
 | .range=>(Lib.atoiSat l,false)
 | _=>(0,false)
def ErrVars (gl:Fr):Prop:=(∃ (cs:Array Value) (e:Value),gl 4=some cs∧cs[0]?=some e∧(e=.nilIface∨∃ te pe,e=.iface te pe))∧∃ (cs:Array Value) (e:Value),gl 5=some cs∧cs[0]?=some e∧(e=.nilIface∨∃ te pe,e=.iface te pe)
theorem ret_err {M:Fr} (k:IntKind) (i:Int) (t:TypeId) (u:Value):RetV M [.int k,.err] (i,false) (.tuple #[.int k i,.iface t u]):=⟨[_,_],⟨_,_,rfl,rfl,.iface t u,rfl,⟨_,rfl,.inr ⟨rfl,_,_,rfl⟩⟩⟩,rfl⟩
theorem ret_noerr {M:Fr} (k:IntKind) (i:Int):RetV M [.int k,.err] (i,true) (.tuple #[.int k i,.nilIface]):=⟨[_,_],⟨_,_,rfl,rfl,.nilIface,rfl,⟨_,rfl,.inl ⟨rfl,rfl⟩⟩⟩,rfl⟩
theorem Atoi_pc {gl:Fr} (hg:ErrVars gl) {s:ByteArray} (hs:s.size≤281474976710656) {R:Int×Bool→Prop} (h:R (atoiR (lb s))):PC Tryz.prog gl 173 [Arg.mk .str s] [.int .i64,.err] R:=by
 unfold atoiR at h
 cases hx:Lib.atoiAll (lb s) with
 | ok v=>
  rw [hx] at h
  refine PC.of_ex rfl fun w hw=>(z_strconv_Atoi_ok s (by omega) v hx w).mono fun e w' ⟨he,hw'⟩=>⟨_,(v,true),he,fun M=>ret_noerr _ _,h,?_⟩
  rcases hw' with rfl | ⟨t,rfl⟩
  ·exact Below.refl _ _
  ·exact Lib.bytesWorld_below _ _ _
 | range=>
  rw [hx] at h
  obtain⟨_,⟨cs,ev,e1,e2,e3⟩⟩:=hg
  exact PC.of_ex rfl fun w hw=>(z_strconv_Atoi_range s hs hx ev w (hw.glob e1 e2) e3).mono fun e w' ⟨N,he,_,_,bel⟩=>⟨_,(Lib.atoiSat (lb s),false),he,fun M=>ret_err _ _ _ _,h,bel⟩
 | _=>
  rw [hx] at h
  obtain⟨⟨cs,ev,e1,e2,e3⟩,_⟩:=hg
  exact PC.of_ex rfl fun w hw=>(z_strconv_Atoi_syntax s hs hx ev w (hw.glob e1 e2) e3).mono fun e w' ⟨N,he,_,_,bel⟩=>⟨_,(0,false),he,fun M=>ret_err _ _ _ _,h,bel⟩
def parseIntR (l:List UInt8):Int×Bool:=match Lib.parseIntB 64 l with
 | .ok v=>(v,true)
 | .range=>(Lib.intSat 64 l,false)
 | _=>(0,false)
theorem ParseInt_pc {gl:Fr} (hg:ErrVars gl) {s:ByteArray} (hs:s.size≤281474976710656) {R:Int×Bool→Prop} (h:R (parseIntR (lb s))):PC Tryz.prog gl 147 [Arg.mk .str s,Arg.mk (.int .i64) 10,Arg.mk (.int .i64) 64] [.int .i64,.err] R:=by
 unfold parseIntR at h
 cases hx:Lib.parseIntB 64 (lb s) with
 | ok v=>
  rw [hx] at h
  refine PC.of_ex rfl fun w hw=>(z_strconv_ParseInt_10_at64_ok s (by omega) v hx w).mono fun e w' ⟨he,hw'⟩=>⟨_,(v,true),he,fun M=>ret_noerr _ _,h,?_⟩
  rcases hw' with rfl | ⟨t,rfl⟩
  ·exact Below.refl _ _
  ·exact Lib.bytesWorld_below _ _ _
 | range=>
  rw [hx] at h
  obtain⟨_,⟨cs,ev,e1,e2,e3⟩⟩:=hg
  exact PC.of_ex rfl fun w hw=>(z_strconv_ParseInt_10_at64_range s hs hx ev w (hw.glob e1 e2) e3).mono fun e w' ⟨N,he,_,_,bel⟩=>⟨_,(Lib.intSat 64 (lb s),false),he,fun M=>ret_err _ _ _ _,h,bel⟩
 | _=>
  rw [hx] at h
  obtain⟨⟨cs,ev,e1,e2,e3⟩,_⟩:=hg
  exact PC.of_ex rfl fun w hw=>(z_strconv_ParseInt_10_at64_syntax s hs hx ev w (hw.glob e1 e2) e3).mono fun e w' ⟨N,he,_,_,bel⟩=>⟨_,(0,false),he,fun M=>ret_err _ _ _ _,h,bel⟩
theorem ContainsAny_pc {gl:Fr} {s c:ByteArray} (hs:s.size < 4294967281) (hc:c.size < 4294967281) (has:∀ (j:Nat) b,(lb s)[j]?=some b→b.toNat < 128) (hac:∀ (j:Nat) b,(lb c)[j]?=some b→b.toNat < 128) {R:Bool→Prop} (h:R (Lib.containsAny (lb s) (lb c))):
  PC Tryz.prog gl 172 [Arg.mk .str s,Arg.mk .str c] [.bool] R:=
 PC.of_scal rfl (fun _=>ret_bool _) h fun w hw=>z_strings_ContainsAny_laid s c w hs hc has hac
theorem SlicesIndex_pc {gl:Fr} {xs:List ByteArray} {x:ByteArray} {R:Int→Prop} (h:R (Lib.idxOfS xs x)):PC Tryz.prog gl 144 [Arg.mk (.row .str) xs,Arg.mk .str x] [.int .i64] R:=by
 intro hp M vs hM ag ha
 match vs,ha with
 | [u,v],⟨h1,h2,_⟩=>
  have h1':Rd M (.row .str) xs [u]:=by simpa [RdV,aggT] using h1
  have h2':v=.string x:=by simpa [RdV,aggT,Rd] using h2
  subst h2'
  obtain⟨s,rfl,hl,hn,cells,hc,ha⟩:=Rd.rowC ag h1'
  have:=rowC_strs_eq hc
  subst this
  have key:∀ w:World,w.heap=hp→Calls Tryz.prog 144 #[slV s,.string x] w fun e w'=>e=.returned (.int .i64 (Lib.idxOfS xs x))∧w'=w:=by
   intro w hw
   rcases ha with h0 | ⟨b,o,e1,e2,e3⟩
   ·have hx:xs=[]:=by simpa using h0
    subst hx
    have:=z_slices_Index_string_empty s.a s.cap x w
    simp only [slV,hl];exact this
   ·have:=z_slices_Index_string b o s.len s.cap xs x w (by omega) (by omega) (fun j hj=>by
     have:=e3 j (.string (xs.getD j ByteArray.empty)) (by rw [List.getElem?_map,List.getElem?_eq_getElem hj,List.getD_eq_getElem?_getD,List.getElem?_eq_getElem hj];rfl)
     rw [← hw] at this
     exact this)
    rw [hl,List.take_length] at this
    simp only [slV,e1,hl];exact this
  refine XC.of_calls fun B d=>(key (mk B d hp) rfl).mono ?_
  rintro e w' ⟨rfl,rfl⟩
  exact⟨_,rfl,rfl,rfl,rfl,Keep.refl _ _,M,_,Fr.le.refl _,fun _ _=>rfl,ag,ret_int _ _,h⟩
end Go.Proofs.YtbploiccompocaaGreatDoor
end
section
namespace Go.X
open Go Go.Lib
set_option linter.unusedVariables false
theorem bl_size (l:Bs):(bl l).size=l.length:=by rw [← lb_len,lb_bl]
theorem bl_extract (l:Bs) (a b:Nat):(bl l).extract a b=bl ((l.drop a).take (b - a)):=by rw [← lb_inj,lb_extract,lb_bl,lb_bl]
theorem bl_append (a b:Bs):bl a++bl b=bl (a++b):=by rw [← lb_inj,lb_append,lb_bl,lb_bl,lb_bl]
theorem bl_byteAt (l:Bs) (i:Nat):byteAt (bl l) i=((l[i]?.getD 0).toNat:Int):=by rw [byteAt_lb,lb_bl]
theorem toList_lb (s:ByteArray):s.toList=lb s:=by
 cases s with
 | mk d=>exact Go.Lib.toList_data ⟨d⟩
theorem bl_eq (a b:Bs):((bl a).toList==(bl b).toList)=decide (a=b):=by
 rw [toList_lb,toList_lb,lb_bl,lb_bl]
 rw [Bool.eq_iff_iff];simp
theorem nxB_bl (l:Bs) (p:Nat):nxB (bl l) p=decide (p < l.length):=by
 rw [Bool.eq_iff_iff];simp [nxB,bl_size]
theorem nxR_bl (l:Bs) (p:Nat):nxR (bl l) p=((dec (l.drop p)).1:Int):=by rw [nxR,dec_at,lb_bl]
theorem nxP_bl (l:Bs) (p:Nat) (h:p < l.length):nxP (bl l) p=p+(dec (l.drop p)).2:=by
 rw [nxP,dec_at,lb_bl]
 have:Nat.blt p (bl l).size=true:=by simp [bl_size,h]
 rw [this];rfl
theorem getDlt {l:Bs} {i:Nat} (h:i < l.length):l[i]?.getD 0=l[i]:=by rw [List.getElem?_eq_getElem h];rfl
def isDig (c:UInt8):Bool:=decide (48≤c.toNat) && decide (c.toNat≤57)
def digs (l:Bs):Bool:=l.all isDig && !l.isEmpty
abbrev Nm:=Bool×Bs×Int
abbrev nmB (n:Nm):Bool×ByteArray×Int:=(n.1,(bl n.2.1,n.2.2))
def nought (n:Nm):Bool:=!n.1 && (n.2.1.isEmpty && n.2.2==0)
def nmRight (n:Nm):Bool:=nought n || (digs n.2.1 && decide (n.2.1.length≤1000) && n.2.1.head? != some 48 && n.2.1.getLast? != some 48 && decide (-1000000≤n.2.2) && decide (n.2.2≤1000000))
def nmText (n:Nm):Bs:=if nmRight n then(if n.2.1=[] then [48] else(if n.1 then [45] else [])++n.2.1++(if n.2.2=0 then [] else 101::Go.Lib.itoa n.2.2)) else []
theorem nmRight_nil {n:Nm} (h:nmRight n=true) (e:n.2.1=[]):nought n=true:=by
 unfold nmRight at h
 rcases Bool.or_eq_true _ _ ▸ h with h | h
 ·exact h
 ·simp [digs,e] at h
theorem nmRight_len {n:Nm} (h:nmRight n=true):n.2.1.length≤1000∧-1000000≤n.2.2∧n.2.2≤1000000:=by
 unfold nmRight nought at h
 obtain⟨a,d,e⟩:=n
 simp at h
 rcases h with⟨_,h,h'⟩| h
 ·subst h;subst h';simp
 ·simp only;omega
def cutAt (p:UInt8→Bool):Bs→Bs×Bs×Bool
 | []=>([],[],false)
 | c::l=>if p c then([],l,true) else(c::(cutAt p l).1,(cutAt p l).2)
theorem cutAt_none {p:UInt8→Bool}:∀ {l},(∀ c∈l,p c=false)→cutAt p l=(l,[],false)
 | [],_=>rfl
 | c::l,h=>by
  unfold cutAt
  rw [if_neg (by simp [h c (by simp)]),cutAt_none fun c hc=>h c (by simp [hc])]
theorem cutAt_at {p:UInt8→Bool}:∀ {l:Bs} {k:Nat} (hk:k < l.length),(∀ i (hi:i < k),p (l[i]'(by omega))=false)→p l[k]=true→cutAt p l=(l.take k,l.drop (k+1),true)
 | c::l,0,_,_,h=>by
  unfold cutAt
  rw [if_pos (by simpa using h)];simp
 | c::l,k+1,hk,h0,h=>by
  unfold cutAt
  have h1:p c=false:=h0 0 (by omega)
  rw [if_neg (by simp [h1]),cutAt_at (k:=k) (by simpa using hk) (fun i hi=>by simpa using h0 (i+1) (by omega)) (by simpa using h)]
  simp
structure Lit where
 neg:Bool
 whole:Bs
 rest:Bs
 low:Bool
 exp:Bs
def litS (s:Bs):Bs:=if s.head?==some 45 then s.tail else s
def isE (c:UInt8):Bool:=c==101 || c==69
def isDot (c:UInt8):Bool:=c==46
def litM (s:Bs):Bs×Bs×Bool:=cutAt isE (litS s)
def litLow (s:Bs):Bool:=(litM s).2.2 && (litM s).2.1.head?==some 45
def litE (s:Bs):Bs:=if litLow s then(litM s).2.1.tail else if(litM s).2.1.head?==some 43 then(litM s).2.1.tail else(litM s).2.1
def litW (s:Bs):Bs×Bs×Bool:=cutAt isDot (litM s).1
def litOk (s:Bs):Bool:=(!(litM s).2.2 || digs (litE s)) && digs (litW s).1 && (!(litW s).2.2 || digs (litW s).2.1) && ((litW s).1==[48] || (litW s).1.head? != some 48)
def litOf (s:Bs):Lit:=⟨s.head?==some 45,(litW s).1,(litW s).2.1,litLow s,if(litM s).2.2 then litE s else []⟩
def numLit (s:Bs):Option Lit:=if litOk s then some (litOf s) else none
theorem numLit_some {s:Bs} {x:Lit} (h:numLit s=some x):litOk s=true∧x=litOf s:=by
 unfold numLit at h
 split at h
 ·rename_i e;exact⟨e,(Option.some.inj h).symm⟩
 ·exact absurd h (by simp)
theorem cutAt_miss {p:UInt8→Bool}:∀ {l:Bs},(cutAt p l).2.2=false→(cutAt p l).1=l∧(cutAt p l).2.1=[]
 | [],_=>⟨rfl,rfl⟩
 | c::l,h=>by
  unfold cutAt at h ⊢
  split
  ·rename_i e;rw [if_pos e] at h;exact absurd h (by simp)
  ·rename_i e
   rw [if_neg e] at h
   have:=cutAt_miss h
   exact⟨by simp [this.1],this.2⟩
def shortOf (l:Bs):Bs:=((l.dropWhile (· == 48)).reverse.dropWhile (· == 48)).reverse
def decVal (l:Bs):Nat:=l.foldl (fun n c=>10*n+(c.toNat - 48)) 0
def numParse (s:Bs):Nm×Int:=match numLit s with
 | none=>((false,[],0),2)
 | some x=>
  if x.whole.length+x.rest.length > 1000 then((false,[],0),3)
  else if(x.exp.dropWhile (· == 48)).length > 9 then((false,[],0),4)
  else
   let e:Int:=if x.low then - (decVal (x.exp.dropWhile (· == 48)):Int) else decVal (x.exp.dropWhile (· == 48))
   let d:=(x.whole++x.rest).dropWhile (· == 48)
   let short:=shortOf (x.whole++x.rest)
   if d=[] then((false,[],0),0)
   else if -1000000≤e - x.rest.length+d.length - short.length∧e - x.rest.length+d.length - short.length≤1000000 then((x.neg,short,e - x.rest.length+d.length - short.length),0)
   else((false,[],0),4)
def nmInt (n:Nm):Int×Bool:=
 if nmRight n && decide (0≤n.2.2) && decide ((n.2.1.length:Int)+n.2.2≤19) then
  let v:Int:=if n.1 then - ((decVal n.2.1*10 ^ n.2.2.toNat:Nat):Int) else(decVal n.2.1*10 ^ n.2.2.toNat:Nat)
  if -9223372036854775808≤v∧v≤9223372036854775807 then(v,true) else(0,false)
 else(0,false)
end Go.X
end
section
namespace Go.Proofs.YtbploiccompocaaGreatDoor
open Go Go.X Go.Proofs
set_option linter.unusedVariables false
theorem wsucc {k n:Nat} (h:k < n) (hn:n≤4611686018427387904):IntKind.wrap .i64 ((k:Int)+1)=((k+1:Nat):Int):=wrap_succ (by omega)
theorem dec_dig {l:Bs} (h:l≠[]):(48≤(dec l).1∧(dec l).1≤57)→(dec l).2=1∧∃ c t,l=c::t∧isDig c=true∧(dec l).1=c.toNat:=by
 obtain⟨c,t,rfl⟩:=List.exists_cons_of_ne_nil h
 intro hh
 by_cases hc:c.toNat < 128
 ·rw [dec_ascii hc] at hh ⊢
  exact⟨rfl,c,t,rfl,by simp [isDig];simpa using hh,rfl⟩
 ·exfalso
  unfold dec at hh
  have b0:((c::t).getD 0 0).toNat=c.toNat:=rfl
  rw [b0] at hh
  have:=c.toNat_lt
  have b1:=((c::t).getD 1 0).toNat_lt;have b2:=((c::t).getD 2 0).toNat_lt;have b3:=((c::t).getD 3 0).toNat_lt
  generalize ((c::t).getD 1 0).toNat=x1 at *
  generalize ((c::t).getD 2 0).toNat=x2 at *
  generalize ((c::t).getD 3 0).toNat=x3 at *
  generalize c.toNat=x0 at *
  unfold Lib.decodeN at hh
  rw [if_neg hc] at hh
  split at hh
  ·split at hh <;> simp only at hh <;> omega
  ·split at hh
   ·split at hh <;> simp only at hh <;> omega
   ·split at hh
    ·split at hh <;> simp only at hh <;> omega
    ·simp only at hh;omega
theorem digits_pc {gl:Fr} {l:Bs} {R:Bool→Prop} (h:R (digs l)):PC Tryz.prog gl 128 [Arg.mk .str (bl l)] [.bool] R:=by
 apply pu_number_digits
 refine⟨fun p=>p.1=bl l∧p.2≤l.length∧(l.drop p.2).all isDig=l.all isDig,fun p=>l.length - p.2,⟨rfl,by omega,by simp⟩,?_⟩
 rintro⟨_,p⟩ ⟨rfl,hp,h2⟩
 simp only at hp h2 ⊢
 rw [nxB_bl,nxR_bl]
 refine⟨fun hc=>⟨hc,fun hx=>?_,fun hx=>?_⟩,fun hc=>?_⟩
 all_goals first
  | have hc':p < l.length:=by simpa using hc
  | have hc':¬ p < l.length:=by simpa using hc
 ·have hne:l.drop p≠[]:=fun e=>by have:=congrArg List.length e;simp at this;omega
  have hd:¬ (48≤(dec (l.drop p)).1∧(dec (l.drop p)).1≤57):=by
   rw [Bool.cond_true_left] at hx
   rcases Bool.or_eq_true _ _ ▸ hx with hx | hx <;> simp at hx <;> omega
  have hf:l.all isDig=false:=by
   rw [← h2]
   obtain⟨c,t,e⟩:=List.exists_cons_of_ne_nil hne
   rw [e]
   cases hcd:isDig c with
   | false=>simp [hcd]
   | true=>
    exfalso;apply hd
    have:c.toNat < 128:=by simp [isDig] at hcd;omega
    rw [e,dec_ascii this]
    simpa [isDig] using hcd
  have:digs l=false:=by simp [digs,hf]
  rw [this] at h;exact h
 ·have hne:l.drop p≠[]:=fun e=>by have:=congrArg List.length e;simp at this;omega
  have hd:48≤(dec (l.drop p)).1∧(dec (l.drop p)).1≤57:=by
   rw [Bool.cond_true_left] at hx
   have:=Bool.or_eq_false_iff.1 hx
   simp at this;omega
  obtain⟨h1,c,t,e,hcd,_⟩:=dec_dig hne hd
  rw [nxP_bl l p hc',h1]
  refine⟨⟨trivial,by omega,?_⟩,by omega⟩
  have e2:l.drop (p+1)=t:=by rw [← List.drop_drop,e];rfl
  rw [e2,← h2,e];simp [hcd]
 ·have:l.drop p=[]:=List.drop_eq_nil_of_le (by omega)
  rw [this] at h2
  have e:digs l=!(decide (l=[])):=by
   rw [digs,← h2];cases l <;> simp
  have:=bl_eq l []
  rw [show(⟨#[]⟩:ByteArray)=bl [] from rfl,this,← e];exact h
abbrev tN:Ty:=.pair .bool (.pair .str (.int .i64))
theorem head_idx {l : Bs} (h : 0 < l.length) : (((l[0]?.getD 0).toNat : Int) != 48) = (l.head? != some 48) := by
  cases l with
  | nil => simp at h
  | cons c t =>
    rw [Bool.eq_iff_iff]; simp
    constructor
    · intro h1 h2; exact h1 (by rw [h2]; rfl)
    · intro h1 h2; exact h1 (UInt8.toNat_inj.1 (by have : c.toNat = 48 := by omega
                                                   rw [this]; rfl))
theorem last_idx {l : Bs} (h : 0 < l.length) : (((l[l.length - 1]?.getD 0).toNat : Int) != 48) = (l.getLast? != some 48) := by
  rw [List.getLast?_eq_getElem?]
  rw [List.getElem?_eq_getElem (by omega)]
  rw [Bool.eq_iff_iff]; simp
  constructor
  · intro h1 h2; exact h1 (by rw [h2]; rfl)
  · intro h1 h2; exact h1 (UInt8.toNat_inj.1 (by have : l[l.length - 1].toNat = 48 := by omega
                                                 rw [this]; rfl))
theorem digs_pos {l:Bs} (h:digs l=true):0 < l.length:=by
 cases l with
 | nil=>simp [digs] at h
 | cons=>simp
theorem wpred {n:Nat} (h:0 < n) (hn:n≤4611686018427387904):IntKind.wrap .i64 ((n:Int) - 1)=((n - 1:Nat):Int):=by
 rw [wrap64 (by omega) (by omega)];omega
theorem right_pc {gl:Fr} {n:Nm} (hn:n.2.1.length≤4611686018427387904) {R:Bool→Prop} (h:R (nmRight n)):PC Tryz.prog gl 96 [Arg.mk tN (nmB n)] [.bool] R:=by
 apply pu_number_Right
 simp only [show(⟨#[]⟩:ByteArray)=bl [] from rfl,bl_eq,bl_size,bl_byteAt]
 have e:((n.1==false) && (decide (n.2.1=[]) && ((n.2.2==0) && true)))=nought n:=by
  unfold nought
  rcases n with⟨_ | _,_ | ⟨_,_⟩,e⟩ <;> simp
 rw [e]
 refine⟨fun h1=>?_,fun h1=>?_⟩
 ·have:nmRight n=true:=by simp [nmRight,h1]
  rw [this] at h;exact h
 ·unfold nmRight at h
  rw [h1,Bool.false_or] at h
  refine digits_pc ⟨fun h2=>⟨fun _=>?_,fun h3=>?_⟩,fun h2=>⟨fun h3=>⟨fun _=>?_,fun h4=>?_⟩,fun h3=>⟨?_,fun h4=>⟨fun _=>?_,fun h5=>?_⟩,fun h4=>⟨?_,fun h5=>?_,fun h5=>?_⟩⟩⟩⟩
  ·have:digs n.2.1=false:=by simpa using h2
   rw [this] at h;simpa using h
  ·rw [h2] at h3;cases h3
  ·have:decide (n.2.1.length≤1000)=false:=by simp at h3 ⊢;omega
   rw [this] at h;simpa using h
  ·rw [h3] at h4;cases h4
  all_goals
   have hd:digs n.2.1=true:=by simpa using h2
   have hp:=digs_pos hd
   have h3':decide (n.2.1.length≤1000)=true:=by simp at h3 ⊢;omega
   have eh:=head_idx hp
   have el:=last_idx hp
  ·omega
  ·have:(n.2.1.head? != some 48)=false:=by
    rw [← eh];simp at h4 ⊢;exact h4
   rw [this] at h;simpa using h
  ·rw [h4] at h5;cases h5
  ·rw [wpred hp hn];omega
  ·have:(n.2.1.getLast? != some 48)=false:=by
    rw [← el];rw [wpred hp hn] at h5;simp at h5 ⊢;exact h5
   rw [this] at h;simpa using h
  ·have e1:(n.2.1.head? != some 48)=true:=by
    rw [← eh];simp at h4 ⊢;exact h4
   have e2:(n.2.1.getLast? != some 48)=true:=by
    rw [← el];rw [wpred hp hn] at h5;simp at h5 ⊢;exact h5
   rw [hd,h3',e1,e2] at h
   simp only [Bool.true_and] at h
   rw [Bool.cond_false_right]
   exact h
end Go.Proofs.YtbploiccompocaaGreatDoor
end
section
namespace Go.X
open Go Go.Lib
set_option linter.unusedVariables false
theorem indexByte_mem (c:UInt8):∀ l:Bs,-1≤indexByte l c∧(0≤indexByte l c↔c∈l)
 | []=>by simp [indexByte]
 | b::l=>by
  have ih:=indexByte_mem c l
  unfold indexByte
  by_cases h:b=c
  ·simp [h]
  ·have h':¬ c=b:=fun e=>h e.symm
   simp only [beq_iff_eq,h,if_false,List.mem_cons,h',false_or]
   obtain⟨i1,i2⟩:=ih
   split
   ·rename_i e
    rw [e] at i2
    exact⟨by omega,by rw [← i2]⟩
   ·rename_i e
    refine⟨by omega,?_⟩
    rw [← i2];omega
theorem decDigits_len (u:Nat):(decDigits u).length≤u+1:=by
 rw [decDigits]
 split
 ·simp
 ·rename_i h
  have:=decDigits_len (u / 10)
  simp;omega
theorem itoa_len (n:Int):(itoa n).length≤n.natAbs+2:=by
 unfold itoa
 split
 ·have:=decDigits_len n.natAbs;simp;omega
 ·have:=decDigits_len n.toNat;omega
theorem hasPrefix_one (l:Bs) (c:UInt8):hasPrefix l [c]=(l.head?==some c):=by
 cases l with
 | nil=>rfl
 | cons b t=>simp [hasPrefix,List.isPrefixOf];rw [Bool.eq_iff_iff];simp;exact eq_comm
theorem trimPrefix_one (l:Bs) (c:UInt8):trimPrefix l [c]=if l.head?==some c then l.tail else l:=by
 unfold trimPrefix
 rw [hasPrefix_one]
 split <;> simp
theorem decVal_snoc (l:Bs) (c:UInt8):decVal (l++[c])=10*decVal l+(c.toNat - 48):=by simp [decVal,List.foldl_append]
theorem decVal_take {l:Bs} {k:Nat} (hk:k < l.length):decVal (l.take (k+1))=10*decVal (l.take k)+(l[k].toNat - 48):=by
 rw [List.take_succ_eq_append_getElem hk,decVal_snoc]
theorem all_take {l:Bs} {p:UInt8→Bool} (h:l.all p=true) (k:Nat):(l.take k).all p=true:=by
 rw [List.all_eq_true] at h ⊢
 exact fun x hx=>h x (List.mem_of_mem_take hx)
theorem dig_at {l:Bs} (h:l.all isDig=true) {k:Nat} (hk:k < l.length):48≤l[k].toNat∧l[k].toNat≤57:=by
 have:=List.all_eq_true.1 h _ (List.getElem_mem hk)
 simpa [isDig] using this
theorem decVal_lt:∀ (n:Nat) (l:Bs),l.length=n→l.all isDig=true→decVal l < 10 ^ n
 | 0,l,h,_=>by
  have:l=[]:=List.eq_nil_of_length_eq_zero h
  subst this;simp [decVal]
 | n+1,l,h,hd=>by
  have hl:l=l.take (n+1):=by rw [← h,List.take_length]
  rw [hl,decVal_take (by omega)]
  have h1:=decVal_lt n (l.take n) (by simp;omega) (all_take hd n)
  have h2:=dig_at hd (k:=n) (by omega)
  rw [Nat.pow_succ];omega
theorem decVal_le {l:Bs} {n:Nat} (hn:l.length≤n) (h:l.all isDig=true):decVal l < 10 ^ n:=
 Nat.lt_of_lt_of_le (decVal_lt _ l rfl h) (Nat.pow_le_pow_right (by omega) hn)
theorem digs_all {l:Bs} (h:digs l=true):l.all isDig=true:=by
 unfold digs at h;exact(Bool.and_eq_true_iff.1 h).1
theorem dropWhile_all {l:Bs} {p q:UInt8→Bool} (h:l.all p=true):(l.dropWhile q).all p=true:=by
 rw [List.all_eq_true] at h ⊢
 exact fun x hx=>h x ((List.dropWhile_sublist q).mem hx)
theorem dropWhile_len (l:Bs) (q:UInt8→Bool):(l.dropWhile q).length≤l.length:=(List.dropWhile_sublist q).length_le
theorem dropWhile_head {l:Bs} {q:UInt8→Bool}:∀ c,(l.dropWhile q).head?=some c→q c=false:=by
 induction l with
 | nil=>simp
 | cons b t ih=>
  intro c h
  rw [List.dropWhile_cons] at h
  split at h
  ·exact ih c h
  ·rename_i hq;simp at h;subst h;exact Bool.eq_false_iff.2 hq
theorem shortOf_facts {l:Bs} (h:l.all isDig=true) (hne:l.dropWhile (· == 48)≠[]):digs (shortOf l)=true∧(shortOf l).length≤(l.dropWhile (· == 48)).length∧((shortOf l).head? != some 48)=true∧((shortOf l).getLast? != some 48)=true:=by
 unfold shortOf
 obtain⟨c,t,hd⟩:=List.exists_cons_of_ne_nil hne
 have hc:(c==48)=false:=by
  have:=dropWhile_head (l:=l) (q:=(· == 48)) c (by rw [hd];rfl)
  simpa using this
 have key:∀ (t:Bs),∃ u,((c::t).reverse.dropWhile (· == 48)).reverse=c::u:=by
  intro t
  rw [List.reverse_cons]
  have hx:∀ (r:Bs),∃ u,(r++[c]).dropWhile (· == 48)=u++[c]:=by
   intro r
   induction r with
   | nil=>exact⟨[],by simp [hc]⟩
   | cons b r ih=>
    rw [List.cons_append,List.dropWhile_cons]
    split
    ·exact ih
    ·exact⟨b::r,rfl⟩
  obtain⟨u,e⟩:=hx t.reverse
  exact⟨u.reverse,by rw [e];simp⟩
 rw [hd]
 obtain⟨u,e⟩:=key t
 refine⟨?_,?_,?_,?_⟩
 ·rw [digs,Bool.and_eq_true_iff]
  refine⟨?_,by rw [e];rfl⟩
  rw [List.all_reverse]
  apply dropWhile_all
  rw [List.all_reverse,← hd]
  exact dropWhile_all h
 ·rw [List.length_reverse]
  refine Nat.le_trans (dropWhile_len _ _) ?_
  simp
 ·rw [e];simp;simpa using hc
 ·rw [List.getLast?_reverse]
  cases hh:((c::t).reverse.dropWhile (· == 48)).head? with
  | none=>rfl
  | some x=>
   have:=dropWhile_head (l:=(c::t).reverse) (q:=(· == 48)) x hh
   simpa using this
theorem shortRight {l:Bs} (h:l.all isDig=true) (hne:l.dropWhile (· == 48)≠[]) (hl:l.length≤1000) (neg:Bool) (e:Int):nmRight (neg,shortOf l,e)=(decide (-1000000≤e) && decide (e≤1000000)):=by
 obtain⟨h1,h2,h3,h4⟩:=shortOf_facts h hne
 have h5:=dropWhile_len l (· == 48)
 have hp:(shortOf l).isEmpty=false:=by
  rw [digs] at h1
  have:=(Bool.and_eq_true_iff.1 h1).2
  simpa using this
 unfold nmRight nought
 simp only [h1,h3,h4,hp,Bool.and_false,Bool.false_and,Bool.false_or,Bool.true_and]
 have:decide ((shortOf l).length≤1000)=true:=by simp;omega
 rw [this];simp
theorem numLit_digs {s:Bs} {x:Lit} (h:numLit s=some x):digs x.whole=true∧x.rest.all isDig=true∧x.exp.all isDig=true:=by
 obtain⟨hok,rfl⟩:=numLit_some h
 unfold litOk at hok
 simp only [Bool.and_eq_true] at hok
 obtain⟨⟨⟨h1,h2⟩,h3⟩,h4⟩:=hok
 refine⟨h2,?_,?_⟩
 ·show(litW s).2.1.all isDig=true
  cases hp:(litW s).2.2 with
  | true=>rw [hp] at h3;exact digs_all (by simpa using h3)
  | false=>rw [show(litW s).2.1=[] from(cutAt_miss hp).2];rfl
 ·show(if(litM s).2.2 then litE s else []).all isDig=true
  cases hm:(litM s).2.2 with
  | true=>rw [hm] at h1;simpa using digs_all (by simpa using h1)
  | false=>rfl
theorem cutAt_len2 (p:UInt8→Bool) (l:Bs):(cutAt p l).1.length+(cutAt p l).2.1.length≤l.length:=by
 induction l with
 | nil=>simp [cutAt]
 | cons c t ih=>unfold cutAt;split <;> simp <;> omega
theorem numLit_len {s:Bs} {x:Lit} (h:numLit s=some x):x.whole.length+x.rest.length+x.exp.length≤s.length:=by
 obtain⟨hok,rfl⟩:=numLit_some h
 have h1:(litS s).length≤s.length:=by unfold litS;split <;> simp
 have h2:=cutAt_len2 isE (litS s)
 have h3:=cutAt_len2 isDot (litM s).1
 have h4:(litE s).length≤(litM s).2.1.length:=by
  unfold litE
  split
  ·simp
  ·split <;> simp
 have h5:(if(litM s).2.2 then litE s else []).length≤(litM s).2.1.length:=by
  split
  ·exact h4
  ·simp
 show(litW s).1.length+(litW s).2.1.length+(if(litM s).2.2 then litE s else []).length≤s.length
 unfold litW
 unfold litM at *
 omega
end Go.X
end
section
namespace Go.Proofs.YtbploiccompocaaGreatDoor
open Go Go.X Go.Proofs
set_option linter.unusedVariables false
theorem u8toI (c:UInt8):(((c.toNat:Int)).toNat).toUInt8=c:=by simp
theorem cut_pc {gl:Fr} {l sep:Bs} {p:UInt8→Bool} (hp:∀ c,p c=true↔c∈sep) (hl:l.length≤4611686018427387904) {R:ByteArray×ByteArray×Bool→Prop} (h:R (bl (cutAt p l).1,bl (cutAt p l).2.1,(cutAt p l).2.2)):
  PC Tryz.prog gl 155 [Arg.mk .str (bl l),Arg.mk .str (bl sep)] [.str,.str,.bool] R:=by
 apply pu_number_cut
 simp only [bl_size,bl_byteAt,bl_extract]
 refine⟨fun i=>∃ k:Nat,i=k∧k≤l.length∧∀ j (hj:j < l.length),j < k→p l[j]=false,fun i=>l.length - i.toNat,⟨0,rfl,by omega,fun j _ h=>by omega⟩,?_⟩
 rintro i ⟨k,rfl,hk,h2⟩
 refine⟨fun hc=>?_,fun hc=>?_⟩
 ·have hc':k < l.length:=by simpa using hc
  simp only [Int.toNat_natCast,getDlt hc']
  refine⟨by omega,IndexByte_pc ?_⟩
  rw [u8toI,lb_bl]
  have hm:=(indexByte_mem l[k] sep).2
  rw [wsucc hc' hl]
  refine⟨fun hx=>⟨by omega,by omega,?_⟩,fun hx=>⟨⟨k+1,rfl,by omega,fun j hj hjk=>?_⟩,by simp;omega⟩⟩
  ·have hpk:p l[k]=true:=(hp _).2 (hm.1 (by simpa using hx))
   rw [cutAt_at hc' (fun j hj=>h2 j (by omega) hj) hpk] at h
   simp only [Int.toNat_natCast,Int.toNat_zero,List.drop_zero,Nat.sub_zero]
   rw [List.take_of_length_le (l:=l.drop (k+1)) (by simp)]
   exact h
  ·by_cases e:j=k
   ·subst e
    cases hpj:p l[j] with
    | false=>rfl
    | true=>exact absurd (hm.2 ((hp _).1 hpj)) (by simpa using hx)
   ·exact h2 j hj (by omega)
 ·have hc':¬ k < l.length:=by simpa using hc
  rw [cutAt_none (fun c hc2=>by
   obtain⟨j,hj,rfl⟩:=List.getElem_of_mem hc2
   exact h2 j hj (by omega))] at h
  exact h
theorem CutPrefix1 {gl:Fr} {l:Bs} {c:UInt8} {R:ByteArray×Bool→Prop} (h:R (bl (if l.head?==some c then l.tail else l),l.head?==some c)):PC Tryz.prog gl 154 [Arg.mk .str (bl l),Arg.mk .str (bl [c])] [.str,.bool] R:=by
 refine CutPrefix_pc ?_
 rw [lb_bl,lb_bl,trimPrefix_one,hasPrefix_one];exact h
theorem TrimPrefix1 {gl:Fr} {l:Bs} {c:UInt8} {R:ByteArray→Prop} (h:R (bl (if l.head?==some c then l.tail else l))):PC Tryz.prog gl 156 [Arg.mk .str (bl l),Arg.mk .str (bl [c])] [.str] R:=by
 refine TrimPrefix_pc ?_
 rw [lb_bl,lb_bl,trimPrefix_one];exact h
theorem TrimLeft0 {gl:Fr} {l:Bs} {R:ByteArray→Prop} (h:R (bl (l.dropWhile (· == 48)))):PC Tryz.prog gl 131 [Arg.mk .str (bl l),Arg.mk .str (bl [48])] [.str] R:=by
 refine TrimLeft_pc (c:=48) (by decide) ?_
 rw [lb_bl];exact h
theorem TrimRight0 {gl:Fr} {l:Bs} (hl:l.length≤4611686018427387904) {R:ByteArray→Prop} (h:R (bl (l.reverse.dropWhile (· == 48)).reverse)):PC Tryz.prog gl 132 [Arg.mk .str (bl l),Arg.mk .str (bl [48])] [.str] R:=by
 refine TrimRight_pc (c:=48) (by decide) (by rw [bl_size];omega) ?_
 rw [lb_bl];exact h
theorem read_pc {gl:Fr} {s:Bs} (hs:s.length≤4611686018427387904) {R:(Bool×Bool×ByteArray×ByteArray×ByteArray)×Bool→Prop}
  (h1:litOk s=true→R (((litOf s).neg,(litOf s).low,bl (litOf s).whole,bl (litOf s).rest,bl (litOf s).exp),true)) (h2:litOk s=false→∀ a b c d e,R ((a,b,bl c,bl d,bl e),false)):
  PC Tryz.prog gl 130 [Arg.mk .str (bl s)] [.pair .bool (.pair .bool (.pair .str (.pair .str .str))),.bool] R:=by
 apply pu_number_read
 refine CutPrefix1 (c:=45) ?_
 dsimp only
 have hS:(litS s).length≤s.length:=by unfold litS;split <;> simp
 have hM:=cutAt_len2 isE (litS s)
 refine cut_pc (l:=litS s) (sep:=[101,69]) (p:=isE) (fun c=>by simp [isE]) (by omega) ?_
 dsimp only
 have hM':(litM s).1.length+(litM s).2.1.length≤(litS s).length:=hM
 have tail:∀ (e:Bs) (low:Bool),((litM s).2.2=true→digs (litE s)=true∧low=litLow s∧e=litE s)→((litM s).2.2=false→low=false∧e=[]) →
   PC Tryz.prog gl 155 [Arg.mk .str (bl (litM s).1),Arg.mk .str (bl [46])] [.str,.str,.bool] (fun r_20:ByteArray×ByteArray×Bool=>PC Tryz.prog gl 128 [Arg.mk .str r_20.1] [.bool] (fun r_21:Bool=>∃ J_22:Bool→Prop,(((!(!r_21)) && r_20.2.2)=true→PC Tryz.prog gl 128 [Arg.mk .str r_20.2.1] [.bool] J_22) ∧
      ∀ r_23:Bool,(((!(!r_21)) && r_20.2.2)=true→J_22 r_23)→((bif (!r_21) then true else(bif r_20.2.2 then(!r_23) else false))=true→R ((s.head?==some 45,(low,(r_20.1,(r_20.2.1,bl e)))),false)) ∧
      ((bif (!r_21) then true else(bif r_20.2.2 then(!r_23) else false))=false→((!((r_20.1:ByteArray).toList==((⟨#[48]⟩:ByteArray):ByteArray).toList))=true→(0≤(0:Int)∧(0:Int) < ((r_20.1).size:Int))) ∧
       R ((s.head?==some 45,(low,(r_20.1,(r_20.2.1,bl e)))),bif ((r_20.1:ByteArray).toList==((⟨#[48]⟩:ByteArray):ByteArray).toList) then true else((byteAt r_20.1 (0:Int).toNat:Int) != 48))))):=by
  intro e low k1 k2
  have hok:(!(litM s).2.2 || digs (litE s))=true∧litLow s=low∧(if(litM s).2.2 then litE s else [])=e:=by
   cases hm:(litM s).2.2 with
   | true=>obtain⟨a,b,c⟩:=k1 hm;exact⟨by simp [a],b.symm,by simp [c]⟩
   | false=>obtain⟨a,b⟩:=k2 hm;exact⟨rfl,by unfold litLow;rw [hm,a];rfl,by simp [b]⟩
  refine cut_pc (l:=(litM s).1) (sep:=[46]) (p:=isDot) (fun c=>by simp [isDot]) (by omega) ?_
  refine digits_pc ⟨fun x=>digs (litW s).2.1=x,fun _=>digits_pc rfl,fun y hy=>?_⟩
  dsimp only
  simp only [show(⟨#[48]⟩:ByteArray)=bl [48] from rfl,bl_eq,bl_size,bl_byteAt]
  change (_→digs (litW s).2.1=y) at hy
  show((bif (!digs (litW s).1) then true else(bif (litW s).2.2 then(!y) else false))=true→R ((s.head?==some 45,(low,(bl (litW s).1,(bl (litW s).2.1,bl e)))),false)) ∧
      ((bif (!digs (litW s).1) then true else(bif (litW s).2.2 then(!y) else false))=false→((!decide ((litW s).1=[48]))=true→(0≤(0:Int)∧(0:Int) < ((litW s).1.length:Int))) ∧
       R ((s.head?==some 45,(low,(bl (litW s).1,(bl (litW s).2.1,bl e)))),bif decide ((litW s).1=[48]) then true else(((((litW s).1[(0:Int).toNat]?).getD 0).toNat:Int) != 48)))
  have hy':digs (litW s).1=true→(litW s).2.2=true→digs (litW s).2.1=y:=fun a b=>hy (by
   show((!(!digs (litW s).1)) && (litW s).2.2)=true
   rw [a,b];rfl)
  refine⟨fun hx=>h2 ?_ _ _ _ _ _,fun hx=>⟨fun _=>?_,?_⟩⟩
  ·unfold litOk
   cases hd:digs (litW s).1 with
   | false=>simp
   | true=>
    rw [hd] at hx
    cases hw:(litW s).2.2 with
    | false=>rw [hw] at hx;simp at hx
    | true=>
     rw [hw] at hx
     have:=hy' hd hw
     rw [this]
     simp at hx;simp [hx]
  all_goals
   have hd:digs (litW s).1=true:=by
    cases hd:digs (litW s).1 with
    | true=>rfl
    | false=>rw [hd] at hx;simp at hx
   have hp:=digs_pos hd
  ·omega
  ·have h3:(!(litW s).2.2 || digs (litW s).2.1)=true:=by
    cases hw:(litW s).2.2 with
    | false=>rfl
    | true=>
     rw [hd,hw] at hx
     have:=hy' hd hw
     rw [this];simpa using hx
   have h4:(bif decide ((litW s).1=[48]) then true else(((((litW s).1[(0:Int).toNat]?).getD 0).toNat:Int) != 48))=((litW s).1==[48] || (litW s).1.head? != some 48):=by
    rw [show(0:Int).toNat=0 from rfl,head_idx hp,Bool.cond_true_left,Bool.eq_iff_iff];simp
   have hlit:litOk s=((litW s).1==[48] || (litW s).1.head? != some 48):=by
    unfold litOk;rw [hok.1,hd,h3];simp
   rw [h4]
   cases ho:((litW s).1==[48] || (litW s).1.head? != some 48) with
   | true=>
    have:=h1 (hlit.trans ho)
    unfold litOf at this
    rw [hok.2.1,hok.2.2] at this
    exact this
   | false=>exact h2 (hlit.trans ho) _ _ _ _ _
 intro K hK
 refine⟨fun hm=>?_,fun hm=>?_⟩
 ·have hm':(litM s).2.2=true:=hm
  refine CutPrefix1 (c:=45) (l:=(litM s).2.1) ?_
  dsimp only
  intro K2 hK2
  have step:∀ low e,low=litLow s→e=litE s→K2 (bl e) (s.head?==some 45) low (bl []) (bl []) (bl []):=by
   intro low e he1 he2
   refine hK2 _ _ _ _ _ _ (digits_pc ⟨fun hx=>?_,fun hx=>?_⟩)
   ·refine h2 ?_ _ _ [] [] []
    unfold litOk;rw [hm',← he2]
    have:digs e=false:=by simpa using hx
    rw [this];rfl
   ·refine hK _ _ _ _ _ _ (tail e low (fun _=>⟨by rw [← he2];simpa using hx,he1,he2⟩) fun h=>by rw [hm'] at h;cases h)
  have hlow:litLow s=((litM s).2.1.head?==some 45):=by unfold litLow;rw [hm'];rfl
  refine⟨fun hx=>?_,fun hx=>?_⟩
  ·have hx':((litM s).2.1.head?==some 45)=false:=by simpa using hx
   rw [hx']
   refine TrimPrefix1 (c:=43) ?_
   simp only [Bool.false_eq_true,if_false]
   refine step false _ (by rw [hlow,hx']) ?_
   unfold litE;rw [hlow,hx'];simp
  ·have hx':((litM s).2.1.head?==some 45)=true:=by simpa using hx
   rw [hx']
   simp only [if_true]
   refine step true _ (by rw [hlow,hx']) ?_
   unfold litE;rw [hlow,hx'];simp
 ·have hm':(litM s).2.2=false:=hm
  have he:(litM s).2.1=[]:=(cutAt_miss hm').2
  have:=tail [] false (fun h=>by rw [hm'] at h;cases h) fun _=>⟨rfl,rfl⟩
  show K (bl (litM s).2.1) _ _ _ _ _
  rw [he]
  exact hK _ _ _ _ _ _ this
theorem joinI4 {α β γ δ:Type} {B:α→β→γ→δ→Prop} {c:Bool} {a b:α} {x:β} {y:γ} {z:δ} (h:∀ e,e=(bif c then a else b)→B e x y z):∀ K:α→β→γ→δ→Prop,(∀ e x y z,B e x y z→K e x y z)→(c=true→K a x y z)∧(c=false→K b x y z):=
 fun K hK=>⟨fun hc=>hK _ _ _ _ (h _ (by subst hc;rfl)),fun hc=>hK _ _ _ _ (h _ (by subst hc;rfl))⟩
theorem w64 {n:Int} (h:-4611686018427387904≤n∧n≤4611686018427387904):IntKind.wrap .i64 n=n:=wrap64 (by omega) (by omega)
set_option maxHeartbeats 1000000 in
theorem parse_pc {gl:Fr} {s:Bs} (hs:s.length≤1152921504606846976) {R:(Bool×ByteArray×Int)×Int→Prop} (h:R (nmB (numParse s).1,(numParse s).2)):PC Tryz.prog gl 98 [Arg.mk .str (bl s)] [tN,.int .i64] R:=by
 apply pu_number_Parse
 refine read_pc (by omega) (fun hok=>?_) (fun hok a b c d e=>?_)
 rotate_left
 ·refine TrimLeft0 ⟨fun _=>?_,fun hx=>by cases hx⟩
  have:numLit s=none:=by unfold numLit;simp [hok]
  unfold numParse at h
  rw [this] at h;exact h
 ·have hlit:numLit s=some (litOf s):=by unfold numLit;simp [hok]
  have hlen:=numLit_len hlit
  obtain⟨d1,d2,d3⟩:=numLit_digs hlit
  unfold numParse at h
  rw [hlit] at h
  simp only at h
  generalize litOf s=x at *
  refine TrimLeft0 ⟨fun hx=>(by cases hx),fun _=>?_⟩
  simp only [bl_size]
  rw [w64 (by omega)]
  refine⟨fun hx=>?_,fun hx=>?_⟩
  ·rw [if_pos (by simp at hx;omega)] at h;exact h
  ·rw [if_neg (by simp at hx;omega)] at h
   refine⟨fun hx2=>?_,fun hx2=>?_⟩
   ·rw [if_pos (by simp at hx2;omega)] at h;exact h
   ·rw [if_neg (by simp at hx2;omega)] at h
    have hx':x.whole.length+x.rest.length≤1000:=by simp at hx;omega
    have hex:x.exp.all isDig=true:=d3
    generalize hE:x.exp.dropWhile (· == 48)=E at *
    have hEd:E.all isDig=true:=by rw [← hE];exact dropWhile_all d3
    have hEl:E.length≤9:=by simp at hx2;omega
    have hEv:decVal E < 10 ^ 9:=decVal_le hEl hEd
    refine⟨fun e _ _ _ p=>p.1=bl E∧p.2≤E.length∧e=(decVal (E.take p.2):Int),fun _ _ _ _ p=>E.length - p.2,⟨rfl,by omega,by simp [decVal]⟩,?_⟩
    rintro e b1 b2 b3 ⟨_,p⟩ ⟨rfl,hp,rfl⟩
    simp only at hp ⊢
    rw [nxB_bl,nxR_bl]
    refine⟨fun hc=>⟨hc,?_⟩,fun hc=>?_⟩
    ·have hc':p < E.length:=by simpa using hc
     have hd:=dig_at hEd hc'
     have hdr:E.drop p=E[p]::E.drop (p+1):=List.drop_eq_getElem_cons hc'
     rw [nxP_bl E p hc',hdr,dec_ascii (by omega)]
     have hle:=decVal_le (n:=9) (l:=E.take p) (by simp;omega) (all_take hEd p)
     rw [wrap32' (by omega) (by omega),w64 (n:=10*_) (by omega),w64 (n:=(_:Int) - 48) (by omega),w64 (by omega)]
     simp only
     refine⟨⟨trivial,by omega,?_⟩,by omega⟩
     rw [decVal_take hc'];omega
    ·have hc':¬ p < E.length:=by simpa using hc
     have hpe:p=E.length:=by omega
     subst hpe
     rw [List.take_length]
     apply joinI4
     intro e7 he7
     refine⟨by unfold fits63;omega,?_⟩
     rw [bl_append]
     refine TrimLeft0 ?_
     rw [show(⟨#[]⟩:ByteArray)=bl [] from rfl]
     simp only [bl_eq]
     have hD:(x.whole++x.rest).all isDig=true:=by rw [List.all_append,digs_all d1,d2];rfl
     refine⟨fun hx3=>?_,fun hx3=>?_⟩
     ·rw [if_pos (by simpa using hx3)] at h;exact h
     ·have hne:(x.whole++x.rest).dropWhile (· == 48)≠[]:=by simpa using hx3
      rw [if_neg hne] at h
      have hdl:=dropWhile_len (x.whole++x.rest) (· == 48)
      rw [List.length_append] at hdl
      refine TrimRight0 (by omega) ?_
      have hsl:=(shortOf_facts hD hne).2.1
      have hsr:=shortRight hD hne (by rw [List.length_append];exact hx')
      simp only [bl_size,show((List.dropWhile (fun x=>x==48) (x.whole++x.rest)).reverse.dropWhile (fun x=>x==48)).reverse=shortOf (x.whole++x.rest) from rfl]
      have hev:e7=if x.low then - (decVal E:Int) else(decVal E:Int):=by rw [he7];cases x.low <;> simp;exact w64 (by omega)
      have hb:-1000000000≤e7∧e7≤1000000000:=by rw [hev];split <;> omega
      rw [w64 (n:=e7 - _) (by omega),w64 (n:=e7 - _+_) (by omega),w64 (by omega)]
      refine right_pc (n:=(x.neg,shortOf (x.whole++x.rest),e7 - (x.rest.length:Int)+(((x.whole++x.rest).dropWhile (· == 48)).length:Int) - ((shortOf (x.whole++x.rest)).length:Int))) (by simp only;omega) ?_
      rw [hsr]
      change R (nmB (if -1000000≤(if x.low=true then - (decVal E:Int) else(decVal E:Int)) - (x.rest.length:Int)+(((x.whole++x.rest).dropWhile (· == 48)).length:Int) - ((shortOf (x.whole++x.rest)).length:Int)∧(if x.low=true then - (decVal E:Int) else(decVal E:Int)) - (x.rest.length:Int)+(((x.whole++x.rest).dropWhile (· == 48)).length:Int) - ((shortOf (x.whole++x.rest)).length:Int)≤1000000 then((x.neg,shortOf (x.whole++x.rest),(if x.low=true then - (decVal E:Int) else(decVal E:Int)) - (x.rest.length:Int)+(((x.whole++x.rest).dropWhile (· == 48)).length:Int) - ((shortOf (x.whole++x.rest)).length:Int)),0) else((false,[],0),4)).1,_) at h
      rw [← hev] at h
      refine⟨fun hx4=>?_,fun hx4=>?_⟩
      ·rw [if_neg (by simp at hx4;omega)] at h;exact h
      ·rw [if_pos (by simp at hx4;omega)] at h;exact h
end Go.Proofs.YtbploiccompocaaGreatDoor
end
section
namespace Go.Proofs.YtbploiccompocaaGreatDoor
open Go Go.X Go.Proofs
set_option linter.unusedVariables false
theorem fits2 {a b:Bs} (h:a.length+b.length≤4611686018427387904):fits63 ((bl a).size+(bl b).size):=by
 unfold fits63;rw [bl_size,bl_size];omega
theorem text_pc {gl:Fr} (hg:Pow gl) {n:Nm} (hn:n.2.1.length≤4611686018427387904) {R:ByteArray→Prop} (h:R (bl (nmText n))):PC Tryz.prog gl 56 [Arg.mk tN (nmB n)] [.str] R:=by
 apply pu_number_Text
 refine right_pc hn ⟨fun hx=>?_,fun hx=>?_⟩
 ·have:nmRight n=false:=by simpa using hx
  have e:nmText n=[]:=by unfold nmText;simp [this]
  rw [e] at h;exact h
 ·have hr:nmRight n=true:=by simpa using hx
  obtain⟨hl,he1,he2⟩:=nmRight_len hr
  unfold nmText at h
  rw [if_pos hr] at h
  simp only [show(⟨#[]⟩:ByteArray)=bl [] from rfl,bl_eq]
  refine⟨fun hx2=>?_,fun hx2=>?_⟩
  ·rw [if_pos (by simpa using hx2)] at h;exact h
  ·rw [if_neg (by simpa using hx2)] at h
   intro K hK
   have key:∀ t:Bs,t=(if n.1 then [45] else [])++n.2.1→K (bl t):=by
    intro t ht
    have htl:t.length≤1001:=by rw [ht];split <;> simp <;> omega
    rw [← ht] at h
    refine hK _ ⟨fun hx3=>?_,fun hx3=>?_⟩
    ·rw [if_neg (by simpa using hx3)] at h
     have hil:=Go.X.itoa_len n.2.2
     refine Itoa_pc hg (by omega) (by omega) ?_
     refine⟨fits2 (a:=[101]) (by simp;omega),?_⟩
     rw [show(⟨#[101]⟩:ByteArray)=bl [101] from rfl,bl_append,bl_append]
     exact⟨fits2 (by simp;omega),h⟩
    ·rw [if_pos (by simpa using hx3),List.append_nil] at h;exact h
   refine⟨fun hx3=>⟨fits2 (a:=[45]) (by simp;omega),?_⟩,fun hx3=>?_⟩
   ·rw [show(⟨#[45]⟩:ByteArray)=bl [45] from rfl,bl_append]
    exact key _ (by rw [if_pos (by simpa using hx3)])
   ·exact key _ (by rw [if_neg (by simpa using hx3)];rfl)
theorem of_pc {gl:Fr} (hg:Pow gl) {n:Int} (h1:-9223372036854775808≤n) (h2:n≤9223372036854775807) {R:Bool×ByteArray×Int→Prop} (h:R (nmB (numParse (Lib.itoa n)).1)):PC Tryz.prog gl 57 [Arg.mk (.int .i64) n] [tN] R:=by
 apply pu_number_Of
 refine Itoa_pc hg h1 h2 (parse_pc ?_ h)
 have:=Go.X.itoa_len n
 have h20:∀ u:Nat,u < 10 ^ 20→(Lib.decDigits u).length≤20:=by
  have:∀ (k u:Nat),u < 10 ^ (k+1)→(Lib.decDigits u).length≤k+1:=by
   intro k
   induction k with
   | zero=>intro u hu;rw [Lib.decDigits,dif_pos (by simpa using hu)];simp
   | succ k ih=>
    intro u hu
    rw [Lib.decDigits]
    split
    ·simp
    ·have:=ih (u / 10) (by rw [Nat.pow_succ] at hu;omega)
     simp;omega
  exact this 19
 have:(Lib.itoa n).length≤21:=by
  unfold Lib.itoa
  split
  ·have:=h20 n.natAbs (by omega);simp;omega
  ·have:=h20 n.toNat (by omega);omega
 omega
end Go.Proofs.YtbploiccompocaaGreatDoor
end
section
namespace Go.Proofs.YtbploiccompocaaGreatDoor
open Go Go.X Go.Proofs
set_option linter.unusedVariables false
theorem bne_byte {c:UInt8} {n:Int} (d:UInt8) (hn:n=(d.toNat:Int)):((c.toNat:Int) != n)=!(c==d):=by
 subst hn
 rw [Bool.eq_iff_iff]
 simp only [bne_iff_ne,ne_eq,Int.natCast_inj,Bool.not_eq_true',beq_eq_false_iff_ne]
 exact⟨fun h e=>h (by rw [e]),fun h e=>h (UInt8.toNat_inj.1 e)⟩
end Go.Proofs.YtbploiccompocaaGreatDoor
end
section
namespace Go.X
open Go Go.Lib
set_option linter.unusedVariables false
theorem foldl_dec (l:Bs) (a:Nat):l.foldl (fun n c=>10*n+(c.toNat - 48)) a=a*10 ^ l.length+decVal l:=by
 induction l generalizing a with
 | nil=>simp [decVal]
 | cons c t ih=>
  simp only [List.foldl_cons,List.length_cons,decVal]
  rw [ih,ih (10*0+(c.toNat - 48)),Nat.pow_succ]
  have:(10*a+(c.toNat - 48))*10 ^ t.length=a*(10 ^ t.length*10)+(c.toNat - 48)*10 ^ t.length:=by
   rw [Nat.add_mul,Nat.mul_comm 10 a,Nat.mul_assoc,Nat.mul_comm 10 (10 ^ t.length)]
  rw [this];simp;omega
theorem decVal_append (a b:Bs):decVal (a++b)=decVal a*10 ^ b.length+decVal b:=by
 rw [decVal,List.foldl_append,foldl_dec];rfl
theorem decVal_zeros (n:Nat):decVal (List.replicate n 48)=0:=by
 induction n with
 | zero=>rfl
 | succ n ih=>rw [List.replicate_succ];exact ih
theorem parseM_ok:∀ (l:Bs) (acc:Nat),l.all isDig=true→acc*10 ^ l.length+decVal l < 10 ^ 19→parseUintM (2 ^ 64 - 1) acc l=.ok (acc*10 ^ l.length+decVal l)
 | [],acc,_,_=>by simp [parseUintM,decVal]
 | c::t,acc,hd,hl=>by
  rw [List.all_cons,Bool.and_eq_true] at hd
  have hc:48≤c.toNat∧c.toNat≤57:=by simpa [isDig] using hd.1
  have e:decVal (c::t)=(c.toNat - 48)*10 ^ t.length+decVal t:=by
   have:=decVal_append [c] t
   rw [List.singleton_append] at this
   rw [this];simp [decVal]
  have e2:(acc*10+(c.toNat - 48))*10 ^ t.length+decVal t=acc*10 ^ (c::t).length+decVal (c::t):=by
   rw [e,List.length_cons,Nat.pow_succ,Nat.add_mul,Nat.mul_assoc,Nat.mul_comm 10 (10 ^ t.length)];omega
  have hp:1≤10 ^ t.length:=Nat.one_le_pow _ _ (by decide)
  have hb:acc*10+(c.toNat - 48)≤acc*10 ^ (c::t).length+decVal (c::t):=by
   rw [← e2]
   calc acc*10+(c.toNat - 48)=(acc*10+(c.toNat - 48))*1:=by omega
    _≤(acc*10+(c.toNat - 48))*10 ^ t.length:=Nat.mul_le_mul_left _ hp
    _≤_:=by omega
  rw [parseUintM,if_pos hc,if_neg (by omega),if_neg (by omega),parseM_ok t _ hd.2 (by rw [e2];exact hl),e2]
def intDig (n:Nm):Bs:=n.2.1++List.replicate n.2.2.toNat 48
theorem intDig_val (n:Nm):decVal (intDig n)=decVal n.2.1*10 ^ n.2.2.toNat:=by
 rw [intDig,decVal_append,decVal_zeros,List.length_replicate,Nat.add_zero]
theorem nmRight_all {n:Nm} (h:nmRight n=true):n.2.1.all isDig=true:=by
 unfold nmRight nought at h
 rcases Bool.or_eq_true _ _ ▸ h with h | h
 ·simp at h;rw [h.2.1];rfl
 ·simp only [Bool.and_eq_true] at h;exact digs_all h.1.1.1.1.1
theorem intDig_all {n:Nm} (h:nmRight n=true):(intDig n).all isDig=true:=by
 rw [intDig,List.all_append,nmRight_all h,Bool.true_and,List.all_eq_true]
 intro x hx
 rw [List.mem_replicate] at hx
 rw [hx.2];rfl
theorem parse_int {l:Bs} (neg:Bool) (hd:l.all isDig=true) (hl:l.length≤19) (hne:l≠[]):
  parseIntB 64 ((if neg then [45] else [])++l)=if neg then(if decVal l≤9223372036854775808 then .ok (-(decVal l:Int)) else .range) else(if decVal l≤9223372036854775807 then .ok (decVal l:Int) else .range):=by
 have hv:decVal l < 10 ^ 19:=decVal_le hl hd
 have hp:=parseM_ok l 0 hd (by rw [Nat.zero_mul];omega)
 rw [Nat.zero_mul,Nat.zero_add] at hp
 cases neg with
 | true=>
  simp only [if_true,List.singleton_append]
  unfold parseIntB
  simp only [show(45:UInt8).toNat=45 from rfl,or_true,if_true]
  unfold parseUintB
  rw [if_neg hne,hp]
  simp only [not_true_eq_false,false_and,if_false,true_and]
  split
  ·rename_i h;rw [if_neg (by omega)]
  ·rename_i h;rw [if_pos (by omega)]
 | false=>
  simp only [Bool.false_eq_true,if_false,List.nil_append]
  obtain⟨c,t,rfl⟩:=List.exists_cons_of_ne_nil hne
  have hc:48≤c.toNat∧c.toNat≤57:=by
   rw [List.all_cons,Bool.and_eq_true] at hd
   simpa [isDig] using hd.1
  unfold parseIntB
  simp only
  rw [if_neg (by omega)]
  unfold parseUintB
  rw [if_neg (by simp),hp]
  have h45:¬ c.toNat=45:=by omega
  simp only [h45,not_false_eq_true,true_and,false_and,if_false]
  split
  ·rename_i h;rw [if_neg (by omega)]
  ·rename_i h;rw [if_pos (by omega)]
theorem or64 {a b:Nat} (ha:a < 18446744073709551616) (hb:b < 18446744073709551616):IntKind.wrap .u64 (((BitVec.ofInt (IntKind.bits .u64) (a:Int)) ||| (BitVec.ofInt (IntKind.bits .u64) (b:Int))).toNat:Int)=((a ||| b:Nat):Int):=by
 have hbits:IntKind.bits .u64=64:=rfl
 have e:((BitVec.ofInt (IntKind.bits .u64) (a:Int)) ||| (BitVec.ofInt (IntKind.bits .u64) (b:Int))).toNat=a ||| b:=by
  rw [BitVec.toNat_or,BitVec.ofInt_natCast,BitVec.ofInt_natCast,BitVec.toNat_ofNat,BitVec.toNat_ofNat,hbits,Nat.mod_eq_of_lt (by omega),Nat.mod_eq_of_lt (by omega)]
 rw [e]
 have hlt:a ||| b < 2 ^ 64:=Nat.or_lt_two_pow (by omega) (by omega)
 unfold IntKind.wrap
 have e1:(2:Int) ^ IntKind.bits .u64=18446744073709551616:=by decide
 simp only [e1]
 have hs:IntKind.signed .u64=false:=rfl
 simp only [hs,Bool.false_and,Bool.false_eq_true,if_false]
 omega
theorem and64 {a b:Nat} (ha:a < 18446744073709551616) (hb:b < 18446744073709551616):IntKind.wrap .u64 (((BitVec.ofInt (IntKind.bits .u64) (a:Int)) &&& (BitVec.ofInt (IntKind.bits .u64) (b:Int))).toNat:Int)=((a &&& b:Nat):Int):=by
 have hbits:IntKind.bits .u64=64:=rfl
 have e:((BitVec.ofInt (IntKind.bits .u64) (a:Int)) &&& (BitVec.ofInt (IntKind.bits .u64) (b:Int))).toNat=a &&& b:=by
  rw [BitVec.toNat_and,BitVec.ofInt_natCast,BitVec.ofInt_natCast,BitVec.toNat_ofNat,BitVec.toNat_ofNat,hbits,Nat.mod_eq_of_lt (by omega),Nat.mod_eq_of_lt (by omega)]
 rw [e]
 have hlt:a &&& b < 2 ^ 64:=Nat.and_lt_two_pow _ (by omega)
 unfold IntKind.wrap
 have e1:(2:Int) ^ IntKind.bits .u64=18446744073709551616:=by decide
 simp only [e1]
 have hs:IntKind.signed .u64=false:=rfl
 simp only [hs,Bool.false_and,Bool.false_eq_true,if_false]
 omega
theorem wrapu64 {n:Int} (h1:0≤n) (h2:n < 18446744073709551616):IntKind.wrap .u64 n=n:=by
 unfold IntKind.wrap
 have e1:(2:Int) ^ IntKind.bits .u64=18446744073709551616:=by decide
 simp only [e1]
 have hs:IntKind.signed .u64=false:=rfl
 simp only [hs,Bool.false_and,Bool.false_eq_true,if_false]
 omega
theorem u8_bit7 {n:Nat} (h:n < 256):n.testBit 7=false↔n < 128:=by
 rw [Nat.testBit_eq_decide_div_mod_eq]
 simp;omega
def MASK:Nat:=9259542123273814144
theorem mask_bit:∀ i,i < 8→MASK.testBit (8*i+7)=true:=by decide
theorem and_mask {w:Nat} (h:w &&& MASK=0):∀ i,i < 8→w.testBit (8*i+7)=false:=by
 intro i hi
 have:=congrArg (fun x=>x.testBit (8*i+7)) h
 simp only [Nat.testBit_and,mask_bit i hi,Bool.and_true,Nat.zero_testBit] at this
 exact this
def word8 (b0 b1 b2 b3 b4 b5 b6 b7:Nat):Nat:=((((((b0 ||| b1*2 ^ 8) ||| b2*2 ^ 16) ||| b3*2 ^ 24) ||| b4*2 ^ 32) ||| b5*2 ^ 40) ||| b6*2 ^ 48) ||| b7*2 ^ 56
theorem mulbit (b k j:Nat):(b*2 ^ k).testBit j=(decide (k≤j) && b.testBit (j - k)):=by
 rw [Nat.testBit_mul_two_pow]
theorem word8_bits {b0 b1 b2 b3 b4 b5 b6 b7:Nat} {j:Nat}:(word8 b0 b1 b2 b3 b4 b5 b6 b7).testBit j=(b0.testBit j || (decide (8≤j) && b1.testBit (j - 8)) || (decide (16≤j) && b2.testBit (j - 16)) || (decide (24≤j) && b3.testBit (j - 24)) || (decide (32≤j) && b4.testBit (j - 32)) || (decide (40≤j) && b5.testBit (j - 40)) || (decide (48≤j) && b6.testBit (j - 48)) || (decide (56≤j) && b7.testBit (j - 56))):=by
 unfold word8
 simp only [Nat.testBit_or,mulbit]
theorem word8_small {b0 b1 b2 b3 b4 b5 b6 b7:Nat} (h:∀ i,i < 8→(word8 b0 b1 b2 b3 b4 b5 b6 b7).testBit (8*i+7)=false) (r0:b0 < 256) (r1:b1 < 256) (r2:b2 < 256) (r3:b3 < 256) (r4:b4 < 256) (r5:b5 < 256) (r6:b6 < 256) (r7:b7 < 256):
  b0 < 128∧b1 < 128∧b2 < 128∧b3 < 128∧b4 < 128∧b5 < 128∧b6 < 128∧b7 < 128:=by
 have h0:=h 0 (by decide);have h1:=h 1 (by decide);have h2:=h 2 (by decide);have h3:=h 3 (by decide)
 have h4:=h 4 (by decide);have h5:=h 5 (by decide);have h6:=h 6 (by decide);have h7:=h 7 (by decide)
 rw [word8_bits] at h0 h1 h2 h3 h4 h5 h6 h7
 simp only [Bool.or_eq_false_iff,Bool.and_eq_false_iff] at h0 h1 h2 h3 h4 h5 h6 h7
 refine⟨(u8_bit7 r0).1 ?_,(u8_bit7 r1).1 ?_,(u8_bit7 r2).1 ?_,(u8_bit7 r3).1 ?_,(u8_bit7 r4).1 ?_,(u8_bit7 r5).1 ?_,(u8_bit7 r6).1 ?_,(u8_bit7 r7).1 ?_⟩
 ·exact h0.1.1.1.1.1.1.1
 ·rcases h1.1.1.1.1.1.1.2 with h | h
  ·simp at h
  ·simpa using h
 ·rcases h2.1.1.1.1.1.2 with h | h
  ·simp at h
  ·simpa using h
 ·rcases h3.1.1.1.1.2 with h | h
  ·simp at h
  ·simpa using h
 ·rcases h4.1.1.1.2 with h | h
  ·simp at h
  ·simpa using h
 ·rcases h5.1.1.2 with h | h
  ·simp at h
  ·simpa using h
 ·rcases h6.1.2 with h | h
  ·simp at h
  ·simpa using h
 ·rcases h7.2 with h | h
  ·simp at h
  ·simpa using h
theorem u8ok_ascii_n {l:Bs}:∀ {n:Nat},n≤l.length→(∀ i (hi:i < l.length),i < n→l[i].toNat < 128)→u8ok l=u8ok (l.drop n)
 | 0,_,_=>by simp
 | n+1,hn,h=>by
  rw [u8ok_ascii_n (n:=n) (by omega) (fun i hi hi2=>h i hi (by omega))]
  rw [List.drop_eq_getElem_cons (show n < l.length by omega),u8ok_ascii (h n (by omega) (by omega))]
end Go.X
end
section
namespace Go.Proofs.YtbploiccompocaaGreatDoor
open Go Go.X Go.Proofs
set_option linter.unusedVariables false
def bN (l:Bs) (i:Nat):Nat:=(l[i]?.getD 0).toNat
theorem bN_lt (l:Bs) (i:Nat):bN l i < 256:=(l[i]?.getD 0).toNat_lt
theorem bl_byteN (l:Bs) (i:Nat):byteAt (bl l) i=((bN l i:Nat):Int):=bl_byteAt l i
def wordN (l:Bs):Nat:=word8 (bN l 0) (bN l 1) (bN l 2) (bN l 3) (bN l 4) (bN l 5) (bN l 6) (bN l 7)
theorem wordN_lt (l:Bs):wordN l < 18446744073709551616:=by
 have h:=bN_lt l
 have o:∀ a b:Nat,a < 2 ^ 64→b < 2 ^ 64→a ||| b < 2 ^ 64:=fun a b ha hb=>Nat.or_lt_two_pow ha hb
 show _ < 2 ^ 64
 unfold wordN word8
 refine o _ _ (o _ _ (o _ _ (o _ _ (o _ _ (o _ _ (o _ _ ?_ ?_) ?_) ?_) ?_) ?_) ?_) ?_
 ·have:=h 0;omega
 ·have:=h 1;omega
 ·have:=h 2;omega
 ·have:=h 3;omega
 ·have:=h 4;omega
 ·have:=h 5;omega
 ·have:=h 6;omega
 ·have:=h 7;omega
theorem mulcast (a k:Nat) (c:Int) (hc:c=((2 ^ k:Nat):Int)):(a:Int)*c=((a*2 ^ k:Nat):Int):=by rw [hc];omega
theorem word_pc {gl:Fr} {l:Bs} (hl:8≤l.length) {R:Int→Prop} (h:R (wordN l:Int)):PC Tryz.prog gl 170 [Arg.mk .str (bl l)] [.int .u64] R:=by
 apply pu_unicode_utf8_word_string
 refine⟨fun hx=>(by cases hx),fun _=>?_⟩
 simp only [bl_size,bl_byteN,show(0:Int).toNat=0 from rfl,show(1:Int).toNat=1 from rfl,show(2:Int).toNat=2 from rfl,show(3:Int).toNat=3 from rfl,show(4:Int).toNat=4 from rfl,show(5:Int).toNat=5 from rfl,show(6:Int).toNat=6 from rfl,show(7:Int).toNat=7 from rfl]
 refine⟨by omega,by omega,by omega,by omega,by omega,by omega,by omega,by omega,?_⟩
 have r:=bN_lt l
 have r0:=r 0;have r1:=r 1;have r2:=r 2;have r3:=r 3;have r4:=r 4;have r5:=r 5;have r6:=r 6;have r7:=r 7
 have m1:=mulcast (bN l 1) 8 (2 ^ 8) (by decide);have m2:=mulcast (bN l 2) 16 (2 ^ 16) (by decide);have m3:=mulcast (bN l 3) 24 (2 ^ 24) (by decide);have m4:=mulcast (bN l 4) 32 (2 ^ 32) (by decide)
 have m5:=mulcast (bN l 5) 40 (2 ^ 40) (by decide);have m6:=mulcast (bN l 6) 48 (2 ^ 48) (by decide);have m7:=mulcast (bN l 7) 56 (2 ^ 56) (by decide)
 have o:∀ a b:Nat,a < 18446744073709551616→b < 18446744073709551616→a ||| b < 18446744073709551616:=fun a b ha hb=>Nat.or_lt_two_pow (n:=64) ha hb
 have w:∀ n:Nat,n < 18446744073709551616→IntKind.wrap .u64 (n:Int)=(n:Int):=fun n hn=>wrapu64 (by omega) (by omega)
 rw [w (bN l 0) (by omega),w (bN l 1) (by omega),w (bN l 2) (by omega),w (bN l 3) (by omega),w (bN l 4) (by omega),w (bN l 5) (by omega),w (bN l 6) (by omega),w (bN l 7) (by omega),m1,m2,m3,m4,m5,m6,m7]
 rw [w (bN l 1*2 ^ 8) (by omega),w (bN l 2*2 ^ 16) (by omega),w (bN l 3*2 ^ 24) (by omega),w (bN l 4*2 ^ 32) (by omega),w (bN l 5*2 ^ 40) (by omega),w (bN l 6*2 ^ 48) (by omega),w (bN l 7*2 ^ 56) (by omega)]
 have q1:bN l 0 ||| bN l 1*2 ^ 8 < 18446744073709551616:=o _ _ (by omega) (by omega)
 have q2:=o _ (bN l 2*2 ^ 16) q1 (by omega)
 have q3:=o _ (bN l 3*2 ^ 24) q2 (by omega)
 have q4:=o _ (bN l 4*2 ^ 32) q3 (by omega)
 have q5:=o _ (bN l 5*2 ^ 40) q4 (by omega)
 have q6:=o _ (bN l 6*2 ^ 48) q5 (by omega)
 rw [or64 (by omega) (by omega),or64 q1 (by omega),or64 q2 (by omega),or64 q3 (by omega),or64 q4 (by omega),or64 q5 (by omega),or64 q6 (by omega)]
 exact h
theorem word_clear {l:Bs} (hl:8≤l.length) (h:wordN l &&& MASK=0):u8ok l=u8ok (l.drop 8):=by
 have hs:=word8_small (and_mask h) (bN_lt l 0) (bN_lt l 1) (bN_lt l 2) (bN_lt l 3) (bN_lt l 4) (bN_lt l 5) (bN_lt l 6) (bN_lt l 7)
 refine u8ok_ascii_n hl fun i hi hi8=>?_
 have e:∀ j (hj:j < l.length),bN l j=l[j].toNat:=fun j hj=>by unfold bN;rw [getDlt hj]
 obtain⟨s0,s1,s2,s3,s4,s5,s6,s7⟩:=hs
 have hi':i=0∨i=1∨i=2∨i=3∨i=4∨i=5∨i=6∨i=7:=by omega
 rw [← e i hi]
 rcases hi' with rfl | rfl | rfl | rfl | rfl | rfl | rfl | rfl <;> assumption
theorem or_zero {a b:Nat} (h:(a ||| b) &&& MASK=0):a &&& MASK=0∧b &&& MASK=0:=by
 have key:∀ x y:Nat,x ||| y=0→x=0:=by
  intro x y hxy
  apply Nat.eq_of_testBit_eq
  intro i
  have:=congrArg (fun z=>z.testBit i) hxy
  simp only [Nat.testBit_or,Nat.zero_testBit,Bool.or_eq_false_iff] at this
  rw [this.1,Nat.zero_testBit]
 have e:(a ||| b) &&& MASK=(a &&& MASK) ||| (b &&& MASK):=by
  apply Nat.eq_of_testBit_eq
  intro i
  simp only [Nat.testBit_and,Nat.testBit_or,Bool.and_or_distrib_right]
 rw [e] at h
 exact⟨key _ _ h,key _ _ (by rw [Nat.or_comm];exact h)⟩
theorem extD {l:Bs} {n:Int} {k:Nat} (hn:n=(k:Int)):(bl l).extract n.toNat ((l.length:Int)).toNat=bl (l.drop k):=by
 subst hn
 rw [Int.toNat_natCast,Int.toNat_natCast,bl_extract,List.take_of_length_le (by simp)]
theorem Tabs.first {gl:Fr} (h:Tabs gl) {c:Nat} (hc:c < 256):cellG gl 0 (0+c*1) (.int .u8 (Lib.firstT c)):=by
 obtain⟨⟨cs,a,b⟩,_⟩:=h
 exact⟨cs,a,by rw [Nat.zero_add,Nat.mul_one];exact b c hc⟩
theorem Tabs.acc {gl:Fr} (h:Tabs gl) {i:Nat} (hi:i < 16):cellG gl 1 (0+i*2) (.int .u8 (Lib.accLo i))∧cellG gl 1 (0+i*2+1) (.int .u8 (Lib.accHi i)):=by
 obtain⟨_,cs,a,b⟩:=h
 exact⟨⟨cs,a,by rw [Nat.zero_add,Nat.mul_comm];exact(b i hi).1⟩,⟨cs,a,by rw [Nat.zero_add,Nat.mul_comm];exact(b i hi).2⟩⟩
end Go.Proofs.YtbploiccompocaaGreatDoor
end
section
namespace Go.Proofs.YtbploiccompocaaGreatDoor
open Go Go.X Go.Proofs
set_option linter.unusedVariables false
theorem dec_bN {m:Bs} (h:m≠[]):dec m=Lib.decodeN m.length (bN m 0) (bN m 1) (bN m 2) (bN m 3):=by
 simp only [dec,bN,List.getD_eq_getElem?_getD]
theorem ok0 {m:Bs} (h:m≠[]) (hb:128≤bN m 0∧bN m 0 < 194∨245≤bN m 0∧bN m 0 < 256):u8ok m=false:=by
 rw [u8ok_step h,dec_bN h,dec0 hb];rfl
theorem ok2 {m:Bs} (h:m≠[]) (hb:194≤bN m 0∧bN m 0 < 224):u8ok m=(decide (2≤m.length∧128≤bN m 1∧bN m 1≤191) && u8ok (m.drop 2)):=by
 rw [u8ok_step h,dec_bN h,dec2 hb (bN_lt m 1)]
 by_cases hc:2≤m.length∧128≤bN m 1∧bN m 1≤191
 ·rw [if_pos hc];simp [badD,hc]
 ·rw [if_neg hc];simp [badD,hc]
theorem ifc {α:Type} {p q:Prop} [Decidable p] [Decidable q] {a b:α} (h:p↔q):(if p then a else b)=if q then a else b:=by
 by_cases hp:p
 ·rw [if_pos hp,if_pos (h.1 hp)]
 ·rw [if_neg hp,if_neg (fun hq=>hp (h.2 hq))]
theorem dec3' {n b0 b1 b2 b3 lo hi:Nat} (h:224≤b0∧b0 < 240) (h1:b1 < 256) (h2:b2 < 256) (hlo:lo=if b0=224 then 160 else 128) (hhi:hi=if b0=237 then 159 else 191):Lib.decodeN n b0 b1 b2 b3=
  if 3≤n∧(lo≤b1∧b1≤hi)∧128≤b2∧b2≤191 then(((b0 - 224)*64+(b1 - 128))*64+(b2 - 128),3) else(65533,1):=by
 rw [dec3 h h1 h2]
 refine ifc ?_
 split at hlo <;> split at hhi <;> omega
theorem dec4' {n b0 b1 b2 b3 lo hi:Nat} (h:240≤b0∧b0 < 245) (h1:b1 < 256) (h2:b2 < 256) (h3:b3 < 256) (hlo:lo=if b0=240 then 144 else 128) (hhi:hi=if b0=244 then 143 else 191):Lib.decodeN n b0 b1 b2 b3=
  if 4≤n∧(lo≤b1∧b1≤hi)∧(128≤b2∧b2≤191)∧128≤b3∧b3≤191 then((((b0 - 240)*64+(b1 - 128))*64+(b2 - 128))*64+(b3 - 128),4) else(65533,1):=by
 rw [dec4 h h1 h2 h3]
 refine ifc ?_
 split at hlo <;> split at hhi <;> omega
theorem ok3 {m:Bs} (h:m≠[]) (hb:224≤bN m 0∧bN m 0 < 240) {lo hi:Nat} (hlo:lo=if bN m 0=224 then 160 else 128) (hhi:hi=if bN m 0=237 then 159 else 191):
  u8ok m=(decide (3≤m.length∧(lo≤bN m 1∧bN m 1≤hi)∧128≤bN m 2∧bN m 2≤191) && u8ok (m.drop 3)):=by
 rw [u8ok_step h,dec_bN h,dec3' hb (bN_lt m 1) (bN_lt m 2) hlo hhi]
 by_cases hc:3≤m.length∧(lo≤bN m 1∧bN m 1≤hi)∧128≤bN m 2∧bN m 2≤191
 ·rw [if_pos hc];simp [badD,hc]
 ·rw [if_neg hc];simp [badD,hc]
theorem ok4 {m:Bs} (h:m≠[]) (hb:240≤bN m 0∧bN m 0 < 245) {lo hi:Nat} (hlo:lo=if bN m 0=240 then 144 else 128) (hhi:hi=if bN m 0=244 then 143 else 191):
  u8ok m=(decide (4≤m.length∧(lo≤bN m 1∧bN m 1≤hi)∧(128≤bN m 2∧bN m 2≤191)∧128≤bN m 3∧bN m 3≤191) && u8ok (m.drop 4)):=by
 rw [u8ok_step h,dec_bN h,dec4' hb (bN_lt m 1) (bN_lt m 2) (bN_lt m 3) hlo hhi]
 by_cases hc:4≤m.length∧(lo≤bN m 1∧bN m 1≤hi)∧(128≤bN m 2∧bN m 2≤191)∧128≤bN m 3∧bN m 3≤191
 ·rw [if_pos hc];simp [badD,hc]
 ·rw [if_neg hc];simp [badD,hc]
set_option maxHeartbeats 2000000 in
theorem ValidString_pc {gl:Fr} (hg:Tabs gl) {l:Bs} (hl:l.length≤4611686018427387904) {R:Bool→Prop} (h:R (u8ok l)):PC Tryz.prog gl 141 [Arg.mk .str (bl l)] [.bool] R:=by
 apply pu_unicode_utf8_ValidString
 refine⟨fun s=>∃ m:Bs,s=bl m∧u8ok m=u8ok l∧m.length≤l.length,fun s=>s.size,⟨l,rfl,rfl,Nat.le_refl _⟩,?_⟩
 rintro s ⟨m,rfl,hm,hml⟩
 simp only [bl_size,bl_byteN,show(0:Int).toNat=0 from rfl,extD (l:=m) (n:=1) (k:=1) rfl,extD (l:=m) (n:=2) (k:=2) rfl,extD (l:=m) (n:=3) (k:=3) rfl,extD (l:=m) (n:=4) (k:=4) rfl]
 refine⟨fun hc=>?_,fun hc=>?_⟩
 rotate_left
 ·have:m=[]:=by
   have:¬ (m.length:Int) > 0:=by simpa using hc
   exact List.eq_nil_of_length_eq_zero (by omega)
  subst this
  rw [u8ok_nil] at hm
  rw [← hm] at h;exact h
 have hp:0 < m.length:=by simp at hc;omega
 have hne:m≠[]:=List.length_pos_iff.1 hp
 refine⟨by omega,fun ha=>⟨by omega,?_⟩,fun ha=>?_⟩
 ·have hb:bN m 0 < 128:=by simp at ha;omega
  obtain⟨c,t,rfl⟩:=List.exists_cons_of_ne_nil hne
  simp only [List.drop_one,List.tail_cons]
  have hm':u8ok t=u8ok l:=by rw [← hm];exact(u8ok_ascii hb).symm
  simp only [List.length_cons] at hml ⊢
  simp only [extD (l:=t) (n:=8) (k:=8) rfl,bl_size]
  refine⟨fun r=>r=(wordN t:Int),fun hq=>word_pc (by simp at hq;omega) rfl,fun r hr=>⟨fun hx=>?_,fun hx=>⟨⟨t,rfl,hm',by omega⟩,by omega⟩⟩⟩
  have h8:8 < t.length:=by
   cases hd:decide ((t.length:Int) > 8) with
   | true=>simp at hd;omega
   | false=>rw [hd] at hx;cases hx
  have hd8:decide ((t.length:Int) > 8)=true:=by simp;omega
  have hr':=hr hd8
  rw [hd8,cond_true,hr',show(9259542123273814144:Int)=((MASK:Nat):Int) from rfl,and64 (wordN_lt t) (by decide)] at hx
  have hz:wordN t &&& MASK=0:=by
   have:((wordN t &&& MASK:Nat):Int)=0:=by simpa using hx
   omega
  have hm2:u8ok (t.drop 8)=u8ok l:=by rw [← hm',word_clear (by omega) hz]
  have hul:(t.drop 8).length+8=t.length:=by simp;omega
  generalize t.drop 8=u at *
  simp only [extD (l:=u) (n:=8) (k:=8) rfl,extD (l:=u) (n:=16) (k:=16) rfl]
  refine⟨by omega,fun hq=>by simp at hq;omega,fun r=>r=(wordN u:Int),fun hq=>word_pc (by simp at hq;omega) rfl,fun r35 hr35=>⟨fun r=>r=(wordN (u.drop 8):Int),fun hq=>word_pc (by simp at hq ⊢;omega) rfl,fun r37 hr37=>⟨fun hx2=>?_,fun hx2=>⟨⟨u,rfl,hm2,by omega⟩,by omega⟩⟩⟩⟩
  have h16:16 < u.length:=by
   cases hd:decide ((u.length:Int) > 16) with
   | true=>simp at hd;omega
   | false=>rw [hd] at hx2;cases hx2
  have hd16:decide ((u.length:Int) > 16)=true:=by simp;omega
  rw [hd16,cond_true,hr35 hd16,hr37 hd16,or64 (wordN_lt _) (wordN_lt _),show(9259542123273814144:Int)=((MASK:Nat):Int) from rfl,and64 (Nat.or_lt_two_pow (n:=64) (wordN_lt _) (wordN_lt _)) (by decide)] at hx2
  have hz2:(wordN u ||| wordN (u.drop 8)) &&& MASK=0:=by
   have:(((wordN u ||| wordN (u.drop 8)) &&& MASK:Nat):Int)=0:=by simpa using hx2
   omega
  obtain⟨z1,z2⟩:=or_zero hz2
  have hm3:u8ok (u.drop 16)=u8ok l:=by
   rw [← hm2,word_clear (by omega) z1,word_clear (l:=u.drop 8) (by simp;omega) z2,List.drop_drop]
  refine⟨by omega,fun s=>∃ m':Bs,s=bl m'∧u8ok m'=u8ok l∧m'.length < (c::t).length,fun s=>s.size,⟨u.drop 16,rfl,hm3,by simp;omega⟩,?_⟩
  rintro s ⟨v,rfl,hv,hvl⟩
  simp only [List.length_cons] at hvl
  simp only [bl_size,extD (l:=v) (n:=8) (k:=8) rfl,extD (l:=v) (n:=16) (k:=16) rfl,extD (l:=v) (n:=24) (k:=24) rfl,extD (l:=v) (n:=32) (k:=32) rfl]
  refine⟨fun hq=>by simp at hq;omega,fun hq=>by simp at hq;omega,fun hq=>by simp at hq;omega,fun r=>r=(wordN v:Int),fun hq=>word_pc (by simp at hq;omega) rfl,fun r50 hr50=>⟨fun r=>r=(wordN (v.drop 8):Int),fun hq=>word_pc (by simp at hq ⊢;omega) rfl,fun r52 hr52=>
   ⟨fun r=>r=(wordN (v.drop 16):Int),fun hq=>word_pc (by simp at hq ⊢;omega) rfl,fun r54 hr54=>⟨fun r=>r=(wordN (v.drop 24):Int),fun hq=>word_pc (by simp at hq ⊢;omega) rfl,fun r56 hr56=>⟨fun hx3=>?_,fun hx3=>⟨⟨v,rfl,hv,by omega⟩,by omega⟩⟩⟩⟩⟩⟩
  have h32:32 < v.length:=by
   cases hd:decide ((v.length:Int) > 32) with
   | true=>simp at hd;omega
   | false=>rw [hd] at hx3;cases hx3
  have hd32:decide ((v.length:Int) > 32)=true:=by simp;omega
  have o2:∀ a b:Nat,a < 18446744073709551616→b < 18446744073709551616→a ||| b < 18446744073709551616:=fun a b ha hb=>Nat.or_lt_two_pow (n:=64) ha hb
  rw [hd32,cond_true,hr50 hd32,hr52 hd32,hr54 hd32,hr56 hd32,or64 (wordN_lt _) (wordN_lt _),or64 (wordN_lt _) (wordN_lt _),or64 (o2 _ _ (wordN_lt _) (wordN_lt _)) (o2 _ _ (wordN_lt _) (wordN_lt _)),show(9259542123273814144:Int)=((MASK:Nat):Int) from rfl,
   and64 (o2 _ _ (o2 _ _ (wordN_lt _) (wordN_lt _)) (o2 _ _ (wordN_lt _) (wordN_lt _))) (by decide)] at hx3
  have hz3:((wordN v ||| wordN (v.drop 8)) ||| (wordN (v.drop 16) ||| wordN (v.drop 24))) &&& MASK=0:=by
   have:((((wordN v ||| wordN (v.drop 8)) ||| (wordN (v.drop 16) ||| wordN (v.drop 24))) &&& MASK:Nat):Int)=0:=by simpa using hx3
   omega
  obtain⟨y1,y2⟩:=or_zero hz3
  obtain⟨x1,x2⟩:=or_zero y1
  obtain⟨x3,x4⟩:=or_zero y2
  refine⟨by omega,⟨v.drop 32,rfl,?_,by simp;omega⟩,by simp;omega⟩
  rw [← hv,word_clear (by omega) x1,word_clear (l:=v.drop 8) (by simp;omega) x2,List.drop_drop,word_clear (l:=v.drop (8+8)) (by simp;omega) x3,List.drop_drop,word_clear (l:=v.drop (8+8+8)) (by simp;omega) x4,List.drop_drop]
 ·have hb:128≤bN m 0:=by simp at ha;omega
  have hb2:=bN_lt m 0
  have hX:=Lib.firstT_cases (bN m 0)
  have hr1:=bN_lt m 1;have hr2:=bN_lt m 2;have hr3:=bN_lt m 3
  refine⟨by omega,(Lib.firstT (bN m 0):Int),by simpa using hg.first hb2,?_⟩
  obtain⟨i,lo,hi,k,e2,e3,e4,e5,e6,k1,k2,k3,k4,hk⟩:∃ i lo hi k:Nat,((Lib.firstT (bN m 0):Int).fdiv (2 ^ 4))=(i:Int)∧i < 16∧Lib.accLo i=lo∧Lib.accHi i=hi ∧
    (IntKind.wrap .i64 (IntKind.wrap .u8 (((BitVec.ofInt (IntKind.bits .u8) (Lib.firstT (bN m 0):Int)) &&& (BitVec.ofInt (IntKind.bits .u8) 7)).toNat:Int)):Int)=(k:Int) ∧
    (k=1→u8ok m=false)∧(k=2→u8ok m=(decide (2≤m.length∧lo≤bN m 1∧bN m 1≤hi) && u8ok (m.drop 2))) ∧
    (k=3→u8ok m=(decide (3≤m.length∧(lo≤bN m 1∧bN m 1≤hi)∧128≤bN m 2∧bN m 2≤191) && u8ok (m.drop 3))) ∧
    (k=4→u8ok m=(decide (4≤m.length∧(lo≤bN m 1∧bN m 1≤hi)∧(128≤bN m 2∧bN m 2≤191)∧128≤bN m 3∧bN m 3≤191) && u8ok (m.drop 4)))∧(k=1∨k=2∨k=3∨k=4):=by
   have cls:∀ v,Lib.firstT (bN m 0)=v→(v=241→(128≤bN m 0∧bN m 0 < 194)∨(245≤bN m 0∧bN m 0 < 256))∧(v=2→194≤bN m 0∧bN m 0 < 224)∧(v=19→bN m 0=224)∧(v=3→(225≤bN m 0∧bN m 0 < 240∧bN m 0≠237))∧(v=35→bN m 0=237)∧(v=52→bN m 0=240)∧(v=4→241≤bN m 0∧bN m 0 < 244)∧(v=68→bN m 0=244)∧v≠240:=by
    intro v hv
    unfold Lib.firstT at hv
    repeat' split at hv
    all_goals omega
   have cl:=cls _ rfl
   rcases hX with hX | hX | hX | hX | hX | hX | hX | hX | hX
   ·exact absurd hX cl.2.2.2.2.2.2.2.2
   ·exact⟨15,0,0,1,by rw [hX];decide,(by decide),rfl,rfl,by rw [hX];decide,(fun _=>ok0 hne (cl.1 hX)),(fun e=>by omega),(fun e=>by omega),(fun e=>by omega),(by omega)⟩
   ·exact⟨0,128,191,2,by rw [hX];decide,(by decide),rfl,rfl,by rw [hX];decide,(fun e=>by omega),(fun _=>ok2 hne (cl.2.1 hX)),(fun e=>by omega),(fun e=>by omega),(by omega)⟩
   ·have c:=cl.2.2.1 hX
    exact⟨1,160,191,3,by rw [hX];decide,(by decide),rfl,rfl,by rw [hX];decide,(fun e=>by omega),(fun e=>by omega),(fun _=>ok3 hne (by omega) (by rw [if_pos c]) (by rw [if_neg (by omega)])),(fun e=>by omega),(by omega)⟩
   ·have c:=cl.2.2.2.1 hX
    exact⟨0,128,191,3,by rw [hX];decide,(by decide),rfl,rfl,by rw [hX];decide,(fun e=>by omega),(fun e=>by omega),(fun _=>ok3 hne (by omega) (by rw [if_neg (by omega)]) (by rw [if_neg (by omega)])),(fun e=>by omega),(by omega)⟩
   ·have c:=cl.2.2.2.2.1 hX
    exact⟨2,128,159,3,by rw [hX];decide,(by decide),rfl,rfl,by rw [hX];decide,(fun e=>by omega),(fun e=>by omega),(fun _=>ok3 hne (by omega) (by rw [if_neg (by omega)]) (by rw [if_pos c])),(fun e=>by omega),(by omega)⟩
   ·have c:=cl.2.2.2.2.2.1 hX
    exact⟨3,144,191,4,by rw [hX];decide,(by decide),rfl,rfl,by rw [hX];decide,(fun e=>by omega),(fun e=>by omega),(fun e=>by omega),(fun _=>ok4 hne (by omega) (by rw [if_pos c]) (by rw [if_neg (by omega)])),(by omega)⟩
   ·have c:=cl.2.2.2.2.2.2.1 hX
    exact⟨0,128,191,4,by rw [hX];decide,(by decide),rfl,rfl,by rw [hX];decide,(fun e=>by omega),(fun e=>by omega),(fun e=>by omega),(fun _=>ok4 hne (by omega) (by rw [if_neg (by omega)]) (by rw [if_neg (by omega)])),(by omega)⟩
   ·have c:=cl.2.2.2.2.2.2.2.1 hX
    exact⟨4,128,143,4,by rw [hX];decide,(by decide),rfl,rfl,by rw [hX];decide,(fun e=>by omega),(fun e=>by omega),(fun e=>by omega),(fun _=>ok4 hne (by omega) (by rw [if_neg (by omega)]) (by rw [if_pos c])),(by omega)⟩
  generalize Lib.firstT (bN m 0)=x at *
  rw [e2,e6]
  have ac:=hg.acc e3
  rw [e4,e5] at ac
  simp only [show(1:Int).toNat=1 from rfl,show(2:Int).toNat=2 from rfl,show(3:Int).toNat=3 from rfl]
  have bad:u8ok m=false→R false:=fun e=>by rw [← hm,e] at h;exact h
  refine⟨by omega,(lo:Int),by simpa using ac.1,(hi:Int),by simpa using ac.2,?_,?_⟩
  ·intro hx
   have hk2:k=2:=by simp at hx;omega
   have q:=k2 hk2
   refine⟨fun hy=>by simp at hy;omega,fun hy=>by simp at hy;omega,fun hy=>bad ?_,fun hy=>?_⟩
   ·simp only [Bool.cond_true_left,Bool.or_eq_true,decide_eq_true_eq] at hy
    rw [q,decide_eq_false (by omega)];rfl
   ·simp only [Bool.cond_true_left,Bool.or_eq_false_iff,decide_eq_false_iff_not] at hy
    refine⟨by omega,⟨m.drop 2,rfl,?_,by simp;omega⟩,by simp;omega⟩
    rw [← hm,q,decide_eq_true (by omega)];simp
  ·intro hx
   refine⟨fun hx3=>?_,fun hx3=>⟨fun hx4=>?_,fun hx4=>?_⟩⟩
   ·have hk3:k=3:=by simp at hx3;omega
    have q:=k3 hk3
    refine⟨fun hy=>by simp at hy;omega,fun hy=>by simp at hy;omega,fun hy=>by simp at hy;omega,fun hy=>by simp at hy;omega,fun hy=>bad ?_,fun hy=>?_⟩
    ·simp only [Bool.cond_true_left,Bool.or_eq_true,decide_eq_true_eq] at hy
     rw [q,decide_eq_false (by omega)];rfl
    ·simp only [Bool.cond_true_left,Bool.or_eq_false_iff,decide_eq_false_iff_not] at hy
     refine⟨by omega,⟨m.drop 3,rfl,?_,by simp;omega⟩,by simp;omega⟩
     rw [← hm,q,decide_eq_true (by omega)];simp
   ·have hk4:k=4:=by simp at hx4;omega
    have q:=k4 hk4
    refine⟨fun hy=>by simp at hy;omega,fun hy=>by simp at hy;omega,fun hy=>by simp at hy;omega,fun hy=>by simp at hy;omega,fun hy=>by simp at hy;omega,fun hy=>by simp at hy;omega,fun hy=>bad ?_,fun hy=>?_⟩
    ·simp only [Bool.cond_true_left,Bool.or_eq_true,decide_eq_true_eq] at hy
     rw [q,decide_eq_false (by omega)];rfl
    ·simp only [Bool.cond_true_left,Bool.or_eq_false_iff,decide_eq_false_iff_not] at hy
     refine⟨by omega,⟨m.drop 4,rfl,?_,by simp;omega⟩,by simp;omega⟩
     rw [← hm,q,decide_eq_true (by omega)];simp
   ·refine bad (k1 ?_)
    simp at hx hx3 hx4;omega
end Go.Proofs.YtbploiccompocaaGreatDoor
end
section
namespace Go.X
open Go Go.Lib
set_option linter.unusedVariables false
mutual
def tsz:Tr→Nat | .mk _ _ _ xs=>1+tszL xs
def tszL:List Tr→Nat | []=>0 | x::l=>tsz x+tszL l
end
mutual
def tdp:Tr→Nat | .mk _ _ _ xs=>tdpL xs+1
def tdpL:List Tr→Nat | []=>0 | x::l=>max (tdp x) (tdpL l)
end
mutual
def allT (p:Tr→Bool):Tr→Bool | .mk k s ks xs=>p (.mk k s ks xs) && allTL p xs
def allTL (p:Tr→Bool):List Tr→Bool | []=>true | x::l=>allT p x && allTL p l
end
mutual
def txB (m:Nat):Tr→Prop | .mk _ s ks xs=>(s.size≤m∧ks.length≤m∧∀ k∈ks,k.size≤m)∧txBL m xs
def txBL (m:Nat):List Tr→Prop | []=>True | x::l=>txB m x∧txBL m l
end
theorem tsz_eq (v:Tr):tsz v=1+tszL v.items:=by cases v;rw [tsz]
theorem tdp_eq (v:Tr):tdp v=tdpL v.items+1:=by cases v;rw [tdp]
theorem allT_eq (p:Tr→Bool) (v:Tr):allT p v=(p v && allTL p v.items):=by cases v;rw [allT]
theorem txB_eq (m:Nat) (v:Tr):txB m v↔(v.text.size≤m∧v.keys.length≤m∧∀ k∈v.keys,k.size≤m)∧txBL m v.items:=by cases v;rw [txB]
theorem txBL_mem {m:Nat}:∀ {l:List Tr},txBL m l↔∀ x∈l,txB m x
 | []=>by simp [txBL]
 | x::l=>by rw [txBL,txBL_mem];simp
theorem txB_item {m:Nat} {v x:Tr} (h:txB m v) (hx:x∈v.items):txB m x:=txBL_mem.1 ((txB_eq m v).1 h).2 x hx
theorem allTL_all (p:Tr→Bool):∀ l:List Tr,allTL p l=l.all (allT p)
 | []=>rfl
 | x::l=>by rw [allTL,allTL_all p l];rfl
theorem tszL_append:∀ a b:List Tr,tszL (a++b)=tszL a+tszL b
 | [],b=>by simp [tszL]
 | x::l,b=>by rw [List.cons_append,tszL,tszL,tszL_append l b];omega
theorem tdpL_append:∀ a b:List Tr,tdpL (a++b)=max (tdpL a) (tdpL b)
 | [],b=>by simp [tdpL]
 | x::l,b=>by rw [List.cons_append,tdpL,tdpL,tdpL_append l b];omega
theorem tszL_mem {x:Tr}:∀ {l:List Tr},x∈l→tsz x≤tszL l
 | y::l,h=>by
  rw [tszL]
  rcases List.mem_cons.1 h with rfl | h
  ·omega
  ·have:=tszL_mem h;omega
theorem tsz_item {v x:Tr} (h:x∈v.items):tsz x < tsz v:=by
 have:=tszL_mem h
 rw [tsz_eq v];omega
theorem tszL_len:∀ l:List Tr,l.length≤tszL l
 | []=>by simp [tszL]
 | x::l=>by
  have:=tszL_len l
  rw [tszL,List.length_cons,tsz_eq];omega
theorem tsz_pos (v:Tr):0 < tsz v:=by rw [tsz_eq];omega
theorem tszL_take {l:List Tr} {k:Nat} (hk:k < l.length):tszL (l.take (k+1))=tszL (l.take k)+tsz l[k]:=by
 rw [List.take_succ_eq_append_getElem hk,tszL_append];simp [tszL]
theorem tdpL_take {l:List Tr} {k:Nat} (hk:k < l.length):tdpL (l.take (k+1))=max (tdpL (l.take k)) (tdp l[k]):=by
 rw [List.take_succ_eq_append_getElem hk,tdpL_append];simp [tdpL]
mutual
theorem tdp_le:∀ v:Tr,tdp v≤tsz v
 | .mk _ _ _ xs=>by rw [tdp,tsz];have:=tdpL_le xs;omega
theorem tdpL_le:∀ l:List Tr,tdpL l≤tszL l
 | []=>by simp [tdpL]
 | x::l=>by rw [tdpL,tszL];have:=tdp_le x;have:=tdpL_le l;omega
end
def keysOk (ks:List ByteArray):Bool:=ks.all (fun k=>u8ok (lb k)) && decide ks.Nodup
def decS (s:Bs):Nm×Bool:=((numParse s).1,(numParse s).2==0 && decide (nmText (numParse s).1=s))
def holeOk (s:Bs):Bool:=(decS s).2 && (nmInt (decS s).1).2 && decide (0≤(nmInt (decS s).1).1)
def nodeOk (v:Tr):Bool:=
 if v.kind=1 then lb v.text==[] && v.keys.isEmpty && v.items.isEmpty
 else if v.kind=2 then(lb v.text==[116,114,117,101] || lb v.text==[102,97,108,115,101]) && v.keys.isEmpty && v.items.isEmpty
 else if v.kind=3 then(decS (lb v.text)).2 && v.keys.isEmpty && v.items.isEmpty
 else if v.kind=4 then u8ok (lb v.text) && v.keys.isEmpty && v.items.isEmpty
 else if v.kind=5 then lb v.text==[] && v.keys.isEmpty
 else if v.kind=6 then keysOk v.keys && decide (v.keys.length=v.items.length) && lb v.text==[]
 else if v.kind=7 then holeOk (lb v.text) && v.keys.isEmpty && v.items.isEmpty
 else false
def sizedT (v:Tr):Bool:=decide (tsz v≤4096) && decide (tdp v≤32)
def openT (v:Tr):Bool:=sizedT v && allT nodeOk v
def rightT (v:Tr):Bool:=sizedT v && allT (fun x=>decide (x.kind≠7) && nodeOk x) v
structure Sm (v:Tr):Prop where
 sz:tsz v≤1000000000000
 tx:txB 1048576 v
theorem Sm.item {v x:Tr} (h:Sm v) (hx:x∈v.items):Sm x:=⟨by have:=tsz_item hx;have:=h.sz;omega,txB_item h.tx hx⟩
theorem Sm.text {v:Tr} (h:Sm v):(lb v.text).length≤1048576:=by rw [lb_len];exact((txB_eq _ v).1 h.tx).1.1
theorem Sm.key {v:Tr} (h:Sm v) {k:ByteArray} (hk:k∈v.keys):(lb k).length≤1048576:=by rw [lb_len];exact((txB_eq _ v).1 h.tx).1.2.2 k hk
theorem Sm.keys {v:Tr} (h:Sm v):v.keys.length≤1048576:=((txB_eq _ v).1 h.tx).1.2.1
theorem Sm.items {v:Tr} (h:Sm v):v.items.length≤1000000000000:=by have:=tszL_len v.items;have:=h.sz;rw [tsz_eq] at this;omega
end Go.X
end
section
namespace Go.Proofs.YtbploiccompocaaGreatDoor
open Go Go.X Go.Proofs
set_option linter.unusedVariables false
theorem Valid_pc {gl : Fr} (hg : Tabs gl) {l : Bs} (hl : l.length ≤ 4611686018427387904) {R : Int × Bool → Prop} (h : ∀ k, R (k, u8ok l)) : PC Tryz.prog gl 113 [Arg.mk .str (bl l)] [.int .i64, .bool] R := by
  apply pu_runes_Valid
  refine ValidString_pc hg hl ⟨fun hx => ?_, fun hx => ?_⟩
  · have := h ((bl l).size : Int); rw [hx] at this; exact this
  · refine ⟨fun p => p.1 = bl l ∧ p.2 ≤ l.length ∧ u8ok (l.drop p.2) = false, fun p => l.length - p.2, ⟨rfl, by omega, by simpa using hx⟩, ?_⟩
    rintro ⟨_, p⟩ ⟨rfl, hp, h2⟩
    simp only at hp h2 ⊢
    rw [nxB_bl, nxR_bl]
    refine ⟨fun hc => ⟨hc, hc, fun hq => ?_, fun hq => ⟨?_, ?_⟩⟩, fun hc => ?_⟩
    · have hc' : p < l.length := by simpa using hc
      have hne : l.drop p ≠ [] := fun e => by have := congrArg List.length e; simp at this; omega
      have hb : badD (dec (l.drop p)) = false := by
        unfold badD
        have : ¬ (dec (l.drop p)).1 = 65533 := fun e => by rw [e] at hq; simp at hq
        simp [this]
      rw [u8ok_step hne, hb] at h2
      simp only [Bool.false_eq_true, if_false, List.drop_drop] at h2
      rw [nxP_bl l p hc']
      have hw := dec_width (l.drop p); have hle := dec_le hne
      simp only [List.length_drop] at hle
      exact ⟨⟨trivial, by omega, h2⟩, by omega⟩
    · have hc' : p < l.length := by simpa using hc
      rw [bl_size]; omega
    · have hc' : p < l.length := by simpa using hc
      have hne : l.drop p ≠ [] := fun e => by have := congrArg List.length e; simp at this; omega
      rw [bl_size, extD (k := p) rfl]
      refine Decode_pc hg ?_
      have hsz : (bl (l.drop p)).size ≠ 0 := by rw [bl_size]; simp; omega
      have hd : Lib.decodeGo (bl (l.drop p)) = dec (l.drop p) := by
        unfold Lib.decodeGo
        rw [if_neg hsz, dec_at, lb_bl, List.drop_zero]
      rw [hd]
      refine ⟨fun hx1 => ?_, fun hx1 => ?_⟩
      · have := h (p : Int)
        have hu : u8ok l = false := hx
        rw [hu] at this; exact this
      · have hb : badD (dec (l.drop p)) = false := by
          unfold badD
          have : ¬ (dec (l.drop p)).2 = 1 := fun e => by rw [e] at hx1; simp at hx1
          simp [this]
        rw [u8ok_step hne, hb] at h2
        simp only [Bool.false_eq_true, if_false, List.drop_drop] at h2
        rw [nxP_bl l p hc']
        have hw := dec_width (l.drop p); have hle := dec_le hne
        simp only [List.length_drop] at hle
        exact ⟨⟨trivial, by omega, h2⟩, by omega⟩
    · have : l.drop p = [] := List.drop_eq_nil_of_le (by have : ¬ p < l.length := by simpa using hc
                                                         omega)
      rw [this, u8ok_nil] at h2; cases h2
theorem plain_pc {gl:Fr} (hg:Tabs gl) {l:Bs} (hl:l.length≤4611686018427387904) {R:Bool→Prop} (h:R (u8ok l)):PC Tryz.prog gl 75 [Arg.mk .str (bl l)] [.bool] R:=by
 apply pu_pointer_plain
 exact Valid_pc hg hl fun k=>h
theorem vplain_pc {gl:Fr} (hg:Tabs gl) {l:Bs} (hl:l.length≤4611686018427387904) {R:Bool→Prop} (h:R (u8ok l)):PC Tryz.prog gl 84 [Arg.mk .str (bl l)] [.bool] R:=by
 apply pu_value_plain
 exact Valid_pc hg hl fun k=>h
structure GL (gl:Fr):Prop where
 tabs:Tabs gl
 pow:Pow gl
 max:MaxLen gl
 err:ErrVars gl
theorem numParse_len (s:Bs) (hs:s.length≤1152921504606846976):(numParse s).1.2.1.length≤4611686018427387904:=by
 unfold numParse
 split
 ·simp
 ·rename_i x hx
  have h1:=numLit_len hx
  split
  ·simp
  ·split
   ·simp
   ·simp only
    generalize (if x.low=true then - (decVal (x.exp.dropWhile (· == 48)):Int) else decVal (x.exp.dropWhile (· == 48)))=e
    split
    ·simp
    ·rename_i hne
     have h2:(shortOf (x.whole++x.rest)).length≤(x.whole++x.rest).length:=by
      unfold shortOf
      rw [List.length_reverse]
      refine Nat.le_trans (dropWhile_len _ _) ?_
      rw [List.length_reverse]
      exact dropWhile_len _ _
     rw [List.length_append] at h2
     split
     ·show(shortOf (x.whole++x.rest)).length≤_;omega
     ·simp
theorem vdecimal_pc {gl:Fr} (hg:GL gl) {s:Bs} (hs:s.length≤1152921504606846976) {R:(Bool×ByteArray×Int)×Bool→Prop} (h:R (nmB (decS s).1,(decS s).2)):PC Tryz.prog gl 83 [Arg.mk .str (bl s)] [tN,.bool] R:=by
 apply pu_value_decimal
 refine parse_pc hs ?_
 refine⟨fun t=>t=bl (nmText (numParse s).1),fun _=>text_pc hg.pow (numParse_len s hs) rfl,fun r hr=>?_⟩
 have e:(bif ((numParse s).2==0) then(r.toList==(bl s).toList) else false)=(decS s).2:=by
  unfold decS
  cases hc:((numParse s).2==0) with
  | false=>rfl
  | true=>
   rw [hr hc,cond_true,bl_eq];rfl
 simp only at e ⊢
 rw [e];exact h
theorem repeat0 (n:Nat):Lib.repeatL [48] n=List.replicate n 48:=by
 induction n with
 | zero=>rfl
 | succ n ih=>rw [Lib.repeatL,ih];rfl
theorem int_pc {gl:Fr} (hg:GL gl) {n:Nm} (hn:n.2.1.length≤4611686018427387904) {R:Int×Bool→Prop} (h:R (nmInt n)):PC Tryz.prog gl 119 [Arg.mk tN (nmB n)] [.int .i64,.bool] R:=by
 apply pu_number_Int
 refine right_pc hn ?_
 unfold nmInt at h
 cases hr:nmRight n with
 | false=>
  rw [hr] at h
  exact⟨fun _=>by simpa using h,fun hx=>by simp at hx⟩
 | true=>
  obtain⟨hl,he1,he2⟩:=nmRight_len hr
  rw [hr] at h
  simp only [Bool.true_and] at h
  simp only [bl_size]
  rw [w64 (by omega)]
  refine⟨fun hx=>?_,fun hx=>?_⟩
  ·rw [if_neg] at h
   ·exact h
   ·simp at hx ⊢;omega
  ·have hx':0≤n.2.2∧(n.2.1.length:Int)+n.2.2≤19:=by simp at hx;omega
   rw [if_pos (by simp;omega)] at h
   rw [← intDig_val] at h
   obtain⟨e,hE⟩:∃ e:Nat,n.2.2=(e:Int):=⟨n.2.2.toNat,by omega⟩
   show PC Tryz.prog gl 146 [Arg.mk .str (bl [48]),Arg.mk (.int .i64) n.2.2] [.str] _
   rw [hE]
   refine Repeat_pc (by omega) (by rw [bl_size];simp;omega) ?_
   rw [lb_bl,repeat0,bl_append]
   have hid:n.2.1++List.replicate e 48=intDig n:=by rw [intDig,hE,Int.toNat_natCast]
   have hidl:(intDig n).length≤19:=by rw [← hid];simp;omega
   have hda:=intDig_all hr
   rw [hid]
   refine⟨fits2 (a:=n.2.1) (by rw [List.length_replicate];omega),?_⟩
   rw [show(⟨#[]⟩:ByteArray)=bl [] from rfl,show(⟨#[45]⟩:ByteArray)=bl [45] from rfl]
   simp only [bl_append]
   intro K hK
   have key:∀ t:Bs,t=(if n.1 then [45] else [])++intDig n→K (bl t):=by
    intro t ht
    refine hK _ ⟨fun hz=>?_,fun hz=>?_⟩
    ·have hte:t=[]:=by
      have:=bl_eq t []
      rw [this] at hz;simpa using hz
     rw [hte] at ht
     have hn1:n.1=false:=by cases hb:n.1 <;> simp [hb] at ht;rfl
     have hi0:intDig n=[]:=by simp [hn1] at ht;exact ht
     rw [hn1,hi0] at h
     exact h
    ·have hne:t≠[]:=by
      intro e;rw [e,bl_eq] at hz;simp at hz
     refine ParseInt_pc hg.err (by rw [bl_size,ht];split <;> simp <;> omega) ?_
     rw [lb_bl,ht]
     have hi0:intDig n≠[]:=by
      intro e0
      cases hb:n.1 with
      | false=>rw [ht,hb,e0] at hne;exact hne rfl
      | true=>
       have hd:n.2.1=[]:=by rw [intDig] at e0;exact(List.append_eq_nil_iff.1 e0).1
       have:=nmRight_nil hr hd
       unfold nought at this;rw [hb] at this;simp at this
     unfold parseIntR
     rw [parse_int n.1 hda hidl hi0]
     cases hb:n.1 with
     | true=>
      rw [hb] at h
      simp only [if_true] at h ⊢
      by_cases hv:decVal (intDig n)≤9223372036854775808
      ·rw [if_pos (by omega)] at h
       rw [if_pos hv]
       exact⟨fun hq=>(by cases hq),fun _=>h⟩
      ·rw [if_neg (by omega)] at h
       rw [if_neg hv]
       exact⟨fun _=>h,fun hq=>(by cases hq)⟩
     | false=>
      rw [hb] at h
      simp only [Bool.false_eq_true,if_false] at h ⊢
      by_cases hv:decVal (intDig n)≤9223372036854775807
      ·rw [if_pos (by omega)] at h
       rw [if_pos hv]
       exact⟨fun hq=>(by cases hq),fun _=>h⟩
      ·rw [if_neg (by omega)] at h
       rw [if_neg hv]
       exact⟨fun _=>h,fun hq=>(by cases hq)⟩
   refine⟨fun hx3=>⟨fits2 (a:=[45]) (by simp;omega),?_⟩,fun hx3=>?_⟩
   ·exact key _ (by rw [if_pos (by simpa using hx3)])
   ·exact key _ (by rw [if_neg (by simpa using hx3)];rfl)
end Go.Proofs.YtbploiccompocaaGreatDoor
end
section
namespace Go.Proofs.YtbploiccompocaaGreatDoor
open Go Go.X Go.ChangeShapes Go.WideShapes Go.ChangeAt Go.RowKit Go.Lib
open Go.ChangeMaps (open_string shut_string)
set_option linter.unusedVariables false
theorem Tryz.own:ownKnob Tryz.prog.godebug=none:=by kernel_rfl
theorem Tryz.laidOut:laidOutB Tryz.prog=true:=by kernel_rfl
theorem handed_shaped {H:Type} {enc:TypeId×Value→H} {a:Assume} {C:Checked} {os:Os} {f:FuncId} {fn:Func} {s:ChangeSpec} {conds:List PathCond} {apart fresh handsOn again:Bool} {X:World→Array Value→Prop}
  (hX:∀ (w w':World) (args:Array Value),w.heap=w'.heap→X w args→X w' args)
  (own:ownKnob C.prog.godebug=none) (started:os.Started) (noInit:C.prog.inits.idxOf? f=none) (hfn:C.prog.funcs[f]?=some fn)
  (witness:∃ (w:World) (tape:Tape) (i:Input),w.os=os∧(w.forCall tape i).Shaped C.prog∧i.vars=[]∧Input.okWide C.prog (w.forCall tape i) .any w.heap.size f i ∧
   ((s.pre enc C.prog fn conds apart (w.forCall tape i).memory i.args∧X (w.forCall tape i).memory i.args)∧sizedMet enc C.prog fn (OpenSpec.ofChange s) apart (w.forCall tape i).memory i.args)∧a.holds C.prog (lone (Frame.enter C.prog f i.args .normal) [] (w.forCall tape i)))
  (contract:∀ (W:World) (base:Nat) (args:Array Value) (ds gs:List (DataW H)) (before:List MemPlace),
   (∀ (j:Nat) t v,fn.params[j]?=some t→args[j]?=some v→Value.okWide C.prog W .any base t v) →
   DataW.Whole enc C.prog fn.params.toList s.vars apart W args.toList ds gs before →
   (DataW.weightsEach C.prog (fn.params.toList++s.plain.varTypes C.prog) (ds++gs)).all (·≤reachBytes)=true →
   X W args→W.ShapedOpen C.prog →
   Calls C.prog f args W fun e W'=>∃ v,e=.returned v∧s.post enc C.prog fn apart fresh handsOn again W args v W'):
  ReturnsInHanded a C os f .any (fun w args=>(s.pre enc C.prog fn conds apart w args∧X w args)∧sizedMet enc C.prog fn (OpenSpec.ofChange s) apart w args) (s.post enc C.prog fn apart fresh handsOn again):=by
 refine returnsInHanded_of_calls own started noInit witness ?_
 intro w tape i _ hsh _ hok hpre hholds
 obtain⟨_,_,_,fn',hfn',_,_,_,_,hval⟩:=hok
 have e:fn'=fn:=Option.some.inj (hfn'.symm.trans hfn)
 subst e
 obtain⟨⟨⟨ds,gs,before,hw,hc⟩,hx⟩,hz⟩:=hpre
 have hw':=DataW.Whole.of_heap (w':=w.forCall tape i) (by rfl) hw
 refine(contract (w.forCall tape i) w.heap.size i.args ds gs before hval hw' (hz.weights hw) (hX _ _ _ (by rfl) hx) hsh).mono fun e W' ⟨v,he,hp⟩=>?_
 subst he
 exact ChangeSpec.post_blind hp
theorem tab_of {P:Program} {W:World} {n:String} {k:IntKind} {zs:List Int} {g:Nat} {t e:TypeId} {m:Nat} (hg:P.globalNamed n=some g) (ht:(P.globals[g]?).map (·.type)=some t) (hu:P.underlying t=some (.array m e)) (he:P.underlying e=some (.int k))
  (hce:P.cellsOf e=1) (hct:P.cellsOf t=m) (h:VarReads P W n (tabData k zs)):∃ cs:Array Value,Fz W g=some cs∧cs.toList=zs.map fun z=>Value.int k z:=by
 obtain⟨g',t',cs,fuel,p,hg',hty,hvar,hd⟩:=h
 obtain rfl:=Option.some.inj (hg.symm.trans hg')
 obtain rfl:=Option.some.inj (ht.symm.trans hty)
 exact⟨cs,Fz.var hg hvar,cells_of_tab hu he hce hct hd⟩
theorem first_of {W : World} (h : VarReads Tryz.prog W "unicode/utf8.first" Pinned.utf8First) : ∃ cs : Array Value, Fz W 0 = some cs ∧ ∀ c, c < 256 → cs[c]? = some (.int .u8 (Lib.firstT c)) := by
 rw [Pinned.utf8First_eq] at h
 obtain⟨cs,h1,h2⟩:=tab_of (g:=0) (t:=172) (e:=5) (m:=256) (by kernel_rfl) (by kernel_rfl) (by kernel_rfl) (by kernel_rfl) (by kernel_rfl) (by kernel_rfl) h
 refine⟨cs,h1,fun c hc=>?_⟩
 rw [← Array.getElem?_toList,h2]
 simp [firstTab,hc]
theorem accept_of {W : World} (h : VarReads Tryz.prog W "unicode/utf8.acceptRanges" acceptData) : ∃ cs : Array Value, Fz W 1 = some cs ∧ ∀ i, i < 16 → cs[2 * i]? = some (.int .u8 (Lib.accLo i)) ∧ cs[2 * i + 1]? = some (.int .u8 (Lib.accHi i)) := by
 obtain⟨g,t,cs,fuel,p,hg,hty,hvar,hd⟩:=h
 obtain rfl := Option.some.inj ((show Tryz.prog.globalNamed "unicode/utf8.acceptRanges" = some 1 by kernel_rfl).symm.trans hg)
 obtain rfl:=Option.some.inj ((show(Tryz.prog.globals[1]?).map (·.type)=some 175 by kernel_rfl).symm.trans hty)
 refine⟨cs,Fz.var hg hvar,fun i hi=>?_⟩
 obtain⟨fuel',d,q,hdi,he⟩:=array_elem (show Tryz.prog.underlying 175=some (.array 16 174) by kernel_rfl) hd i hi
 simp only [List.getElem?_map,List.getElem?_range hi,Option.map_some,Option.some.injEq] at hdi
 subst hdi
 have hc:Tryz.prog.cellsOf 174=2:=by kernel_rfl
 have c5:Tryz.prog.cellsOf 5=1:=by kernel_rfl
 have u5:Tryz.prog.underlying 5=some (.int .u8):=by kernel_rfl
 rw [hc] at he
 have hcs:=ints_of_struct Tryz.underlying174 (fun j f hj=>by
  match j,hj with
  | 0,hj=>simp at hj;subst hj;exact⟨u5,rfl,c5⟩
  | 1,hj=>simp at hj;subst hj;exact⟨u5,rfl,c5⟩
  | j+2,hj=>simp at hj) (by rw [hc];rfl) he
 have e0:=congrArg (·[0]?) hcs
 have e1:=congrArg (·[1]?) hcs
 simp only [List.getElem?_take,List.getElem?_drop] at e0 e1
 constructor
 ·rw [← Array.getElem?_toList]
  simpa [Nat.mul_comm] using e0
 ·rw [← Array.getElem?_toList]
  simpa [Nat.mul_comm] using e1
theorem pow_of {W : World} {d : DataW Unit} (hd : d = tabData .u64 Lib.pow10Tab) (h : VarReads Tryz.prog W "internal/strconv.uint64pow10" d) : Pow (Fz W) := by
 subst hd
 obtain⟨cs,h1,h2⟩:=tab_of (g:=3) (t:=213) (e:=189) (m:=20) (by kernel_rfl) (by kernel_rfl) (by kernel_rfl) (by kernel_rfl) (by kernel_rfl) (by kernel_rfl) h
 exact⟨_,cs,by kernel_rfl,h1,by rw [← h2]⟩
theorem err_of {W:World} {n:String} {g:Nat} {t:TypeId} {ms:Array (String×TypeId)} {nm:String} {d:DataW Unit} (hg:Tryz.prog.globalNamed n=some g) (ht:(Tryz.prog.globals[g]?).map (·.type)=some t) (hu:Tryz.prog.underlying t=some (.interface ms)) (h:VarReads Tryz.prog W n (.iface nm d)):
  ∃ (cs:Array Value) (e:Value),Fz W g=some cs∧cs[0]?=some e∧(e=.nilIface∨∃ te pe,e=.iface te pe):=by
 obtain⟨g',t',cs,fuel,p,hg',hty,hvar,hd⟩:=h
 obtain rfl:=Option.some.inj (hg.symm.trans hg')
 obtain rfl:=Option.some.inj (ht.symm.trans hty)
 obtain⟨f1,u,v,hcs,_,_⟩:=iface_of_trod hu hd
 exact⟨cs,.iface u v,Fz.var hg hvar,by rw [← Array.getElem?_toList,hcs];rfl,.inr ⟨u,v,rfl⟩⟩
theorem max_of {W:World} (h:W.ShapedOpen Tryz.prog):MaxLen (Fz W):=by
 obtain⟨m,hm⟩:=cell_of_shapedOpen_int (P:=Tryz.prog) (g:=2) (t:=3) (zero:=#[.int .i64 0]) (k:=.i64) h (by decide +kernel) (by kernel_rfl) rfl (by kernel_rfl) (by kernel_rfl) (by kernel_rfl)
 obtain⟨b,o,c,e,h1,h2⟩:=Fz.cell hm
 cases e
 exact⟨c,m,h1,h2⟩
def laidL:List (String×DataW Unit):=Rows.patchPartsRow.laid
theorem GL_of {W:World} (h:laidMetH Tryz.prog laidL W) (hs:W.ShapedOpen Tryz.prog):GL (Fz W):=by
 have hl:laidMet Tryz.prog laidL W:=by
  rw [MakeChecks.laidMetH_plain _ _ _ (by kernel_rfl)] at h;exact h
 have hr:∀ (i:Nat) (n:String) (d:DataW Unit),laidL[i]?=some (n,d)→VarReads Tryz.prog W n d:=fun i n d e=>Go.Lib.laidMet.reads hl (List.mem_of_getElem? e)
 exact {
  tabs:=⟨first_of (hr 6 _ _ rfl),accept_of (by
   have e:(Rows.laid_unicode_utf8_acceptRanges:DataW Unit)=acceptData:=by kernel_rfl
   rw [← e];exact hr 3 _ _ rfl)⟩
  pow:=pow_of (by kernel_rfl) (hr 2 _ _ rfl)
  max:=max_of hs
  err:=⟨err_of (g:=4) (t:=129) (by kernel_rfl) (by kernel_rfl) Tryz.underlying129 (hr 5 _ _ rfl),err_of (g:=5) (t:=129) (by kernel_rfl) (by kernel_rfl) Tryz.underlying129 (hr 4 _ _ rfl)⟩ }
noncomputable def witW (os:Os):World:=World.laidAll Tryz.prog os laidL
theorem witW_shaped (os:Os) (args:Array Value):((witW os).forCall (fun _ _=>0) ⟨#[],args,[]⟩).Shaped Tryz.prog:=World.shaped_of_ZipB (by kernel_rfl) (by kernel_rfl)
theorem witW_met (os:Os) (args:Array Value):laidMetH Tryz.prog laidL ((witW os).forCall (fun _ _=>0) ⟨#[],args,[]⟩).memory:=by
 rw [MakeChecks.laidMetH_plain _ _ _ (by kernel_rfl)];exact laidMet_laidAll _ (by kernel_rfl) (by kernel_rfl)
theorem in_tree {H:Type} {enc:TypeId×Value→H} {W:World} {sp:Nat→Bool} {held:Bool} (fuel:Nat) (cs:List Value) (x:DataW H×List MemPlace) (h:DataW.trod enc Tryz.prog W 0 sp held fuel 25 cs=some x) (hw:Small Tryz.prog 25 x.1):∃ t:Tr,Rd (Fz W) .tree t cs:=
 rd_tree (tk:=3) (ts:=9) (tss:=22) (tvs:=23) Tryz.underlying25 (by kernel_rfl) ⟨rfl,rfl,rfl,rfl,rfl,rfl,rfl,rfl⟩ (by kernel_rfl) (by kernel_rfl) (by kernel_rfl) (by kernel_rfl) (by kernel_rfl) (by kernel_rfl) (by kernel_rfl) (by kernel_rfl) (by decide +kernel) (by decide +kernel) fuel cs x h hw
theorem in_strs {H:Type} {enc:TypeId×Value→H} {W:World} {sp:Nat→Bool} {held:Bool} {fuel:Nat} {cs:List Value} {x:DataW H×List MemPlace} (h:DataW.trod enc Tryz.prog W 0 sp held fuel 22 cs=some x) (hw:Small Tryz.prog 22 x.1):∃ xs:List ByteArray,Rd (Fz W) (.row .str) xs cs:=
 rd_strs Tryz.underlying22 Tryz.underlying9 (by kernel_rfl) (by decide +kernel) h hw
theorem small_at {H:Type} {ts:List TypeId} {ds:List (DataW H)} (h:(DataW.weightsEach Tryz.prog ts ds).all (·≤reachBytes)=true) {j:Nat} {t:TypeId} {d:DataW H} (ht:ts[j]?=some t) (hd:ds[j]?=some d):Small Tryz.prog t d:=fun n hn=>by
 have:=List.all_eq_true.1 h n (DataW.weights_mem_each ht hd n hn)
 simpa using this
end Go.Proofs.YtbploiccompocaaGreatDoor
end
section
namespace Go.X
open Go Go.Lib
set_option linter.unusedVariables false
mutual
def tks:Tr→Nat | .mk _ _ ks xs=>1+ks.length+tksL xs
def tksL:List Tr→Nat | []=>0 | x::l=>tks x+tksL l
end
theorem tks_eq (v:Tr):tks v=1+v.keys.length+tksL v.items:=by cases v;rw [tks]
theorem tksL_append:∀ a b:List Tr,tksL (a++b)=tksL a+tksL b
 | [],b=>by simp [tksL]
 | x::l,b=>by rw [List.cons_append,tksL,tksL,tksL_append l b];omega
theorem tksL_take {l:List Tr} {k:Nat} (hk:k < l.length):tksL (l.take (k+1))=tksL (l.take k)+tks l[k]:=by
 rw [List.take_succ_eq_append_getElem hk,tksL_append];simp [tksL]
mutual
theorem tsz_tks:∀ v:Tr,tsz v≤tks v
 | .mk k s ks xs=>by rw [tsz,tks];have:=tszL_tksL xs;omega
theorem tszL_tksL:∀ l:List Tr,tszL l≤tksL l
 | []=>by simp [tszL,tksL]
 | x::l=>by rw [tszL,tksL];have:=tsz_tks x;have:=tszL_tksL l;omega
end
mutual
def txS:Tr→Prop | .mk _ s ks xs=>(s.size≤2048∧∀ k∈ks,k.size≤1024)∧txSL xs
def txSL:List Tr→Prop | []=>True | x::l=>txS x∧txSL l
end
theorem txS_eq (v:Tr):txS v↔(v.text.size≤2048∧∀ k∈v.keys,k.size≤1024)∧txSL v.items:=by cases v;rw [txS]
theorem txSL_mem:∀ {l:List Tr},txSL l↔∀ x∈l,txS x
 | []=>by simp [txSL]
 | x::l=>by rw [txSL,txSL_mem];simp
mutual
theorem txB_of:∀ (v:Tr),tks v≤1000000→txS v→txB 1048576 v
 | .mk k s ks xs,h,g=>by
  rw [tks] at h;rw [txS] at g;rw [txB]
  exact⟨⟨by omega,by omega,fun k hk=>by have:=g.1.2 k hk;omega⟩,txBL_of xs (by omega) g.2⟩
theorem txBL_of:∀ (l:List Tr),tksL l≤1000000→txSL l→txBL 1048576 l
 | [],_,_=>by rw [txBL];trivial
 | x::l,h,g=>by
  rw [tksL] at h;rw [txSL] at g;rw [txBL]
  exact⟨txB_of x (by omega) g.1,txBL_of l (by omega) g.2⟩
end
theorem Sm.few {v:Tr} (h:tks v≤1000000) (g:txS v):Sm v:=⟨by have:=tsz_tks v;omega,txB_of v h g⟩
structure PS (l:List ByteArray):Prop where
 n:l.length≤200
 s:∀ x∈l,(lb x).length≤1024
def rightP (l:List ByteArray):Bool:=decide (l.length≤64) && l.all fun s=>u8ok (lb s)
end Go.X
end
section
namespace Go.X
open Go Go.Lib
set_option linter.unusedVariables false
structure IsCmp {α:Type} (c:α→α→Int):Prop where
 rng:∀ a b,c a b=-1∨c a b=0∨c a b=1
 eq0:∀ a b,c a b=0↔a=b
 swap:∀ a b,c b a=-c a b
 tr:∀ a b d,c a b≤0→c b d≤0→c a d≤0
end Go.X
end
section
namespace Go.X
open Go Go.Lib
set_option linter.unusedVariables false
def ascii (l:Bs):Prop:=∀ c∈l,c.toNat < 128
theorem containsAny_any (cs:Bs):∀ l:Bs,containsAny l cs=l.any fun c=>cs.contains c
 | []=>by simp [containsAny,indexAny]
 | c::l=>by
  have ih:=containsAny_any cs l
  have hge:=indexAny_ge cs l
  rw [List.any_cons,← ih]
  unfold containsAny
  rw [indexAny]
  by_cases hc:cs.contains c=true
  ·rw [if_pos hc,hc];simp
  ·have hc':cs.contains c=false:=by simpa using hc
   rw [if_neg hc,hc',Bool.false_or]
   by_cases h1:indexAny l cs=-1
   ·simp [h1]
   ·have hb:(indexAny l cs==-1)=false:=by rw [beq_eq_false_iff_ne];exact h1
    rw [hb,if_neg (by simp),Bool.eq_iff_iff,decide_eq_true_eq,decide_eq_true_eq];omega
theorem pu10_ok:∀ (l:Bs) (acc:Nat),l.all isDig=true→acc*10 ^ l.length+decVal l < 10 ^ 18→parseUint10 acc l=.ok (acc*10 ^ l.length+decVal l)
 | [],acc,_,_=>by simp [parseUint10,decVal]
 | c::t,acc,hd,hl=>by
  rw [List.all_cons,Bool.and_eq_true] at hd
  have hc:48≤c.toNat∧c.toNat≤57:=by simpa [isDig] using hd.1
  have e:decVal (c::t)=(c.toNat - 48)*10 ^ t.length+decVal t:=by
   have:=decVal_append [c] t
   rw [List.singleton_append] at this
   rw [this];simp [decVal]
  have e2:(acc*10+(c.toNat - 48))*10 ^ t.length+decVal t=acc*10 ^ (c::t).length+decVal (c::t):=by
   rw [e,List.length_cons,Nat.pow_succ,Nat.add_mul,Nat.mul_assoc,Nat.mul_comm 10 (10 ^ t.length)];omega
  have hp:1≤10 ^ t.length:=Nat.one_le_pow _ _ (by decide)
  have hb:acc*10+(c.toNat - 48)≤acc*10 ^ (c::t).length+decVal (c::t):=by
   rw [← e2]
   calc acc*10+(c.toNat - 48)=(acc*10+(c.toNat - 48))*1:=by omega
    _≤(acc*10+(c.toNat - 48))*10 ^ t.length:=Nat.mul_le_mul_left _ hp
    _≤_:=by omega
  rw [parseUint10,if_pos hc,if_neg (by omega),if_neg (by omega),pu10_ok t _ hd.2 (by rw [e2];exact hl),e2]
theorem pu10_no:∀ (l:Bs) (acc:Nat),l.all isDig=false→∀ v,parseUint10 acc l≠.ok v
 | [],acc,h,v=>by simp at h
 | c::t,acc,h,v=>by
  rw [parseUint10]
  by_cases hc:48≤c.toNat∧c.toNat≤57
  ·have hd:isDig c=true:=by simp [isDig,hc]
   rw [List.all_cons,hd,Bool.true_and] at h
   rw [if_pos hc]
   by_cases h1:1844674407370955162≤acc
   ·rw [if_pos h1];simp
   ·rw [if_neg h1]
    by_cases h2:18446744073709551616≤acc*10+(c.toNat - 48)
    ·rw [if_pos h2];simp
    ·rw [if_neg h2];exact pu10_no t _ h v
  ·rw [if_neg hc];simp
theorem atoi_ok {l:Bs} (hd:l.all isDig=true) (hne:l≠[]) (hl:l.length≤9):atoiAll l=.ok (decVal l:Int):=by
 have hv:decVal l < 10 ^ 9:=decVal_le hl hd
 have hp:=pu10_ok l 0 hd (by rw [Nat.zero_mul];omega)
 rw [Nat.zero_mul,Nat.zero_add] at hp
 obtain⟨c,t,rfl⟩:=List.exists_cons_of_ne_nil hne
 have hc:48≤c.toNat∧c.toNat≤57:=by
  rw [List.all_cons,Bool.and_eq_true] at hd
  simpa [isDig] using hd.1
 unfold atoiAll
 simp only
 rw [if_neg (by omega)]
 unfold parseMag
 rw [if_neg (by simp),hp]
 have h45:¬ c.toNat=45:=by omega
 simp only [h45,not_false_eq_true,true_and,false_and,if_false]
 rw [if_neg (by omega)]
theorem atoi_no {l:Bs} (hd:l.all isDig=false) (hh:∀ c,l.head?=some c→c.toNat≠43∧c.toNat≠45) (v:Int):atoiAll l≠.ok v:=by
 cases l with
 | nil=>simp at hd
 | cons c t=>
  have hc:=hh c rfl
  unfold atoiAll
  simp only
  rw [if_neg (by omega)]
  unfold parseMag
  rw [if_neg (by simp)]
  have:=pu10_no (c::t) 0 hd
  cases hp:parseUint10 0 (c::t) with
  | ok u=>exact absurd hp (this u)
  | range=>simp
  | _=>simp
theorem atoi_na {l:Bs} (h:¬ ascii l) (v:Int):atoiAll l≠.ok v:=by
 have hno:∀ m:Bs,¬ ascii m→∀ u,parseMag m≠.ok u:=by
  intro m hm u
  unfold parseMag
  split
  ·simp
  ·apply pu10_no
   rw [Bool.eq_false_iff]
   intro hd
   apply hm
   intro c hc
   rw [List.all_eq_true] at hd
   have:=hd c hc
   simp [isDig] at this;omega
 cases l with
 | nil=>exact absurd (fun c hc=>by cases hc) h
 | cons c t=>
  unfold atoiAll
  simp only
  have hm:¬ ascii (if c.toNat=43∨c.toNat=45 then t else c::t):=by
   split
   ·rename_i hc
    intro ht
    apply h
    intro d hd
    rcases List.mem_cons.1 hd with rfl | hd
    ·omega
    ·exact ht d hd
   ·exact h
  have:=hno _ hm
  cases hp:parseMag (if c.toNat=43∨c.toNat=45 then t else c::t) with
  | ok u=>exact absurd hp (this u)
  | range=>simp
  | _=>simp
def idxP (l:Bs):Int×Bool:=if l.length < 1∨9 < l.length∨(1 < l.length∧l.head?=some 48) then(0,false) else if l.all isDig then((decVal l:Int),true) else(0,false)
theorem idxP_range {l:Bs} (h:(idxP l).2=true):0≤(idxP l).1∧(idxP l).1 < 1000000000:=by
 unfold idxP at h ⊢
 split
 ·rename_i hc;rw [if_pos hc] at h;cases h
 ·rename_i hc
  rw [if_neg hc] at h
  split
  ·rename_i hd
   have:decVal l < 10 ^ 9:=decVal_le (by omega) hd
   simp only;omega
  ·rename_i hd;rw [if_neg hd] at h;cases h
end Go.X
end
section
namespace Go.X
open Go Go.Lib
set_option linter.unusedVariables false
theorem idxOf_ge (x:ByteArray):∀ (l:List ByteArray) (i:Nat),(idxFromS l x i=-1∧x∉l)∨∃ k:Nat,idxFromS l x i=((i+k:Nat):Int)∧k < l.length∧l[k]?=some x
 | [],i=>.inl ⟨rfl,by simp⟩
 | z::l,i=>by
  unfold idxFromS
  by_cases h:z=x
  ·rw [if_pos h];exact .inr ⟨0,rfl,by simp,by simp [h]⟩
  ·rw [if_neg h]
   rcases idxOf_ge x l (i+1) with⟨h1,h2⟩| ⟨k,h1,h2,h3⟩
   ·exact .inl ⟨h1,by simp [h2];exact fun e=>h e.symm⟩
   ·exact .inr ⟨k+1,by rw [h1];congr 1;omega,by simp;omega,by simpa using h3⟩
def stepP (v:Tr) (s:ByteArray):Int:=if v.kind=6 then idxOfS v.keys s else if v.kind=5 then(if(idxP (lb s)).2=true∧(idxP (lb s)).1 < v.items.length then(idxP (lb s)).1 else -1) else -1
theorem stepP_ok {v:Tr} (hv:nodeOk v=true) (s:ByteArray):stepP v s=-1∨∃ k:Nat,stepP v s=k∧k < v.items.length:=by
 unfold stepP
 by_cases h6:v.kind=6
 ·rw [if_pos h6]
  have hl:v.keys.length=v.items.length:=by
   unfold nodeOk at hv
   simp [h6] at hv
   exact hv.1.2
  rcases idxOf_ge s v.keys 0 with⟨h1,_⟩| ⟨k,h1,h2,_⟩
  ·exact .inl h1
  ·exact .inr ⟨k,by unfold idxOfS;rw [h1];simp,by omega⟩
 ·rw [if_neg h6]
  by_cases h5:v.kind=5
  ·rw [if_pos h5]
   by_cases hc:(idxP (lb s)).2=true∧(idxP (lb s)).1 < v.items.length
   ·rw [if_pos hc]
    have:=idxP_range hc.1
    exact .inr ⟨(idxP (lb s)).1.toNat,by omega,by omega⟩
   ·rw [if_neg hc];exact .inl rfl
  ·rw [if_neg h5];exact .inl rfl
def stepsP:Tr→List ByteArray→List (Nat×Tr)
 | _,[]=>[]
 | v,s::p=>if 0≤stepP v s then(match v.items[(stepP v s).toNat]? with
  | some x=>((stepP v s).toNat,x)::stepsP x p
  | none=>[]) else []
def lastT (v:Tr) (l:List (Nat×Tr)):Tr:=(l.getLast?.map (·.2)).getD v
theorem lastT_cons (v:Tr) (q:Nat×Tr) (l:List (Nat×Tr)):lastT v (q::l)=lastT q.2 l:=by
 unfold lastT
 cases l with
 | nil=>rfl
 | cons x l=>rw [List.getLast?_cons_cons];cases h:(x::l).getLast? with
  | none=>simp at h
  | some y=>rfl
theorem stepsP_len:∀ (v:Tr) (p:List ByteArray),(stepsP v p).length≤p.length
 | _,[]=>by simp [stepsP]
 | v,s::p=>by
  unfold stepsP
  split
  ·split
   ·rename_i x _
    have:=stepsP_len x p
    simp;omega
   ·simp
  ·simp
theorem stepsP_no {v:Tr} {s:ByteArray} {p:List ByteArray} (h:stepP v s < 0):stepsP v (s::p)=[]:=by
 unfold stepsP;rw [if_neg (by omega)]
theorem stepsP_yes {v:Tr} {s:ByteArray} {p:List ByteArray} {k:Nat} (h:stepP v s=k) (hk:k < v.items.length):stepsP v (s::p)=(k,v.items[k])::stepsP v.items[k] p:=by
 rw [stepsP,if_pos (by omega),h,Int.toNat_natCast,List.getElem?_eq_getElem hk]
def findP (v:Tr) (p:List ByteArray):Option Tr:=if(stepsP v p).length=p.length then some (lastT v (stepsP v p)) else none
theorem findP_nil (v:Tr):findP v []=some v:=rfl
theorem findP_no {v:Tr} {s:ByteArray} {p:List ByteArray} (h:stepP v s < 0):findP v (s::p)=none:=by
 unfold findP;rw [stepsP_no h];simp
theorem findP_yes {v:Tr} {s:ByteArray} {p:List ByteArray} {k:Nat} (h:stepP v s=k) (hk:k < v.items.length):findP v (s::p)=findP v.items[k] p:=by
 unfold findP
 rw [stepsP_yes h hk,lastT_cons]
 simp
theorem allT_item {q:Tr→Bool} {v x:Tr} (h:allT q v=true) (hx:x∈v.items):allT q x=true:=by
 rw [allT_eq,Bool.and_eq_true,allTL_all,List.all_eq_true] at h
 exact h.2 x hx
theorem allT_here {q:Tr→Bool} {v:Tr} (h:allT q v=true):q v=true:=by
 rw [allT_eq,Bool.and_eq_true] at h;exact h.1
end Go.X
end
section
namespace Go.X
open Go Go.RowKit
set_option linter.unusedVariables false
def OKeys (h:Heap) (ks:List ByteArray) (bs:List Nat) (s:Sl):Prop:=
 s.len=ks.length∧ks.length≤140737488355328∧ks.length≤s.cap∧((ks=[]∧bs=[]∧s.cap=0)∨∃ b cs,bs=[b]∧s.a=some ⟨b,0,none⟩∧Blk h b cs∧s.cap≤cs.size∧cut cs 0 ks.length=ks.map Value.string)
inductive OT (h:Heap):Tr→List Nat→List Value→Prop where
 | mk {k:Int} {s:ByteArray} {ks:List ByteArray} {xs:List Tr} {sk si:Sl} {bk bb:List Nat} {b:Nat} {cs:Array Value} {bf:Nat→List Nat}
  (hk:OKeys h ks bk sk) (hn:si.len=xs.length∧xs.length≤140737488355328∧xs.length≤si.cap)
  (hz:(xs=[]∧bb=[]∧si.cap=0)∨(bb=[b]∧si.a=some ⟨b,0,none⟩∧Blk h b cs∧si.cap*4≤cs.size))
  (hi:∀ i (hx:i < xs.length),OT h xs[i] (bf i) (cut cs (i*4) 4))
  (hd:(bk++(bb++(List.range xs.length).flatMap bf)).Nodup):
  OT h (.mk k s ks xs) (bk++(bb++(List.range xs.length).flatMap bf)) [.int .i64 k,.string s,slV sk,slV si]
theorem OKeys.frame {h h':Heap} {ks:List ByteArray} {bs:List Nat} {s:Sl} (H:OKeys h ks bs s) (hf:∀ b∈bs,h'[b]?=h[b]?):OKeys h' ks bs s:=by
 obtain⟨h1,h2,h3,h4⟩:=H
 refine⟨h1,h2,h3,h4.imp id ?_⟩
 rintro⟨b,cs,rfl,e1,e2,e3⟩
 exact⟨b,cs,rfl,e1,e2.keep (hf b (by simp)),e3⟩
theorem OT.frame {h h':Heap} {v:Tr} {bs:List Nat} {cells:List Value} (H:OT h v bs cells):(∀ b∈bs,h'[b]?=h[b]?)→OT h' v bs cells:=by
 induction H with
 | @mk k s ks xs sk si bk bb b cs bf hk hn hz hi hd ih=>
  intro hf
  refine OT.mk (b:=b) (cs:=cs) (hk.frame fun x hx=>hf x (by simp [hx])) hn (hz.imp id ?_) (fun i hx=>ih i hx fun x hx'=>hf x ?_) hd
  ·rintro⟨rfl,e1,e2,e3⟩
   exact⟨rfl,e1,e2.keep (hf b (by simp)),e3⟩
  ·simp only [List.mem_append,List.mem_flatMap,List.mem_range]
   exact .inr (.inr ⟨i,hx,hx'⟩)
theorem OT.nodup {h:Heap} {v:Tr} {bs:List Nat} {cells:List Value} (H:OT h v bs cells):bs.Nodup:=by
 cases H with | mk _ _ _ _ hd=>exact hd
theorem OT.lt {h:Heap} {v:Tr} {bs:List Nat} {cells:List Value} (H:OT h v bs cells):∀ b∈bs,b < h.size:=by
 induction H with
 | @mk k s ks xs sk si bk bb b cs bf hk hn hz hi hd ih=>
  intro x hx
  simp only [List.mem_append,List.mem_flatMap,List.mem_range] at hx
  rcases hx with hx | hx | ⟨i,h1,h2⟩
  ·obtain⟨_,_,_,h4⟩:=hk
   rcases h4 with⟨_,rfl,_⟩| ⟨b',cs',rfl,_,e,_⟩
   ·cases hx
   ·simp at hx;subst hx;exact e.lt
  ·rcases hz with⟨_,rfl,_⟩| ⟨rfl,_,e,_⟩
   ·cases hx
   ·simp at hx;subst hx;exact e.lt
  ·exact ih i h1 x h2
theorem OT.len {h:Heap} {v:Tr} {bs:List Nat} {cells:List Value} (H:OT h v bs cells):cells.length=4:=by cases H;rfl
theorem OT.one {h:Heap} {v:Tr} {bs:List Nat} {cells:List Value} (H:OT h v bs cells):∀ c∈cells,c.oneCell'=true:=by
 cases H with
 | mk _ _ _ _ _=>
  intro c hc
  simp at hc
  rcases hc with rfl | rfl | rfl | rfl <;> simp [Value.oneCell',slV]
theorem OT.cells {h:Heap} {v:Tr} {bs:List Nat} {cells:List Value} (H:OT h v bs cells):∃ sk si:Sl,cells=[.int .i64 v.kind,.string v.text,slV sk,slV si]:=by
 cases H with | mk _ _ _ _ _=>exact⟨_,_,rfl⟩
theorem OT.rd {h:Heap} {M:Fr} {v:Tr} {bs:List Nat} {cells:List Value} (H:OT h v bs cells) (hM:∀ b∈bs,∀ cs,Blk h b cs→M b=some cs):TrRd M v cells:=by
 induction H with
 | @mk k s ks xs sk si bk bb b cs bf hk hn hz hi hd ih=>
  obtain⟨k1,k2,k3,k4⟩:=hk
  have hkr:RowAt M (fun s cs=>cs=[.string s]) 1 ks (slV sk):=by
   refine⟨sk.a,sk.cap,by rw [slV,k1],⟨k2,k3⟩,?_⟩
   rcases k4 with⟨h0,_⟩| ⟨b',cs',rfl,e1,e2,_,e3⟩
   ·exact .inl h0
   ·refine .inr ⟨b',0,cs',e1,hM b' (by simp) cs' e2,fun i hx=>?_⟩
    have:(cut cs' 0 ks.length)[i]?=some (Value.string ks[i]):=by rw [e3,List.getElem?_map,List.getElem?_eq_getElem hx];rfl
    unfold cut at this ⊢
    rw [List.getElem?_take,if_pos hx,List.drop_zero] at this
    have hlt:=(List.getElem?_eq_some_iff.1 this).1
    rw [Nat.zero_add,Nat.mul_one,List.drop_eq_getElem_cons hlt,List.take_succ_cons,List.take_zero]
    rw [List.getElem?_eq_getElem hlt] at this
    rw [Option.some.inj this]
  have hsi:slV si=.slice si.a xs.length si.cap:=by rw [slV,hn.1]
  rw [hsi]
  refine TrRd.mk (b:=b) (o:=0) (cs:=cs) hkr hn.2 (hz.imp (·.1) ?_) fun i hx=>?_
  ·rintro⟨rfl,e1,e2,_⟩
   exact⟨e1,hM b (by simp) cs e2⟩
  ·rw [Nat.zero_add]
   exact ih i hx fun x hx' cs' e=>hM x (by
    simp only [List.mem_append,List.mem_flatMap,List.mem_range]
    exact .inr (.inr ⟨i,hx,hx'⟩)) cs' e
def MxL (M:Fr) (h:Heap) (bs:List Nat):Fr:=fun i=>if i∈bs then(match h[i]? with
 | some (.cells cs _ _)=>some cs
 | _=>none) else M i
theorem MxL.ag {M:Fr} {h:Heap} (ag:AgM M h) (bs:List Nat):AgM (MxL M h bs) h:=by
 intro b c e
 unfold MxL at e
 split at e
 ·split at e
  ·rename_i cs T m hb
   cases e;exact⟨T,m,hb⟩
  ·cases e
 ·exact ag b c e
theorem MxL.later {M:Fr} {h0 h:Heap} (ag:AgM M h0) (k:Keep h0.size h0 h) {bs:List Nat} (hb:∀ b∈bs,h0.size≤b):Later h0 M h (MxL M h bs) where
 keep:=k
 le:=fun b c e=>by
  have:=ag.lt e
  unfold MxL;rw [if_neg (fun hm=>by have:=hb b hm;omega)];exact e
 old:=fun b hlt=>by unfold MxL;rw [if_neg (fun hm=>by have:=hb b hm;omega)]
 ag:=MxL.ag (ag.keep k) bs
theorem MxL.at {M:Fr} {h:Heap} {bs:List Nat} {b:Nat} {cs:Array Value} (hb:b∈bs) (e:Blk h b cs):MxL M h bs b=some cs:=by
 obtain⟨T,e⟩:=e
 unfold MxL;rw [if_pos hb,e]
theorem OT.rdv {h:Heap} {M:Fr} {v:Tr} {bs:List Nat} {cells:List Value} (H:OT h v bs cells):RdV (MxL M h bs) .tree v (.agg cells.toArray):=by
 unfold RdV
 simp only [aggT,if_true]
 exact⟨cells,rfl,H.rd fun b hb cs e=>MxL.at hb e⟩
def upd (cs:Array Value) (o:Nat) (vs:List Value):Array Value:=(cs.toList.take o++vs++cs.toList.drop (o+vs.length)).toArray
theorem upd_size {cs:Array Value} {o:Nat} {vs:List Value} (h:o+vs.length≤cs.size):(upd cs o vs).size=cs.size:=by
 unfold upd;simp;omega
theorem upd_get {cs:Array Value} {o:Nat} {vs:List Value} (h:o+vs.length≤cs.size) (q:Nat):(upd cs o vs).toList[q]?=if q < o then cs.toList[q]? else if q < o+vs.length then vs[q - o]? else cs.toList[q]?:=by
 unfold upd
 exact splice_get (by simpa using h) q
theorem cutAt_get {cs:Array Value} {o n i:Nat}:(cut cs o n)[i]?=if i < n then cs.toList[o+i]? else none:=by
 unfold cut
 rw [List.getElem?_take]
 split
 ·rw [List.getElem?_drop]
 ·rfl
theorem cut_upd {cs:Array Value} {o:Nat} {vs:List Value} (h:o+vs.length≤cs.size):cut (upd cs o vs) o vs.length=vs:=by
 apply List.ext_getElem?
 intro i
 rw [cutAt_get]
 split
 ·rw [upd_get h,if_neg (by omega),if_pos (by omega)];congr 1;omega
 ·rw [List.getElem?_eq_none (by omega)]
theorem cut_upd_ne {cs:Array Value} {o p n:Nat} {vs:List Value} (h:o+vs.length≤cs.size) (hne:p+n≤o∨o+vs.length≤p):cut (upd cs o vs) p n=cut cs p n:=by
 apply List.ext_getElem?
 intro i
 rw [cutAt_get,cutAt_get]
 split
 ·rw [upd_get h]
  split
  ·rfl
  ·rw [if_neg (by omega)]
 ·rfl
theorem storeN {P:Program} {t:TypeId} (hi:okInfo P t=true) {h:Heap} {b o:Nat} {cs:Array Value} (H:Blk h b cs) {v:Value} {vs:List Value} (hc:v.cells.toList=vs) (hs:szOf P t=vs.length) (hl:o+vs.length≤cs.size) (h1:∀ u∈vs,u.oneCell'=true) {K:Heap→Prop}
  (hK:∀ h':Heap,Blk h' b (upd cs o vs)→h'.size=h.size→(∀ j,j≠b→h'[j]?=h[j]?)→K h'):XRunU P (Instr.storeAt t (.pointer (some ⟨b,o,none⟩)) v) h K:=by
 intro B d
 obtain⟨T,e⟩:=H
 have hsz:v.cells.size=vs.length:=by rw [← hc];simp
 obtain⟨h',r1,r2,r3,r4⟩:=storeAt_run (P:=P) hi hs e hsz hl (by rw [hc];exact h1) B d
 refine⟨d,h',r1,hK h' ⟨T,?_⟩ r3 r4⟩
 rw [r2]
 unfold upd
 rw [hc]
theorem Blk.ofKeep {h h':Heap} {b:Nat} {cs:Array Value} (H:Blk h b cs) (k:Keep h.size h h'):Blk h' b cs:=H.keepN k H.lt
end Go.X
end
section
namespace Go.X
open Go Go.RowKit
set_option linter.unusedVariables false
def setI (v:Tr) (k:Nat) (x:Tr):Tr:=.mk v.kind v.text v.keys (v.items.set k x)
theorem nd_flat {n:Nat} {bf:Nat→List Nat}:((List.range n).flatMap bf).Nodup↔(∀ i,i < n→(bf i).Nodup)∧∀ i j,i < j→j < n→∀ x∈bf i,∀ y∈bf j,x≠y:=by
 unfold List.Nodup
 rw [List.pairwise_flatMap,List.pairwise_iff_getElem]
 constructor
 ·rintro⟨h1,h2⟩
  refine⟨fun i hi=>h1 i (by simpa using hi),fun i j hij hj=>?_⟩
  have:=h2 i j (by simp;omega) (by simpa using hj) hij
  simpa using this
 ·rintro⟨h1,h2⟩
  refine⟨fun i hi=>h1 i (by simpa using hi),fun i j hi hj hij=>?_⟩
  simp at hi hj
  simpa using h2 i j hij hj
theorem upd_self {cs:Array Value} {o n:Nat} (h:o+n≤cs.size):upd cs o (cut cs o n)=cs:=by
 have hl:(cut cs o n).length=n:=by unfold cut;simp;omega
 apply Array.ext'
 apply List.ext_getElem?
 intro q
 rw [upd_get (by rw [hl];exact h)]
 split
 ·rfl
 ·split
  ·rw [cutAt_get,if_pos (by omega)];congr 1;omega
  ·rfl
theorem OT.put1 {h:Heap} {v:Tr} {bs:List Nat} {cells:List Value} (H:OT h v bs cells) {k:Nat} (hk:k < v.items.length):
  ∃ (b:Nat) (cs:Array Value) (si:Sl) (bx:List Nat),cells[3]?=some (slV si)∧si.a=some ⟨b,0,none⟩∧si.len=v.items.length∧Blk h b cs∧v.items.length*4≤cs.size∧b∈bs∧OT h v.items[k] bx (cut cs (k*4) 4)∧b∉bx∧(∀ c∈bx,c∈bs) ∧
   ∀ (h':Heap) (x':Tr) (cells':List Value) (b':List Nat),(∀ c∈bs,c∉bx→c≠b→h'[c]?=h[c]?)→Blk h' b (upd cs (k*4) cells')→OT h' x' b' cells'→(∀ c∈b',c∈bx∨c∉bs)→∃ bn,OT h' (setI v k x') bn cells∧∀ c∈bn,c∈bs∨c∈b':=by
 cases H with
 | @mk kd s ks xs sk si bk bb b cs bf hkk hn hz hi hd=>
  have hk:k < xs.length:=hk
  rcases hz with⟨h0,_⟩| ⟨rfl,e1,hb,hcap⟩
  ·rw [h0] at hk;simp at hk
  have hcs:xs.length*4≤cs.size:=by have:=hn.2.2;omega
  rw [List.nodup_append] at hd
  obtain⟨nd1,nd2,nd3⟩:=hd
  rw [List.nodup_append] at nd2
  obtain⟨nd4,nd5,nd6⟩:=nd2
  have nf:=nd_flat.1 nd5
  have hbn:∀ i,i < xs.length→b∉bf i:=fun i hi hm=>nd6 b (by simp) b (List.mem_flatMap.2 ⟨i,by simpa using hi,hm⟩) rfl
  have hin:∀ i,i < xs.length→∀ c∈bf i,c∈bk++([b]++(List.range xs.length).flatMap bf):=fun i hi c hc=>by
   simp only [List.mem_append,List.mem_flatMap,List.mem_range]
   exact .inr (.inr ⟨i,hi,hc⟩)
  refine⟨b,cs,si,bf k,rfl,e1,hn.1,hb,hcs,by simp,hi k hk,hbn k hk,hin k hk,fun h' x' cells' b' hf hb' ho hfr=>?_⟩
  have hl':cells'.length=4:=ho.len
  have dis:∀ c∈b',∀ i,i < xs.length→i≠k→c∉bf i:=fun c hc i hi' hne hm=>by
   rcases hfr c hc with hx | hx
   ·rcases Nat.lt_or_gt_of_ne hne with hlt | hlt
    ·exact nf.2 i k hlt hk c hm c hx rfl
    ·exact nf.2 k i hlt hi' c hx c hm rfl
   ·exact hx (hin i hi' c hm)
  have disb:b∉b':=fun hm=>by
   rcases hfr b hm with hx | hx
   ·exact hbn k hk hx
   ·exact hx (by simp)
  have disk:∀ c∈bk,c∉b':=fun c hc hm=>by
   rcases hfr c hm with hx | hx
   ·exact nd3 c hc c (by rw [List.mem_append];exact .inr (List.mem_flatMap.2 ⟨k,by simpa using hk,hx⟩)) rfl
   ·exact hx (by simp [hc])
  have hkb:∀ c∈bk,c≠b:=fun c hc e=>nd3 c hc b (by simp) e
  have hkf:∀ c∈bk,∀ i,i < xs.length→c∉bf i:=fun c hc i hi' hm=>nd3 c hc c (by rw [List.mem_append];exact .inr (List.mem_flatMap.2 ⟨i,by simpa using hi',hm⟩)) rfl
  have hlen:(xs.set k x').length=xs.length:=by simp
  have hu:k*4+cells'.length≤cs.size:=by omega
  refine⟨bk++([b]++(List.range (xs.set k x').length).flatMap (fun i=>if i=k then b' else bf i)),?_,fun c hc=>?_⟩
  ·refine OT.mk (b:=b) (cs:=upd cs (k*4) cells') (hkk.frame fun c hc=>hf c (by simp [hc]) (hkf c hc k hk) (hkb c hc)) (by rw [hlen];exact hn) (.inr ⟨rfl,e1,hb',by rw [upd_size hu];exact hcap⟩) (fun i hx=>?_) ?_
   ·rw [hlen] at hx
    by_cases hik:i=k
    ·subst hik
     rw [if_pos rfl]
     have:=cut_upd hu
     rw [hl'] at this
     rw [this,List.getElem_set_self];exact ho
    ·rw [if_neg hik,List.getElem_set_ne (by omega),cut_upd_ne hu (by omega)]
     refine(hi i hx).frame fun c hc=>hf c (hin i hx c hc) (fun hm=>?_) (fun e=>hbn i hx (e ▸ hc))
     rcases Nat.lt_or_gt_of_ne hik with hlt | hlt
     ·exact nf.2 i k hlt hk c hc c hm rfl
     ·exact nf.2 k i hlt hx c hm c hc rfl
   ·rw [hlen,List.nodup_append]
    refine⟨nd1,?_,fun x hx y hy=>?_⟩
    ·rw [List.nodup_append]
     refine⟨by simp,nd_flat.2 ⟨fun i hi'=>?_,fun i j hij hj x hx y hy e=>?_⟩,fun x hx y hy=>?_⟩
     ·by_cases hik:i=k
      ·rw [if_pos hik];exact ho.nodup
      ·rw [if_neg hik];exact nf.1 i hi'
     ·subst e
      by_cases hik:i=k
      ·rw [if_pos hik] at hx
       rw [if_neg (by omega)] at hy
       exact dis x hx j hj (by omega) hy
      ·rw [if_neg hik] at hx
       by_cases hjk:j=k
       ·rw [if_pos hjk] at hy
        exact dis x hy i (by omega) hik hx
       ·rw [if_neg hjk] at hy
        exact nf.2 i j hij hj x hx x hy rfl
     ·simp at hx;subst hx
      obtain⟨i,hi',hy⟩:=List.mem_flatMap.1 hy
      simp at hi'
      intro e;subst e
      by_cases hik:i=k
      ·rw [if_pos hik] at hy;exact disb hy
      ·rw [if_neg hik] at hy;exact hbn i hi' hy
    ·intro e;subst e
     rw [List.mem_append] at hy
     rcases hy with hy | hy
     ·simp at hy;exact hkb x hx hy
     ·obtain⟨i,hi',hy⟩:=List.mem_flatMap.1 hy
      simp at hi'
      by_cases hik:i=k
      ·rw [if_pos hik] at hy;exact disk x hx hy
      ·rw [if_neg hik] at hy;exact hkf x hx i hi' hy
  ·rw [hlen,List.mem_append,List.mem_append] at hc
   rcases hc with hc | hc | hc
   ·exact .inl (by simp [hc])
   ·exact .inl (by simp at hc;simp [hc])
   ·obtain⟨i,hi',hc⟩:=List.mem_flatMap.1 hc
    simp at hi'
    by_cases hik:i=k
    ·rw [if_pos hik] at hc;exact .inr hc
    ·rw [if_neg hik] at hc;exact .inl (hin i hi' c hc)
def Foc (h:Heap) (base rb:Nat) (p:Addr) (x:Tr) (T:Tr→Tr):Prop:=
 ∃ (b o:Nat) (cs:Array Value) (bx:List Nat),p=⟨b,o,none⟩∧Blk h b cs∧o+4≤cs.size∧OT h x bx (cut cs o 4)∧b∉bx∧base≤b∧(∀ c∈bx,base≤c) ∧
  ∀ (h':Heap) (x':Tr) (cells':List Value) (b':List Nat),(∀ c,c≠b→c∉bx→c < h.size→h'[c]?=h[c]?)→Blk h' b (upd cs o cells')→OT h' x' b' cells'→(∀ c∈b',c∈bx∨h.size≤c) →
   ∃ cs' bs',Blk h' rb cs'∧cs'.size=4∧OT h' (T x') bs' cs'.toList∧∀ c∈bs',base≤c∧c≠rb
theorem Foc.step {h:Heap} {base rb:Nat} {p:Addr} {x:Tr} {T:Tr→Tr} (H:Foc h base rb p x T) {k:Nat} (hk:k < x.items.length):
  ∃ (si:Sl) (a:Addr),cellH h (p.add 3)=some (slV si)∧si.a=some a∧si.len=x.items.length∧Foc h base rb (a.add (k*4)) x.items[k] (fun y=>T (setI x k y)):=by
 obtain⟨b,o,cs,bx,rfl,hb,ho,ot,hbx,hbase,hbxb,hcl⟩:=H
 obtain⟨b2,cs2,si,bx2,e3,ea,el,hb2,hcs2,hm2,ot2,hn2,hsub,hput⟩:=ot.put1 hk
 refine⟨si,⟨b2,0,none⟩,?_,ea,el,b2,k*4,cs2,bx2,by rw [add_none,Nat.zero_add],hb2,by omega,ot2,hn2,hbxb b2 hm2,fun c hc=>hbxb c (hsub c hc),fun h' x' cells' b' hf hb' ho' hfr=>?_⟩
 ·rw [add_none]
  refine hb.cell ?_
  rw [cutAt_get,if_pos (by omega)] at e3
  rw [← Array.getElem?_toList];exact e3
 ·have hne:b≠b2:=fun e=>hbx (e ▸ hm2)
  obtain⟨bn,hbn,hbns⟩:=hput h' x' cells' b' (fun c hc hc2 hcb=>hf c hcb hc2 (ot.lt c hc)) hb' ho' (fun c hc=>(hfr c hc).imp id fun hx hm=>by have:=ot.lt c hm;omega)
  refine hcl h' (setI x k x') (cut cs o 4) bn (fun c hc hcx hcl=>hf c (fun e=>hcx (e ▸ hm2)) (fun hm=>hcx (hsub c hm)) hcl) ?_ hbn fun c hc=>?_
  ·rw [upd_self ho]
   exact hb.keep (hf b hne (fun hm=>hbx (hsub b hm)) hb.lt)
  ·rcases hbns c hc with hx | hx
   ·exact .inl hx
   ·rcases hfr c hx with hy | hy
    ·exact .inl (hsub c hy)
    ·exact .inr hy
theorem Foc.put {h:Heap} {base rb:Nat} {p:Addr} {x:Tr} {T:Tr→Tr} (H:Foc h base rb p x T) {h1:Heap} (k:Keep h.size h h1) {w:Tr} {bw:List Nat} {cw:List Value} (ow:OT h1 w bw cw) (hbw:∀ c∈bw,h.size≤c):
  ∃ (b o:Nat) (cs:Array Value),p=⟨b,o,none⟩∧base≤b∧b < h.size∧Blk h1 b cs∧o+4≤cs.size∧∀ h2:Heap,Blk h2 b (upd cs o cw)→h2.size=h1.size→(∀ j,j≠b→h2[j]?=h1[j]?) →
   ∃ cs' bs',Blk h2 rb cs'∧cs'.size=4∧OT h2 (T w) bs' cs'.toList∧∀ c∈bs',base≤c∧c≠rb:=by
 obtain⟨b,o,cs,bx,rfl,hb,ho,ot,hbx,hbase,hbxb,hcl⟩:=H
 have hlt:=hb.lt
 refine⟨b,o,cs,rfl,hbase,hlt,hb.ofKeep k,ho,fun h2 hb2 hs2 hf2=>?_⟩
 refine hcl h2 w cw bw (fun c hc _ hcl=>(hf2 c hc).trans (k.get c hcl)) hb2 (ow.frame fun c hc=>hf2 c (fun e=>by have:=hbw c hc;omega)) fun c hc=>.inr (hbw c hc)
theorem Foc.keep {h h':Heap} {base rb:Nat} {p:Addr} {x:Tr} {T:Tr→Tr} (H:Foc h base rb p x T) (k:Keep h.size h h'):Foc h' base rb p x T:=by
 obtain⟨b,o,cs,bx,rfl,hb,ho,ot,hbx,hbase,hbxb,hcl⟩:=H
 have hz:=k.size
 refine⟨b,o,cs,bx,rfl,hb.ofKeep k,ho,ot.frame fun c hc=>k.get c (ot.lt c hc),hbx,hbase,hbxb,fun h2 x' cells' b' hf hb' ho' hfr=>hcl h2 x' cells' b' (fun c hc hcx hlt=>(hf c hc hcx (by omega)).trans (k.get c hlt)) hb' ho' fun c hc=>(hfr c hc).imp id fun hx=>by omega⟩
end Go.X
end
section
namespace Go.X
open Go Go.Lib
set_option linter.unusedVariables false
def setP:Tr→List ByteArray→Tr→Tr
 | _,[],w=>w
 | v,s::p,w=>if 0≤stepP v s then(match v.items[(stepP v s).toNat]? with
  | some x=>setI v (stepP v s).toNat (setP x p w)
  | none=>v) else v
theorem setP_yes {v:Tr} {s:ByteArray} {p:List ByteArray} {w:Tr} {k:Nat} (h:stepP v s=k) (hk:k < v.items.length):setP v (s::p) w=setI v k (setP v.items[k] p w):=by
 rw [setP,if_pos (by omega),h,Int.toNat_natCast,List.getElem?_eq_getElem hk]
theorem stepsP_full {v:Tr} {s:ByteArray} {p:List ByteArray} (h:(stepsP v (s::p)).length=(s::p).length):∃ (k:Nat) (hk:k < v.items.length),stepP v s=k∧stepsP v (s::p)=(k,v.items[k])::stepsP v.items[k] p∧(stepsP v.items[k] p).length=p.length:=by
 unfold stepsP at h
 split at h
 ·rename_i h0
  split at h
  ·rename_i x hx
   obtain⟨hk,e⟩:=List.getElem?_eq_some_iff.1 hx
   refine⟨(stepP v s).toNat,hk,by omega,stepsP_yes (by omega) hk,?_⟩
   rw [e];simpa using h
  ·simp at h
 ·simp at h
theorem tszL_set:∀ (l:List Tr) (k:Nat) (h:k < l.length) (y:Tr),tszL (l.set k y)+tsz l[k]=tszL l+tsz y
 | x::l,0,_,y=>by simp [tszL];omega
 | x::l,k+1,h,y=>by
  have:=tszL_set l k (by simpa using h) y
  simp [tszL];omega
theorem setP_sz (w:Tr):∀ (p:List ByteArray) (v:Tr),tsz (setP v p w)≤tsz v+tsz w
 | [],v=>by rw [setP];omega
 | s::p,v=>by
  rw [setP]
  split
  ·split
   ·rename_i x hx
    obtain⟨hk,e⟩:=List.getElem?_eq_some_iff.1 hx
    have h1:=setP_sz w p x
    have h2:=tszL_set v.items _ hk (setP x p w)
    rw [e] at h2
    rw [tsz_eq,tsz_eq v]
    show 1+tszL (v.items.set _ _)≤_
    omega
   ·omega
  ·omega
theorem setP_tx {m:Nat} {w:Tr} (hw:txB m w):∀ (p:List ByteArray) (v:Tr),txB m v→txB m (setP v p w)
 | [],v,_=>by rw [setP];exact hw
 | s::p,v,hv=>by
  rw [setP]
  split
  ·split
   ·rename_i x hx
    obtain⟨hk,e⟩:=List.getElem?_eq_some_iff.1 hx
    have hm:x∈v.items:=e ▸ List.getElem_mem hk
    have h1:=setP_tx hw p x (txB_item hv hm)
    have h2:=(txB_eq m v).1 hv
    refine(txB_eq m _).2 ⟨h2.1,txBL_mem.2 fun y hy=>?_⟩
    rcases List.mem_or_eq_of_mem_set hy with hy | rfl
    ·exact txBL_mem.1 h2.2 y hy
    ·exact h1
   ·exact hv
  ·exact hv
theorem openT_sz {v:Tr} (h:openT v=true):tsz v≤4096:=by
 unfold openT sizedT at h
 simp at h
 omega
theorem setP_sm {v w:Tr} (hv:Sm v) (hw:Sm w) (h1:tsz v+tsz w≤1000000000000) (p:List ByteArray):Sm (setP v p w):=⟨by have:=setP_sz w p v;omega,setP_tx hw.tx p v hv.tx⟩
def zT:Tr:=.mk 0 ⟨#[]⟩ [] []
def findR (v:Tr) (p:List ByteArray):Tr×Bool:=if openT v && rightP p then(match findP v p with
 | some x=>(x,true)
 | none=>(zT,false)) else(zT,false)
theorem stepP_set (v:Tr) (k:Nat) (x:Tr) (s:ByteArray):stepP (setI v k x) s=stepP v s:=by
 have h:(setI v k x).items.length=v.items.length:=by simp [setI]
 unfold stepP
 rw [h]
 rfl
end Go.X
end
section
namespace Go.Proofs.YtbploiccompocaaGreatDoor
open Go Go.X Go.Proofs
set_option linter.unusedVariables false
theorem hole_pc {gl:Fr} (hg:GL gl) {s:Bs} (hs:s.length≤1152921504606846976) {R:Bool→Prop} (h:R (holeOk s)):PC Tryz.prog gl 85 [Arg.mk .str (bl s)] [.bool] R:=by
 apply pu_value_hole
 refine vdecimal_pc hg hs (int_pc hg (n:=(decS s).1) (numParse_len s hs) ?_)
 simp only [Bool.cond_false_right]
 exact h
theorem tr_eta (v:Tr):Tr.mk v.kind v.text v.keys v.items=v:=by cases v;rfl
theorem item_at {l:List Tr} {k:Nat} (h:k < l.length):l[((k:Int)).toNat]?=some l[k]:=by rw [Int.toNat_natCast,List.getElem?_eq_getElem h]
theorem Size_pc {gl:Fr} (v:Tr) (hv:tsz v≤1000000000000) {R:Int→Prop} (h:R (tsz v:Int)):PC Tryz.prog gl 78 [Arg.mk .tree v] [.int .i64] R:=by
 apply pu_value_Size
 have hlen:=tszL_len v.items
 have hsz:=tsz_eq v
 refine⟨fun n i=>∃ k:Nat,i=k∧k≤v.items.length∧n=((1+tszL (v.items.take k):Nat):Int),fun _ i=>v.items.length - i.toNat,⟨0,rfl,by omega,by simp [tszL]⟩,?_⟩
 rintro n i ⟨k,rfl,hk,rfl⟩
 refine⟨fun hc=>?_,fun hc=>?_⟩
 ·have hc':k < v.items.length:=by simp at hc;omega
  refine⟨v.items[k],⟨by omega,item_at hc'⟩,?_⟩
  rw [tr_eta]
  have hm:v.items[k]∈v.items:=List.getElem_mem hc'
  have hlt:=tsz_item hm
  have hle:tszL (v.items.take (k+1))≤tszL v.items:=by
   have:=tszL_append (v.items.take (k+1)) (v.items.drop (k+1))
   rw [List.take_append_drop] at this;omega
  have ht:=tszL_take hc'
  refine Size_pc (v.items[k]) (by omega) ?_
  rw [wsucc hc' (by omega),w64 (by omega)]
  exact⟨⟨k+1,rfl,by omega,by omega⟩,by simp only [Int.toNat_natCast];omega⟩
 ·have hc':k=v.items.length:=by simp at hc;omega
  subst hc'
  rw [List.take_length,← hsz];exact h
termination_by tsz v
theorem Depth_pc {gl:Fr} (v:Tr) (hv:tsz v≤1000000000000) {R:Int→Prop} (h:R (tdp v:Int)):PC Tryz.prog gl 79 [Arg.mk .tree v] [.int .i64] R:=by
 apply pu_value_Depth
 have hlen:=tszL_len v.items
 have hsz:=tsz_eq v
 have hdp:=tdpL_le v.items
 have hdq:=tdp_eq v
 refine⟨fun n i=>∃ k:Nat,i=k∧k≤v.items.length∧n=((tdpL (v.items.take k):Nat):Int),fun _ i=>v.items.length - i.toNat,⟨0,rfl,by omega,by simp [tdpL]⟩,?_⟩
 rintro n i ⟨k,rfl,hk,rfl⟩
 refine⟨fun hc=>?_,fun hc=>?_⟩
 ·have hc':k < v.items.length:=by simp at hc;omega
  refine⟨v.items[k],⟨by omega,item_at hc'⟩,?_⟩
  rw [tr_eta]
  have hm:v.items[k]∈v.items:=List.getElem_mem hc'
  have hlt:=tsz_item hm
  have ht:=tdpL_take hc'
  refine Depth_pc (v.items[k]) (by omega) ?_
  rw [wsucc hc' (by omega)]
  refine⟨⟨k+1,rfl,by omega,?_⟩,by simp only [Int.toNat_natCast];omega⟩
  rw [ht];split <;> omega
 ·have hc':k=v.items.length:=by simp at hc;omega
  subst hc'
  rw [List.take_length,w64 (by omega)]
  have:((tdpL v.items:Nat):Int)+1=(tdp v:Int):=by omega
  rw [this];exact h
termination_by tsz v
theorem sized_pc {gl : Fr} {v : Tr} (hv : Sm v) {R : Bool → Prop} (h : R (sizedT v)) : PC Tryz.prog gl 44 [Arg.mk .tree v] [.bool] R := by
  apply pu_value_sized
  rw [tr_eta]
  refine Size_pc v hv.sz ⟨fun r => r = (tdp v : Int), fun _ => Depth_pc v hv.sz rfl, fun r hr => ?_⟩
  have e : (bif decide ((tsz v : Int) ≤ 4096) then decide (r ≤ 32) else false) = sizedT v := by
    unfold sizedT
    cases hc : decide ((tsz v : Int) ≤ 4096) with
    | false => have : decide (tsz v ≤ 4096) = false := by simp at hc ⊢; omega
               rw [this]; rfl
    | true =>
      have : decide (tsz v ≤ 4096) = true := by simp at hc ⊢; omega
      rw [this, hr hc, cond_true, Bool.true_and, Bool.eq_iff_iff]; simp; omega
  rw [e]; exact h
end Go.Proofs.YtbploiccompocaaGreatDoor
end
section
namespace Go.Proofs.YtbploiccompocaaGreatDoor
open Go Go.X Go.Proofs
set_option linter.unusedVariables false
set_option maxRecDepth 100000
theorem sh_value_keyed (keys0:Sl) (n1:Int) (h:Heap) (R:Value→Heap→Prop)
  (H:let h_1:Heap:=Array.push h (.map #[] 0);∃ (I_2:Int→Heap→Prop) (μ_3:Int→Heap→Nat),I_2 0 h_1∧∀ x13_4:Int,∀ h_5:Heap,I_2 x13_4 h_5→(((decide ((x13_4:Int) < ((keys0.len:Nat):Int)))=true→∃ a_6:Addr,(keys0.a=some a_6∧0≤(x13_4:Int)∧(x13_4:Int) < ((keys0.len:Nat):Int))∧∃ x16_7:ByteArray,cellH h_5 (a_6.add ((x13_4:Int).toNat*1))=some (.string x16_7)∧∃ x19_8:Bool,QExec Tryz.prog (Instr.lookup 123 (.map (some (Array.size h))) (.string x16_7) false) h_5 (.bool x19_8)∧∃ J_9:Value→Heap→Prop,((!x19_8)=true→XC Tryz.prog 84 #[.string x16_7] h_5 (fun v_13 h_14=>∃ x22_15:Bool,v_13=.bool x22_15∧J_9 (.bool x22_15) h_14))∧((!x19_8)=false→∃ x22_16:Bool,J_9 (.bool x22_16) h_5)∧((!x19_8)=true→∀ v_11 h_12,J_9 v_11 h_12→∃ x22_17:Bool,v_11=.bool x22_17)∧∀ x22_18:Bool,∀ h_10,J_9 (.bool x22_18) h_10→((bif x19_8 then true else(!x22_18))=true→R (.bool false) h_10)∧((bif x19_8 then true else(!x22_18))=false→XRunU Tryz.prog (Instr.mapUpdate 123 (.map (some (Array.size h))) (.string x16_7) (.bool true)) h_10 (fun h_19=>(I_2 (IntKind.wrap .i64 (x13_4+1)) h_19∧μ_3 (IntKind.wrap .i64 (x13_4+1)) h_19 < μ_3 x13_4 h_5))))∧((decide ((x13_4:Int) < ((keys0.len:Nat):Int)))=false→R (.bool ((((keys0.len:Nat):Int):Int)==n1)) h_5))):
  XC Tryz.prog 82 #[.slice keys0.a keys0.len keys0.cap,.int .i64 n1] h R:=
 XC_of_code Tryz.mixed ⟨[],[(3,[(13,.one (.int .i64))])],[]⟩ [.slice keys0.a keys0.len keys0.cap,.int .i64 n1] (rs:=[.tmp 4]) (n:=32) Tryz.func82 (by kernel_rfl) (by kernel_rfl) (by kernel_rfl) (by kernel_rfl) (Eq.mp (by kernel_rfl) H)
theorem sh_slices_ContainsFunc_api_Value_api_Value (s0:Sl) (f1F:FuncId) (f1A:Array Value) (f1C:Array Value) (h:Heap) (R:Value→Heap→Prop)
  (H:XC Tryz.prog 118 #[.slice s0.a s0.len s0.cap,.func (.func f1F) f1A f1C] h (fun v_1 h_2=>∃ x7_3:Int,v_1=.int .i64 x7_3∧R (.bool (decide ((x7_3:Int)≥0))) h_2)):
  XC Tryz.prog 80 #[.slice s0.a s0.len s0.cap,.func (.func f1F) f1A f1C] h R:=
 XC_of_code Tryz.mixed ⟨[],[],[]⟩ [.slice s0.a s0.len s0.cap,.func (.func f1F) f1A f1C] (rs:=[.tmp 4]) (n:=9) Tryz.func80 (by kernel_rfl) (by kernel_rfl) (by kernel_rfl) (by kernel_rfl) (Eq.mp (by kernel_rfl) H)
theorem sh_slices_IndexFunc_api_Value_api_Value (s0:Sl) (f1F:FuncId) (f1A:Array Value) (f1C:Array Value) (h:Heap) (R:Value→Heap→Prop)
  (H:∃ (I_1:Int→Heap→Prop) (μ_2:Int→Heap→Nat),I_1 0 h∧∀ x8_3:Int,∀ h_4:Heap,I_1 x8_3 h_4→(((decide ((x8_3:Int) < ((s0.len:Nat):Int)))=true→∃ a_5:Addr,(s0.a=some a_5∧0≤(x8_3:Int)∧(x8_3:Int) < ((s0.len:Nat):Int))∧∃ x15_6:Int,∃ x15_7:ByteArray,∃ x15_8:Sl,∃ x15_9:Sl,ldList h_4 (a_5.add ((x8_3:Int).toNat*4)) 0 [.int .i64 x15_6,.string x15_7,.slice x15_8.a x15_8.len x15_8.cap,.slice x15_9.a x15_9.len x15_9.cap]∧callable Tryz.prog f1F=true∧XC Tryz.prog f1F (f1A++#[.agg #[.int .i64 x15_6,.string x15_7,.slice x15_8.a x15_8.len x15_8.cap,.slice x15_9.a x15_9.len x15_9.cap]]++f1C) h_4 (fun v_10 h_11=>∃ x16_12:Bool,v_10=.bool x16_12∧(x16_12=true→R (.int .i64 x8_3) h_11)∧(x16_12=false→(I_1 (IntKind.wrap .i64 (x8_3+1)) h_11∧μ_2 (IntKind.wrap .i64 (x8_3+1)) h_11 < μ_2 x8_3 h_4))))∧((decide ((x8_3:Int) < ((s0.len:Nat):Int)))=false→R (.int .i64 (-1)) h_4))):
  XC Tryz.prog 118 #[.slice s0.a s0.len s0.cap,.func (.func f1F) f1A f1C] h R:=
 XC_of_code Tryz.mixed ⟨[],[(2,[(8,.one (.int .i64))])],[]⟩ [.slice s0.a s0.len s0.cap,.func (.func f1F) f1A f1C] (rs:=[.tmp 4]) (n:=19) Tryz.func118 (by kernel_rfl) (by kernel_rfl) (by kernel_rfl) (by kernel_rfl) (Eq.mp (by kernel_rfl) H)
theorem sh_value_every_1 (x0_0:Int) (x0_1:ByteArray) (x0_2:Sl) (x0_3:Sl) (c1:Addr) (h:Heap) (R:Value→Heap→Prop)
  (H:let h_1:Heap:=Array.push h (.cells #[.int .i64 x0_0,.string x0_1,.slice x0_2.a x0_2.len x0_2.cap,.slice x0_3.a x0_3.len x0_3.cap] 25);∃ x4_2:Int,∃ x4_3:ByteArray,∃ x4_4:Sl,∃ x4_5:Sl,ldList h_1 ⟨Array.size h,0,none⟩ 0 [.int .i64 x4_2,.string x4_3,.slice x4_4.a x4_4.len x4_4.cap,.slice x4_5.a x4_5.len x4_5.cap]∧∃ x5_6:Value,cellH h_1 c1=some x5_6∧XC Tryz.prog 45 #[.agg #[.int .i64 x4_2,.string x4_3,.slice x4_4.a x4_4.len x4_4.cap,.slice x4_5.a x4_5.len x4_5.cap],x5_6] h_1 (fun v_7 h_8=>∃ x6_9:Bool,v_7=.bool x6_9∧R (.bool (!x6_9)) h_8)):
  XC Tryz.prog 81 #[.agg #[.int .i64 x0_0,.string x0_1,.slice x0_2.a x0_2.len x0_2.cap,.slice x0_3.a x0_3.len x0_3.cap],.pointer (some c1)] h R:=
 XC_of_code Tryz.mixed ⟨[],[],[]⟩ [.agg #[.int .i64 x0_0,.string x0_1,.slice x0_2.a x0_2.len x0_2.cap,.slice x0_3.a x0_3.len x0_3.cap],.pointer (some c1)] (rs:=[.tmp 3]) (n:=8) Tryz.func81 (by kernel_rfl) (by kernel_rfl) (by kernel_rfl) (by kernel_rfl) (Eq.mp (by kernel_rfl) H)
theorem sh_value_every (v0_0:Int) (v0_1:ByteArray) (v0_2:Sl) (v0_3:Sl) (fits1F:FuncId) (fits1A:Array Value) (fits1C:Array Value) (h:Heap) (R:Value→Heap→Prop)
  (H:let h_1:Heap:=Array.push h (.cells #[.int .i64 v0_0,.string v0_1,.slice v0_2.a v0_2.len v0_2.cap,.slice v0_3.a v0_3.len v0_3.cap] 25);let h_2:Heap:=Array.push h_1 (.cells #[.func (.func fits1F) fits1A fits1C] 44);∃ x5_3:Value,cellH h_2 ⟨Array.size h_1,0,none⟩=some x5_3∧∃ x6_4:Int,∃ x6_5:ByteArray,∃ x6_6:Sl,∃ x6_7:Sl,ldList h_2 ⟨Array.size h,0,none⟩ 0 [.int .i64 x6_4,.string x6_5,.slice x6_6.a x6_6.len x6_6.cap,.slice x6_7.a x6_7.len x6_7.cap]∧dynF Tryz.prog x5_3 #[.agg #[.int .i64 x6_4,.string x6_5,.slice x6_6.a x6_6.len x6_6.cap,.slice x6_7.a x6_7.len x6_7.cap]] (fun f_10 as_11=>XC Tryz.prog f_10 as_11 h_2 (fun v_8 h_9=>∃ x7_12:Bool,v_8=.bool x7_12∧∃ x10_13:Sl,(x7_12=true→cellH h_9 (Addr.add ⟨Array.size h,0,none⟩ 3)=some (.slice x10_13.a x10_13.len x10_13.cap))∧∃ J_14:Value→Heap→Prop,(x7_12=true→XC Tryz.prog 80 #[.slice x10_13.a x10_13.len x10_13.cap,.func (.func 81) #[] #[.pointer (some ⟨Array.size h_1,0,none⟩)]] h_9 (fun v_18 h_19=>∃ x12_20:Bool,v_18=.bool x12_20∧J_14 (.bool x12_20) h_19))∧(x7_12=false→∃ x12_21:Bool,J_14 (.bool x12_21) h_9)∧(x7_12=true→∀ v_16 h_17,J_14 v_16 h_17→∃ x12_22:Bool,v_16=.bool x12_22)∧∀ x12_23:Bool,∀ h_15,J_14 (.bool x12_23) h_15→R (.bool (bif x7_12 then(!x12_23) else false)) h_15))):
  XC Tryz.prog 45 #[.agg #[.int .i64 v0_0,.string v0_1,.slice v0_2.a v0_2.len v0_2.cap,.slice v0_3.a v0_3.len v0_3.cap],.func (.func fits1F) fits1A fits1C] h R:=
 XC_of_code Tryz.mixed ⟨[],[],[]⟩ [.agg #[.int .i64 v0_0,.string v0_1,.slice v0_2.a v0_2.len v0_2.cap,.slice v0_3.a v0_3.len v0_3.cap],.func (.func fits1F) fits1A fits1C] (rs:=[.tmp 4]) (n:=15) Tryz.func45 (by kernel_rfl) (by kernel_rfl) (by kernel_rfl) (by kernel_rfl) (Eq.mp (by kernel_rfl) H)
theorem sh_value_Open (v0_0:Int) (v0_1:ByteArray) (v0_2:Sl) (v0_3:Sl) (h:Heap) (R:Value→Heap→Prop)
  (H:let h_1:Heap:=Array.push h (.cells #[.int .i64 v0_0,.string v0_1,.slice v0_2.a v0_2.len v0_2.cap,.slice v0_3.a v0_3.len v0_3.cap] 25);∃ x3_2:Int,∃ x3_3:ByteArray,∃ x3_4:Sl,∃ x3_5:Sl,ldList h_1 ⟨Array.size h,0,none⟩ 0 [.int .i64 x3_2,.string x3_3,.slice x3_4.a x3_4.len x3_4.cap,.slice x3_5.a x3_5.len x3_5.cap]∧XC Tryz.prog 44 #[.agg #[.int .i64 x3_2,.string x3_3,.slice x3_4.a x3_4.len x3_4.cap,.slice x3_5.a x3_5.len x3_5.cap]] h_1 (fun v_6 h_7=>∃ x4_8:Bool,v_6=.bool x4_8∧∃ x6_9:Int,∃ x6_10:ByteArray,∃ x6_11:Sl,∃ x6_12:Sl,(x4_8=true→ldList h_7 ⟨Array.size h,0,none⟩ 0 [.int .i64 x6_9,.string x6_10,.slice x6_11.a x6_11.len x6_11.cap,.slice x6_12.a x6_12.len x6_12.cap])∧∃ J_13:Value→Heap→Prop,(x4_8=true→XC Tryz.prog 45 #[.agg #[.int .i64 x6_9,.string x6_10,.slice x6_11.a x6_11.len x6_11.cap,.slice x6_12.a x6_12.len x6_12.cap],.func (.func 47) #[] #[]] h_7 (fun v_17 h_18=>∃ x7_19:Bool,v_17=.bool x7_19∧J_13 (.bool x7_19) h_18))∧(x4_8=false→∃ x7_20:Bool,J_13 (.bool x7_20) h_7)∧(x4_8=true→∀ v_15 h_16,J_13 v_15 h_16→∃ x7_21:Bool,v_15=.bool x7_21)∧∀ x7_22:Bool,∀ h_14,J_13 (.bool x7_22) h_14→R (.bool (bif x4_8 then x7_22 else false)) h_14)):
  XC Tryz.prog 42 #[.agg #[.int .i64 v0_0,.string v0_1,.slice v0_2.a v0_2.len v0_2.cap,.slice v0_3.a v0_3.len v0_3.cap]] h R:=
 XC_of_code Tryz.mixed ⟨[],[],[]⟩ [.agg #[.int .i64 v0_0,.string v0_1,.slice v0_2.a v0_2.len v0_2.cap,.slice v0_3.a v0_3.len v0_3.cap]] (rs:=[.tmp 2]) (n:=9) Tryz.func42 (by kernel_rfl) (by kernel_rfl) (by kernel_rfl) (by kernel_rfl) (Eq.mp (by kernel_rfl) H)
theorem sh_slices_ContainsFunc_string_string (s0:Sl) (f1F:FuncId) (f1A:Array Value) (f1C:Array Value) (h:Heap) (R:Value→Heap→Prop)
  (H:XC Tryz.prog 112 #[.slice s0.a s0.len s0.cap,.func (.func f1F) f1A f1C] h (fun v_1 h_2=>∃ x7_3:Int,v_1=.int .i64 x7_3∧R (.bool (decide ((x7_3:Int)≥0))) h_2)):
  XC Tryz.prog 73 #[.slice s0.a s0.len s0.cap,.func (.func f1F) f1A f1C] h R:=
 XC_of_code Tryz.mixed ⟨[],[],[]⟩ [.slice s0.a s0.len s0.cap,.func (.func f1F) f1A f1C] (rs:=[.tmp 4]) (n:=9) Tryz.func73 (by kernel_rfl) (by kernel_rfl) (by kernel_rfl) (by kernel_rfl) (Eq.mp (by kernel_rfl) H)
theorem sh_slices_IndexFunc_string_string (s0:Sl) (f1F:FuncId) (f1A:Array Value) (f1C:Array Value) (h:Heap) (R:Value→Heap→Prop)
  (H:∃ (I_1:Int→Heap→Prop) (μ_2:Int→Heap→Nat),I_1 0 h∧∀ x8_3:Int,∀ h_4:Heap,I_1 x8_3 h_4→(((decide ((x8_3:Int) < ((s0.len:Nat):Int)))=true→∃ a_5:Addr,(s0.a=some a_5∧0≤(x8_3:Int)∧(x8_3:Int) < ((s0.len:Nat):Int))∧∃ x15_6:ByteArray,cellH h_4 (a_5.add ((x8_3:Int).toNat*1))=some (.string x15_6)∧callable Tryz.prog f1F=true∧XC Tryz.prog f1F (f1A++#[.string x15_6]++f1C) h_4 (fun v_7 h_8=>∃ x16_9:Bool,v_7=.bool x16_9∧(x16_9=true→R (.int .i64 x8_3) h_8)∧(x16_9=false→(I_1 (IntKind.wrap .i64 (x8_3+1)) h_8∧μ_2 (IntKind.wrap .i64 (x8_3+1)) h_8 < μ_2 x8_3 h_4))))∧((decide ((x8_3:Int) < ((s0.len:Nat):Int)))=false→R (.int .i64 (-1)) h_4))):
  XC Tryz.prog 112 #[.slice s0.a s0.len s0.cap,.func (.func f1F) f1A f1C] h R:=
 XC_of_code Tryz.mixed ⟨[],[(2,[(8,.one (.int .i64))])],[]⟩ [.slice s0.a s0.len s0.cap,.func (.func f1F) f1A f1C] (rs:=[.tmp 4]) (n:=19) Tryz.func112 (by kernel_rfl) (by kernel_rfl) (by kernel_rfl) (by kernel_rfl) (Eq.mp (by kernel_rfl) H)
theorem sh_pointer_Right_1 (s0:ByteArray) (h:Heap) (R:Value→Heap→Prop)
  (H:XC Tryz.prog 75 #[.string s0] h (fun v_1 h_2=>∃ x4_3:Bool,v_1=.bool x4_3∧R (.bool (!x4_3)) h_2)):
  XC Tryz.prog 74 #[.string s0] h R:=
 XC_of_code Tryz.mixed ⟨[],[],[]⟩ [.string s0] (rs:=[.tmp 2]) (n:=6) Tryz.func74 (by kernel_rfl) (by kernel_rfl) (by kernel_rfl) (by kernel_rfl) (Eq.mp (by kernel_rfl) H)
theorem sh_pointer_Right (path0:Sl) (h:Heap) (R:Value→Heap→Prop)
  (H:∃ J_1:Value→Heap→Prop,((decide ((((path0.len:Nat):Int):Int)≤64))=true→XC Tryz.prog 73 #[.slice path0.a path0.len path0.cap,.func (.func 74) #[] #[]] h (fun v_5 h_6=>∃ x8_7:Bool,v_5=.bool x8_7∧J_1 (.bool x8_7) h_6))∧((decide ((((path0.len:Nat):Int):Int)≤64))=false→∃ x8_8:Bool,J_1 (.bool x8_8) h)∧((decide ((((path0.len:Nat):Int):Int)≤64))=true→∀ v_3 h_4,J_1 v_3 h_4→∃ x8_9:Bool,v_3=.bool x8_9)∧∀ x8_10:Bool,∀ h_2,J_1 (.bool x8_10) h_2→R (.bool (bif (decide ((((path0.len:Nat):Int):Int)≤64)) then(!x8_10) else false)) h_2):
  XC Tryz.prog 37 #[.slice path0.a path0.len path0.cap] h R:=
 XC_of_code Tryz.mixed ⟨[],[],[]⟩ [.slice path0.a path0.len path0.cap] (rs:=[.tmp 2]) (n:=11) Tryz.func37 (by kernel_rfl) (by kernel_rfl) (by kernel_rfl) (by kernel_rfl) (Eq.mp (by kernel_rfl) H)
theorem sh_value_clone (v0_0:Int) (v0_1:ByteArray) (v0_2:Sl) (v0_3:Sl) (h:Heap) (R:Value→Heap→Prop)
  (H:let h_1:Heap:=Array.push h (.cells #[.int .i64 v0_0,.string v0_1,.slice v0_2.a v0_2.len v0_2.cap,.slice v0_3.a v0_3.len v0_3.cap] 25);let h_2:Heap:=Array.push h_1 (.cells #[.int .i64 0,.string (⟨#[]⟩:ByteArray),.slice none 0 0,.slice none 0 0] 25);∃ x6_3:Sl,cellH h_2 (Addr.add ⟨Array.size h,0,none⟩ 2)=some (.slice x6_3.a x6_3.len x6_3.cap)∧∃ x9_4:Sl,cellH h_2 (Addr.add ⟨Array.size h,0,none⟩ 3)=some (.slice x9_4.a x9_4.len x9_4.cap)∧XC Tryz.prog 99 #[.slice x6_3.a x6_3.len x6_3.cap] h_2 (fun v_5 h_6=>∃ x7_7:Sl,v_5=.slice x7_7.a x7_7.len x7_7.cap∧Keep (Array.size h_2) h_2 h_6∧XC Tryz.prog 100 #[.slice x9_4.a x9_4.len x9_4.cap] h_6 (fun v_8 h_9=>∃ x10_10:Sl,v_8=.slice x10_10.a x10_10.len x10_10.cap∧XRunU Tryz.prog (Instr.storeAt 22 (.pointer (some (Addr.add ⟨Array.size h,0,none⟩ 2))) (.slice x7_7.a x7_7.len x7_7.cap)) h_9 (fun h_11=>XRunU Tryz.prog (Instr.storeAt 23 (.pointer (some (Addr.add ⟨Array.size h,0,none⟩ 3))) (.slice x10_10.a x10_10.len x10_10.cap)) h_11 (fun h_12=>∃ x14_13:Sl,cellH h_12 (Addr.add ⟨Array.size h,0,none⟩ 3)=some (.slice x14_13.a x14_13.len x14_13.cap)∧∃ (I_14:Int→Heap→Prop) (μ_15:Int→Heap→Nat),I_14 0 h_12∧∀ x16_16:Int,∀ h_17:Heap,I_14 x16_16 h_17→(((decide ((x16_16:Int) < ((x14_13.len:Nat):Int)))=true→∃ a_18:Addr,(x14_13.a=some a_18∧0≤(x16_16:Int)∧(x16_16:Int) < ((x14_13.len:Nat):Int))∧∃ x20_19:Int,∃ x20_20:ByteArray,∃ x20_21:Sl,∃ x20_22:Sl,ldList h_17 (a_18.add ((x16_16:Int).toNat*4)) 0 [.int .i64 x20_19,.string x20_20,.slice x20_21.a x20_21.len x20_21.cap,.slice x20_22.a x20_22.len x20_22.cap]∧let h_23:Heap:=Array.push h_17 (.cells #[.int .i64 0,.string (⟨#[]⟩:ByteArray),.slice none 0 0,.slice none 0 0] 25);XRunU Tryz.prog (Instr.storeAt 25 (.pointer (some ⟨Array.size h_17,0,none⟩)) (.agg #[.int .i64 x20_19,.string x20_20,.slice x20_21.a x20_21.len x20_21.cap,.slice x20_22.a x20_22.len x20_22.cap])) h_23 (fun h_24=>∃ x22_25:Sl,cellH h_24 (Addr.add ⟨Array.size h,0,none⟩ 3)=some (.slice x22_25.a x22_25.len x22_25.cap)∧∃ x24_26:Int,∃ x24_27:ByteArray,∃ x24_28:Sl,∃ x24_29:Sl,ldList h_24 ⟨Array.size h_17,0,none⟩ 0 [.int .i64 x24_26,.string x24_27,.slice x24_28.a x24_28.len x24_28.cap,.slice x24_29.a x24_29.len x24_29.cap]∧∃ a_30:Addr,(x22_25.a=some a_30∧0≤(x16_16:Int)∧(x16_16:Int) < ((x22_25.len:Nat):Int))∧XC Tryz.prog 58 #[.agg #[.int .i64 x24_26,.string x24_27,.slice x24_28.a x24_28.len x24_28.cap,.slice x24_29.a x24_29.len x24_29.cap]] h_24 (fun v_31 h_32=>∃ x25_33:Int,∃ x25_34:ByteArray,∃ x25_35:Sl,∃ x25_36:Sl,v_31=.agg #[.int .i64 x25_33,.string x25_34,.slice x25_35.a x25_35.len x25_35.cap,.slice x25_36.a x25_36.len x25_36.cap]∧Keep (Array.size h_24) h_24 h_32∧XRunU Tryz.prog (Instr.storeAt 25 (.pointer (some (a_30.add ((x16_16:Int).toNat*4)))) (.agg #[.int .i64 x25_33,.string x25_34,.slice x25_35.a x25_35.len x25_35.cap,.slice x25_36.a x25_36.len x25_36.cap])) h_32 (fun h_37=>(I_14 (IntKind.wrap .i64 (x16_16+1)) h_37∧μ_15 (IntKind.wrap .i64 (x16_16+1)) h_37 < μ_15 x16_16 h_17)))))∧((decide ((x16_16:Int) < ((x14_13.len:Nat):Int)))=false→∃ x28_38:Int,∃ x28_39:ByteArray,∃ x28_40:Sl,∃ x28_41:Sl,ldList h_17 ⟨Array.size h,0,none⟩ 0 [.int .i64 x28_38,.string x28_39,.slice x28_40.a x28_40.len x28_40.cap,.slice x28_41.a x28_41.len x28_41.cap]∧XRunU Tryz.prog (Instr.storeAt 25 (.pointer (some ⟨Array.size h_1,0,none⟩)) (.agg #[.int .i64 x28_38,.string x28_39,.slice x28_40.a x28_40.len x28_40.cap,.slice x28_41.a x28_41.len x28_41.cap])) h_17 (fun h_42=>∃ r_43:Int,∃ r_44:ByteArray,∃ r_45:Sl,∃ r_46:Sl,ldList h_42 ⟨Array.size h_1,0,none⟩ 0 [.int .i64 r_43,.string r_44,.slice r_45.a r_45.len r_45.cap,.slice r_46.a r_46.len r_46.cap]∧R (.agg #[.int .i64 r_43,.string r_44,.slice r_45.a r_45.len r_45.cap,.slice r_46.a r_46.len r_46.cap]) h_42)))))))):
  XC Tryz.prog 58 #[.agg #[.int .i64 v0_0,.string v0_1,.slice v0_2.a v0_2.len v0_2.cap,.slice v0_3.a v0_3.len v0_3.cap]] h R:=
 XC_of_code Tryz.mixed ⟨[(1,2000),(5,2000)],[(3,[(16,.one (.int .i64))])],[]⟩ [.agg #[.int .i64 v0_0,.string v0_1,.slice v0_2.a v0_2.len v0_2.cap,.slice v0_3.a v0_3.len v0_3.cap]] (rs:=[.cell 2 25]) (n:=29) Tryz.func58 (by kernel_rfl) (by kernel_rfl) (by kernel_rfl) (by kernel_rfl) (Eq.mp (by kernel_rfl) H)
theorem sh_slices_Clone_string_string (s0:Sl) (h:Heap) (R:Value→Heap→Prop)
  (H:(((s0.a).isNone)=true→R (.slice none 0 0) h)∧(((s0.a).isNone)=false→let h_1:Heap:=Array.push h (.cells #[] 9);XRun Tryz.prog (Builtin.append_ #[22,22] 22 #[.slice (some ⟨Array.size h,0,none⟩) 0 0,.slice s0.a s0.len s0.cap]) h_1 (fun v_2 h_3=>∃ x7_4:Sl,v_2=.slice x7_4.a x7_4.len x7_4.cap∧R (.slice x7_4.a x7_4.len x7_4.cap) h_3))):
  XC Tryz.prog 99 #[.slice s0.a s0.len s0.cap] h R:=
 XC_of_code Tryz.mixed ⟨[],[],[]⟩ [.slice s0.a s0.len s0.cap] (rs:=[.tmp 2]) (n:=8) Tryz.func99 (by kernel_rfl) (by kernel_rfl) (by kernel_rfl) (by kernel_rfl) (Eq.mp (by kernel_rfl) H)
theorem sh_slices_Clone_api_Value_api_Value (s0:Sl) (h:Heap) (R:Value→Heap→Prop)
  (H:(((s0.a).isNone)=true→R (.slice none 0 0) h)∧(((s0.a).isNone)=false→let h_1:Heap:=Array.push h (.cells #[] 25);XRun Tryz.prog (Builtin.append_ #[23,23] 23 #[.slice (some ⟨Array.size h,0,none⟩) 0 0,.slice s0.a s0.len s0.cap]) h_1 (fun v_2 h_3=>∃ x7_4:Sl,v_2=.slice x7_4.a x7_4.len x7_4.cap∧R (.slice x7_4.a x7_4.len x7_4.cap) h_3))):
  XC Tryz.prog 100 #[.slice s0.a s0.len s0.cap] h R:=
 XC_of_code Tryz.mixed ⟨[],[],[]⟩ [.slice s0.a s0.len s0.cap] (rs:=[.tmp 2]) (n:=8) Tryz.func100 (by kernel_rfl) (by kernel_rfl) (by kernel_rfl) (by kernel_rfl) (Eq.mp (by kernel_rfl) H)
theorem sh_value_Copy (v0_0:Int) (v0_1:ByteArray) (v0_2:Sl) (v0_3:Sl) (h:Heap) (R:Value→Heap→Prop)
  (H:let h_1:Heap:=Array.push h (.cells #[.int .i64 v0_0,.string v0_1,.slice v0_2.a v0_2.len v0_2.cap,.slice v0_3.a v0_3.len v0_3.cap] 25);let h_2:Heap:=Array.push h_1 (.cells #[.int .i64 0,.string (⟨#[]⟩:ByteArray),.slice none 0 0,.slice none 0 0] 25);∃ x3_3:Int,∃ x3_4:ByteArray,∃ x3_5:Sl,∃ x3_6:Sl,ldList h_2 ⟨Array.size h,0,none⟩ 0 [.int .i64 x3_3,.string x3_4,.slice x3_5.a x3_5.len x3_5.cap,.slice x3_6.a x3_6.len x3_6.cap]∧XC Tryz.prog 42 #[.agg #[.int .i64 x3_3,.string x3_4,.slice x3_5.a x3_5.len x3_5.cap,.slice x3_6.a x3_6.len x3_6.cap]] h_2 (fun v_7 h_8=>∃ x4_9:Bool,v_7=.bool x4_9∧((!x4_9)=true→XRunU Tryz.prog (Instr.storeAt 25 (.pointer (some ⟨Array.size h_1,0,none⟩)) (.agg #[.int .i64 0,.string (⟨#[]⟩:ByteArray),.slice none 0 0,.slice none 0 0])) h_8 (fun h_10=>∃ r_11:Int,∃ r_12:ByteArray,∃ r_13:Sl,∃ r_14:Sl,ldList h_10 ⟨Array.size h_1,0,none⟩ 0 [.int .i64 r_11,.string r_12,.slice r_13.a r_13.len r_13.cap,.slice r_14.a r_14.len r_14.cap]∧R (.agg #[.int .i64 r_11,.string r_12,.slice r_13.a r_13.len r_13.cap,.slice r_14.a r_14.len r_14.cap]) h_10))∧((!x4_9)=false→∃ x7_15:Int,∃ x7_16:ByteArray,∃ x7_17:Sl,∃ x7_18:Sl,ldList h_8 ⟨Array.size h,0,none⟩ 0 [.int .i64 x7_15,.string x7_16,.slice x7_17.a x7_17.len x7_17.cap,.slice x7_18.a x7_18.len x7_18.cap]∧XC Tryz.prog 58 #[.agg #[.int .i64 x7_15,.string x7_16,.slice x7_17.a x7_17.len x7_17.cap,.slice x7_18.a x7_18.len x7_18.cap]] h_8 (fun v_19 h_20=>∃ x8_21:Int,∃ x8_22:ByteArray,∃ x8_23:Sl,∃ x8_24:Sl,v_19=.agg #[.int .i64 x8_21,.string x8_22,.slice x8_23.a x8_23.len x8_23.cap,.slice x8_24.a x8_24.len x8_24.cap]∧XRunU Tryz.prog (Instr.storeAt 25 (.pointer (some ⟨Array.size h_1,0,none⟩)) (.agg #[.int .i64 x8_21,.string x8_22,.slice x8_23.a x8_23.len x8_23.cap,.slice x8_24.a x8_24.len x8_24.cap])) h_20 (fun h_25=>∃ r_26:Int,∃ r_27:ByteArray,∃ r_28:Sl,∃ r_29:Sl,ldList h_25 ⟨Array.size h_1,0,none⟩ 0 [.int .i64 r_26,.string r_27,.slice r_28.a r_28.len r_28.cap,.slice r_29.a r_29.len r_29.cap]∧R (.agg #[.int .i64 r_26,.string r_27,.slice r_28.a r_28.len r_28.cap,.slice r_29.a r_29.len r_29.cap]) h_25))))):
  XC Tryz.prog 32 #[.agg #[.int .i64 v0_0,.string v0_1,.slice v0_2.a v0_2.len v0_2.cap,.slice v0_3.a v0_3.len v0_3.cap]] h R:=
 XC_of_code Tryz.mixed ⟨[],[],[]⟩ [.agg #[.int .i64 v0_0,.string v0_1,.slice v0_2.a v0_2.len v0_2.cap,.slice v0_3.a v0_3.len v0_3.cap]] (rs:=[.cell 2 25]) (n:=9) Tryz.func32 (by kernel_rfl) (by kernel_rfl) (by kernel_rfl) (by kernel_rfl) (Eq.mp (by kernel_rfl) H)
theorem sh_pointer_walk (v0_0:Int) (v0_1:ByteArray) (v0_2:Sl) (v0_3:Sl) (path1:Sl) (h:Heap) (R:Value→Heap→Prop)
  (H:let h_1:Heap:=Array.push h (.cells #[.int .i64 v0_0,.string v0_1,.slice v0_2.a v0_2.len v0_2.cap,.slice v0_3.a v0_3.len v0_3.cap] 25);let h_2:Heap:=Array.push h_1 (.cells #[.slice path1.a path1.len path1.cap] 22);R (.func (.func 116) #[] #[.pointer (some ⟨Array.size h_1,0,none⟩),.pointer (some ⟨Array.size h,0,none⟩)]) h_2):
  XC Tryz.prog 77 #[.agg #[.int .i64 v0_0,.string v0_1,.slice v0_2.a v0_2.len v0_2.cap,.slice v0_3.a v0_3.len v0_3.cap],.slice path1.a path1.len path1.cap] h R:=
 XC_of_code Tryz.mixed ⟨[],[],[]⟩ [.agg #[.int .i64 v0_0,.string v0_1,.slice v0_2.a v0_2.len v0_2.cap,.slice v0_3.a v0_3.len v0_3.cap],.slice path1.a path1.len path1.cap] (rs:=[.tmp 4]) (n:=6) Tryz.func77 (by kernel_rfl) (by kernel_rfl) (by kernel_rfl) (by kernel_rfl) (Eq.mp (by kernel_rfl) H)
end Go.Proofs.YtbploiccompocaaGreatDoor
end
section
namespace Go.Proofs.YtbploiccompocaaGreatDoor
open Go Go.X Go.Proofs
set_option linter.unusedVariables false
theorem mapBool:MapT Tryz.prog 123 9 4 (.bool false):=⟨by kernel_rfl,by kernel_rfl,⟨Tryz.t4,by kernel_rfl,by kernel_rfl⟩⟩
set_option maxHeartbeats 1000000 in
theorem keyed_pc {gl:Fr} (hg:GL gl) {ks:List ByteArray} {n:Int} (hk:∀ k∈ks,(lb k).length≤1048576) {R:Bool→Prop} (h:R (keysOk ks && decide ((ks.length:Int)=n))):PC Tryz.prog gl 82 [Arg.mk (.row .str) ks,Arg.mk (.int .i64) n] [.bool] R:=by
 intro hp M vs hM ag ha
 match vs,ha with
 | [u,w],⟨h1,h2,_⟩=>
  obtain⟨s,rfl,hr⟩:=rdRow h1
  have hw:=rdInt_eq h2
  subst hw
  have hr:Rd M (.row .str) ks [slV s]:=hr
  obtain⟨hlen,hb1,hb2⟩:=rowLen hr
  apply PX.of
  apply sh_value_keyed s n
  intro g0
  have kg:Keep hp.size hp g0:=Keep.push _ _ (Nat.le_refl _)
  have sg:g0.size=hp.size+1:=Array.size_push _
  have mg:MapAt g0 hp.size []:=MapAt.new hp
  clear_value g0
  refine⟨fun i h4=>∃ k:Nat,i=k∧k≤ks.length∧hp.size < h4.size∧(∃ M4,Later hp M h4 M4∧M4 hp.size=none)∧(∃ l,MapAt h4 hp.size l∧∀ x,getZ l x (.bool false)=.bool (decide (x∈ks.take k)))∧keysOk (ks.take k)=true,fun i _=>ks.length - i.toNat,
   ⟨0,rfl,by omega,by omega,⟨M,Later.same ag kg,ag.none (Nat.le_refl _)⟩,⟨[],mg,fun x=>rfl⟩,by simp [keysOk]⟩,?_⟩
  rintro i h4 ⟨k,rfl,hk',hsz,⟨M4,L4,hm0⟩,⟨l,hl1,hl2⟩,hok⟩
  refine⟨fun hc=>?_,fun hc=>?_⟩
  ·have hc':k < ks.length:=by simp at hc;omega
   have hr4:=Rd.mono L4.le hr
   refine strAt L4.ag hr4 hc' rfl rfl ?_
   have hlk:=lookup_core mapBool hl1 ks[k] false
   rw [hl2] at hlk
   refine⟨decide (ks[k]∈ks.take k),hlk,?_⟩
   have hplain:=vplain_pc hg.tabs (l:=lb ks[k]) (R:=fun b=>b=u8ok (lb ks[k])) (by have:=hk _ (List.getElem_mem hc');omega) rfl
   rw [bl_lb] at hplain
   generalize hd:decide (ks[k]∈ks.take k)=d
   refine⟨fun v h5=>∃ b,v=.bool b∧(d=false→b=u8ok (lb ks[k]))∧hp.size < h5.size∧(∃ M5,Later hp M h5 M5∧M5 hp.size=none)∧MapAt h5 hp.size l,fun hn=>?_,fun hn=>⟨true,true,rfl,fun e=>(by rw [e] at hn;cases hn),hsz,⟨M4,L4,hm0⟩,hl1⟩,fun _ v h5 ⟨b,e,_⟩=>⟨b,e⟩,?_⟩
   ·refine hplain.go (vs:=[.string ks[k]]) (hM.trans L4.le) L4.ag (args1 (rdStr _) args0) fun v h5 M5 r L5 hret hr5=>⟨r,retB hret,r,rfl,fun _=>hr5,by have:=L5.keep.size;omega,⟨M5,L4.trans L5,by rw [L5.old _ hsz,hm0]⟩,hl1.keep (L5.keep.get _ hsz)⟩
   ·rintro b h5 ⟨b',e,hb,hsz5,⟨M5,L5,hm5⟩,hl5⟩
    cases e
    have htk:ks.take (k+1)=ks.take k++[ks[k]]:=List.take_succ_eq_append_getElem hc'
    have hnd:keysOk (ks.take (k+1))=(!d && u8ok (lb ks[k])):=by
     have hok':=hok
     unfold keysOk at hok' ⊢
     rw [Bool.and_eq_true,decide_eq_true_eq] at hok'
     rw [htk,List.all_append,hok'.1,← hd]
     have:decide (List.take k ks++[ks[k]]).Nodup=!decide (ks[k]∈ks.take k):=by
      rw [Bool.eq_iff_iff]
      simp only [decide_eq_true_eq,Bool.not_eq_true',decide_eq_false_iff_not,List.nodup_append]
      constructor
      ·rintro⟨_,_,h3⟩ hmem
       exact h3 _ hmem _ (by simp) rfl
      ·intro hmem
       exact⟨hok'.2,by simp,fun a ha b hb e=>hmem (by simp at hb;rw [← hb,← e];exact ha)⟩
     rw [this];simp [Bool.and_comm]
    refine⟨fun hx=>?_,fun hx=>?_⟩
    ·refine⟨M5,_,L5,ret1.2 (rdBool _),?_⟩
     have hf:keysOk (ks.take (k+1))=false:=by
      rw [hnd]
      cases d with
      | true=>rfl
      | false=>rw [hb rfl] at hx;simpa using hx
     have hf2:keysOk ks=false:=by
      cases hks:keysOk ks with
      | false=>rfl
      | true=>
       unfold keysOk at hks hf
       rw [Bool.and_eq_true,decide_eq_true_eq] at hks
       have h1:((ks.take (k+1)).all fun k=>u8ok (lb k))=true:=by
        rw [List.all_eq_true] at hks ⊢
        exact fun x hx=>hks.1 x (List.mem_of_mem_take hx)
       have h2:(ks.take (k+1)).Nodup:=hks.2.sublist (List.take_sublist _ _)
       rw [h1,decide_eq_true h2] at hf;cases hf
     rw [hf2] at h;exact h
    ·have hd0:d=false:=by cases d with
      | true=>simp at hx
      | false=>rfl
     have hbt:u8ok (lb ks[k])=true:=by rw [← hb hd0];rw [hd0] at hx;simpa using hx
     refine update_ok mapBool hl5 ks[k] (.bool true) fun h6 m6 s6 o6=>?_
     rw [wsucc hc' (by omega)]
     refine⟨⟨k+1,rfl,by omega,by omega,⟨M5,⟨⟨by have:=L5.keep.size;omega,fun i hi=>by rw [o6 i (by omega)];exact L5.keep.get i hi⟩,L5.le,L5.old,?_⟩,hm5⟩,⟨_,m6,fun x=>?_⟩,by rw [hnd,hd0,hbt];rfl⟩,by simp only [Int.toNat_natCast];omega⟩
     ·intro b c e
      have hne:b≠hp.size:=fun e2=>by rw [e2,hm5] at e;cases e
      obtain⟨T,m,e'⟩:=L5.ag b c e
      exact⟨T,m,by rw [o6 b hne];exact e'⟩
     ·unfold getZ
      rw [getL_setL,htk]
      by_cases hx2:ks[k]=x
      ·subst hx2
       rw [if_pos rfl]
       simp only [List.mem_append,List.mem_singleton,or_true,decide_true,Option.getD_some]
      ·rw [if_neg hx2]
       have:=hl2 x
       unfold getZ at this
       rw [this]
       congr 1
       rw [Bool.eq_iff_iff,decide_eq_true_eq,decide_eq_true_eq,List.mem_append,List.mem_singleton]
       exact⟨.inl,fun e=>e.elim id fun e=>absurd e.symm hx2⟩
  ·have hc':k=ks.length:=by simp at hc;omega
   subst hc'
   rw [List.take_length] at hok
   refine⟨M4,_,L4,ret1.2 (rdBool _),?_⟩
   rw [hok,Bool.true_and] at h
   have:(((s.len:Nat):Int)==n)=decide ((ks.length:Int)=n):=by rw [hlen,Bool.eq_iff_iff];simp
   rw [this];exact h
def Beh (gl:Fr) (F:FuncId) (A C:Array Value) (h:Heap) (M:Fr) (t:Ty) (x:El t) (b:Bool):Prop:=
 callable Tryz.prog F=true∧∀ h' M' u,Later h M h' M'→RdV M' t x u→PX Tryz.prog F (A++#[u]++C) h' M' [.bool] (fun r=>r=b)
theorem ifTree {gl:Fr} {F:FuncId} {A C:Array Value} {h:Heap} {M:Fr} (ag:AgM M h) {xs:List Tr} {s:Sl} (hr:Rd M (.row .tree) xs [slV s]) {p:Tr→Bool} (hb:∀ x∈xs,Beh gl F A C h M .tree x (p x)):
  PX Tryz.prog 80 #[slV s,.func (.func F) A C] h M [.bool] (fun r=>r=xs.any p):=by
 apply PX.of
 apply sh_slices_ContainsFunc_api_Value_api_Value s F A C
 apply sh_slices_IndexFunc_api_Value_api_Value s F A C
 obtain⟨hlen,hb1,hb2⟩:=rowLen hr
 refine⟨fun i h4=>∃ k:Nat,i=k∧k≤xs.length∧(∃ M4,Later h M h4 M4)∧(xs.take k).any p=false,fun i _=>xs.length - i.toNat,⟨0,rfl,by omega,⟨M,Later.refl ag⟩,by simp⟩,?_⟩
 rintro i h4 ⟨k,rfl,hk,⟨M4,L4⟩,hno⟩
 refine⟨fun hc=>?_,fun hc=>?_⟩
 ·have hc':k < xs.length:=by simp at hc;omega
  obtain⟨a,sk,si,e1,e2,e3,e4⟩:=treeAt L4.ag (Rd.mono L4.le hr) hc'
  refine⟨a,⟨e1,by omega,by omega⟩,xs[k].kind,xs[k].text,sk,si,by rw [Int.toNat_natCast];exact e2,(hb _ (List.getElem_mem hc')).1,?_⟩
  refine((hb _ (List.getElem_mem hc')).2 h4 M4 _ L4 (rdTree_mk e3 e4)).go fun v h5 M5 r L5 hret hr5=>⟨r,retB hret,fun hx=>?_,fun hx=>?_⟩
  ·refine⟨(k:Int),rfl,M5,_,L4.trans L5,ret1.2 (rdBool _),?_⟩
   have:xs.any p=true:=List.any_eq_true.2 ⟨xs[k],List.getElem_mem hc',by rw [← hr5];exact hx⟩
   rw [this];simp
  ·rw [wsucc hc' (by omega)]
   refine⟨⟨k+1,rfl,by omega,⟨M5,L4.trans L5⟩,?_⟩,by simp only [Int.toNat_natCast];omega⟩
   rw [List.take_succ_eq_append_getElem hc',List.any_append,hno]
   simp only [List.any_cons,List.any_nil,← hr5,hx];rfl
 ·have hc':k=xs.length:=by simp at hc;omega
  subst hc'
  rw [List.take_length] at hno
  refine⟨-1,rfl,M4,_,L4,ret1.2 (rdBool _),?_⟩
  rw [hno];rfl
theorem ifStr {gl:Fr} {F:FuncId} {A C:Array Value} {h:Heap} {M:Fr} (ag:AgM M h) {xs:List ByteArray} {s:Sl} (hr:Rd M (.row .str) xs [slV s]) {p:ByteArray→Bool} (hb:∀ x∈xs,Beh gl F A C h M .str x (p x)):
  PX Tryz.prog 73 #[slV s,.func (.func F) A C] h M [.bool] (fun r=>r=xs.any p):=by
 apply PX.of
 apply sh_slices_ContainsFunc_string_string s F A C
 apply sh_slices_IndexFunc_string_string s F A C
 obtain⟨hlen,hb1,hb2⟩:=rowLen hr
 refine⟨fun i h4=>∃ k:Nat,i=k∧k≤xs.length∧(∃ M4,Later h M h4 M4)∧(xs.take k).any p=false,fun i _=>xs.length - i.toNat,⟨0,rfl,by omega,⟨M,Later.refl ag⟩,by simp⟩,?_⟩
 rintro i h4 ⟨k,rfl,hk,⟨M4,L4⟩,hno⟩
 refine⟨fun hc=>?_,fun hc=>?_⟩
 ·have hc':k < xs.length:=by simp at hc;omega
  refine strAt L4.ag (Rd.mono L4.le hr) hc' rfl rfl ⟨(hb _ (List.getElem_mem hc')).1,?_⟩
  refine((hb _ (List.getElem_mem hc')).2 h4 M4 _ L4 (rdStr _)).go fun v h5 M5 r L5 hret hr5=>⟨r,retB hret,fun hx=>?_,fun hx=>?_⟩
  ·refine⟨(k:Int),rfl,M5,_,L4.trans L5,ret1.2 (rdBool _),?_⟩
   have:xs.any p=true:=List.any_eq_true.2 ⟨xs[k],List.getElem_mem hc',by rw [← hr5];exact hx⟩
   rw [this];simp
  ·rw [wsucc hc' (by omega)]
   refine⟨⟨k+1,rfl,by omega,⟨M5,L4.trans L5⟩,?_⟩,by simp only [Int.toNat_natCast];omega⟩
   rw [List.take_succ_eq_append_getElem hc',List.any_append,hno]
   simp only [List.any_cons,List.any_nil,← hr5,hx];rfl
 ·have hc':k=xs.length:=by simp at hc;omega
  subst hc'
  rw [List.take_length] at hno
  refine⟨-1,rfl,M4,_,L4,ret1.2 (rdBool _),?_⟩
  rw [hno];rfl
end Go.Proofs.YtbploiccompocaaGreatDoor
end
section
namespace Go.Proofs.YtbploiccompocaaGreatDoor
open Go Go.X Go.Proofs
set_option linter.unusedVariables false
theorem nilL {l:List ByteArray}:decide (((l.length:Nat):Int) > 0)=!l.isEmpty:=by cases l <;> simp
theorem nilLT {l:List Tr}:decide (((l.length:Nat):Int) > 0)=!l.isEmpty:=by cases l <;> simp
theorem txtNil (s:ByteArray):(s.toList==(⟨#[]⟩:ByteArray).toList)=(lb s==[]):=by
 have:=bl_eq (lb s) []
 rw [bl_lb] at this
 rw [show(⟨#[]⟩:ByteArray)=bl [] from rfl,this,Bool.eq_iff_iff];simp
theorem txtEq (s:ByteArray) (l:Bs):(s.toList==(bl l).toList)=(lb s==l):=by
 have:=bl_eq (lb s) l
 rw [bl_lb] at this
 rw [this,Bool.eq_iff_iff];simp
theorem keqI {k n:Int}:(k==n)=decide (k=n):=by rw [Bool.eq_iff_iff];simp
set_option maxHeartbeats 1000000 in
theorem node_pc {gl:Fr} (hg:GL gl) {v:Tr} (hv:Sm v) {R:Bool→Prop} (h:R (nodeOk v)):PC Tryz.prog gl 47 [Arg.mk .tree v] [.bool] R:=by
 apply pu_value_node
 have ht:(lb v.text).length≤1152921504606846976:=by have:=hv.text;omega
 have key:∀ b,b=nodeOk v→R b:=fun b hb=>by rw [hb];exact h
 have hd:=vdecimal_pc hg (s:=lb v.text) (R:=fun r=>R r.2∨v.kind≠3) ht
 have hpl:=vplain_pc hg.tabs (l:=lb v.text) (R:=fun r=>r=u8ok (lb v.text)) (by omega) rfl
 have hho:=hole_pc hg (s:=lb v.text) (R:=fun r=>r=holeOk (lb v.text)) ht rfl
 have hde:=vdecimal_pc hg (s:=lb v.text) (R:=fun r=>r.2=(decS (lb v.text)).2) ht rfl
 rw [bl_lb] at hpl hho hde
 simp only [keqI,nilL,nilLT,show(⟨#[116,114,117,101]⟩:ByteArray)=bl [116,114,117,101] from rfl,show(⟨#[102,97,108,115,101]⟩:ByteArray)=bl [102,97,108,115,101] from rfl,txtEq]
 unfold nodeOk at key
 refine⟨fun h5=>key _ ?_,fun h5=>⟨fun h6=>?_,fun h6=>⟨fun hx=>key _ ?_,fun hx=>?_⟩⟩⟩
 ·have:v.kind=5:=by simpa using h5
  simp [this,Bool.and_comm]
 ·have h6':v.kind=6:=by simpa using h6
  refine keyed_pc hg (fun k hk=>hv.key hk) (key _ ?_)
  simp only [h6']
  rw [Bool.cond_false_right]
  have:decide ((v.keys.length:Int)=(v.items.length:Int))=decide (v.keys.length=v.items.length):=by rw [Bool.eq_iff_iff,decide_eq_true_eq,decide_eq_true_eq];omega
  rw [this];rfl
 ·have h5':v.kind≠5:=by simpa using h5
  have h6':v.kind≠6:=by simpa using h6
  have hx':(v.keys.isEmpty && v.items.isEmpty)=false:=by
   cases hk:v.keys.isEmpty <;> cases hi:v.items.isEmpty <;> simp [hk,hi] at hx ⊢
  simp only [h5',h6',if_false,Bool.and_assoc,hx',Bool.and_false]
  simp
 ·have h5':v.kind≠5:=by simpa using h5
  have h6':v.kind≠6:=by simpa using h6
  have hx':v.keys.isEmpty=true∧v.items.isEmpty=true:=by
   cases hk:v.keys.isEmpty <;> cases hi:v.items.isEmpty <;> simp [hk,hi] at hx ⊢
  simp only [h5',h6',if_false,hx'.1,hx'.2,Bool.and_true] at key
  refine⟨fun h1=>key _ ?_,fun h1=>⟨fun h2=>key _ ?_,fun h2=>⟨fun h3=>?_,fun h3=>⟨fun h4=>?_,fun h4=>⟨fun h7=>?_,fun h7=>key _ ?_⟩⟩⟩⟩⟩
  ·have:v.kind=1:=by simpa using h1
   simp [this]
  ·have:v.kind=2:=by simpa using h2
   simp [this]
  ·have:v.kind=3:=by simpa using h3
   exact hde.mono fun r hr=>key _ (by rw [hr];simp [this])
  ·have:v.kind=4:=by simpa using h4
   exact hpl.mono fun r hr=>key _ (by rw [hr];simp [this])
  ·have:v.kind=7:=by simpa using h7
   exact hho.mono fun r hr=>key _ (by rw [hr];simp [this])
  ·have h1':v.kind≠1:=by simpa using h1
   have h2':v.kind≠2:=by simpa using h2
   have h3':v.kind≠3:=by simpa using h3
   have h4':v.kind≠4:=by simpa using h4
   have h7':v.kind≠7:=by simpa using h7
   simp [h1',h2',h3',h4',h7']
theorem strIt {l:List ByteArray} {k:Nat} (h:k < l.length):l[((k:Int)).toNat]?=some l[k]:=by rw [Int.toNat_natCast,List.getElem?_eq_getElem h]
theorem every_pn {gl:Fr} {F:FuncId} (hF:callable Tryz.prog F=true) {p:Tr→Bool} (hp:∀ x,Sm x→PC Tryz.prog gl F [Arg.mk .tree x] [.bool] (fun r=>r=p x)) (n:Nat):∀ (v:Tr),tsz v≤n→Sm v→∀ {h:Heap} {M:Fr} {u:Value},Fr.le gl M→AgM M h→RdV M .tree v u →
  PX Tryz.prog 45 #[u,.func (.func F) #[] #[]] h M [.bool] (fun r=>r=allT p v):=by
 induction n with
 | zero=>intro v hn;have:=tsz_pos v;omega
 | succ n ih=>
 intro v hn hv h M u hM ag hu
 have hu0:=hu
 obtain⟨sk,si,rfl,rk,ri⟩:=rdTree hu
 apply PX.of
 apply sh_value_every v.kind v.text sk si F #[] #[]
 intro h1 h2
 have L1:Later h M h1 M:=Later.push ag _
 have L2':Later h1 M h2 (Mx M h1.size #[.func (.func F) #[] #[]]):=Later.frz L1.ag _ _
 have s1:h1.size=h.size+1:=Array.size_push _
 have s2:h2.size=h1.size+1:=Array.size_push _
 have hbox1:ldList h2 ⟨h.size,0,none⟩ 0 [.int .i64 v.kind,.string v.text,slV sk,slV si]:=ldNew (h':=h2) (by have:=L2'.keep;rw [s1] at this;exact this)
 have hb1:∀ h':Heap,Keep h2.size h2 h'→cellH h' (Addr.add ⟨h.size,0,none⟩ 3)=some (slV si):=fun h' k=>by
  refine cellNew (h:=h) (T:=25) (cs:=[.int .i64 v.kind,.string v.text,slV sk,slV si]) ?_ rfl
  have:=L2'.keep.trans k (by omega)
  rw [s1] at this;exact this
 have hbox2:cellH h2 ⟨h1.size,0,none⟩=some (.func (.func F) #[] #[]):=L2'.ag.cell (mx_self _ _ _) rfl
 have hMM:(Mx M h1.size #[.func (.func F) #[] #[]]) h1.size=some #[.func (.func F) #[] #[]]:=mx_self _ _ _
 have L2:=L1.trans L2'
 clear_value h1 h2
 generalize (Mx M h1.size #[.func (.func F) #[] #[]])=M2 at *
 refine⟨_,hbox2,v.kind,v.text,sk,si,hbox1,hF,?_⟩
 refine(hp v hv).go (vs:=[.agg #[.int .i64 v.kind,.string v.text,slV sk,slV si]]) (hM.trans L2.le) L2.ag (args1 (RdV.mono L2.le hu0) args0) fun w h3 M3 r L3 hret hr=>?_
 refine⟨r,retB hret,si,fun _=>hb1 h3 L3.keep,?_⟩
 have L3':=L2.trans L3
 refine⟨fun w h4=>∃ b,w=.bool b∧(r=true→b=!(allTL p v.items))∧∃ M4,Later h M h4 M4,fun hrt=>?_,fun hrf=>⟨true,true,rfl,fun e=>(by rw [e] at hrf;cases hrf),M3,L3'⟩,fun _ w h4 ⟨b,e,_⟩=>⟨b,e⟩,?_⟩
 ·have hr3:Rd M3 (.row .tree) v.items [slV si]:=Rd.mono L3'.le ri
  have hbM:M3 h1.size=some #[.func (.func F) #[] #[]]:=L3.le _ _ hMM
  refine(ifTree (gl:=gl) L3.ag hr3 (p:=fun x=>!(allT p x)) fun x hx=>⟨by kernel_rfl,fun h' M' u' L' hu'=>?_⟩).go fun w h4 M4 b L4 hret4 hb4=>⟨b,retB hret4,b,rfl,fun _=>?_,M4,L3'.trans L4⟩
  ·have hlt:=tsz_item hx
   obtain⟨sk',si',rfl,rk',ri'⟩:=rdTree hu'
   apply PX.of
   show XC Tryz.prog 81 #[.agg #[.int .i64 x.kind,.string x.text,slV sk',slV si'],.pointer (some ⟨h1.size,0,none⟩)] h' _
   apply sh_value_every_1 x.kind x.text sk' si'
   intro g1
   have G1:Later h' M' g1 M':=Later.push L'.ag _
   have hl1:ldList g1 ⟨h'.size,0,none⟩ 0 [.int .i64 x.kind,.string x.text,slV sk',slV si']:=ldNew (Keep.refl _ _)
   have hc1:cellH g1 ⟨h1.size,0,none⟩=some (.func (.func F) #[] #[]):=G1.ag.cell (L'.le _ _ hbM) rfl
   clear_value g1
   refine⟨x.kind,x.text,sk',si',hl1,_,hc1,?_⟩
   refine(ih x (by omega) (hv.item hx) (h:=g1) (M:=M') ((hM.trans L3'.le).trans L'.le) G1.ag (rdTree_mk rk' ri')).go fun w h5 M5 b L5 hret5 hb5=>⟨b,retB hret5,M5,_,G1.trans L5,ret1.2 (rdBool _),by rw [hb5]⟩
  ·rw [hb4,allTL_all,Bool.eq_iff_iff];simp
 ·rintro b h4 ⟨b',e,hb,M4,L4⟩
  cases e
  refine⟨M4,_,L4,ret1.2 (rdBool _),?_⟩
  rw [allT_eq,← hr]
  cases r with
  | false=>rfl
  | true=>rw [hb rfl];simp
theorem every_px {gl:Fr} {F:FuncId} (hF:callable Tryz.prog F=true) {p:Tr→Bool} (hp:∀ x,Sm x→PC Tryz.prog gl F [Arg.mk .tree x] [.bool] (fun r=>r=p x)) (v:Tr) (hv:Sm v) {h:Heap} {M:Fr} {u:Value} (hM:Fr.le gl M) (ag:AgM M h) (hu:RdV M .tree v u):
  PX Tryz.prog 45 #[u,.func (.func F) #[] #[]] h M [.bool] (fun r=>r=allT p v):=every_pn hF hp (tsz v) v (Nat.le_refl _) hv hM ag hu
theorem Open_pc {gl:Fr} (hg:GL gl) {v:Tr} (hv:Sm v) {R:Bool→Prop} (hR:R (openT v)):PC Tryz.prog gl 42 [Arg.mk .tree v] [.bool] R:=by
 intro h M vs hM ag ha
 match vs,ha with
 | [u],⟨hu,_⟩=>
  have hu:RdV M .tree v u:=hu
  have hu0:=hu
  obtain⟨sk,si,rfl,rk,ri⟩:=rdTree hu
  apply PX.of
  apply sh_value_Open v.kind v.text sk si
  intro h1
  have L1:Later h M h1 M:=Later.push ag _
  have s1:h1.size=h.size+1:=Array.size_push _
  have hbox:∀ h':Heap,Keep h1.size h1 h'→ldList h' ⟨h.size,0,none⟩ 0 [.int .i64 v.kind,.string v.text,slV sk,slV si]:=fun h' k=>ldNew (h':=h') (by rw [s1] at k;exact k)
  clear_value h1
  refine⟨v.kind,v.text,sk,si,hbox h1 (Keep.refl _ _),?_⟩
  have hsz:PC Tryz.prog gl 44 [Arg.mk .tree v] [.bool] (fun r=>r=sizedT v):=sized_pc hv rfl
  refine hsz.go (vs:=[.agg #[.int .i64 v.kind,.string v.text,slV sk,slV si]]) (hM.trans L1.le) L1.ag (args1 (RdV.mono L1.le hu0) args0) fun w h2 M2 r L2 hret hr=>?_
  refine⟨r,retB hret,v.kind,v.text,sk,si,fun _=>hbox h2 L2.keep,?_⟩
  have L2':=L1.trans L2
  refine⟨fun w h4=>∃ b,w=.bool b∧(r=true→b=allT nodeOk v)∧∃ M4,Later h M h4 M4,fun hrt=>?_,fun hrf=>⟨true,true,rfl,fun e=>(by rw [e] at hrf;cases hrf),M2,L2'⟩,fun _ w h4 ⟨b,e,_⟩=>⟨b,e⟩,?_⟩
  ·refine(every_px (F:=47) (by kernel_rfl) (p:=nodeOk) (fun x hx=>node_pc hg hx rfl) v hv (hM.trans L2'.le) L2.ag (RdV.mono L2'.le hu0)).go fun w h3 M3 b L3 hret3 hb3=>⟨b,retB hret3,b,rfl,fun _=>hb3,M3,L2'.trans L3⟩
  ·rintro b h4 ⟨b',e,hb,M4,L4⟩
   cases e
   refine⟨M4,_,L4,ret1.2 (rdBool _),?_⟩
   unfold openT at hR
   rw [← hr] at hR
   cases r with
   | false=>exact hR
   | true=>rw [cond_true,hb rfl];exact hR
end Go.Proofs.YtbploiccompocaaGreatDoor
end
section
namespace Go.Proofs.YtbploiccompocaaGreatDoor
open Go Go.X Go.Proofs
set_option linter.unusedVariables false
theorem elemStr:ElemT Tryz.prog 22 9 (.string ⟨#[]⟩) 1 16:=⟨by kernel_rfl,⟨Tryz.t9,by kernel_rfl,by kernel_rfl,by kernel_rfl,by kernel_rfl⟩,rfl,by omega⟩
theorem elemTree:ElemT Tryz.prog 23 25 (.agg #[.int .i64 0,.string ⟨#[]⟩,.slice none 0 0,.slice none 0 0]) 4 72:=⟨by kernel_rfl,⟨Tryz.t25,by kernel_rfl,by kernel_rfl,by kernel_rfl,by kernel_rfl⟩,rfl,by omega⟩
theorem ownsEmpty {h h':Heap} {e:TypeId} {sz:Nat} (k:Keep (h.size+1) (h.push (.cells #[] e)) h') (base:Nat) (hb:base≤h.size):Owns h' base e sz ⟨some ⟨h.size,0,none⟩,0,0⟩ []:=by
 refine⟨by simp,.inr ⟨h.size,0,#[],rfl,hb,?_,Nat.le_refl _,Nat.zero_le _,by simp,by simp⟩⟩
 show h'[h.size]?=_
 rw [k.get _ (by omega)];exact get_push _ _
theorem cloneStr {h:Heap} {M:Fr} (ag:AgM M h) {ks:List ByteArray} {s:Sl} (hr:Rd M (.row .str) ks [slV s]) (hx:ks.length*16≤140737488355328) {K:Value→Heap→Prop}
  (hK:∀ (s':Sl) (h':Heap),Keep h.size h h'→s'.len=ks.length→Owns h' h.size 9 1 s' (ks.map Value.string)→K (slV s') h'):XC Tryz.prog 99 #[slV s] h K:=by
 obtain⟨hlen,hb1,hb2⟩:=rowLen hr
 obtain⟨s2,e2,_,_,cells,hc,ha⟩:=Rd.rowC ag hr
 simp only [slV,Value.slice.injEq] at e2
 have hs2:s2.a=s.a:=e2.1.symm
 have:=rowC_strs_eq hc
 subst this
 rw [hs2] at ha
 apply sh_slices_Clone_string_string s
 refine⟨fun hn=>?_,fun hn=>?_⟩
 ·have hks:ks=[]:=by
   rcases ha with h0 | ⟨b,o,e1,_⟩
   ·simpa using h0
   ·rw [e1] at hn;cases hn
  subst hks
  exact hK ⟨none,0,0⟩ h (Keep.refl _ _) rfl (Owns.nil _ _ _ _)
 ·intro g
  have kg:Keep h.size h g:=Keep.push _ _ (Nat.le_refl _)
  have sg:g.size=h.size+1:=Array.size_push _
  have og:Owns g h.size 9 1 ⟨some ⟨h.size,0,none⟩,0,0⟩ []:=ownsEmpty (Keep.refl _ _) _ (Nat.le_refl _)
  clear_value g
  refine append_own elemStr og (src:=⟨s.a,s.len,s.cap⟩) (news:=ks.map Value.string) (n:=h.size) (ha.keep kg) (by simp [hlen]) (by simp [Value.oneCell']) (by simp only;omega) (by simp only;omega) (by omega) fun s' h' e1 e2 e3 e4 e5=>⟨s',rfl,hK s' h' ?_ (by simp at e1;omega) (by simpa using e2)⟩
  refine⟨by omega,fun i hi=>(e3 i (by omega) fun p hp=>?_).trans (kg.get i hi)⟩
  simp only [Option.some.injEq] at hp
  subst hp;simp only;omega
theorem cloneTree {h:Heap} {M:Fr} (ag:AgM M h) {xs:List Tr} {s:Sl} (hr:Rd M (.row .tree) xs [slV s]) (hx:xs.length*72≤140737488355328) {K:Value→Heap→Prop}
  (hK:∀ (s':Sl) (h':Heap) (cells:List Value),Keep h.size h h'→s'.len=xs.length→Owns h' h.size 25 4 s' cells→RowC M .tree xs cells→K (slV s') h'):XC Tryz.prog 100 #[slV s] h K:=by
 obtain⟨hlen,hb1,hb2⟩:=rowLen hr
 obtain⟨s2,e2,_,_,cells,hc,ha⟩:=Rd.rowC ag hr
 simp only [slV,Value.slice.injEq] at e2
 have hs2:s2.a=s.a:=e2.1.symm
 rw [hs2] at ha
 have hcl:cells.length=xs.length*4:=hc.1
 apply sh_slices_Clone_api_Value_api_Value s
 refine⟨fun hn=>?_,fun hn=>?_⟩
 ·have hks:cells=[]:=by
   rcases ha with h0 | ⟨b,o,e1,_⟩
   ·exact h0
   ·rw [e1] at hn;cases hn
  subst hks
  have:xs.length=0:=by simp at hcl;omega
  exact hK ⟨none,0,0⟩ h [] (Keep.refl _ _) (by simp [this]) (Owns.nil _ _ _ _) hc
 ·intro g
  have kg:Keep h.size h g:=Keep.push _ _ (Nat.le_refl _)
  have sg:g.size=h.size+1:=Array.size_push _
  have og:Owns g h.size 25 4 ⟨some ⟨h.size,0,none⟩,0,0⟩ []:=ownsEmpty (Keep.refl _ _) _ (Nat.le_refl _)
  clear_value g
  refine append_own elemTree og (src:=⟨s.a,s.len,s.cap⟩) (news:=cells) (n:=h.size) (ha.keep kg) (by rw [hcl,hlen]) hc.one (by simp only;omega) (by simp only;omega) (by omega) fun s' h' e1 e2 e3 e4 e5=>⟨s',rfl,hK s' h' cells ?_ (by simp at e1;omega) (by simpa using e2) hc⟩
  refine⟨by omega,fun i hi=>(e3 i (by omega) fun p hp=>?_).trans (kg.get i hi)⟩
  simp only [Option.some.injEq] at hp
  subst hp;simp only;omega
theorem Owns.blk {h:Heap} {base:Nat} {e:TypeId} {sz:Nat} {s:Sl} {cells:List Value} (H:Owns h base e sz s cells):(s.len=0∧cells=[]∧s.cap=0)∨∃ b cs,s.a=some ⟨b,0,none⟩∧base≤b∧Blk h b cs∧s.cap*sz≤cs.size∧cut cs 0 (s.len*sz)=cells∧s.len≤s.cap:=by
 rcases H.2 with⟨hv,h0⟩| ⟨g,cap,cur,hv,hb,hg,hle,hm,hsz,ht⟩
 ·left
  have:=H.1
  rw [h0,Nat.zero_mul] at this
  simp only [Value.slice.injEq] at hv
  exact⟨h0,List.eq_nil_of_length_eq_zero this,hv.2.2⟩
 ·right
  simp only [Value.slice.injEq] at hv
  refine⟨g,cur,hv.1,hb,⟨e,hg⟩,?_,by unfold cut;rw [List.drop_zero];exact ht,by rw [hv.2.2];exact hle⟩
  rw [hsz,hv.2.2];exact Nat.le_refl _
theorem cutcut {cs:Array Value} {n i k:Nat} (h:i+k≤n):(List.drop i (cut cs 0 n)).take k=cut cs i k:=by
 unfold cut
 rw [List.drop_zero,List.drop_take,List.take_take,Nat.min_eq_left (by omega)]
theorem ldBlk {h:Heap} {b:Nat} {cs:Array Value} (H:Blk h b cs):∀ {vs:List Value} {o i:Nat},cut cs (o+i) vs.length=vs→ldList h ⟨b,o,none⟩ i vs
 | [],_,_,_=>trivial
 | v::vs,o,i,e=>by
  unfold cut at e
  have hlt:o+i < cs.toList.length:=by
   rcases Nat.lt_or_ge (o+i) cs.toList.length with hh | hh
   ·exact hh
   ·rw [List.drop_eq_nil_of_le hh] at e;simp at e
  rw [List.drop_eq_getElem_cons hlt,List.length_cons,List.take_succ_cons] at e
  injection e with e1 e2
  refine⟨?_,ldBlk H (i:=i+1) e2⟩
  refine H.cellAdd ?_
  rw [Array.getElem?_eq_getElem (by simpa using hlt),← e1];simp
theorem cut_all {vs:List Value}:cut vs.toArray 0 vs.length=vs:=by unfold cut;simp
theorem okVal:okInfo Tryz.prog 25=true:=by kernel_rfl
theorem szVal:szOf Tryz.prog 25=4:=by kernel_rfl
theorem okStrs:okInfo Tryz.prog 22=true:=by kernel_rfl
theorem szStrs:szOf Tryz.prog 22=1:=by kernel_rfl
theorem okVals:okInfo Tryz.prog 23=true:=by kernel_rfl
theorem szVals:szOf Tryz.prog 23=1:=by kernel_rfl
def tcells (k:Int) (s:ByteArray) (sk si:Sl):List Value:=[.int .i64 k,.string s,slV sk,slV si]
theorem tcells_one (k:Int) (s:ByteArray) (sk si:Sl):∀ u∈tcells k s sk si,u.oneCell'=true:=by
 intro u hu
 simp [tcells] at hu
 rcases hu with rfl | rfl | rfl | rfl <;> simp [Value.oneCell',slV]
theorem tcells_cells (k:Int) (s:ByteArray) (sk si:Sl):(Value.agg #[.int .i64 k,.string s,slV sk,slV si]).cells.toList=tcells k s sk si:=rfl
theorem upd_all {cs:Array Value} {vs:List Value} (h:cs.size=vs.length):upd cs 0 vs=vs.toArray:=by
 unfold upd
 rw [List.take_zero,List.nil_append,Nat.zero_add,← h]
 have:cs.toList.drop cs.size=[]:=List.drop_eq_nil_of_le (by simp)
 rw [this,List.append_nil]
theorem storeTree {h:Heap} {b:Nat} {cs:Array Value} (H:Blk h b cs) (hn:cs.size=4) (k:Int) (s:ByteArray) (sk si:Sl) {K:Heap→Prop}
  (hK:∀ h':Heap,Blk h' b (tcells k s sk si).toArray→h'.size=h.size→(∀ j,j≠b→h'[j]?=h[j]?)→K h'):XRunU Tryz.prog (Instr.storeAt 25 (.pointer (some ⟨b,0,none⟩)) (.agg #[.int .i64 k,.string s,.slice sk.a sk.len sk.cap,.slice si.a si.len si.cap])) h K:=
 storeN (vs:=tcells k s sk si) okVal H (tcells_cells k s sk si) szVal (by rw [hn];exact Nat.le_refl _) (tcells_one k s sk si) fun h' e1 e2 e3=>hK h' (by rw [upd_all (by rw [hn];rfl)] at e1;exact e1) e2 e3
theorem mem_flat {bf:Nat→List Nat} {k x:Nat}:x∈(List.range k).flatMap bf↔∃ j,j < k∧x∈bf j:=by simp [List.mem_flatMap]
structure CI (h2 h':Heap) (M:Fr) (v:Tr) (b1 b2:Nat) (s1 s2:Sl) (bk bb:List Nat) (b:Nat) (cs:Array Value) (bf:Nat→List Nat) (k:Nat):Prop where
 ag:AgM M h'
 box1:Blk h' b1 (tcells v.kind v.text s1 s2).toArray
 box2:∃ c2:Array Value,Blk h' b2 c2∧c2.size=4
 keys:OKeys h' v.keys bk s1
 hz:(v.items=[]∧bb=[]∧s2.cap=0)∨(bb=[b]∧s2.a=some ⟨b,0,none⟩∧Blk h' b cs∧s2.cap*4≤cs.size)
 did:∀ i (hx:i < v.items.length),i < k→OT h' v.items[i] (bf i) (cut cs (i*4) 4)
 todo:∀ i (hx:i < v.items.length),k≤i→RdV M .tree v.items[i] (.agg (cut cs (i*4) 4).toArray)
 nd:(bk++(bb++(List.range k).flatMap bf)).Nodup
 big:∀ x∈bk++(bb++(List.range k).flatMap bf),h2.size≤x
set_option maxHeartbeats 4000000 in
theorem clone_on (n : Nat) : ∀ (v : Tr), tsz v ≤ n → Sm v → ∀ {h : Heap} {M : Fr} {u : Value}, AgM M h → RdV M .tree v u →
    XC Tryz.prog 58 #[u] h fun w h' => Keep h.size h h' ∧ ∃ bs sk si, w = .agg #[.int .i64 v.kind, .string v.text, slV sk, slV si] ∧ OT h' v bs (tcells v.kind v.text sk si) ∧ ∀ b ∈ bs, h.size ≤ b := by
  induction n with
  | zero => intro v hn; have := tsz_pos v; omega
  | succ n ih =>
  intro v hn hv h M u ag hu
  obtain ⟨sk, si, rfl, rk, ri⟩ := rdTree hu
  have hil := hv.items
  have hkl := hv.keys
  apply sh_value_clone v.kind v.text sk si
  intro h1 h2
  have kh : Keep h.size h h2 := (Keep.push h (.cells (tcells v.kind v.text sk si).toArray 25) (Nat.le_refl _)).trans (Keep.push h1 _ (Nat.le_refl _)) (by show h.size ≤ h1.size; simp [h1])
  have s1 : h1.size = h.size + 1 := Array.size_push _
  have s2 : h2.size = h1.size + 1 := Array.size_push _
  have b1 : Blk h2 h.size (tcells v.kind v.text sk si).toArray := by
    have : Blk h1 h.size (tcells v.kind v.text sk si).toArray := Blk.new _ _ _
    exact this.ofKeep (Keep.push _ _ (Nat.le_refl _))
  have b2 : Blk h2 h1.size (tcells 0 ⟨#[]⟩ ⟨none, 0, 0⟩ ⟨none, 0, 0⟩).toArray := Blk.new _ _ _
  clear_value h1 h2
  have ag2 := ag.keep kh
  refine ⟨sk, b1.cellAdd (o := 0) (k := 2) rfl, si, b1.cellAdd (o := 0) (k := 3) rfl, ?_⟩
  refine cloneStr ag2 rk (by omega) fun c1 h3 k3 l3 o3 => ⟨c1, rfl, k3, ?_⟩
  have ag3 := ag2.keep k3
  refine cloneTree ag3 ri (by omega) fun c2 h4 cells k4 l4 o4 rc => ⟨c2, rfl, ?_⟩
  have b14 := (b1.ofKeep k3).ofKeep k4
  have b24 := (b2.ofKeep k3).ofKeep k4
  have z3 := k3.size
  have z4 := k4.size
  rw [show Addr.add ⟨h.size, 0, none⟩ 2 = ⟨h.size, 2, none⟩ from add_none _ _ _, show Addr.add ⟨h.size, 0, none⟩ 3 = ⟨h.size, 3, none⟩ from add_none _ _ _]
  refine storeN (vs := [slV c1]) okStrs b14 rfl szStrs (by simp [tcells]) (by simp [Value.oneCell', slV]) fun h5 b15 z5 f5 => ?_
  refine storeN (vs := [slV c2]) okVals b15 rfl szVals (by simp [tcells, upd]) (by simp [Value.oneCell', slV]) fun h6 b16 z6 f6 => ?_
  have e16 : upd (upd (tcells v.kind v.text sk si).toArray 2 [slV c1]) 3 [slV c2] = (tcells v.kind v.text c1 c2).toArray := by simp [upd, tcells]
  rw [e16] at b16
  have f46 : ∀ j, j ≠ h.size → h6[j]? = h4[j]? := fun j hj => (f6 j hj).trans (f5 j hj)
  refine ⟨c2, b16.cell (o := 3) rfl, ?_⟩
  have kh6 : Keep h.size h h6 := ⟨by omega, fun i hi => by rw [f46 i (by omega), k4.get i (by omega), k3.get i (by omega)]; exact kh.get i hi⟩
  obtain ⟨bk, hbk, hbk1, hbk2, hbk3⟩ : ∃ bk, OKeys h6 v.keys bk c1 ∧ bk.Nodup ∧ (∀ x ∈ bk, h2.size ≤ x) ∧ (∀ x ∈ bk, x < h3.size) := by
    rcases Owns.blk o3 with ⟨h0, hc, h00⟩ | ⟨b, cs, e1, e2, e3, e4, e5, e6⟩
    · exact ⟨[], ⟨l3, by omega, by have : v.keys.length = 0 := by omega
                                   omega, .inl ⟨by simpa using hc, rfl, h00⟩⟩, List.nodup_nil, by simp, by simp⟩
    · refine ⟨[b], ⟨l3, by omega, by omega, .inr ⟨b, cs, rfl, e1, (e3.ofKeep k4).keep (f46 b (by omega)), by omega, by rw [← l3]; simpa using e5⟩⟩, by simp, by simpa using e2, by simpa using e3.lt⟩
  obtain ⟨bb, b, cs, hcap, hbb, hcs, hbb1, hbb2⟩ : ∃ (bb : List Nat) (b : Nat) (cs : Array Value), v.items.length ≤ c2.cap ∧ ((v.items = [] ∧ bb = [] ∧ c2.cap = 0) ∨ (bb = [b] ∧ c2.a = some ⟨b, 0, none⟩ ∧ Blk h6 b cs ∧ c2.cap * 4 ≤ cs.size)) ∧ (∀ i, i < v.items.length → cut cs (i * 4) 4 = (cells.drop (i * 4)).take 4) ∧ bb.Nodup ∧ ∀ x ∈ bb, h3.size ≤ x := by
    rcases Owns.blk o4 with ⟨h0, hc, h00⟩ | ⟨b, cs, e1, e2, e3, e4, e5, e6⟩
    · have : v.items.length = 0 := by omega
      exact ⟨[], 0, #[], by omega, .inl ⟨List.eq_nil_of_length_eq_zero this, rfl, h00⟩, fun i hi => by omega, List.nodup_nil, by simp⟩
    · refine ⟨[b], b, cs, by omega, .inr ⟨rfl, e1, e3.keep (f46 b (by omega)), e4⟩, fun i hi => ?_, by simp, by simpa using e2⟩
      rw [← e5, cutcut (by rw [l4]; omega)]
  have hI0 : CI h2 h6 M v h.size h1.size c1 c2 bk bb b cs (fun _ => []) 0 := {
    ag := ag.keep kh6, box1 := b16, box2 := ⟨_, b24.keep (f46 _ (by omega)), rfl⟩, keys := hbk, hz := hbb, did := fun i _ hi => by omega
    todo := fun i hx _ => by
      rw [hcs i hx]
      have := rc.2 i hx
      unfold RdV; simp only [aggT, if_true]
      exact ⟨_, rfl, this⟩
    nd := by
      simp only [List.range_zero, List.flatMap_nil, List.append_nil]
      rw [List.nodup_append]
      exact ⟨hbk1, hbb1, fun x hx y hy e => by have := hbk3 x hx; have := hbb2 y hy; omega⟩
    big := by
      simp only [List.range_zero, List.flatMap_nil, List.append_nil, List.mem_append]
      rintro x (hx | hx)
      · exact hbk2 x hx
      · have := hbb2 x hx; omega }
  refine ⟨fun i h' => ∃ (k : Nat) (cs : Array Value) (bf : Nat → List Nat), i = (k : Int) ∧ k ≤ v.items.length ∧ Keep h.size h h' ∧ h2.size ≤ h'.size ∧ CI h2 h' M v h.size h1.size c1 c2 bk bb b cs bf k, fun i _ => v.items.length - i.toNat, ⟨0, cs, _, rfl, by omega, kh6, by omega, hI0⟩, ?_⟩
  clear hI0 hcs hbb hbk b16 b15 b14 b24 f46 f5 f6 o3 o4 rc
  rintro i h7 ⟨k, cs, bf, rfl, hk, k7, z7, I⟩
  refine ⟨fun hc => ?_, fun hc => ?_⟩
  · have hc' : k < v.items.length := by simp at hc; omega
    rcases I.hz with ⟨h0, _⟩ | ⟨hbb, e1, hb, hcs0⟩
    · rw [h0] at hc'; simp at hc'
    have hcs : v.items.length * 4 ≤ cs.size := by omega
    have hrd := I.todo k hc' (Nat.le_refl _)
    obtain ⟨tk, ti, q, rtk, rti⟩ := rdTree hrd
    have hcut : cut cs (k * 4) 4 = tcells v.items[k].kind v.items[k].text tk ti := by
      injection q with q
      exact congrArg Array.toList q
    refine ⟨⟨b, 0, none⟩, ⟨e1, by omega, by omega⟩, v.items[k].kind, v.items[k].text, tk, ti, ?_, ?_⟩
    · rw [add_none, Int.toNat_natCast, Nat.zero_add]
      exact ldBlk hb (vs := tcells v.items[k].kind v.items[k].text tk ti) (o := k * 4) (i := 0) hcut
    · intro h8
      have z8 : h8.size = h7.size + 1 := Array.size_push _
      have k8 : Keep h7.size h7 h8 := Keep.push _ _ (Nat.le_refl _)
      have b8 : Blk h8 h7.size (tcells 0 ⟨#[]⟩ ⟨none, 0, 0⟩ ⟨none, 0, 0⟩).toArray := Blk.new _ _ _
      clear_value h8
      refine storeTree b8 rfl _ _ _ _ fun h9 b9 z9 f9 => ?_
      have k9 : Keep h7.size h7 h9 := ⟨by omega, fun j hj => by rw [f9 j (by omega)]; exact k8.get j hj⟩
      have box1 := I.box1.ofKeep k9
      refine ⟨c2, box1.cell (o := 3) rfl, v.items[k].kind, v.items[k].text, tk, ti, ldBlk b9 (vs := tcells v.items[k].kind v.items[k].text tk ti) (o := 0) (i := 0) cut_all, ⟨b, 0, none⟩, ⟨e1, by omega, by omega⟩, ?_⟩
      have hm : v.items[k] ∈ v.items := List.getElem_mem hc'
      have hlt := tsz_item hm
      refine (ih v.items[k] (by omega) (hv.item hm) (I.ag.keep k9) (rdTree_mk rtk rti)).mono ?_
      rintro w h10 ⟨k10, bs, dk, di, rfl, ot, hbs⟩
      refine ⟨v.items[k].kind, v.items[k].text, dk, di, rfl, k10, ?_⟩
      have hb10 := (hb.ofKeep k9).ofKeep k10
      have z10 := k10.size
      rw [add_none, Int.toNat_natCast, Nat.zero_add]
      refine storeN (vs := tcells v.items[k].kind v.items[k].text dk di) okVal hb10 (tcells_cells _ _ _ _) szVal (by show k * 4 + 4 ≤ cs.size; omega) (tcells_one _ _ _ _) fun h11 b11 z11 f11 => ?_
      have k710 : Keep h7.size h7 h10 := k9.trans k10 (by omega)
      have hbl := hb.lt
      have fr : ∀ x, x ≠ b → x < h7.size → h11[x]? = h7[x]? := fun x hx hl => by rw [f11 x hx]; exact k710.get x hl
      have hbig : ∀ x ∈ bk ++ (bb ++ (List.range k).flatMap bf), h2.size ≤ x := I.big
      have hbb2 : h2.size ≤ b := hbig b (by rw [hbb]; simp)
      have hnd := I.nd
      rw [List.nodup_append] at hnd
      obtain ⟨nd1, nd2, nd3⟩ := hnd
      rw [List.nodup_append] at nd2
      obtain ⟨nd4, nd5, nd6⟩ := nd2
      have hblt : ∀ x ∈ bk ++ (bb ++ (List.range k).flatMap bf), x < h7.size := by
        intro x hx
        rw [List.mem_append, List.mem_append] at hx
        rcases hx with hx | hx | hx
        · obtain ⟨_, _, _, q4⟩ := I.keys
          rcases q4 with ⟨_, rfl, _⟩ | ⟨b', cs', rfl, _, e, _⟩
          · cases hx
          · simp at hx; subst hx; exact e.lt
        · rw [hbb] at hx; simp at hx; subst hx; exact hbl
        · obtain ⟨j, hj, hx⟩ := mem_flat.1 hx
          exact (I.did j (by omega) hj).lt x hx
      have hbk : ∀ x ∈ bk, x ≠ b := fun x hx e => nd3 x hx b (by rw [hbb]; simp) e
      have hbf : ∀ j, j < k → ∀ x ∈ bf j, x ≠ b := fun j hj x hx e => nd6 b (by rw [hbb]; simp) x (mem_flat.2 ⟨j, hj, hx⟩) e.symm
      have hbsb : ∀ x ∈ bs, x ≠ b := fun x hx e => by have := hbs x hx; omega
      have hbse : (List.range (k + 1)).flatMap (fun j => if j = k then bs else bf j) = (List.range k).flatMap bf ++ bs := by
        rw [List.range_succ, List.flatMap_append]
        congr 1
        · have : ∀ (l : List Nat), (∀ x ∈ l, x < k) → l.flatMap (fun j => if j = k then bs else bf j) = l.flatMap bf := by
            intro l
            induction l with
            | nil => intro _; rfl
            | cons a l ihl =>
              intro hl
              rw [List.flatMap_cons, List.flatMap_cons, if_neg (by have := hl a (by simp); omega), ihl fun x hx => hl x (by simp [hx])]
          exact this _ fun x hx => by simpa using hx
        · simp
      rw [wsucc hc' (by omega)]
      refine ⟨⟨k + 1, upd cs (k * 4) (tcells v.items[k].kind v.items[k].text dk di), fun j => if j = k then bs else bf j, rfl, by omega, ⟨by omega, fun x hx => by rw [fr x (by omega) (by omega)]; exact k7.get x hx⟩, by omega, {
        ag := fun x c e => ?_, box1 := I.box1.keep (fr _ (by omega) (by have := I.box1.lt; omega)), box2 := ?_, keys := I.keys.frame fun x hx => fr x (hbk x hx) (hblt x (by simp [hx])), hz := .inr ⟨hbb, e1, b11, by rw [upd_size (by show k * 4 + 4 ≤ cs.size; omega)]; exact hcs0⟩, did := ?_, todo := ?_, nd := ?_, big := ?_ }⟩, by simp only [Int.toNat_natCast]; omega⟩
      · have hx := ag.lt e
        obtain ⟨T, m, e'⟩ := I.ag x c e
        exact ⟨T, m, by rw [fr x (by omega) (by omega)]; exact e'⟩
      · obtain ⟨q, hq1, hq2⟩ := I.box2
        exact ⟨q, hq1.keep (fr _ (by omega) hq1.lt), hq2⟩
      · intro j hj hjk
        by_cases hjk' : j = k
        · subst hjk'
          simp only [if_true]
          have := cut_upd (cs := cs) (o := j * 4) (vs := tcells v.items[j].kind v.items[j].text dk di) (by show j * 4 + 4 ≤ cs.size; omega)
          rw [show (tcells v.items[j].kind v.items[j].text dk di).length = 4 from rfl] at this
          rw [this]
          exact ot.frame fun x hx => f11 x (hbsb x hx)
        · simp only [hjk', if_false]
          rw [cut_upd_ne (by show k * 4 + 4 ≤ cs.size; omega) (by left; omega)]
          exact (I.did j hj (by omega)).frame fun x hx => fr x (hbf j (by omega) x hx) (hblt x (by
            rw [List.mem_append, List.mem_append]
            exact .inr (.inr (mem_flat.2 ⟨j, by omega, hx⟩))))
      · intro j hj hjk
        rw [cut_upd_ne (by show k * 4 + 4 ≤ cs.size; omega) (by right; show k * 4 + 4 ≤ j * 4; omega)]
        exact I.todo j hj (by omega)
      · rw [hbse, ← List.append_assoc, ← List.append_assoc, List.nodup_append]
        refine ⟨by rw [List.append_assoc]; exact I.nd, ot.nodup, fun x hx y hy e => ?_⟩
        have h1 := hblt x (by rw [← List.append_assoc]; exact hx)
        have h2 := hbs y hy
        omega
      · intro x hx
        rw [hbse, ← List.append_assoc, ← List.append_assoc, List.mem_append] at hx
        rcases hx with hx | hx
        · exact I.big x (by rw [← List.append_assoc]; exact hx)
        · have := hbs x hx; omega
  · have hc' : k = v.items.length := by simp at hc; omega
    subst hc'
    refine ⟨v.kind, v.text, c1, c2, ldBlk I.box1 (vs := tcells v.kind v.text c1 c2) (o := 0) (i := 0) cut_all, ?_⟩
    obtain ⟨q, hq1, hq2⟩ := I.box2
    refine storeTree hq1 hq2 _ _ _ _ fun h8 b8 z8 f8 => ?_
    refine ⟨v.kind, v.text, c1, c2, ldBlk b8 (vs := tcells v.kind v.text c1 c2) (o := 0) (i := 0) cut_all, ⟨by omega, fun x hx => by rw [f8 x (by omega)]; exact k7.get x hx⟩, _, c1, c2, rfl, ?_, fun x hx => by have := I.big x hx; omega⟩
    have ot : OT h7 (.mk v.kind v.text v.keys v.items) (bk ++ (bb ++ (List.range v.items.length).flatMap bf)) (tcells v.kind v.text c1 c2) := by
      exact OT.mk (b := b) (cs := cs) I.keys ⟨l4, by omega, hcap⟩ I.hz (fun i hx => I.did i hx hx) I.nd
    rw [tr_eta] at ot
    exact ot.frame fun x hx => f8 x (by have := I.big x hx; omega)
end Go.Proofs.YtbploiccompocaaGreatDoor
end
section
namespace Go.Proofs.YtbploiccompocaaGreatDoor
open Go Go.X Go.Proofs
set_option linter.unusedVariables false
theorem few_pc {gl:Fr} (v:Tr) (l d:Int) (hl:0≤l∧l≤1000) (hd:0≤d∧d≤61) {R:Int→Prop} (h:∀ r,-1000000000000000≤r→r≤l→(0≤r→r+tks v≤l)→R r):PC Tryz.prog gl 30 [Arg.mk .tree v,Arg.mk (.int .i64) l,Arg.mk (.int .i64) d] [.int .i64] R:=by
 refine PC.bd fun hbd=>?_
 have hb:v.keys.length≤140737488355328∧v.items.length≤140737488355328:=hbd ⟨.tree,v⟩ (by simp)
 apply pu_scarflaw06_few
 refine⟨fun hx=>h _ (by omega) (by omega) (by omega),fun hx=>?_⟩
 have hd':d≤60:=by simp at hx;omega
 rw [w64 (n:=l - 1) (by omega),w64 (by omega)]
 refine⟨fun l' i=>∃ k:Nat,i=k∧k≤v.items.length∧-1000000000000000≤l'∧l'≤l∧(0≤l'→l'+(1+v.keys.length+tksL (v.items.take k))≤l),fun l' i=>v.items.length - i.toNat,⟨0,rfl,by omega,by omega,by omega,fun _=>by simp [tksL];omega⟩,?_⟩
 rintro l' i ⟨k,rfl,hk,h1,h2,h3⟩
 refine⟨fun hc=>?_,fun hc=>h l' h1 h2 fun h0=>?_⟩
 ·have hc':k < v.items.length∧0≤l':=by simp at hc;omega
  refine⟨v.items[k],⟨by omega,item_at hc'.1⟩,?_⟩
  rw [tr_eta,w64 (by omega)]
  have hlt:=tsz_item (List.getElem_mem hc'.1)
  refine few_pc v.items[k] l' (d+1) ⟨hc'.2,by omega⟩ (by omega) fun r r1 r2 r3=>?_
  rw [wsucc hc'.1 (by omega)]
  refine⟨⟨k+1,rfl,by omega,r1,by omega,fun h0=>?_⟩,by simp only [Int.toNat_natCast];omega⟩
  have:=r3 h0;have:=h3 hc'.2
  rw [tksL_take hc'.1];omega
 ·have hc':k=v.items.length:=by simp at hc;omega
  subst hc'
  have:=h3 h0
  rw [List.take_length] at this
  rw [tks_eq];omega
termination_by tsz v
theorem short_pc {gl:Fr} (v:Tr) {R:Bool→Prop} (h:∀ b,(b=true→txS v)→R b):PC Tryz.prog gl 31 [Arg.mk .tree v] [.bool] R:=by
 refine PC.bd fun hbd=>?_
 have hb:v.keys.length≤140737488355328∧v.items.length≤140737488355328:=hbd ⟨.tree,v⟩ (by simp)
 apply pu_scarflaw06_short
 refine⟨fun hx=>h _ (fun e=>by cases e),fun hx=>?_⟩
 have hx':v.text.size≤2048:=by simp at hx;omega
 refine⟨fun i=>∃ k:Nat,i=k∧k≤v.keys.length∧∀ x∈v.keys.take k,x.size≤1024,fun i=>v.keys.length - i.toNat,⟨0,rfl,by omega,by simp⟩,?_⟩
 rintro i ⟨k,rfl,hk,h1⟩
 refine⟨fun hc=>?_,fun hc=>?_⟩
 ·have hc':k < v.keys.length:=by simp at hc;omega
  refine⟨v.keys[k],⟨by omega,strIt hc'⟩,fun _=>h _ (fun e=>by cases e),fun hq=>?_⟩
  have hq':v.keys[k].size≤1024:=by simp at hq;omega
  rw [wsucc hc' (by omega)]
  refine⟨⟨k+1,rfl,by omega,?_⟩,by simp only [Int.toNat_natCast];omega⟩
  rw [List.take_succ_eq_append_getElem hc']
  intro x hx
  rcases List.mem_append.1 hx with hx | hx
  ·exact h1 x hx
  ·simp at hx;subst hx;exact hq'
 ·have hc':k=v.keys.length:=by simp at hc;omega
  subst hc'
  rw [List.take_length] at h1
  refine⟨fun i=>∃ k:Nat,i=k∧k≤v.items.length∧∀ x∈v.items.take k,txS x,fun i=>v.items.length - i.toNat,⟨0,rfl,by omega,by simp⟩,?_⟩
  rintro i ⟨k,rfl,hk,h2⟩
  refine⟨fun hd=>?_,fun hd=>h _ fun _=>?_⟩
  ·have hd':k < v.items.length:=by simp at hd;omega
   refine⟨v.items[k],⟨by omega,item_at hd'⟩,?_⟩
   rw [tr_eta]
   have hlt:=tsz_item (List.getElem_mem hd')
   refine short_pc v.items[k] fun b hb=>⟨fun _=>h _ (fun e=>by cases e),fun hq=>?_⟩
   rw [wsucc hd' (by omega)]
   refine⟨⟨k+1,rfl,by omega,?_⟩,by simp only [Int.toNat_natCast];omega⟩
   rw [List.take_succ_eq_append_getElem hd']
   intro x hx
   rcases List.mem_append.1 hx with hx | hx
   ·exact h2 x hx
   ·simp at hx;subst hx;exact hb (by simpa using hq)
  ·have hd':k=v.items.length:=by simp at hd;omega
   subst hd'
   rw [List.take_length] at h2
   exact(txS_eq v).2 ⟨⟨hx',h1⟩,txSL_mem.2 h2⟩
termination_by tsz v
theorem Few_pc {gl:Fr} {v:Tr} {m:Int} (hm:0≤m∧m≤1000) {R:Bool→Prop} (h:∀ b,(b=true→tks v≤m∧Sm v)→R b):PC Tryz.prog gl 10 [Arg.mk .tree v,Arg.mk (.int .i64) m] [.bool] R:=by
 apply pu_scarflaw06_Few
 rw [tr_eta]
 refine few_pc v m 0 hm (by omega) fun r h1 h2 h3=>⟨fun b=>b=true→txS v,fun _=>short_pc v fun b hb=>hb,fun b hb=>h _ fun e=>?_⟩
 cases hr:decide (r≥0) with
 | false=>rw [hr] at e;cases e
 | true=>
  rw [hr,cond_true] at e
  have h0:0≤r:=by simp at hr;omega
  have:=h3 h0
  exact⟨by omega,Sm.few (by omega) (hb hr e)⟩
theorem Short_pc {gl:Fr} {l:List ByteArray} {R:Bool→Prop} (h:∀ b,(b=true→PS l)→R b):PC Tryz.prog gl 19 [Arg.mk (.row .str) l] [.bool] R:=by
 apply pu_scarflaw07_Short
 refine⟨fun i=>∃ k:Nat,i=k∧k≤l.length∧k≤300∧∀ x∈l.take k,x.size≤1024,fun i=>l.length - i.toNat,⟨0,rfl,by omega,by omega,by simp⟩,?_⟩
 rintro i ⟨k,rfl,hk,hk3,h1⟩
 refine⟨fun hc=>?_,fun hc=>h _ fun e=>?_⟩
 ·have hc':k < l.length∧k < 300:=by simp at hc;omega
  refine⟨l[k],⟨by omega,strIt hc'.1⟩,fun _=>h _ (fun e=>by cases e),fun hq=>?_⟩
  have hq':l[k].size≤1024:=by simp at hq;omega
  rw [w64 (by omega)]
  refine⟨⟨k+1,by omega,by omega,by omega,?_⟩,by have:=hc'.1;simp only [Int.toNat_natCast];omega⟩
  rw [List.take_succ_eq_append_getElem hc'.1]
  intro x hx
  rcases List.mem_append.1 hx with hx | hx
  ·exact h1 x hx
  ·simp at hx;subst hx;exact hq'
 ·have e':l.length≤200:=by simp at e;omega
  have hc':k=l.length:=by simp at hc;omega
  subst hc'
  rw [List.take_length] at h1
  exact⟨e',fun x hx=>by rw [lb_len];exact h1 x hx⟩
theorem Row_pc {gl:Fr} {l:List Tr} {R:Tr→Prop} (h:R (.mk 5 ⟨#[]⟩ [] l)):PC Tryz.prog gl 29 [Arg.mk (.row .tree) l] [.tree] R:=by
 apply pu_scarflaw06_Row;exact h
theorem Map_pc {gl:Fr} {ks:List ByteArray} {l:List Tr} {R:Tr→Prop} (h:R (.mk 6 ⟨#[]⟩ ks l)):PC Tryz.prog gl 28 [Arg.mk (.row .str) ks,Arg.mk (.row .tree) l] [.tree] R:=by
 apply pu_scarflaw06_Map;exact h
theorem Num_pc {gl:Fr} (hg:GL gl) {n:Int} (h1:-1000000≤n) (h2:n≤1000000) {R:Tr→Prop} (h:R (.mk 3 (bl (nmText (numParse (Lib.itoa n)).1)) [] [])):PC Tryz.prog gl 27 [Arg.mk (.int .i64) n] [.tree] R:=by
 apply pu_value_Num
 refine of_pc hg.pow (by omega) (by omega) ?_
 exact text_pc hg.pow (numParse_len _ (by have:=Go.X.itoa_len n;omega)) h
theorem rEqual_pc {gl:Fr} (a b:Tr) (ha:tsz a≤1000000000000) {R:Bool→Prop} (h:∀ r,(r=true↔a=b)→R r):PC Tryz.prog gl 15 [Arg.mk .tree a,Arg.mk .tree b] [.bool] R:=by
 refine PC.bd fun hbd=>?_
 have hb:a.keys.length≤140737488355328∧a.items.length≤140737488355328:=hbd ⟨.tree,a⟩ (by simp)
 apply pu_scarfref06_Equal
 have te:∀ s t:ByteArray,(s.toList==t.toList)=decide (s=t):=fun s t=>by
  rw [toList_lb,toList_lb,Bool.eq_iff_iff,beq_iff_eq,decide_eq_true_eq];exact lb_inj
 simp only [te]
 refine⟨fun hx=>h _ ⟨fun e=>(by cases e),fun e=>?_⟩,fun hx=>?_⟩
 ·subst e;simp at hx
 ·have hx':a.kind=b.kind∧a.text=b.text∧a.keys.length=b.keys.length∧a.items.length=b.items.length:=by
   simp at hx
   obtain⟨⟨⟨h1,h2⟩,h3⟩,h4⟩:=hx
   exact⟨h1,h2,by omega,by omega⟩
  obtain⟨q1,q2,q3,q4⟩:=hx'
  refine⟨fun i=>∃ k:Nat,i=k∧k≤a.keys.length∧a.keys.take k=b.keys.take k,fun i=>a.keys.length - i.toNat,⟨0,rfl,by omega,by simp⟩,?_⟩
  rintro i ⟨k,rfl,hk,h1⟩
  refine⟨fun hc=>?_,fun hc=>?_⟩
  ·have hc':k < a.keys.length:=by simp at hc;omega
   have hcb:k < b.keys.length:=by omega
   refine⟨a.keys[k],⟨by omega,strIt hc'⟩,b.keys[k],⟨by omega,strIt hcb⟩,fun hq=>h _ ⟨fun e=>(by cases e),fun e=>?_⟩,fun hq=>?_⟩
   ·subst e;simp at hq
   ·have hq':a.keys[k]=b.keys[k]:=by simpa using hq
    rw [wsucc hc' (by omega)]
    refine⟨⟨k+1,rfl,by omega,?_⟩,by simp only [Int.toNat_natCast];omega⟩
    rw [List.take_succ_eq_append_getElem hc',List.take_succ_eq_append_getElem hcb,h1,hq']
  ·have hc':k=a.keys.length:=by simp at hc;omega
   subst hc'
   rw [List.take_length,q3,List.take_length] at h1
   refine⟨fun i=>∃ k:Nat,i=k∧k≤a.items.length∧a.items.take k=b.items.take k,fun i=>a.items.length - i.toNat,⟨0,rfl,by omega,by simp⟩,?_⟩
   rintro i ⟨k,rfl,hk,h2⟩
   refine⟨fun hd=>?_,fun hd=>h _ ⟨fun _=>?_,fun _=>rfl⟩⟩
   ·have hd':k < a.items.length:=by simp at hd;omega
    have hdb:k < b.items.length:=by omega
    refine⟨a.items[k],⟨by omega,item_at hd'⟩,b.items[k],⟨by omega,item_at hdb⟩,?_⟩
    rw [tr_eta,tr_eta]
    have hlt:=tsz_item (List.getElem_mem hd')
    refine rEqual_pc a.items[k] b.items[k] (by omega) fun r hr=>⟨fun hq=>h _ ⟨fun e=>(by cases e),fun e=>?_⟩,fun hq=>?_⟩
    ·subst e
     rw [hr.2 rfl] at hq;cases hq
    ·have hq':a.items[k]=b.items[k]:=hr.1 (by simpa using hq)
     rw [wsucc hd' (by omega)]
     refine⟨⟨k+1,rfl,by omega,?_⟩,by simp only [Int.toNat_natCast];omega⟩
     rw [List.take_succ_eq_append_getElem hd',List.take_succ_eq_append_getElem hdb,h2,hq']
   ·have hd':k=a.items.length:=by simp at hd;omega
    subst hd'
    rw [List.take_length,q4,List.take_length] at h2
    have:=tr_eta a
    rw [q1,q2,h1,h2,tr_eta] at this
    exact this.symm
termination_by tsz a
end Go.Proofs.YtbploiccompocaaGreatDoor
end
section
namespace Go.Proofs.YtbploiccompocaaGreatDoor
open Go Go.X Go.Proofs
set_option linter.unusedVariables false
structure SL (l:List ByteArray):Prop where
 n:l.length≤1000000
 s:∀ x∈l,(lb x).length≤1048576
theorem PS.sl {l:List ByteArray} (h:PS l):SL l:=⟨by have:=h.n;omega,fun x hx=>by have:=h.s x hx;omega⟩
end Go.Proofs.YtbploiccompocaaGreatDoor
end
section
namespace Go.Proofs.YtbploiccompocaaGreatDoor
open Go Go.Proofs Go.Shelf Go.RowKit
set_option linter.unusedVariables false
def z_lays153_ren:Go.Shelf.Ren:=⟨fun | 153=>202 | 152=>222 | 226=>225 | 227=>158 | 228=>193 | 137=>191 | 119=>237 | 224=>232 | 225=>231 | 217=>221 | 266=>236 | n=>n,fun | 9=>9 | 3=>3 | 4=>4 | 5=>5 | 21=>21 | 117=>164 | 116=>163 | 0=>0 | 46=>176 | 124=>167 | n=>n,fun | n=>n⟩
theorem z_lays153:Go.Proofs.Lays.n153 Tryz.prog z_lays153_ren:={
 mixed:=by kernel_rfl
 f119:=Tryz.func237.trans (congrArg some (by kernel_rfl))
 f137:=Tryz.func191.trans (congrArg some (by kernel_rfl))
 f152:=Tryz.func222.trans (congrArg some (by kernel_rfl))
 f153:=Tryz.func202.trans (congrArg some (by kernel_rfl))
 f217:=Tryz.func221.trans (congrArg some (by kernel_rfl))
 f224:=Tryz.func232.trans (congrArg some (by kernel_rfl))
 f225:=Tryz.func231.trans (congrArg some (by kernel_rfl))
 f226:=Tryz.func225.trans (congrArg some (by kernel_rfl))
 f227:=Tryz.func158.trans (congrArg some (by kernel_rfl))
 f228:=Tryz.func193.trans (congrArg some (by kernel_rfl))
 f266:=Tryz.func236.trans (congrArg some (by kernel_rfl))
 t0:=Tryz.underlying0
 a0:=Tryz.isAgg0
 z0:=Tryz.sizeOf0
 v0:=Tryz.zeroValue0
 t3:=Tryz.underlying3
 a3:=Tryz.isAgg3
 z3:=Tryz.sizeOf3
 v3:=Tryz.zeroValue3
 t4:=Tryz.underlying4
 a4:=Tryz.isAgg4
 z4:=Tryz.sizeOf4
 v4:=Tryz.zeroValue4
 t5:=Tryz.underlying5
 a5:=Tryz.isAgg5
 z5:=Tryz.sizeOf5
 v5:=Tryz.zeroValue5
 t9:=Tryz.underlying9
 a9:=Tryz.isAgg9
 z9:=Tryz.sizeOf9
 v9:=Tryz.zeroValue9
 t21:=Tryz.underlying21
 a21:=Tryz.isAgg21
 z21:=Tryz.sizeOf21
 v21:=Tryz.zeroValue21
 t46:=Tryz.underlying176
 a46:=Tryz.isAgg176
 z46:=Tryz.sizeOf176
 v46:=Tryz.zeroValue176
 t116:=Tryz.underlying163
 a116:=Tryz.isAgg163
 z116:=Tryz.sizeOf163
 t117:=Tryz.underlying164
 a117:=Tryz.isAgg164
 z117:=Tryz.sizeOf164
 v117:=Tryz.zeroValue164
 t124:=Tryz.underlying167
 a124:=Tryz.isAgg167
 z124:=Tryz.sizeOf167
 v124:=Tryz.zeroValue167 }
open Go.RowKit Go.Lib in
theorem z_strings_IndexAny_long (hv116:∀ w,(zeroValue 163).run Tryz.prog w=.ok (.agg (Array.replicate 256 (.bool false))) w) (s chars:ByteArray) (w:World) (h2:2≤chars.size) (h8:8 < s.size) (hs:s.size < 4294967281) (hcs:chars.size < 4294967281) (hascii:∀ (j:Nat) b,chars.data.toList[j]?=some b→b.toNat < 128):
  Calls Tryz.prog 202 #[.string s,.string chars] w fun e w'=>e=.returned (.int .i64 (Lib.indexAny s.data.toList chars.data.toList))∧w'=((w.alloc (.cells (Lib.setCells chars.data.toList) 163)).alloc (.cells (Lib.setCells chars.data.toList) 163)):=Any.strings_IndexAny_long z_lays153 hv116 (by kernel_rfl) s chars w h2 h8 hs hcs hascii
end Go.Proofs.YtbploiccompocaaGreatDoor
end
section
namespace Go.Proofs.YtbploiccompocaaGreatDoor
open Go Go.X Go.Proofs Go.RowKit
set_option linter.unusedVariables false
def Bld (h:Heap) (b:Nat) (l:Bs):Prop:=∃ (p:Option Addr) (s:Sl),h[b]?=some (.cells #[.pointer p,slV s] 127 (0,0))∧(p=none∨p=some ⟨b,0,none⟩)∧Owns h (b+1) 5 1 s (Lib.byteCells l)
theorem Bld.lt {h:Heap} {b:Nat} {l:Bs} (H:Bld h b l):b < h.size:=by
 obtain⟨p,s,e,_⟩:=H
 rcases Nat.lt_or_ge b h.size with q | q
 ·exact q
 ·rw [Array.getElem?_eq_none q] at e;cases e
theorem Bld.keep {h h':Heap} {b:Nat} {l:Bs} (H:Bld h b l) (k:Keep h.size h h'):Bld h' b l:=by
 have hlt:=H.lt
 obtain⟨p,s,e,hp,ho⟩:=H
 exact⟨p,s,by rw [k.get b hlt];exact e,hp,ho.keepN k⟩
theorem Bld.new (h:Heap):Bld (h.push (.cells #[.pointer none,.slice none 0 0] 127)) h.size []:=
 ⟨none,⟨none,0,0⟩,get_push _ _,.inl rfl,Owns.nil _ _ _ _⟩
theorem Keep.ne {b:Nat} {h h':Heap} (hs:h'.size=h.size) (hf:∀ i,i≠b→h'[i]?=h[i]?):Keep b h h':=⟨by omega,fun i hi=>hf i (by omega)⟩
end Go.Proofs.YtbploiccompocaaGreatDoor
end
section
namespace Go.Proofs.YtbploiccompocaaGreatDoor
open Go Go.X Go.Proofs
set_option linter.unusedVariables false
theorem Right_pc {gl:Fr} (hg:GL gl) {l:List ByteArray} (hl:SL l) {R:Bool→Prop} (hR:R (rightP l)):PC Tryz.prog gl 37 [Arg.mk (.row .str) l] [.bool] R:=by
 intro h M vs hM ag ha
 match vs,ha with
 | [u],⟨hu,_⟩=>
  obtain⟨s,rfl,hr⟩:=rdRow hu
  have hr:Rd M (.row .str) l [slV s]:=hr
  obtain⟨hlen,hb1,hb2⟩:=rowLen hr
  apply PX.of
  apply sh_pointer_Right s
  have hd:decide (((s.len:Nat):Int)≤64)=decide (l.length≤64):=by rw [hlen,Bool.eq_iff_iff,decide_eq_true_eq,decide_eq_true_eq];omega
  rw [hd]
  refine⟨fun v h'=>∃ b,v=.bool b∧(decide (l.length≤64)=true→b=l.any fun x=>!(u8ok (lb x)))∧∃ M',Later h M h' M',fun hc=>?_,fun hc=>⟨true,true,rfl,fun e=>(by rw [e] at hc;cases hc),M,Later.refl ag⟩,fun _ v h' ⟨b,e,_⟩=>⟨b,e⟩,?_⟩
  ·refine(ifStr (gl:=gl) ag hr (p:=fun x=>!(u8ok (lb x))) fun x hx=>⟨by kernel_rfl,fun h' M' u' L' hu'=>?_⟩).go fun w h4 M4 b L4 hret4 hb4=>⟨b,retB hret4,b,rfl,fun _=>hb4,M4,L4⟩
   have:=rdStr_eq hu'
   subst this
   apply PX.of
   show XC Tryz.prog 74 #[.string x] h' _
   apply sh_pointer_Right_1
   have hp:=plain_pc hg.tabs (l:=lb x) (R:=fun b=>b=u8ok (lb x)) (by have:=hl.s x hx;omega) rfl
   rw [bl_lb] at hp
   exact hp.go (vs:=[.string x]) (hM.trans L'.le) L'.ag (args1 (rdStr _) args0) fun w h5 M5 b L5 hret5 hb5=>⟨b,retB hret5,M5,_,L5,ret1.2 (rdBool _),by rw [hb5]⟩
  ·rintro b h' ⟨b',e,hb,M',L'⟩
   cases e
   refine⟨M',_,L',ret1.2 (rdBool _),?_⟩
   have:(bif decide (l.length≤64) then !b else false)=rightP l:=by
    unfold rightP
    cases hc:decide (l.length≤64) with
    | false=>rfl
    | true=>
     rw [hb hc,cond_true,Bool.true_and,Bool.eq_iff_iff];simp
   rw [this];exact hR
end Go.Proofs.YtbploiccompocaaGreatDoor
end
section
namespace Go.Proofs.YtbploiccompocaaGreatDoor
open Go Go.X Go.Proofs Go.RowKit
set_option linter.unusedVariables false
theorem ix95 {z:UInt8} (h:128≤z.toNat):Lib.indexByte [95] z=-1:=by
 have:z≠95:=by rintro rfl;revert h;decide
 unfold Lib.indexByte
 simp [Lib.indexByte,this.symm]
theorem ix0 {z:UInt8}:Lib.indexByte [] z=-1:=by simp [Lib.indexByte]
def VR (r:Int) (e:Ending):Prop:=∃ b,e=.returned (.bool b)∧(b=true→(0≤r∧r < 55296)∨(57343 < r∧r≤1114111))
set_option maxHeartbeats 4000000 in
set_option maxRecDepth 1000000 in
theorem ValidRune_c (r:Int) (w:World):Calls Tryz.prog 237 #[.int .i32 r] w fun e w'=>VR r e∧w'=w:=by
 have mixed:=Tryz.mixed
 go_enter Tryz.func237,Tryz.ntmps237
 by_cases h1:0≤r <;> by_cases h2:r < 55296 <;> by_cases h3:57343 < r <;> by_cases h4:r≤1114111 <;> (go_wp2;go_ret;exact⟨⟨_,rfl,fun h=>by first | omega | cases h⟩,rfl⟩)
theorem enc_shape (r:Int) (h:128≤r):(∃ a z:UInt8,Utf8.encode r=⟨#[a,z]⟩∧128≤z.toNat)∨(∃ a b z:UInt8,Utf8.encode r=⟨#[a,b,z]⟩∧128≤z.toNat)∨(∃ a b c z:UInt8,Utf8.encode r=⟨#[a,b,c,z]⟩∧128≤z.toNat):=by
 have hz:∀ n:Nat,128≤(UInt8.ofNat (128+n % 64)).toNat:=fun n=>by
  have:(UInt8.ofNat (128+n % 64)).toNat=(128+n % 64) % 256:=UInt8.toNat_ofNat
  rw [this,Nat.mod_eq_of_lt (by omega)];omega
 have hc:∃ c:Nat,128≤c∧(if Utf8.valid r then r.toNat else Utf8.runeError)=c:=by
  refine⟨_,?_,rfl⟩
  split
  ·omega
  ·decide
 obtain⟨c,hc1,hc2⟩:=hc
 unfold Utf8.encode
 simp only [hc2]
 rw [if_neg (by omega)]
 by_cases h1:c < 2048
 ·rw [if_pos h1];exact .inl ⟨_,_,rfl,hz _⟩
 ·rw [if_neg h1]
  by_cases h2:c < 65536
  ·rw [if_pos h2];exact .inr (.inl ⟨_,_,_,rfl,hz _⟩)
  ·rw [if_neg h2];exact .inr (.inr ⟨_,_,_,_,rfl,hz _⟩)
def IR (e:Ending):Prop:=∃ n,e=.returned (.int .i64 n)
set_option maxHeartbeats 4000000 in
set_option maxRecDepth 1000000 in
theorem IndexRune_c (r:Int) (w:World) (h1:128≤r) (h2:r≠65533):Calls Tryz.prog 222 #[.string ⟨#[43,45,95]⟩,.int .i32 r] w fun e w'=>IR e∧Below w.heap.size w w':=by
 have mixed:=Tryz.mixed
 have e132:∀ args w,(callFunc 191 args).run Tryz.prog w=.ok (.enter 191 args) w:=enters_of Tryz.func191 (by kernel_rfl) rfl
 have e133:∀ args w,(callFunc 237 args).run Tryz.prog w=.ok (.enter 237 args) w:=enters_of Tryz.func237 (by kernel_rfl) rfl
 have g1:¬ r < 128:=by omega
 go_enter Tryz.func222,Tryz.ntmps222
 go_wp2_with (go_at_fn 237;refine(ValidRune_c _ _).mono ?_;rintro e w' ⟨⟨b,rfl,hb⟩,hw⟩;rw [hw];cases b)
 ·go_ret
  exact⟨⟨_,rfl⟩,Below.refl _ _⟩
 ·rcases enc_shape r h1 with⟨a,z,hE,hz⟩| ⟨a,b,z,hE,hz⟩| ⟨a,b,c,z,hE,hz⟩
  ·have hcv:=fun(w:World)=>run_convert_int_string (P:=Tryz.prog) w 21 9 .i32 r (by kernel_rfl) (by kernel_rfl)
   rw [hE] at hcv
   refine wp_scope_straight ?_
   go_wp2
   go_loop [9] (fun v=>v=.int .i64 1) (fun _=>0)
   case atStart=>rfl
   case round=>
    subst hrel
    go_wp2
    refine wp_scope_straight ?_
    have hne:((45:Int) != (z.toNat:Int))=true:=bne_iff_ne.2 (by omega)
    go_wp2
    go_region
    simp only [show ∀ h,((⟨#[43,45,95]⟩:ByteArray)[1]'h)=45 from fun _=>rfl,show ∀ h,((⟨#[a,z]⟩:ByteArray)[1]'h)=z from fun _=>rfl,show((45:UInt8).toNat:Int)=45 from rfl,hne]
    all_goals go_wp2
    all_goals go_region_with (go_at_call 191;refine(z_strings_IndexByte _ _ _).mono ?_;rintro e w' ⟨rfl,rfl⟩)
    all_goals simp only [show ∀ h,((⟨#[a,z]⟩:ByteArray)[1]'h)=z from fun _=>rfl,ix95 hz]
    all_goals go_wp2
    all_goals simp only [Exit.noGoto,Exit.inBlock]
    all_goals go_wp2
    all_goals simp only [Exit.noGoto,Exit.inBlock]
    all_goals go_wp2
    all_goals go_ret
    all_goals exact⟨⟨_,rfl⟩,drewN_below w 2⟩
  ·have hcv:=fun(w:World)=>run_convert_int_string (P:=Tryz.prog) w 21 9 .i32 r (by kernel_rfl) (by kernel_rfl)
   rw [hE] at hcv
   refine wp_scope_straight ?_
   go_wp2
   go_loop [9] (fun v=>v=.int .i64 2) (fun _=>0)
   case atStart=>rfl
   case round=>
    subst hrel
    go_wp2
    refine wp_scope_straight ?_
    have hne:((95:Int) != (z.toNat:Int))=true:=bne_iff_ne.2 (by omega)
    go_wp2
    go_region
    simp only [show ∀ h,((⟨#[43,45,95]⟩:ByteArray)[2]'h)=95 from fun _=>rfl,show ∀ h,((⟨#[a,b,z]⟩:ByteArray)[2]'h)=z from fun _=>rfl,show((95:UInt8).toNat:Int)=95 from rfl,hne]
    all_goals go_wp2
    all_goals go_region_with (go_at_call 191;refine(z_strings_IndexByte _ _ _).mono ?_;rintro e w' ⟨rfl,rfl⟩)
    all_goals simp only [show ∀ h,((⟨#[a,b,z]⟩:ByteArray)[2]'h)=z from fun _=>rfl,ix0]
    all_goals go_wp2
    all_goals simp only [Exit.noGoto,Exit.inBlock]
    all_goals go_wp2
    all_goals simp only [Exit.noGoto,Exit.inBlock]
    all_goals go_wp2
    all_goals go_ret
    all_goals exact⟨⟨_,rfl⟩,drewN_below w 2⟩
  ·have hcv:=fun(w:World)=>run_convert_int_string (P:=Tryz.prog) w 21 9 .i32 r (by kernel_rfl) (by kernel_rfl)
   rw [hE] at hcv
   refine wp_scope_straight ?_
   go_wp2
   go_loop [9] (fun v=>v=.int .i64 3) (fun _=>0)
   case atStart=>rfl
   case round=>
    subst hrel
    go_wp2
    go_ret
    exact⟨⟨_,rfl⟩,Below.refl _ _⟩
end Go.Proofs.YtbploiccompocaaGreatDoor
end
section
namespace Go.Proofs.YtbploiccompocaaGreatDoor
open Go Go.X Go.Proofs
set_option linter.unusedVariables false
set_option maxRecDepth 100000
theorem pu_strings_ContainsAny (gl:Fr) (s0:ByteArray) (chars1:ByteArray) (R:Bool→Prop)
  (H:PC Tryz.prog gl 202 [Arg.mk .str s0,Arg.mk .str chars1] [.int .i64] (fun r_1:Int=>R (decide ((r_1:Int)≥0)))):
  PC Tryz.prog gl 172 [Arg.mk .str s0,Arg.mk .str chars1] [.bool] R:=
 PC_of_form Tryz.mixed gl 25 ⟨[],[],[],[]⟩ [Arg.mk .str s0,Arg.mk .str chars1] (rs:=[.tmp 4]) (n:=9) Tryz.func172 (by kernel_rfl) (by kernel_rfl) (by kernel_rfl) (by kernel_rfl) H (by kernel_rfl)
theorem pu_strings_IndexAny (gl:Fr) (s0:ByteArray) (chars1:ByteArray) (R:Int→Prop)
  (H:(((chars1:ByteArray).toList==((⟨#[]⟩:ByteArray):ByteArray).toList)=true→R (-1))∧(((chars1:ByteArray).toList==((⟨#[]⟩:ByteArray):ByteArray).toList)=false→(((((chars1).size:Int):Int)==1)=true→(0≤(0:Int)∧(0:Int) < ((chars1).size:Int))∧∀ K_2:Int→Prop,(∀ r5_1:Int,(PC Tryz.prog gl 222 [Arg.mk .str s0,Arg.mk (.int .i32) r5_1] [.int .i64] (fun r_3:Int=>R r_3))→K_2 r5_1)→((decide ((IntKind.wrap .i32 (byteAt chars1 (0:Int).toNat):Int)≥128))=true→K_2 65533)∧((decide ((IntKind.wrap .i32 (byteAt chars1 (0:Int).toNat):Int)≥128))=false→K_2 (IntKind.wrap .i32 (byteAt chars1 (0:Int).toNat))))∧(((((chars1).size:Int):Int)==1)=false→∀ K_4:Prop,((∃ (I_7:(ByteArray×Nat)→Prop) (μ_8:(ByteArray×Nat)→Nat),I_7 (s0,0)∧∀ b45_0_6:ByteArray×Nat,I_7 b45_0_6→(((nxB b45_0_6.1 b45_0_6.2)=true→(nxB b45_0_6.1 b45_0_6.2)=true∧(nxB b45_0_6.1 b45_0_6.2)=true∧PC Tryz.prog gl 222 [Arg.mk .str chars1,Arg.mk (.int .i32) (nxR b45_0_6.1 b45_0_6.2)] [.int .i64] (fun r_10:Int=>((decide ((r_10:Int)≥0))=true→R ((b45_0_6.2:Nat):Int))∧((decide ((r_10:Int)≥0))=false→(I_7 (b45_0_6.1,nxP b45_0_6.1 b45_0_6.2)∧μ_8 (b45_0_6.1,nxP b45_0_6.1 b45_0_6.2) < μ_8 b45_0_6))))∧((nxB b45_0_6.1 b45_0_6.2)=false→R (-1))))→K_4)→PC Tryz.prog gl 225 [Arg.mk (.int .i64) ((s0).size:Int)] [.bool] (fun r_5:Bool=>(r_5=true→False)∧(r_5=false→K_4))))):
  PC Tryz.prog gl 202 [Arg.mk .str s0,Arg.mk .str chars1] [.int .i64] R:=
 PC_of_form Tryz.mixed gl 25 ⟨[],[],[(18,⟨[],[(45,[.dat .iter])],[],[1002880]⟩)],[(7,⟨[(5,.one (.dat (.int .i32)))],[],[],[100320]⟩),(17,⟨[],[],[],[]⟩)]⟩ [Arg.mk .str s0,Arg.mk .str chars1] (rs:=[.tmp 4]) (n:=55) Tryz.func202 (by kernel_rfl) (by kernel_rfl) (by kernel_rfl) (by kernel_rfl) H (by kernel_rfl)
theorem pu_strings_IndexRune (gl:Fr) (s0:ByteArray) (r1:Int) (R:Int→Prop)
  (H:((bif (decide ((0:Int)≤r1)) then(decide ((r1:Int) < 128)) else false)=true→PC Tryz.prog gl 191 [Arg.mk .str s0,Arg.mk (.int .u8) (IntKind.wrap .u8 r1)] [.int .i64] (fun r_1:Int=>R r_1))∧((bif (decide ((0:Int)≤r1)) then(decide ((r1:Int) < 128)) else false)=false→(((r1:Int)==65533)=true→∃ (I_3:(ByteArray×Nat)→Prop) (μ_4:(ByteArray×Nat)→Nat),I_3 (s0,0)∧∀ b175_0_2:ByteArray×Nat,I_3 b175_0_2→(((nxB b175_0_2.1 b175_0_2.2)=true→(nxB b175_0_2.1 b175_0_2.2)=true∧(nxB b175_0_2.1 b175_0_2.2)=true∧(((nxR b175_0_2.1 b175_0_2.2:Int)==65533)=true→R ((b175_0_2.2:Nat):Int))∧(((nxR b175_0_2.1 b175_0_2.2:Int)==65533)=false→(I_3 (b175_0_2.1,nxP b175_0_2.1 b175_0_2.2)∧μ_4 (b175_0_2.1,nxP b175_0_2.1 b175_0_2.2) < μ_4 b175_0_2)))∧((nxB b175_0_2.1 b175_0_2.2)=false→R (-1))))∧(((r1:Int)==65533)=false→PC Tryz.prog gl 237 [Arg.mk (.int .i32) r1] [.bool] (fun r_5:Bool=>((!r_5)=true→R (-1))∧((!r_5)=false→False))))):
  PC Tryz.prog gl 222 [Arg.mk .str s0,Arg.mk (.int .i32) r1] [.int .i64] R:=
 PC_of_form Tryz.mixed gl 25 ⟨[],[],[(38,⟨[],[(175,[.dat .iter])],[],[1011200]⟩)],[]⟩ [Arg.mk .str s0,Arg.mk (.int .i32) r1] (rs:=[.tmp 4]) (n:=187) Tryz.func222 (by kernel_rfl) (by kernel_rfl) (by kernel_rfl) (by kernel_rfl) H (by kernel_rfl)
theorem pu_strings_shouldUseASCIISet (gl:Fr) (bufLen0:Int) (R:Bool→Prop)
  (H:R (decide ((bufLen0:Int) > 8))):
  PC Tryz.prog gl 225 [Arg.mk (.int .i64) bufLen0] [.bool] R:=
 PC_of_form Tryz.mixed gl 25 ⟨[],[],[],[]⟩ [Arg.mk (.int .i64) bufLen0] (rs:=[.tmp 2]) (n:=5) Tryz.func225 (by kernel_rfl) (by kernel_rfl) (by kernel_rfl) (by kernel_rfl) H (by kernel_rfl)
end Go.Proofs.YtbploiccompocaaGreatDoor
end
