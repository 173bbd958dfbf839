/- A part of the proof: nothing is stated here for its own sake. -/
import Derived.Test.YtbploiccompocaaGreatDoorPjC
import Derived.Shelf.Strings.Trim
import Derived.Shelf.Small.Wraps
import Derived.Shelf.Utf8.RuneCount
import Derived.Shelf.Strconv.Itoa3
import Derived.Shelf.Strconv.AtoiErr
import Derived.Shelf.Strconv.ErrVarAll
import Derived.Shelf.Strconv.ErrVarParseInt
import Derived.Shelf.Strings.Shaped
import Derived.Shelf.Strings.SplitShaped
import Derived.Shelf.Strings.IndexAnyAll
import Derived.Shelf.Strings.Explode
import Derived.Shelf.Strings.Repeat
import Derived.Shelf.Unicode.DecodeLast
import Derived.Shelf.Strings.BuilderCap
import Derived.Shelf.Slices.Turned
import Derived.Shelf.Slices.Clone
import Derived.Shelf.Slices.Cells
import Derived.Shelf.Slices.Empties
import Derived.Shelf.SlicesE.Clone
import Derived.Test.YtbploiccompocaaGreatDoorTie
import Derived.Test.YtbploiccompocaaGreatDoorCards
import Derived.PinnedBridge
import Derived.Lay
import Derived.HandedShaped
open _root_.Go.Addr renaming add->Aj
open _root_.Array renaming ext'->EL,getElem?_append_left->CN,getElem?_toList->A0,size_push->Ak
open _root_.BitVec renaming ofInt->Aw,ofInt_natCast->Ee,toNat_ofNat->Ep
open _root_.Bool renaming and_eq_true->AI,and_false->EI,and_true->CL,cond_false_right->Bg,cond_true_left->Bn,eq_false_or_eq_true->Dt,eq_iff_iff->AB,false_and->Ed,false_eq_true->AW,false_or->DV,not_eq_true'->B4,or_eq_false_iff->Cn,or_eq_true->Cr,true_and->Bi
open _root_.Go.Builtin renaming append_->Au
open _root_.Go.Instr renaming lookup->Eg,mapUpdate->C4,storeAt->Ai
open _root_.Int renaming toNat_natCast->Ad,toNat_zero->C3
open _root_.Go.IntKind renaming bits->Ap,signed->Ec,wrap->Aa
open _root_.List renaming all_append->CR,all_cons->CB,all_eq_true->AQ,any_cons->EV,any_eq_true->Ei,append_assoc->AP,append_nil->Bf,cons_append->A5,dropWhile_cons->Du,drop_drop->Cd,drop_eq_getElem_cons->AE,drop_eq_nil_of_le->A6,drop_length->Cw,drop_zero->A2,eq_nil_of_length_eq_zero->Av,exists_cons_of_ne_nil->Co,ext_getElem?->A7,flatMap_cons->D2,getD_eq_getElem?_getD->Bl,getElem?_drop->AJ,getElem?_eq_getElem->Am,getElem?_eq_none->Bu,getElem?_eq_some_iff->Az,getElem?_map->B5,getElem?_take->AF,getElem_append_left->CX,getElem_append_right->Cx,getElem_mem->As,getElem_of_mem->Bc,isPrefixOf->BD,length->Bb,length_append->Ao,length_cons->Ay,length_drop->AY,length_map->Ba,length_pos_iff->A3,length_singleton->Cj,map_map->EJ,mem_append->An,mem_cons->Af,mem_flatMap->BA,mem_of_getElem?->CF,mem_of_mem_drop->Cp,mem_of_mem_take->BI,mem_range->Cc,mem_singleton->Be,nil_append->BP,nodup_append->A9,range->BJ,replicate->Er,singleton_append->DX,take_append_drop->Br,take_length->AD,take_of_length_le->AX,take_succ_cons->BV,take_succ_eq_append_getElem->Ag,take_zero->Cz
open _root_.List.cons renaming injEq->Cq
open _root_.Nat renaming add_mul->BH,add_zero->C8,le_refl->Ae,lt_of_lt_of_le->DD,mod_eq_of_lt->Ek,mul_comm->C9,mul_one->Cg,or_lt_two_pow->D9,sub_zero->Ca,zero_add->AH,zero_mul->Di
open _root_.Go.Op renaming bytesLess->Da
open _root_.Option renaming bind_some->Cu
open _root_.Option.some renaming inj->Ax,injEq->Ab
open _root_.Go.Proofs.Tryz renaming func142->EY,func171->EZ,func191->Ez,func221->Dl,func222->EA,func231->DK,func232->DJ,func236->Dm,func237->Ey,isAgg0->CJ,isAgg119->EO,isAgg154->ET,isAgg172->EP,isAgg174->EQ,isAgg175->ER,isAgg176->Cs,isAgg20->E0,isAgg200->Dr,isAgg201->EU,isAgg21->Dn,isAgg3->B6,isAgg4->Cm,isAgg5->Ci,isAgg9->B7,isAgg99->EF,prog->AK,sizeOf0->Cv,sizeOf119->EB,sizeOf154->EG,sizeOf172->EC,sizeOf174->ED,sizeOf175->EE,sizeOf176->Ce,sizeOf20->ES,sizeOf200->Df,sizeOf201->EH,sizeOf21->Dc,sizeOf3->BX,sizeOf4->Cb,sizeOf5->B0,sizeOf9->BZ,sizeOf99->En,underlying0->BO,underlying119->DL,underlying129->Dg,underlying154->DR,underlying172->DN,underlying174->De,underlying175->DO,underlying176->BL,underlying20->D6,underlying200->CE,underlying201->DT,underlying21->Cy,underlying3->Bp,underlying4->Bw,underlying5->Bz,underlying9->Bh,underlying99->Do,zeroValue0->BW,zeroValue119->D3,zeroValue154->D7,zeroValue174->D4,zeroValue175->D5,zeroValue176->BQ,zeroValue20->Ej,zeroValue200->CP,zeroValue201->D8,zeroValue21->CK,zeroValue3->BB,zeroValue4->BK,zeroValue5->BE,zeroValue9->BC,zeroValue99->DC
open _root_.UInt8 renaming ofNat->CZ,toNat_inj->Ct
open _root_.Go.Value renaming int->E5,string->AU
set_option linter.unusedVariables false
set_option maxRecDepth 100000
namespace Go.X
end Go.X
namespace Go.Proofs
end Go.Proofs
open Go Go.X Go.Proofs
section
namespace Go.X
open Go Go.Proofs Go.Shelf Go.RowKit
section
theorem LF{α : Type}{x y : α}{o : Option α}(h : o = some x)(e : x = y := by kernel_rfl): o = some y := h.trans (congrArg some e)
def znr:Go.Shelf.Ren:=⟨fun|161=>131|231=>157|227=>158|233=>159|235=>160|228=>193|197=>142|151=>194|260=>171|152=>222|137=>191|119=>237|224=>232|225=>231|217=>221|266=>236|n=>n,fun|9=>9|4=>4|3=>3|5=>5|117=>164|116=>163|0=>0|124=>167|105=>119|21=>21|119=>172|46=>176|139=>175|138=>174|n=>n,fun|3=>0|4=>1|n=>n⟩
theorem z0j:Go.Proofs.Lays.n161 Tp znr:={
 mixed:=by kernel_rfl
 f119:=LF Ey
 f137:=LF Ez
 f151:=LF Tryz.func194
 f152:=LF EA
 f161:=LF Tryz.func131
 f197:=LF EY
 f217:=LF Dl
 f224:=LF DJ
 f225:=LF DK
 f227:=LF Tryz.func158
 f228:=LF Tryz.func193
 f231:=LF Tryz.func157
 f233:=LF Tryz.func159
 f235:=LF Tryz.func160
 f260:=LF EZ
 f266:=LF Dm
 t0:=BO
 a0:=CJ
 z0:=Cv
 v0:=BW
 t3:=Bp
 a3:=B6
 z3:=BX
 v3:=BB
 t4:=Bw
 a4:=Cm
 z4:=Cb
 v4:=BK
 t5:=Bz
 a5:=Ci
 z5:=B0
 v5:=BE
 t9:=Bh
 a9:=B7
 z9:=BZ
 v9:=BC
 t21:=Cy
 a21:=Dn
 z21:=Dc
 v21:=CK
 t46:=BL
 a46:=Cs
 z46:=Ce
 v46:=BQ
 t105:=DL
 a105:=EO
 z105:=EB
 v105:=D3
 t116:=Tryz.underlying163
 a116:=Tryz.isAgg163
 z116:=Tryz.sizeOf163
 t117:=Tryz.underlying164
 a117:=Tryz.isAgg164
 z117:=Tryz.sizeOf164
 v117:=Tryz.zeroValue164
 t119:=DN
 a119:=EP
 z119:=EC
 t124:=Tryz.underlying167
 a124:=Tryz.isAgg167
 z124:=Tryz.sizeOf167
 v124:=Tryz.zeroValue167
 t138:=De
 a138:=EQ
 z138:=ED
 v138:=D4
 t139:=DO
 a139:=ER
 z139:=EE
 v139:=D5
 g3:=by kernel_rfl
 g4:=by kernel_rfl }
theorem Xd(s:Bt)(c:UInt8)(hc:c.toNat<128)(w:World):
  Calls Tp 131 #[.string s,.string ⟨#[c]⟩] w λe w'=>e=.returned (.string ⟨(Lib.trimLeftB s.data.toList c).toArray⟩)/\w'=w:=Any.strings_TrimLeft_one z0j s c hc w
def zns:Go.Shelf.Ren:=⟨fun|162=>132|232=>161|227=>158|234=>162|236=>163|228=>193|271=>195|151=>194|120=>223|197=>142|152=>222|260=>171|137=>191|119=>237|224=>232|225=>231|217=>221|266=>236|n=>n,fun|9=>9|4=>4|3=>3|5=>5|117=>164|116=>163|0=>0|124=>167|21=>21|105=>119|46=>176|119=>172|139=>175|138=>174|n=>n,fun|3=>0|4=>1|n=>n⟩
theorem z0k:Go.Proofs.Lays.n162 Tp zns:={
 mixed:=by kernel_rfl
 f119:=LF Ey
 f120:=LF Tryz.func223
 f137:=LF Ez
 f151:=LF Tryz.func194
 f152:=LF EA
 f162:=LF Tryz.func132
 f197:=LF EY
 f217:=LF Dl
 f224:=LF DJ
 f225:=LF DK
 f227:=LF Tryz.func158
 f228:=LF Tryz.func193
 f232:=LF Tryz.func161
 f234:=LF Tryz.func162
 f236:=LF Tryz.func163
 f260:=LF EZ
 f266:=LF Dm
 f271:=LF Tryz.func195
 t0:=BO
 a0:=CJ
 z0:=Cv
 v0:=BW
 t3:=Bp
 a3:=B6
 z3:=BX
 v3:=BB
 t4:=Bw
 a4:=Cm
 z4:=Cb
 v4:=BK
 t5:=Bz
 a5:=Ci
 z5:=B0
 v5:=BE
 t9:=Bh
 a9:=B7
 z9:=BZ
 v9:=BC
 t21:=Cy
 a21:=Dn
 z21:=Dc
 v21:=CK
 t46:=BL
 a46:=Cs
 z46:=Ce
 v46:=BQ
 t105:=DL
 a105:=EO
 z105:=EB
 v105:=D3
 t116:=Tryz.underlying163
 a116:=Tryz.isAgg163
 z116:=Tryz.sizeOf163
 t117:=Tryz.underlying164
 a117:=Tryz.isAgg164
 z117:=Tryz.sizeOf164
 v117:=Tryz.zeroValue164
 t119:=DN
 a119:=EP
 z119:=EC
 t124:=Tryz.underlying167
 a124:=Tryz.isAgg167
 z124:=Tryz.sizeOf167
 v124:=Tryz.zeroValue167
 t138:=De
 a138:=EQ
 z138:=ED
 v138:=D4
 t139:=DO
 a139:=ER
 z139:=EE
 v139:=D5
 g3:=by kernel_rfl
 g4:=by kernel_rfl }
theorem Wy(s:Bt)(c:UInt8)(hc:c.toNat<128)(w:World)(hs:s.size<=9223372036854775807):
  Calls Tp 132 #[.string s,.string ⟨#[c]⟩] w λe w'=>e=.returned (.string ⟨(Lib.trimRightB s.data.toList c).toArray⟩)/\w'=w:=Any.strings_TrimRight_one z0k s c hc w hs
def znt:Go.Shelf.Ren:=⟨fun|137=>191|217=>221|266=>236|n=>n,fun|9=>9|5=>5|3=>3|n=>n,fun|n=>n⟩
theorem z0l:Go.Proofs.Lays.n137 Tp znt:={
 mixed:=by kernel_rfl
 f137:=LF Ez
 f217:=LF Dl
 f266:=LF Dm
 t3:=Bp
 a3:=B6
 z3:=BX
 v3:=BB
 t5:=Bz
 a5:=Ci
 z5:=B0
 v5:=BE
 t9:=Bh
 a9:=B7
 z9:=BZ
 v9:=BC }
theorem x9(s:Bt)(c:Int)(w:World):
  Calls Tp 191 #[.string s,.int .u8 c] w λe w'=>e=.returned (.int .i64 (Lib.indexByte s.data.toList c.toNat.toUInt8))/\w'=w:=Any.strings_IndexByte z0l s c w
def znu:Go.Shelf.Ren:=⟨fun|103=>154|210=>190|206=>206|n=>n,fun|9=>9|4=>4|24=>100|3=>3|n=>n,fun|n=>n⟩
theorem z0m:Go.Proofs.Lays.n103 Tp znu:={
 mixed:=by kernel_rfl
 f103:=LF Tryz.func154
 f206:=LF Tryz.func206
 f210:=LF Tryz.func190
 t3:=Bp
 a3:=B6
 z3:=BX
 v3:=BB
 t4:=Bw
 a4:=Cm
 z4:=Cb
 v4:=BK
 t9:=Bh
 a9:=B7
 z9:=BZ
 v9:=BC
 t24:=Tryz.underlying100
 a24:=Tryz.isAgg100
 z24:=Tryz.sizeOf100
 v24:=Tryz.zeroValue100 }
theorem zcg(s p:Bt)(w:World):
  Calls Tp 154 #[.string s,.string p] w λe w'=>e=.returned (.tuple #[.string ⟨(Lib.trimPrefix s.data.toList p.data.toList).toArray⟩,.bool (Lib.hasPrefix s.data.toList p.data.toList)])/\w'=w:=Any.strings_CutPrefix z0m s p w
def zky:Go.Shelf.Ren:=⟨fun|171=>97|243=>129|246=>153|283=>186|284=>187|285=>188|286=>189|129=>217|317=>216|318=>218|319=>219|320=>220|337=>234|338=>235|n=>n,fun|3=>3|9=>9|2=>2|4=>4|171=>188|0=>0|53=>189|37=>99|5=>5|173=>192|212=>213|51=>200|20=>20|213=>214|46=>176|232=>231|233=>232|n=>n,fun|17=>3|18=>6|19=>7|n=>n⟩
theorem zxk:Go.Proofs.LaysM.n171 Tp zky:={
 mixed:=by kernel_rfl
 f129:=LF Tryz.func217
 f171:=LF Tryz.func97
 f243:=LF Tryz.func129
 f246:=LF Tryz.func153
 f283:=LF Tryz.func186
 f284:=LF Tryz.func187
 f285:=LF Tryz.func188
 f286:=LF Tryz.func189
 f317:=LF Tryz.func216
 f318:=LF Tryz.func218
 f319:=LF Tryz.func219
 f320:=LF Tryz.func220
 f337:=LF Tryz.func234
 f338:=LF Tryz.func235
 t0:=BO
 a0:=CJ
 z0:=Cv
 v0:=BW
 t2:=Tryz.underlying2
 a2:=Tryz.isAgg2
 z2:=Tryz.sizeOf2
 v2:=Tryz.zeroValue2
 t3:=Bp
 a3:=B6
 z3:=BX
 v3:=BB
 t4:=Bw
 a4:=Cm
 z4:=Cb
 v4:=BK
 t5:=Bz
 a5:=Ci
 z5:=B0
 v5:=BE
 t9:=Bh
 a9:=B7
 z9:=BZ
 v9:=BC
 t20:=D6
 a20:=E0
 z20:=ES
 v20:=Ej
 t37:=Do
 a37:=EF
 z37:=En
 v37:=DC
 t46:=BL
 a46:=Cs
 z46:=Ce
 v46:=BQ
 t51:=CE
 a51:=Dr
 z51:=Df
 v51:=CP
 t53:=Tryz.underlying189
 a53:=Tryz.isAgg189
 z53:=Tryz.sizeOf189
 v53:=Tryz.zeroValue189
 t171:=Tryz.underlying188
 a171:=Tryz.isAgg188
 z171:=Tryz.sizeOf188
 v171:=Tryz.zeroValue188
 t173:=Tryz.underlying192
 a173:=Tryz.isAgg192
 z173:=Tryz.sizeOf192
 v173:=Tryz.zeroValue192
 t212:=Tryz.underlying213
 a212:=Tryz.isAgg213
 z212:=Tryz.sizeOf213
 v212:=Tryz.zeroValue213
 t213:=Tryz.underlying214
 a213:=Tryz.isAgg214
 z213:=Tryz.sizeOf214
 t232:=Tryz.underlying231
 a232:=Tryz.isAgg231
 z232:=Tryz.sizeOf231
 v232:=Tryz.zeroValue231
 t233:=Tryz.underlying232
 a233:=Tryz.isAgg232
 z233:=Tryz.sizeOf232
 v233:=Tryz.zeroValue232
 g17:=by kernel_rfl
 g18:=by kernel_rfl
 g19:=by kernel_rfl
 i0:=by kernel_rfl
 i2:=by kernel_rfl
 i3:=by kernel_rfl
 i4:=by kernel_rfl
 i5:=by kernel_rfl
 i9:=by kernel_rfl
 i20:=by kernel_rfl
 i37:=by kernel_rfl
 i46:=by kernel_rfl
 i51:=by kernel_rfl
 i53:=by kernel_rfl
 i171:=by kernel_rfl
 i173:=by kernel_rfl
 i212:=by kernel_rfl
 i232:=by kernel_rfl
 i233:=by kernel_rfl
 m17:=by kernel_rfl
 m18:=by kernel_rfl
 m19:=by kernel_rfl }
open Go.RowKit Go.Sort Go.Lib in
theorem zkz(n : Int)(h0 : -9223372036854775808 ≤ n)(h1 : n ≤ 9223372036854775807)(w : World)(htab : Lib.TabIs Tp w "internal/strconv.uint64pow10" .u64 Lib.pow10Tab):
  Calls Tp 97 #[.int .i64 n] w λe w'=>e=.returned (.string ⟨(Lib.itoa n).toArray⟩)/\∃k os,w'=grow (w.drewN k) os:=Any.strconv_Itoa zxk n h0 h1 w htab
def zk0:Go.Shelf.Ren:=⟨fun|172=>173|244=>203|245=>179|247=>178|279=>209|280=>210|281=>211|282=>212|287=>208|316=>229|171=>97|205=>230|321=>227|322=>228|243=>129|246=>153|283=>186|284=>187|285=>188|286=>189|129=>217|317=>216|318=>218|319=>219|320=>220|337=>234|338=>235|n=>n,fun|9=>9|3=>3|75=>129|76=>131|4=>4|5=>5|167=>205|37=>99|0=>0|85=>151|2=>2|168=>208|53=>189|175=>206|46=>176|210=>222|127=>154|145=>229|143=>227|21=>21|171=>188|173=>192|212=>213|51=>200|20=>20|213=>214|232=>231|233=>232|80=>134|n=>n,fun|15=>4|16=>5|17=>3|18=>6|19=>7|n=>n⟩
theorem zfm:Go.Proofs.LaysC.n172 Tp zk0:={
 mixed:=by kernel_rfl
 f129:=LF Tryz.func217
 f171:=LF Tryz.func97
 f172:=LF Tryz.func173
 f205:=LF Tryz.func230
 f243:=LF Tryz.func129
 f244:=LF Tryz.func203
 f245:=LF Tryz.func179
 f246:=LF Tryz.func153
 f247:=LF Tryz.func178
 f279:=LF Tryz.func209
 f280:=LF Tryz.func210
 f281:=LF Tryz.func211
 f282:=LF Tryz.func212
 f283:=LF Tryz.func186
 f284:=LF Tryz.func187
 f285:=LF Tryz.func188
 f286:=LF Tryz.func189
 f287:=LF Tryz.func208
 f316:=LF Tryz.func229
 f317:=LF Tryz.func216
 f318:=LF Tryz.func218
 f319:=LF Tryz.func219
 f320:=LF Tryz.func220
 f321:=LF Tryz.func227
 f322:=LF Tryz.func228
 f337:=LF Tryz.func234
 f338:=LF Tryz.func235
 t0:=BO
 a0:=CJ
 z0:=Cv
 v0:=BW
 t2:=Tryz.underlying2
 a2:=Tryz.isAgg2
 z2:=Tryz.sizeOf2
 v2:=Tryz.zeroValue2
 t3:=Bp
 a3:=B6
 z3:=BX
 v3:=BB
 t4:=Bw
 a4:=Cm
 z4:=Cb
 v4:=BK
 t5:=Bz
 a5:=Ci
 z5:=B0
 v5:=BE
 t9:=Bh
 a9:=B7
 z9:=BZ
 v9:=BC
 t20:=D6
 a20:=E0
 z20:=ES
 v20:=Ej
 t21:=Cy
 a21:=Dn
 z21:=Dc
 v21:=CK
 t37:=Do
 a37:=EF
 z37:=En
 v37:=DC
 t46:=BL
 a46:=Cs
 z46:=Ce
 v46:=BQ
 t51:=CE
 a51:=Dr
 z51:=Df
 v51:=CP
 t53:=Tryz.underlying189
 a53:=Tryz.isAgg189
 z53:=Tryz.sizeOf189
 v53:=Tryz.zeroValue189
 t75:=Dg
 a75:=Tryz.isAgg129
 z75:=Tryz.sizeOf129
 v75:=Tryz.zeroValue129
 t76:=Tryz.underlying131
 a76:=Tryz.isAgg131
 z76:=Tryz.sizeOf131
 v76:=Tryz.zeroValue131
 t85:=Tryz.underlying151
 a85:=Tryz.isAgg151
 z85:=Tryz.sizeOf151
 v85:=Tryz.zeroValue151
 t127:=DR
 a127:=ET
 z127:=EG
 v127:=D7
 t143:=Tryz.underlying227
 a143:=Tryz.isAgg227
 z143:=Tryz.sizeOf227
 v143:=Tryz.zeroValue227
 t145:=Tryz.underlying229
 a145:=Tryz.isAgg229
 z145:=Tryz.sizeOf229
 v145:=Tryz.zeroValue229
 t167:=Tryz.underlying205
 a167:=Tryz.isAgg205
 z167:=Tryz.sizeOf205
 v167:=Tryz.zeroValue205
 t168:=Tryz.underlying208
 a168:=Tryz.isAgg208
 z168:=Tryz.sizeOf208
 v168:=Tryz.zeroValue208
 t171:=Tryz.underlying188
 a171:=Tryz.isAgg188
 z171:=Tryz.sizeOf188
 v171:=Tryz.zeroValue188
 t173:=Tryz.underlying192
 a173:=Tryz.isAgg192
 z173:=Tryz.sizeOf192
 v173:=Tryz.zeroValue192
 t175:=Tryz.underlying206
 a175:=Tryz.isAgg206
 z175:=Tryz.sizeOf206
 v175:=Tryz.zeroValue206
 t210:=Tryz.underlying222
 a210:=Tryz.isAgg222
 z210:=Tryz.sizeOf222
 v210:=Tryz.zeroValue222
 t212:=Tryz.underlying213
 a212:=Tryz.isAgg213
 z212:=Tryz.sizeOf213
 v212:=Tryz.zeroValue213
 t213:=Tryz.underlying214
 a213:=Tryz.isAgg214
 z213:=Tryz.sizeOf214
 t232:=Tryz.underlying231
 a232:=Tryz.isAgg231
 z232:=Tryz.sizeOf231
 v232:=Tryz.zeroValue231
 t233:=Tryz.underlying232
 a233:=Tryz.isAgg232
 z233:=Tryz.sizeOf232
 v233:=Tryz.zeroValue232
 g15:=by kernel_rfl
 g16:=by kernel_rfl
 g17:=by kernel_rfl
 g18:=by kernel_rfl
 g19:=by kernel_rfl
 t80:=Tryz.underlying134
 a80:=Tryz.isAgg134
 z80:=Tryz.sizeOf134
 v80:=Tryz.zeroValue134
 i0:=by kernel_rfl
 i2:=by kernel_rfl
 i3:=by kernel_rfl
 i4:=by kernel_rfl
 i5:=by kernel_rfl
 i9:=by kernel_rfl
 i20:=by kernel_rfl
 i21:=by kernel_rfl
 i37:=by kernel_rfl
 i46:=by kernel_rfl
 i51:=by kernel_rfl
 i53:=by kernel_rfl
 i75:=by kernel_rfl
 i76:=by kernel_rfl
 i80:=by kernel_rfl
 i85:=by kernel_rfl
 i127:=by kernel_rfl
 i143:=by kernel_rfl
 i145:=by kernel_rfl
 i167:=by kernel_rfl
 i168:=by kernel_rfl
 i171:=by kernel_rfl
 i173:=by kernel_rfl
 i175:=by kernel_rfl
 i210:=by kernel_rfl
 i212:=by kernel_rfl
 i232:=by kernel_rfl
 i233:=by kernel_rfl
 m15:=by kernel_rfl
 m16:=by kernel_rfl
 m17:=by kernel_rfl
 m18:=by kernel_rfl
 m19:=by kernel_rfl
 c0:=by kernel_rfl
 c2:=by kernel_rfl
 c3:=by kernel_rfl
 c4:=by kernel_rfl
 c5:=by kernel_rfl
 c9:=by kernel_rfl
 c20:=by kernel_rfl
 c21:=by kernel_rfl
 c37:=by kernel_rfl
 c46:=by kernel_rfl
 c51:=by kernel_rfl
 c53:=by kernel_rfl
 c75:=by kernel_rfl
 c76:=by kernel_rfl
 c80:=by kernel_rfl
 c85:=by kernel_rfl
 c127:=by kernel_rfl
 c143:=by kernel_rfl
 c145:=by kernel_rfl
 c167:=by kernel_rfl
 c168:=by kernel_rfl
 c171:=by kernel_rfl
 c173:=by kernel_rfl
 c175:=by kernel_rfl
 c210:=by kernel_rfl
 c212:=by kernel_rfl
 c213:=by kernel_rfl
 c232:=by kernel_rfl
 c233:=by kernel_rfl }
theorem zfn(s:Bt)(O:s.size<=9223372036854775806)(v:Int)(h:Lib.atoiAll s.data.toList=.ok v)(w:World):
  Calls Tp 173 #[.string s] w λe w'=>e=.returned (.tuple #[.int .i64 v,.nilIface])/\(w'=w\/∃t,w'=Lib.bytesWorld w 5 t):=Any.strconv_Atoi_ok zfm s O v h w
theorem X8(s:Bt)(O:s.size<=281474976710656)(h:Lib.atoiAll s.data.toList=Lib.atoiAll [])(ev:Value)(w:World)(hv:w.cell? ⟨4,0,none⟩=some ev)(Z:ev=.nilIface\/∃te pe,ev=.iface te pe):
  Calls Tp 173 #[.string s] w λe w'=>∃N,e=.returned (.tuple #[.int .i64 (0),.iface 208 (.pointer (some ⟨N,0,none⟩))])/\w.heap.size<=N/\w'.heap[N]?=some (.cells #[.string ⟨#[65,116,111,105]⟩,.string s,ev] 222 (0,0))/\Below w.heap.size w w':=Any.strconv_Atoi_syntax zfm s O h ev w hv Z
theorem za8(s:Bt)(O:s.size<=281474976710656)(h:Lib.atoiAll s.data.toList=.range)(ev:Value)(w:World)(hv:w.cell? ⟨5,0,none⟩=some ev)(Z:ev=.nilIface\/∃te pe,ev=.iface te pe):
  Calls Tp 173 #[.string s] w λe w'=>∃N,e=.returned (.tuple #[.int .i64 (Lib.atoiSat s.data.toList),.iface 208 (.pointer (some ⟨N,0,none⟩))])/\w.heap.size<=N/\w'.heap[N]?=some (.cells #[.string ⟨#[65,116,111,105]⟩,.string s,ev] 222 (0,0))/\Below w.heap.size w w':=Any.strconv_Atoi_range zfm s O h ev w hv Z
def zk1:Go.Shelf.Ren:=⟨fun|174=>147|247=>178|245=>179|287=>208|279=>209|280=>210|281=>211|282=>212|321=>227|322=>228|316=>229|171=>97|205=>230|243=>129|246=>153|283=>186|284=>187|285=>188|286=>189|129=>217|317=>216|318=>218|319=>219|320=>220|337=>234|338=>235|n=>n,fun|9=>9|3=>3|2=>2|75=>129|85=>151|4=>4|167=>205|5=>5|53=>189|175=>206|46=>176|168=>208|37=>99|0=>0|210=>222|21=>21|127=>154|145=>229|143=>227|171=>188|173=>192|212=>213|51=>200|20=>20|213=>214|232=>231|233=>232|80=>134|n=>n,fun|15=>4|16=>5|17=>3|18=>6|19=>7|n=>n⟩
theorem zfo:Go.Proofs.LaysC.n174 Tp zk1:={
 mixed:=by kernel_rfl
 f129:=LF Tryz.func217
 f171:=LF Tryz.func97
 f174:=LF Tryz.func147
 f205:=LF Tryz.func230
 f243:=LF Tryz.func129
 f245:=LF Tryz.func179
 f246:=LF Tryz.func153
 f247:=LF Tryz.func178
 f279:=LF Tryz.func209
 f280:=LF Tryz.func210
 f281:=LF Tryz.func211
 f282:=LF Tryz.func212
 f283:=LF Tryz.func186
 f284:=LF Tryz.func187
 f285:=LF Tryz.func188
 f286:=LF Tryz.func189
 f287:=LF Tryz.func208
 f316:=LF Tryz.func229
 f317:=LF Tryz.func216
 f318:=LF Tryz.func218
 f319:=LF Tryz.func219
 f320:=LF Tryz.func220
 f321:=LF Tryz.func227
 f322:=LF Tryz.func228
 f337:=LF Tryz.func234
 f338:=LF Tryz.func235
 t0:=BO
 a0:=CJ
 z0:=Cv
 v0:=BW
 t2:=Tryz.underlying2
 a2:=Tryz.isAgg2
 z2:=Tryz.sizeOf2
 v2:=Tryz.zeroValue2
 t3:=Bp
 a3:=B6
 z3:=BX
 v3:=BB
 t4:=Bw
 a4:=Cm
 z4:=Cb
 v4:=BK
 t5:=Bz
 a5:=Ci
 z5:=B0
 v5:=BE
 t9:=Bh
 a9:=B7
 z9:=BZ
 v9:=BC
 t20:=D6
 a20:=E0
 z20:=ES
 v20:=Ej
 t21:=Cy
 a21:=Dn
 z21:=Dc
 v21:=CK
 t37:=Do
 a37:=EF
 z37:=En
 v37:=DC
 t46:=BL
 a46:=Cs
 z46:=Ce
 v46:=BQ
 t51:=CE
 a51:=Dr
 z51:=Df
 v51:=CP
 t53:=Tryz.underlying189
 a53:=Tryz.isAgg189
 z53:=Tryz.sizeOf189
 v53:=Tryz.zeroValue189
 t75:=Dg
 a75:=Tryz.isAgg129
 z75:=Tryz.sizeOf129
 v75:=Tryz.zeroValue129
 t85:=Tryz.underlying151
 a85:=Tryz.isAgg151
 z85:=Tryz.sizeOf151
 v85:=Tryz.zeroValue151
 t127:=DR
 a127:=ET
 z127:=EG
 v127:=D7
 t143:=Tryz.underlying227
 a143:=Tryz.isAgg227
 z143:=Tryz.sizeOf227
 v143:=Tryz.zeroValue227
 t145:=Tryz.underlying229
 a145:=Tryz.isAgg229
 z145:=Tryz.sizeOf229
 v145:=Tryz.zeroValue229
 t167:=Tryz.underlying205
 a167:=Tryz.isAgg205
 z167:=Tryz.sizeOf205
 v167:=Tryz.zeroValue205
 t168:=Tryz.underlying208
 a168:=Tryz.isAgg208
 z168:=Tryz.sizeOf208
 v168:=Tryz.zeroValue208
 t171:=Tryz.underlying188
 a171:=Tryz.isAgg188
 z171:=Tryz.sizeOf188
 v171:=Tryz.zeroValue188
 t173:=Tryz.underlying192
 a173:=Tryz.isAgg192
 z173:=Tryz.sizeOf192
 v173:=Tryz.zeroValue192
 t175:=Tryz.underlying206
 a175:=Tryz.isAgg206
 z175:=Tryz.sizeOf206
 v175:=Tryz.zeroValue206
 t210:=Tryz.underlying222
 a210:=Tryz.isAgg222
 z210:=Tryz.sizeOf222
 v210:=Tryz.zeroValue222
 t212:=Tryz.underlying213
 a212:=Tryz.isAgg213
 z212:=Tryz.sizeOf213
 v212:=Tryz.zeroValue213
 t213:=Tryz.underlying214
 a213:=Tryz.isAgg214
 z213:=Tryz.sizeOf214
 t232:=Tryz.underlying231
 a232:=Tryz.isAgg231
 z232:=Tryz.sizeOf231
 v232:=Tryz.zeroValue231
 t233:=Tryz.underlying232
 a233:=Tryz.isAgg232
 z233:=Tryz.sizeOf232
 v233:=Tryz.zeroValue232
 g15:=by kernel_rfl
 g16:=by kernel_rfl
 g17:=by kernel_rfl
 g18:=by kernel_rfl
 g19:=by kernel_rfl
 t80:=Tryz.underlying134
 a80:=Tryz.isAgg134
 z80:=Tryz.sizeOf134
 v80:=Tryz.zeroValue134
 i0:=by kernel_rfl
 i2:=by kernel_rfl
 i3:=by kernel_rfl
 i4:=by kernel_rfl
 i5:=by kernel_rfl
 i9:=by kernel_rfl
 i20:=by kernel_rfl
 i21:=by kernel_rfl
 i37:=by kernel_rfl
 i46:=by kernel_rfl
 i51:=by kernel_rfl
 i53:=by kernel_rfl
 i75:=by kernel_rfl
 i80:=by kernel_rfl
 i85:=by kernel_rfl
 i127:=by kernel_rfl
 i143:=by kernel_rfl
 i145:=by kernel_rfl
 i167:=by kernel_rfl
 i168:=by kernel_rfl
 i171:=by kernel_rfl
 i173:=by kernel_rfl
 i175:=by kernel_rfl
 i210:=by kernel_rfl
 i212:=by kernel_rfl
 i232:=by kernel_rfl
 i233:=by kernel_rfl
 m15:=by kernel_rfl
 m16:=by kernel_rfl
 m17:=by kernel_rfl
 m18:=by kernel_rfl
 m19:=by kernel_rfl
 c0:=by kernel_rfl
 c2:=by kernel_rfl
 c3:=by kernel_rfl
 c4:=by kernel_rfl
 c5:=by kernel_rfl
 c9:=by kernel_rfl
 c20:=by kernel_rfl
 c21:=by kernel_rfl
 c37:=by kernel_rfl
 c46:=by kernel_rfl
 c51:=by kernel_rfl
 c53:=by kernel_rfl
 c75:=by kernel_rfl
 c80:=by kernel_rfl
 c85:=by kernel_rfl
 c127:=by kernel_rfl
 c143:=by kernel_rfl
 c145:=by kernel_rfl
 c167:=by kernel_rfl
 c168:=by kernel_rfl
 c171:=by kernel_rfl
 c173:=by kernel_rfl
 c175:=by kernel_rfl
 c210:=by kernel_rfl
 c212:=by kernel_rfl
 c213:=by kernel_rfl
 c232:=by kernel_rfl
 c233:=by kernel_rfl }
theorem Qx(s:Bt)(O:s.size<=9223372036854775806)(v:Int)(h:Lib.parseIntB 64 s.data.toList=.ok v)(w:World):
  Calls Tp 147 #[.string s,.int .i64 10,.int .i64 64] w λe w'=>e=.returned (.tuple #[.int .i64 v,.nilIface])/\(w'=w\/∃t,w'=Lib.bytesWorld w 5 t):=Any.strconv_ParseInt_10_at64_ok zfo s O v h w
theorem Zv(s:Bt)(O:s.size<=281474976710656)(h:Lib.parseIntB 64 s.data.toList=Lib.parseIntB 64 [])(ev:Value)(w:World)(hv:w.cell? ⟨4,0,none⟩=some ev)(Z:ev=.nilIface\/∃te pe,ev=.iface te pe):
  Calls Tp 147 #[.string s,.int .i64 10,.int .i64 64] w λe w'=>∃N,e=.returned (.tuple #[.int .i64 (0),.iface 208 (.pointer (some ⟨N,0,none⟩))])/\w.heap.size<=N/\w'.heap[N]?=some (.cells #[.string ⟨#[80,97,114,115,101,73,110,116]⟩,.string s,ev] 222 (0,0))/\Below w.heap.size w w':=Any.strconv_ParseInt_10_at64_syntax zfo s O h ev w hv Z
theorem Z0(s:Bt)(O:s.size<=281474976710656)(h:Lib.parseIntB 64 s.data.toList=.range)(ev:Value)(w:World)(hv:w.cell? ⟨5,0,none⟩=some ev)(Z:ev=.nilIface\/∃te pe,ev=.iface te pe):
  Calls Tp 147 #[.string s,.int .i64 10,.int .i64 64] w λe w'=>∃N,e=.returned (.tuple #[.int .i64 (Lib.intSat 64 s.data.toList),.iface 208 (.pointer (some ⟨N,0,none⟩))])/\w.heap.size<=N/\w'.heap[N]?=some (.cells #[.string ⟨#[80,97,114,115,101,73,110,116]⟩,.string s,ev] 222 (0,0))/\Below w.heap.size w w':=Any.strconv_ParseInt_10_at64_range zfo s O h ev w hv Z
def znv:Go.Shelf.Ren:=⟨fun|145=>182|220=>214|219=>213|217=>221|225=>231|224=>232|267=>233|266=>236|314=>239|n=>n,fun|9=>9|4=>4|59=>159|3=>3|5=>5|46=>176|146=>201|51=>200|n=>n,fun|1=>2|n=>n⟩
theorem z0n:Go.Proofs.Lays.n145 Tp znv:={
 mixed:=by kernel_rfl
 f145:=LF Tryz.func182
 f217:=LF Dl
 f219:=LF Tryz.func213
 f220:=LF Tryz.func214
 f224:=LF DJ
 f225:=LF DK
 f266:=LF Dm
 f267:=LF Tryz.func233
 f314:=LF Tryz.func239
 t3:=Bp
 a3:=B6
 z3:=BX
 v3:=BB
 t4:=Bw
 a4:=Cm
 z4:=Cb
 v4:=BK
 t5:=Bz
 a5:=Ci
 z5:=B0
 v5:=BE
 t9:=Bh
 a9:=B7
 z9:=BZ
 v9:=BC
 t46:=BL
 a46:=Cs
 z46:=Ce
 v46:=BQ
 t51:=CE
 a51:=Dr
 z51:=Df
 v51:=CP
 t59:=Tryz.underlying159
 a59:=Tryz.isAgg159
 z59:=Tryz.sizeOf159
 v59:=Tryz.zeroValue159
 t146:=DT
 a146:=EU
 z146:=EH
 v146:=D8
 g1:=by kernel_rfl }
open Go.RowKit Go.Lib in
theorem znw(s sep:Bt)(m:Int)(w:World)(hs:s.size<4294967281)(hm:w.cell? ⟨2,0,none⟩=some (.int .i64 m)):
  Calls Tp 182 #[.string s,.string sep] w λe w'=>e=.returned (.tuple #[.string ⟨(Lib.cut s.data.toList sep.data.toList).1.toArray⟩,.string ⟨(Lib.cut s.data.toList sep.data.toList).2.1.toArray⟩,.bool (Lib.cut s.data.toList sep.data.toList).2.2])/\∃n,w'=w.drewN n:=Any.strings_Cut z0n s sep m w hs hm
def znx:Go.Shelf.Ren:=⟨fun|138=>151|195=>183|218=>184|143=>181|219=>213|217=>221|225=>231|224=>232|267=>233|266=>236|314=>239|n=>n,fun|9=>9|3=>3|4=>4|5=>5|0=>0|46=>176|146=>201|51=>200|n=>n,fun|1=>2|n=>n⟩
theorem z0o:Go.Proofs.Lays.n138 Tp znx:={
 mixed:=by kernel_rfl
 f138:=LF Tryz.func151
 f143:=LF Tryz.func181
 f195:=LF Tryz.func183
 f217:=LF Dl
 f218:=LF Tryz.func184
 f219:=LF Tryz.func213
 f224:=LF DJ
 f225:=LF DK
 f266:=LF Dm
 f267:=LF Tryz.func233
 f314:=LF Tryz.func239
 t0:=BO
 a0:=CJ
 z0:=Cv
 v0:=BW
 t3:=Bp
 a3:=B6
 z3:=BX
 v3:=BB
 t4:=Bw
 a4:=Cm
 z4:=Cb
 v4:=BK
 t5:=Bz
 a5:=Ci
 z5:=B0
 v5:=BE
 t9:=Bh
 a9:=B7
 z9:=BZ
 v9:=BC
 t46:=BL
 a46:=Cs
 z46:=Ce
 v46:=BQ
 t51:=CE
 a51:=Dr
 z51:=Df
 v51:=CP
 t146:=DT
 a146:=EU
 z146:=EH
 v146:=D8
 g1:=by kernel_rfl }
def zny:Go.Shelf.Ren:=⟨fun|101=>156|208=>192|206=>206|n=>n,fun|9=>9|4=>4|3=>3|n=>n,fun|n=>n⟩
theorem z0p:Go.Proofs.Lays.n101 Tp zny:={
 mixed:=by kernel_rfl
 f101:=LF Tryz.func156
 f206:=LF Tryz.func206
 f208:=LF Tryz.func192
 t3:=Bp
 a3:=B6
 z3:=BX
 v3:=BB
 t4:=Bw
 a4:=Cm
 z4:=Cb
 v4:=BK
 t9:=Bh
 a9:=B7
 z9:=BZ
 v9:=BC }
open Go.RowKit Go.Lib in
theorem za9(s p:Bt)(w:World):
  Calls Tp 156 #[.string s,.string p] w λe w'=>e=.returned (.string ⟨(Lib.trimPrefix s.data.toList p.data.toList).toArray⟩)/\w'=w:=Any.strings_TrimPrefix z0p s p w
open Go.RowKit Go.Lib in
theorem zch(s sep:Bt)(m:Int)(w:World)(hs:s.size<4294967281)(hm:w.cell? ⟨2,0,none⟩=some (.int .i64 m))(h1:1<=sep.size):
  Calls Tp 151 #[.string s,.string sep] w λe w'=>e=.returned (.int .i64 (Lib.countB s sep))/\w'=w:=Any.strings_Count_any z0o s sep m w hs hm h1
def znz:Go.Shelf.Ren:=⟨fun|146=>152|221=>185|268=>215|138=>151|143=>181|195=>183|197=>142|218=>184|219=>213|260=>171|217=>221|225=>231|224=>232|267=>233|266=>236|314=>239|n=>n,fun|9=>9|31=>22|3=>3|4=>4|0=>0|105=>119|21=>21|5=>5|46=>176|119=>172|139=>175|138=>174|146=>201|51=>200|n=>n,fun|1=>2|3=>0|4=>1|n=>n⟩
theorem z0q:Go.Proofs.Lays.n146 Tp znz:={
 mixed:=by kernel_rfl
 f138:=LF Tryz.func151
 f143:=LF Tryz.func181
 f146:=LF Tryz.func152
 f195:=LF Tryz.func183
 f197:=LF EY
 f217:=LF Dl
 f218:=LF Tryz.func184
 f219:=LF Tryz.func213
 f221:=LF Tryz.func185
 f224:=LF DJ
 f225:=LF DK
 f260:=LF EZ
 f266:=LF Dm
 f267:=LF Tryz.func233
 f268:=LF Tryz.func215
 f314:=LF Tryz.func239
 t0:=BO
 a0:=CJ
 z0:=Cv
 v0:=BW
 t3:=Bp
 a3:=B6
 z3:=BX
 v3:=BB
 t4:=Bw
 a4:=Cm
 z4:=Cb
 v4:=BK
 t5:=Bz
 a5:=Ci
 z5:=B0
 v5:=BE
 t9:=Bh
 a9:=B7
 z9:=BZ
 v9:=BC
 t21:=Cy
 a21:=Dn
 z21:=Dc
 v21:=CK
 t31:=Tryz.underlying22
 a31:=Tryz.isAgg22
 z31:=Tryz.sizeOf22
 v31:=Tryz.zeroValue22
 t46:=BL
 a46:=Cs
 z46:=Ce
 v46:=BQ
 t51:=CE
 a51:=Dr
 z51:=Df
 v51:=CP
 t105:=DL
 a105:=EO
 z105:=EB
 v105:=D3
 t119:=DN
 a119:=EP
 z119:=EC
 t138:=De
 a138:=EQ
 z138:=ED
 v138:=D4
 t139:=DO
 a139:=ER
 z139:=EE
 v139:=D5
 t146:=DT
 a146:=EU
 z146:=EH
 v146:=D8
 g1:=by kernel_rfl
 g3:=by kernel_rfl
 g4:=by kernel_rfl }
open Go.RowKit Go.Lib in
theorem zi5(s sep:Bt)(m:Int)(w:World)(hs:s.size<4294967281)(hm:w.cell? ⟨2,0,none⟩=some (.int .i64 m))(h1:1<=sep.size):
  Calls Tp 152 #[.string s,.string sep] w λe w'=>
   e=.returned (.slice (some ⟨w.heap.size,0,none⟩) (Lib.countB s sep+1) (Lib.countB s sep+1))/\w'=w.alloc (.cells ((Lib.splitB sep 0 (Lib.countB s sep) s).map AU).toArray 9):=Any.strings_Split z0q (by kernel_rfl) s sep m w hs hm h1
def zed:Go.Shelf.Ren:=⟨fun|155=>122|154=>149|138=>151|165=>176|143=>181|166=>121|197=>142|169=>123|195=>183|218=>184|240=>148|241=>207|219=>213|260=>171|276=>180|277=>226|217=>221|225=>231|224=>232|267=>233|266=>236|314=>239|n=>n,fun|9=>9|3=>3|4=>4|72=>127|0=>0|76=>131|105=>119|21=>21|5=>5|70=>125|20=>20|37=>99|75=>129|127=>154|164=>183|46=>176|119=>172|139=>175|138=>174|146=>201|51=>200|80=>134|n=>n,fun|1=>2|3=>0|4=>1|n=>n⟩
theorem z0r:Go.Proofs.Lays.n155 Tp zed:={
 mixed:=by kernel_rfl
 f138:=LF Tryz.func151
 f143:=LF Tryz.func181
 f154:=LF Tryz.func149
 f155:=LF Tryz.func122
 f165:=LF Tryz.func176
 f166:=LF Tryz.func121
 f169:=LF Tryz.func123
 f195:=LF Tryz.func183
 f197:=LF EY
 f217:=LF Dl
 f218:=LF Tryz.func184
 f219:=LF Tryz.func213
 f224:=LF DJ
 f225:=LF DK
 f240:=LF Tryz.func148
 f241:=LF Tryz.func207
 f260:=LF EZ
 f266:=LF Dm
 f267:=LF Tryz.func233
 f276:=LF Tryz.func180
 f277:=LF Tryz.func226
 f314:=LF Tryz.func239
 t0:=BO
 a0:=CJ
 z0:=Cv
 v0:=BW
 t3:=Bp
 a3:=B6
 z3:=BX
 v3:=BB
 t4:=Bw
 a4:=Cm
 z4:=Cb
 v4:=BK
 t5:=Bz
 a5:=Ci
 z5:=B0
 v5:=BE
 t9:=Bh
 a9:=B7
 z9:=BZ
 v9:=BC
 t20:=D6
 a20:=E0
 z20:=ES
 v20:=Ej
 t21:=Cy
 a21:=Dn
 z21:=Dc
 v21:=CK
 t37:=Do
 a37:=EF
 z37:=En
 v37:=DC
 t46:=BL
 a46:=Cs
 z46:=Ce
 v46:=BQ
 t51:=CE
 a51:=Dr
 z51:=Df
 v51:=CP
 t70:=Tryz.underlying125
 a70:=Tryz.isAgg125
 z70:=Tryz.sizeOf125
 v70:=Tryz.zeroValue125
 t72:=Tryz.underlying127
 a72:=Tryz.isAgg127
 z72:=Tryz.sizeOf127
 v72:=Tryz.zeroValue127
 t75:=Dg
 a75:=Tryz.isAgg129
 z75:=Tryz.sizeOf129
 v75:=Tryz.zeroValue129
 t76:=Tryz.underlying131
 a76:=Tryz.isAgg131
 z76:=Tryz.sizeOf131
 v76:=Tryz.zeroValue131
 t105:=DL
 a105:=EO
 z105:=EB
 v105:=D3
 t119:=DN
 a119:=EP
 z119:=EC
 t127:=DR
 a127:=ET
 z127:=EG
 v127:=D7
 t138:=De
 a138:=EQ
 z138:=ED
 v138:=D4
 t139:=DO
 a139:=ER
 z139:=EE
 v139:=D5
 t146:=DT
 a146:=EU
 z146:=EH
 v146:=D8
 t164:=Tryz.underlying183
 a164:=Tryz.isAgg183
 z164:=Tryz.sizeOf183
 v164:=Tryz.zeroValue183
 g1:=by kernel_rfl
 g3:=by kernel_rfl
 g4:=by kernel_rfl }
theorem zci:Builder.Extra Tp zed:={
 sizeBuilder:=by kernel_rfl
 liesBuilder:=by kernel_rfl
 t5:=Bz
 a5:=Ci
 z5:=B0
 v5:=BE
 infoByte:=by kernel_rfl
 cellsByte:=by kernel_rfl
 sizeByte:=by kernel_rfl
 neB5:=by decide }
open Go.RowKit Go.Lib in
theorem zba(s old new:Bt)(m:Int)(w:World)(hs:s.size<4294967281)(hm:w.cell? ⟨2,0,none⟩=some (.int .i64 m))(h1:1<=old.size)(O:s.size+Lib.countB s old*new.size<=140737488355328):
  Calls Tp 122 #[.string s,.string old,.string new] w λe w'=>
   e=.returned (.string ⟨(Lib.replaceAll s.data.toList old.data.toList new.data.toList).toArray⟩)/\Below w.heap.size w w':=Any.strings_ReplaceAll z0r zci s old new m w hs hm h1 O
def zn0:Go.Shelf.Ren:=⟨fun|197=>142|260=>171|n=>n,fun|9=>9|21=>21|3=>3|4=>4|5=>5|105=>119|119=>172|0=>0|46=>176|139=>175|138=>174|n=>n,fun|3=>0|4=>1|n=>n⟩
theorem z0s:Go.Proofs.Lays.n197 Tp zn0:={
 mixed:=by kernel_rfl
 f197:=LF EY
 f260:=LF EZ
 t0:=BO
 a0:=CJ
 z0:=Cv
 v0:=BW
 t3:=Bp
 a3:=B6
 z3:=BX
 v3:=BB
 t4:=Bw
 a4:=Cm
 z4:=Cb
 v4:=BK
 t5:=Bz
 a5:=Ci
 z5:=B0
 v5:=BE
 t9:=Bh
 a9:=B7
 z9:=BZ
 v9:=BC
 t21:=Cy
 a21:=Dn
 z21:=Dc
 v21:=CK
 t46:=BL
 a46:=Cs
 z46:=Ce
 v46:=BQ
 t105:=DL
 a105:=EO
 z105:=EB
 v105:=D3
 t119:=DN
 a119:=EP
 z119:=EC
 t138:=De
 a138:=EQ
 z138:=ED
 v138:=D4
 t139:=DO
 a139:=ER
 z139:=EE
 v139:=D5
 g3:=by kernel_rfl
 g4:=by kernel_rfl }
def zn1:Go.Shelf.Ren:=⟨fun|150=>172|153=>202|152=>222|226=>225|227=>158|228=>193|137=>191|119=>237|224=>232|225=>231|217=>221|266=>236|n=>n,fun|9=>9|4=>4|3=>3|5=>5|21=>21|117=>164|116=>163|0=>0|46=>176|124=>167|n=>n,fun|n=>n⟩
theorem z0t:Go.Proofs.Lays.n150 Tp zn1:={
 mixed:=by kernel_rfl
 f119:=LF Ey
 f137:=LF Ez
 f150:=LF Tryz.func172
 f152:=LF EA
 f153:=LF Tryz.func202
 f217:=LF Dl
 f224:=LF DJ
 f225:=LF DK
 f226:=LF Tryz.func225
 f227:=LF Tryz.func158
 f228:=LF Tryz.func193
 f266:=LF Dm
 t0:=BO
 a0:=CJ
 z0:=Cv
 v0:=BW
 t3:=Bp
 a3:=B6
 z3:=BX
 v3:=BB
 t4:=Bw
 a4:=Cm
 z4:=Cb
 v4:=BK
 t5:=Bz
 a5:=Ci
 z5:=B0
 v5:=BE
 t9:=Bh
 a9:=B7
 z9:=BZ
 v9:=BC
 t21:=Cy
 a21:=Dn
 z21:=Dc
 v21:=CK
 t46:=BL
 a46:=Cs
 z46:=Ce
 v46:=BQ
 t116:=Tryz.underlying163
 a116:=Tryz.isAgg163
 z116:=Tryz.sizeOf163
 t117:=Tryz.underlying164
 a117:=Tryz.isAgg164
 z117:=Tryz.sizeOf164
 v117:=Tryz.zeroValue164
 t124:=Tryz.underlying167
 a124:=Tryz.isAgg167
 z124:=Tryz.sizeOf167
 v124:=Tryz.zeroValue167 }
open Go.RowKit Go.Lib in
theorem Yy(s O:Bt)(w:World)(hs:s.size<4294967281)(Z:O.size<4294967281)(ac:∀(j:Nat) b,s.data.toList[j]?=some b->b.toNat<128)(aa:∀(j:Nat) b,O.data.toList[j]?=some b->b.toNat<128):
  Calls Tp 172 #[.string s,.string O] w λe w'=>e=.returned (.bool (Lib.containsAny s.data.toList O.data.toList))/\Below w.heap.size w w':=Any.strings_ContainsAny_laid z0t (by kernel_rfl) s O w hs Z ac aa
def zee:Go.Shelf.Ren:=⟨fun|105=>146|212=>174|99=>175|165=>176|166=>121|170=>177|169=>123|263=>204|264=>205|206=>206|240=>148|241=>207|276=>180|277=>226|n=>n,fun|9=>9|3=>3|4=>4|20=>20|0=>0|46=>176|109=>178|5=>5|72=>127|76=>131|51=>200|146=>201|53=>189|148=>203|70=>125|37=>99|75=>129|127=>154|164=>183|80=>134|n=>n,fun|n=>n⟩
theorem z0u:Go.Proofs.Lays.n105 Tp zee:={
 mixed:=by kernel_rfl
 f99:=LF Tryz.func175
 f105:=LF Tryz.func146
 f165:=LF Tryz.func176
 f166:=LF Tryz.func121
 f169:=LF Tryz.func123
 f170:=LF Tryz.func177
 f206:=LF Tryz.func206
 f212:=LF Tryz.func174
 f240:=LF Tryz.func148
 f241:=LF Tryz.func207
 f263:=LF Tryz.func204
 f264:=LF Tryz.func205
 f276:=LF Tryz.func180
 f277:=LF Tryz.func226
 t0:=BO
 a0:=CJ
 z0:=Cv
 v0:=BW
 t3:=Bp
 a3:=B6
 z3:=BX
 v3:=BB
 t4:=Bw
 a4:=Cm
 z4:=Cb
 v4:=BK
 t5:=Bz
 a5:=Ci
 z5:=B0
 v5:=BE
 t9:=Bh
 a9:=B7
 z9:=BZ
 v9:=BC
 t20:=D6
 a20:=E0
 z20:=ES
 v20:=Ej
 t37:=Do
 a37:=EF
 z37:=En
 v37:=DC
 t46:=BL
 a46:=Cs
 z46:=Ce
 v46:=BQ
 t51:=CE
 a51:=Dr
 z51:=Df
 v51:=CP
 t53:=Tryz.underlying189
 a53:=Tryz.isAgg189
 z53:=Tryz.sizeOf189
 v53:=Tryz.zeroValue189
 t70:=Tryz.underlying125
 a70:=Tryz.isAgg125
 z70:=Tryz.sizeOf125
 v70:=Tryz.zeroValue125
 t72:=Tryz.underlying127
 a72:=Tryz.isAgg127
 z72:=Tryz.sizeOf127
 v72:=Tryz.zeroValue127
 t75:=Dg
 a75:=Tryz.isAgg129
 z75:=Tryz.sizeOf129
 v75:=Tryz.zeroValue129
 t76:=Tryz.underlying131
 a76:=Tryz.isAgg131
 z76:=Tryz.sizeOf131
 v76:=Tryz.zeroValue131
 t109:=Tryz.underlying178
 a109:=Tryz.isAgg178
 z109:=Tryz.sizeOf178
 v109:=Tryz.zeroValue178
 t127:=DR
 a127:=ET
 z127:=EG
 v127:=D7
 t146:=DT
 a146:=EU
 z146:=EH
 v146:=D8
 t148:=Tryz.underlying203
 a148:=Tryz.isAgg203
 z148:=Tryz.sizeOf203
 v148:=Tryz.zeroValue203
 t164:=Tryz.underlying183
 a164:=Tryz.isAgg183
 z164:=Tryz.sizeOf183
 v164:=Tryz.zeroValue183 }
theorem zcj:Builder.Extra Tp zee:={
 sizeBuilder:=by kernel_rfl
 liesBuilder:=by kernel_rfl
 t5:=Bz
 a5:=Ci
 z5:=B0
 v5:=BE
 infoByte:=by kernel_rfl
 cellsByte:=by kernel_rfl
 sizeByte:=by kernel_rfl
 neB5:=by decide }
open Go.RowKit Go.Lib in
theorem zgw(s:Bt)(c:Nat)(w:World)(hc:c<=9223372036854775807)(O:s.size*c<=140737488355328):
  Calls Tp 146 #[.string s,.int .i64 c] w λe w'=>e=.returned (.string ⟨(Lib.repeatL s.data.toList c).toArray⟩)/\Below w.heap.size w w':=Any.strings_Repeat z0u zcj s c w hc O
open Go.RowKit Go.Lib in
theorem Jd(s:Bt)(w:World)(hT:Lib.Utf8Tabs 0 1 w):
  Calls Tp 142 #[.string s] w λe w'=>e=.returned (.tuple #[.int .i32 (Lib.decodeGo s).1,.int .i64 (Lib.decodeGo s).2])/\Below w.heap.size w w':=Any.utf8_DecodeRuneInString z0s s w hT
def zn2:Go.Shelf.Ren:=⟨fun|109=>144|n=>n,fun|31=>22|9=>9|3=>3|0=>0|4=>4|n=>n,fun|n=>n⟩
theorem zqp:Go.Proofs.Lays.n109 Tp zn2:={
 mixed:=by kernel_rfl
 f109:=LF Tryz.func144
 t0:=BO
 a0:=CJ
 z0:=Cv
 v0:=BW
 t3:=Bp
 a3:=B6
 z3:=BX
 v3:=BB
 t4:=Bw
 a4:=Cm
 z4:=Cb
 v4:=BK
 t9:=Bh
 a9:=B7
 z9:=BZ
 v9:=BC
 t31:=Tryz.underlying22
 a31:=Tryz.isAgg22
 z31:=Tryz.sizeOf22
 v31:=Tryz.zeroValue22 }
open Go.Lib in
theorem X9(b off n c:Nat)(zs:List Bt)(x:Bt)(w:World)(hz:n<=zs.length)(O:n<=9223372036854775807)(hc:∀j,j<zs.length->w.cell? ⟨b,off+j,none⟩=some (.string (zs.getD j ByteArray.empty))):
  Calls Tp 144 #[.slice (some ⟨b,off,none⟩) n c,.string x] w λe w'=>e=.returned (.int .i64 (Lib.idxOfS (zs.take n) x))/\w'=w:=Any.slices_Index_string zqp b off n c zs x w hz O hc
open Go.Lib in
theorem Yp(a:Option Addr)(c:Nat)(x:Bt)(w:World):
  Calls Tp 144 #[.slice a 0 c,.string x] w λe w'=>e=.returned (.int .i64 (Lib.idxOfS [] x))/\w'=w:=Any.slices_Index_string_empty zqp a c x w
end
end Go.X
end
section
namespace Go.X
open Go Go.X Go.Proofs Go.RowKit
section
variable {gl M:Fr} {R:Int -> Prop} {sep:Bt}
theorem zaa{s:Bt}{c:Int}(h:R (Lib.indexByte (lb s) c.toNat.toUInt8)):PC Tp gl 191 [Arg.mk .str s,Arg.mk (.int .u8) c] [.int .i64] R:=
 PC.of_same rfl (λ_=>znl _ _) h λw _=>x9 s c w
theorem zqq{s p:Bt}{R:Bt×Bool->Prop}(h:R (bl (Lib.trimPrefix (lb s) (lb p)),Lib.hasPrefix (lb s) (lb p))):PC Tp gl 154 [Arg.mk .str s,Arg.mk .str p] [.str,.bool] R:=
 PC.of_same rfl (λM=>⟨[_,_],⟨_,_,rfl,rfl,_,rfl,rfl⟩,rfl⟩) h λw _=>zcg s p w
theorem zn3{s p:Bt}{R:Bt->Prop}(h:R (bl (Lib.trimPrefix (lb s) (lb p)))):PC Tp gl 156 [Arg.mk .str s,Arg.mk .str p] [.str] R:=
 PC.of_same rfl (λ_=>zff _) h λw _=>za9 s p w
theorem zsx{s:Bt}{c:UInt8}(hc:c.toNat<128){R:Bt->Prop}(h:R (bl (Lib.trimLeftB (lb s) c))):PC Tp gl 131 [Arg.mk .str s,Arg.mk .str ⟨#[c]⟩] [.str] R:=
 PC.of_same rfl (λ_=>zff _) h λw _=>Xd s c hc w
theorem zqr{s:Bt}{c:UInt8}(hc:c.toNat<128)(hs:s.size<=9223372036854775807){R:Bt->Prop}(h:R (bl (Lib.trimRightB (lb s) c))):PC Tp gl 132 [Arg.mk .str s,Arg.mk .str ⟨#[c]⟩] [.str] R:=
 PC.of_same rfl (λ_=>zff _) h λw _=>Wy s c hc w hs
def zmc(gl:Fr):Prop:=∃(cs:Array Value) (m:Int),gl 2=some cs/\cs[0]?=some (.int .i64 m)
theorem zck(w:World)(n:Nat):Below w.heap.size w (w.drewN n):=⟨rfl,rfl,rfl,Ae _,λ_ _=>rfl⟩
theorem qda(hg:zmc gl){s sep:Bt}(hs:s.size<4294967281){R:Bt×Bt×Bool->Prop}(h:R (bl (Lib.cut (lb s) (lb sep)).1,bl (Lib.cut (lb s) (lb sep)).2.1,(Lib.cut (lb s) (lb sep)).2.2)):PC Tp gl 182 [Arg.mk .str s,Arg.mk .str sep] [.str,.str,.bool] R:=by
 obtain⟨cs,m,h1,h2⟩:=hg
 exact PC.of_scal rfl (λM=>⟨[_,_,_],⟨_,_,rfl,rfl,_,_,rfl,rfl,_,rfl,rfl⟩,rfl⟩) h λw hw=>(znw s sep m w hs (hw.glob h1 h2)).mono λe w' ⟨he,n,hn⟩=>⟨he,hn ▸ zck w n⟩
theorem z5l(hg:zmc gl){s sep:Bt}(hs:s.size<4294967281)(O:1<=sep.size)(h:R (Lib.countB s sep:Int)):PC Tp gl 151 [Arg.mk .str s,Arg.mk .str sep] [.int .i64] R:=by
 obtain⟨cs,m,h1,h2⟩:=hg
 exact PC.of_same rfl (λ_=>znl _ _) h λw hw=>zch s sep m w hs (hw.glob h1 h2) O
theorem zn4(hg:zmc gl){s old new:Bt}(hs:s.size<4294967281)(Z:1<=old.size)(O:s.size+Lib.countB s old*new.size<=140737488355328){R:Bt->Prop}(h:R (bl (Lib.replaceAll (lb s) (lb old) (lb new)))):
  PC Tp gl 122 [Arg.mk .str s,Arg.mk .str old,Arg.mk .str new] [.str] R:=by
 obtain⟨cs,m,h1,h2⟩:=hg
 exact PC.of_scal rfl (λ_=>zff _) h λw hw=>zba s old new m w hs (hw.glob h1 h2) Z O
theorem z0v{s:Bt}{c:Nat}(hc:c<=9223372036854775807)(O:s.size*c<=140737488355328){R:Bt->Prop}(h:R (bl (Lib.repeatL (lb s) c))):PC Tp gl 146 [Arg.mk .str s,Arg.mk (.int .i64) (c:Int)] [.str] R:=
 PC.of_scal rfl (λ_=>zff _) h λw hw=>zgw s c w hc O
theorem z5m(hg:zmc gl){s sep:Bt}(hs:s.size<4294967281)(O:1<=sep.size)(hc:Lib.countB s sep+1<=140737488355328){R:List Bt->Prop}(hl:(Lib.splitB sep 0 (Lib.countB s sep) s).length=Lib.countB s sep+1)(h:R (Lib.splitB sep 0 (Lib.countB s sep) s)):
  PC Tp gl 152 [Arg.mk .str s,Arg.mk .str sep] [.row .str] R:=by
 obtain⟨cs,m,h1,h2⟩:=hg
 exact PC.of_row (t:=.str) (cells:=((Lib.splitB sep 0 (Lib.countB s sep) s).map AU).toArray) (T:=9) rfl (λM=>by simpa using zz7 M _) (by rw[hl];exact hc) h λw hw=>(zi5 s sep m w hs (hw.glob h1 h2) O).mono λe w' ⟨he,Z⟩=>⟨by rw[hl];exact he,Z⟩
def Tabs(gl:Fr):Prop:=(∃cs:Array Value,gl 0=some cs/\∀c,c<256->cs[c]?=some (.int .u8 (Lib.firstT c)))/\∃cs:Array Value,gl 1=some cs/\∀i,i<16->cs[2*i]?=some (.int .u8 (Lib.accLo i))/\cs[2*i+1]?=some (.int .u8 (Lib.accHi i))
theorem Tabs.at(h:Tabs gl){w:World}(hw:AgM gl w.heap):Lib.Utf8Tabs 0 1 w:=by
 obtain⟨⟨c1,a1,b1⟩,c2,a2,b2⟩:=h
 exact⟨λc hc=>hw.glob a1 (b1 c hc),λi hi=>⟨hw.glob a2 (b2 i hi).1,hw.glob a2 (b2 i hi).2⟩⟩
theorem z0w(hg:Tabs gl){s:Bt}{R:Int×Int->Prop}(h:R ((Lib.decodeGo s).1,(Lib.decodeGo s).2)):PC Tp gl 142 [Arg.mk .str s] [.int .i32,.int .i64] R:=
 PC.of_scal rfl (λM=>⟨[_,_],⟨_,_,rfl,rfl,_,rfl,rfl⟩,rfl⟩) h λw hw=>Jd s w (hg.at hw)
theorem zxl(w:World)(k:Nat)(os:Array Obj):Below w.heap.size w (Go.Sort.grow (w.drewN k) os):=⟨rfl,rfl,rfl,by simp[Go.Sort.grow,World.drewN],λi hi=>by
 show((w.drewN k).heap++os)[i]?=_
 exact CN hi⟩
def Pow(gl : Fr): Prop := ∃ b cs, Tryz.prog.globalNamed "internal/strconv.uint64pow10" = some b ∧ gl b = some cs ∧ cs = (Lib.pow10Tab.map λz => Value.int .u64 z).toArray
theorem z0x(hg:Pow gl){n:Int}(h0:-9223372036854775808<=n)(h1:n<=9223372036854775807){R:Bt->Prop}(h:R (bl (Lib.itoa n))):PC Tp gl 97 [Arg.mk (.int .i64) n] [.str] R:=by
 obtain⟨b,cs,e1,e2,e3⟩:=hg
 refine PC.of_scal rfl (λ_=>zff _) h λw hw=>(zkz n h0 h1 w ?_).mono λe w' ⟨he,k,os,O⟩=>⟨he,O ▸ zxl w k os⟩
 obtain⟨T,m,e4⟩:=hw b cs e2
 unfold Lib.TabIs World.var?
 rw[e1]
 simp only[Cu,e4,e3]
def z92(l:List UInt8):Int×Bool:=match Lib.atoiAll l with
 |.ok v=>(v,true)
 |.range=>(Lib.atoiSat l,false)
 |_=>(0,false)
def zsy(gl:Fr):Prop:=(∃(cs:Array Value) (e:Value),gl 4=some cs/\cs[0]?=some e/\(e=.nilIface\/∃te pe,e=.iface te pe))/\∃(cs:Array Value) (e:Value),gl 5=some cs/\cs[0]?=some e/\(e=.nilIface\/∃te pe,e=.iface te pe)
theorem zn5(k:IntKind)(i:Int)(t:TypeId)(u:Value):Xu M [.int k,.err] (i,false) (.tuple #[.int k i,.iface t u]):=⟨[_,_],⟨_,_,rfl,rfl,.iface t u,rfl,⟨_,rfl,.inr ⟨rfl,_,_,rfl⟩⟩⟩,rfl⟩
theorem zqs(k:IntKind)(i:Int):Xu M [.int k,.err] (i,true) (.tuple #[.int k i,.nilIface]):=⟨[_,_],⟨_,_,rfl,rfl,.nilIface,rfl,⟨_,rfl,.inl ⟨rfl,rfl⟩⟩⟩,rfl⟩
theorem z94(hg:zsy gl){s:Bt}(hs:s.size<=281474976710656){R:Int×Bool->Prop}(h:R (z92 (lb s))):PC Tp gl 173 [Arg.mk .str s] [.int .i64,.err] R:=by
 unfold z92 at h
 cases hx:Lib.atoiAll (lb s)with
 |ok v=>
  rw[hx]at h
  refine PC.of_ex rfl λw hw=>(zfn s (by omega) v hx w).mono λe w' ⟨he,Z⟩=>⟨_,(v,true),he,λM=>zqs _ _,h,?_⟩
  rcases Z with rfl|⟨t,rfl⟩
  ·exact Below.refl _ _
  ·exact Lib.bytesWorld_below _ _ _
 |range=>
  rw[hx]at h
  obtain⟨_,⟨cs,ev,e1,e2,e3⟩⟩:=hg
  exact PC.of_ex rfl λw hw=>(za8 s hs hx ev w (hw.glob e1 e2) e3).mono λe w' ⟨N,he,_,_,O⟩=>⟨_,(Lib.atoiSat (lb s),false),he,λM=>zn5 _ _ _ _,h,O⟩
 |_=>
  rw[hx]at h
  obtain⟨⟨cs,ev,e1,e2,e3⟩,_⟩:=hg
  exact PC.of_ex rfl λw hw=>(X8 s hs hx ev w (hw.glob e1 e2) e3).mono λe w' ⟨N,he,_,_,O⟩=>⟨_,(0,false),he,λM=>zn5 _ _ _ _,h,O⟩
def zi6(l:List UInt8):Int×Bool:=match Lib.parseIntB 64 l with
 |.ok v=>(v,true)
 |.range=>(Lib.intSat 64 l,false)
 |_=>(0,false)
theorem zsz(hg:zsy gl){s:Bt}(hs:s.size<=281474976710656){R:Int×Bool->Prop}(h:R (zi6 (lb s))):PC Tp gl 147 [Arg.mk .str s,Arg.mk (.int .i64) 10,Arg.mk (.int .i64) 64] [.int .i64,.err] R:=by
 unfold zi6 at h
 cases hx:Lib.parseIntB 64 (lb s)with
 |ok v=>
  rw[hx]at h
  refine PC.of_ex rfl λw hw=>(Qx s (by omega) v hx w).mono λe w' ⟨he,Z⟩=>⟨_,(v,true),he,λM=>zqs _ _,h,?_⟩
  rcases Z with rfl|⟨t,rfl⟩
  ·exact Below.refl _ _
  ·exact Lib.bytesWorld_below _ _ _
 |range=>
  rw[hx]at h
  obtain⟨_,⟨cs,ev,e1,e2,e3⟩⟩:=hg
  exact PC.of_ex rfl λw hw=>(Z0 s hs hx ev w (hw.glob e1 e2) e3).mono λe w' ⟨N,he,_,_,O⟩=>⟨_,(Lib.intSat 64 (lb s),false),he,λM=>zn5 _ _ _ _,h,O⟩
 |_=>
  rw[hx]at h
  obtain⟨⟨cs,ev,e1,e2,e3⟩,_⟩:=hg
  exact PC.of_ex rfl λw hw=>(Zv s hs hx ev w (hw.glob e1 e2) e3).mono λe w' ⟨N,he,_,_,O⟩=>⟨_,(0,false),he,λM=>zn5 _ _ _ _,h,O⟩
theorem zk2{s c:Bt}(hs:s.size<4294967281)(hc:c.size<4294967281)(Z:∀(j:Nat) b,(lb s)[j]?=some b->b.toNat<128)(O:∀(j:Nat) b,(lb c)[j]?=some b->b.toNat<128){R:Bool->Prop}(h:R (Lib.containsAny (lb s) (lb c))):
  PC Tp gl 172 [Arg.mk .str s,Arg.mk .str c] [.bool] R:=
 PC.of_scal rfl (λ_=>z5c _) h λw hw=>Yy s c w hs hc Z O
theorem zbf{xs:List Bt}{x:Bt}(h:R (Lib.idxOfS xs x)):PC Tp gl 144 [Arg.mk (.row .str) xs,Arg.mk .str x] [.int .i64] R:=by
 intro hp M vs hM ag ha
 match vs,ha with
 |[u,v],⟨h1,h2,_⟩=>
  have Z:Rd M (.row .str) xs [u]:=by simpa[RdV,zdm]using h1
  have O:v=.string x:=by simpa[RdV,zdm,Rd]using h2
  subst O
  obtain⟨s,rfl,hl,hn,cells,hc,ha⟩:=Rd.rowC ag Z
  have:=zgf hc
  subst this
  have key:∀w:World,w.heap=hp->Calls Tp 144 #[slV s,.string x] w λe w'=>e=.returned (.int .i64 (Lib.idxOfS xs x))/\w'=w:=by
   intro w hw
   rcases ha with h0|⟨b,o,e1,e2,e3⟩
   ·have hx:xs=[]:=by simpa using h0
    subst hx
    have:=Yp s.a s.cap x w
    simp only[slV,hl];exact this
   ·have:=X9 b o s.len s.cap xs x w (by omega) (by omega) (λj hj=>by
     have:=e3 j (.string (xs.getD j ByteArray.empty)) (by rw[B5,Am hj,Bl,Am hj];rfl)
     rw[<-hw]at this
     exact this)
    rw[hl,AD]at this
    simp only[slV,e1,hl];exact this
  refine XC.of_calls λB d=>(key (mk B d hp) rfl).mono ?_
  rintro e w' ⟨rfl,rfl⟩
  exact⟨_,rfl,rfl,rfl,rfl,Keep.refl _ _,M,_,Fr.le.refl _,λ_ _=>rfl,ag,znl _ _,h⟩
end
end Go.X
end
section
namespace Go.X
open Go Go.Lib
section
theorem zj(l:Bs):(bl l).size=l.length:=by rw[<-Yo,wh]
theorem yr(l:Bs)(a b:Nat):(bl l).extract a b=bl ((l.drop a).take (b-a)):=by rw[<-zmb,zxi,wh,wh]
theorem jh(a b:Bs):bl a++bl b=bl (a++b):=by rw[<-zmb,z0d,wh,wh,wh]
theorem qy(l:Bs)(i:Nat):zc (bl l) i=((l[i]?.getD 0).toNat:Int):=by rw[zd7,wh]
theorem xq(s:Bt):s.toList=lb s:=by
 cases s with
 |mk d=>exact Go.Lib.toList_data ⟨d⟩
theorem zcl(a b:Bs):((bl a).toList==(bl b).toList)=decide (a=b):=by
 rw[xq,xq,wh,wh]
 rw[AB];simp
theorem zqt(l:Bs)(p:Nat):nxB (bl l) p=decide (p<l.length):=by
 rw[AB];simp[nxB,zj]
theorem zu1(l:Bs)(p:Nat):nxR (bl l) p=((dec (l.drop p)).1:Int):=by rw[nxR,z0e,wh]
theorem zmd(l:Bs)(p:Nat)(h:p<l.length):nxP (bl l) p=p+(dec (l.drop p)).2:=by
 rw[nxP,z0e,wh]
 have:Nat.blt p (bl l).size=true:=by simp[zj,h]
 rw[this];rfl
theorem zbg{l:Bs}{i:Nat}(h:i<l.length):l[i]?.getD 0=l[i]:=by rw[Am h];rfl
def yb(c:UInt8):Bool:=decide (48<=c.toNat)&&decide (c.toNat<=57)
def Qe(l:Bs):Bool:=l.all yb && !l.isEmpty
abbrev Nm:=Bool×Bs×Int
abbrev nmB(n:Nm):Bool×Bt×Int:=(n.1,(bl n.2.1,n.2.2))
def Xc(n:Nm):Bool:=!n.1&&(n.2.1.isEmpty&&n.2.2==0)
def yo(n:Nm):Bool:=Xc n||(Qe n.2.1&&decide (n.2.1.length<=1000)&&n.2.1.head? != some 48&&n.2.1.getLast? != some 48&&decide (-1000000<=n.2.2)&&decide (n.2.2<=1000000))
def Yq(n:Nm):Bs:=if yo n then(if n.2.1=[]then [48]else(if n.1 then [45]else [])++n.2.1++(if n.2.2=0 then []else 101::Go.Lib.itoa n.2.2))else []
theorem zi7{n:Nm}(h:yo n=true)(e:n.2.1=[]):Xc n=true:=by
 unfold yo at h
 rcases Cr _ _ ▸ h with h|h
 ·exact h
 ·simp[Qe,e]at h
theorem Wz{n:Nm}(h:yo n=true):n.2.1.length<=1000/\-1000000<=n.2.2/\n.2.2<=1000000:=by
 unfold yo Xc at h
 obtain⟨a,d,e⟩:=n
 simp at h
 rcases h with⟨_,h,h'⟩|h
 ·subst h;subst h';simp
 ·simp only;omega
def cutAt(p:UInt8->Bool):Bs->Bs×Bs×Bool
 |[]=>([],[],false)
 |c::l=>if p c then([],l,true)else(c::(cutAt p l).1,(cutAt p l).2)
theorem zaz{p:UInt8->Bool}:∀{l},(∀c∈l,p c=false)->cutAt p l=(l,[],false)
 |[],_=>rfl
 |c::l,h=>by
  unfold cutAt
  rw[if_neg (by simp[h c (by simp)]),zaz λc hc=>h c (by simp[hc])]
theorem zhk{p:UInt8->Bool}:∀{l:Bs} {k:Nat} (hk:k<l.length),(∀i (hi:i<k),p (l[i]'(by omega))=false)->p l[k]=true->cutAt p l=(l.take k,l.drop (k+1),true)
 |c::l,0,_,_,h=>by
  unfold cutAt
  rw[if_pos (by simpa using h)];simp
 |c::l,k+1,hk,h0,h=>by
  unfold cutAt
  have h1:p c=false:=h0 0 (by omega)
  rw[if_neg (by simp[h1]),zhk (k:=k) (by simpa using hk) (λi hi=>by simpa using h0 (i+1) (by omega)) (by simpa using h)]
  simp
structure Lit where
 neg:Bool
 whole:Bs
 rest:Bs
 low:Bool
 exp:Bs
def zu2(s:Bs):Bs:=if s.head?==some 45 then s.tail else s
def isE(c:UInt8):Bool:=c==101||c==69
def zqu(c:UInt8):Bool:=c==46
def Zm(s:Bs):Bs×Bs×Bool:=cutAt isE (zu2 s)
def Yr(s:Bs):Bool:=(Zm s).2.2&&(Zm s).2.1.head?==some 45
def zi8(s:Bs):Bs:=if Yr s then(Zm s).2.1.tail else if(Zm s).2.1.head?==some 43 then(Zm s).2.1.tail else(Zm s).2.1
def wj(s:Bs):Bs×Bs×Bool:=cutAt zqu (Zm s).1
def zef(s:Bs):Bool:=(!(Zm s).2.2||Qe (zi8 s))&&Qe (wj s).1&&(!(wj s).2.2||Qe (wj s).2.1)&&((wj s).1==[48]||(wj s).1.head? != some 48)
def Je(s:Bs):Lit:=⟨s.head?==some 45,(wj s).1,(wj s).2.1,Yr s,if(Zm s).2.2 then zi8 s else []⟩
def J1(s:Bs):Option Lit:=if zef s then some (Je s)else none
theorem zi9{s:Bs}{x:Lit}(h:J1 s=some x):zef s=true/\x=Je s:=by
 unfold J1 at h
 split at h
 ·rename_i e;exact⟨e,(Ax h).symm⟩
 ·exact absurd h (by simp)
theorem za0{p:UInt8->Bool}:∀{l:Bs},(cutAt p l).2.2=false->(cutAt p l).1=l/\(cutAt p l).2.1=[]
 |[],_=>⟨rfl,rfl⟩
 |c::l,h=>by
  unfold cutAt at h ⊢
  split
  ·rename_i e;rw[if_pos e]at h;exact absurd h (by simp)
  ·rename_i e
   rw[if_neg e]at h
   have:=za0 h
   exact⟨by simp[this.1],this.2⟩
def js(l:Bs):Bs:=((l.dropWhile (· == 48)).reverse.dropWhile (· == 48)).reverse
def zi(l:Bs):Nat:=l.foldl (λn c=>10*n+(c.toNat-48)) 0
def qt(s:Bs):Nm×Int:=match J1 s with
 |none=>((false,[],0),2)
 |some x=>
  if x.whole.length+x.rest.length>1000 then((false,[],0),3)
  else if(x.exp.dropWhile (· == 48)).length>9 then((false,[],0),4)
  else
   let e:Int:=if x.low then-(zi (x.exp.dropWhile (· == 48)):Int)else zi (x.exp.dropWhile (· == 48))
   let d:=(x.whole++x.rest).dropWhile (· == 48)
   let O:=js (x.whole++x.rest)
   if d=[]then((false,[],0),0)
   else if -1000000<=e-x.rest.length+d.length-O.length/\e-x.rest.length+d.length-O.length<=1000000 then((x.neg,O,e-x.rest.length+d.length-O.length),0)
   else((false,[],0),4)
def zxm(n:Nm):Int×Bool:=
 if yo n&&decide (0<=n.2.2)&&decide ((n.2.1.length:Int)+n.2.2<=19)then
  let v:Int:=if n.1 then-((zi n.2.1*10 ^ n.2.2.toNat:Nat):Int)else(zi n.2.1*10 ^ n.2.2.toNat:Nat)
  if -9223372036854775808<=v/\v<=9223372036854775807 then(v,true)else(0,false)
 else(0,false)
end
end Go.X
end
section
namespace Go.X
section
variable {n:Nat} {gl:Fr} {l:Bs} {R:Bool -> Prop}
theorem y5{k n:Nat}(h:k<n)(hn:n<=4611686018427387904):Aa .i64 ((k:Int)+1)=((k+1:Nat):Int):=zy1 (by omega)
theorem Y9(hl:l.length<=4611686018427387904)(h:R (Qe l)):PC Tp gl 201 [Arg.mk .str (bl l)] [.bool] R:=by
 apply za7
 simp only[zj,qy]
 refine⟨λi=>∃k:Nat,i=k/\k<=l.length/\Qe l=(Qe l&&(l.drop k).all yb)/\(l.drop k).all yb=l.all yb,λi=>l.length-i.toNat,⟨0,rfl,by omega,by simp[Qe];exact λh _=>h,by simp⟩,?_⟩
 rintro i ⟨k,rfl,hk,-,h2⟩
 refine⟨λhc=>?_,λhc=>?_⟩
 ·have O:k<l.length:=by simpa using hc
  simp only[Ad,zbg O]
  rw[AE O,CB]at h2
  refine⟨by omega,λ_=>by omega,λhx=>?_,λhx=>?_⟩
  ·have hd:yb l[k]=false:=by
    unfold yb
    rw[Bn]at hx
    have:=l[k].toNat_lt
    rcases Cr _ _ ▸ hx with hx|hx <;> simp at hx ⊢ <;> omega
   rw[hd]at h2
   simp only[Ed]at h2
   have:Qe l=false:=by simp[Qe,<-h2]
   rw[this]at h;exact h
  ·have hd:yb l[k]=true:=by
    unfold yb
    rw[Bn]at hx
    have:=Cn.1 hx
    simp at this ⊢;omega
   rw[hd]at h2
   simp only[Bi]at h2
   rw[y5 O hl]
   refine⟨⟨k+1,rfl,by omega,?_,h2⟩,by simp;omega⟩
   rw[h2,Qe];cases l.all yb <;> simp
 ·have O:k=l.length:=by(have:¬(k<l.length):=by simpa using hc);omega
  subst O
  rw[Cw]at h2
  have:Qe l=decide ((l.length:Int)>0):=by
   rw[Qe,<-h2]
   cases l <;> simp
  rw[this]at h;exact h
theorem z95(h:l≠[]):(48<=(dec l).1/\(dec l).1<=57)->(dec l).2=1/\∃c t,l=c::t/\yb c=true/\(dec l).1=c.toNat:=by
 obtain⟨c,t,rfl⟩:=Co h
 intro hh
 by_cases hc:c.toNat<128
 ·rw[X4 hc]at hh ⊢
  exact⟨rfl,c,t,rfl,by simp[yb];simpa using hh,rfl⟩
 ·exfalso
  unfold dec at hh
  have b0:((c::t).getD 0 0).toNat=c.toNat:=rfl
  rw[b0]at hh
  have:=c.toNat_lt
  have b1:=((c::t).getD 1 0).toNat_lt;have b2:=((c::t).getD 2 0).toNat_lt;have b3:=((c::t).getD 3 0).toNat_lt
  generalize ((c::t).getD 1 0).toNat=x1 at *
  generalize ((c::t).getD 2 0).toNat=x2 at *
  generalize ((c::t).getD 3 0).toNat=x3 at *
  generalize c.toNat=x0 at *
  unfold Lib.decodeN at hh
  rw[if_neg hc]at hh
  split at hh
  ·split at hh <;> simp only at hh <;> omega
  ·split at hh
   ·split at hh <;> simp only at hh <;> omega
   ·split at hh
    ·split at hh <;> simp only at hh <;> omega
    ·simp only at hh;omega
theorem zeg(h:R (Qe l)):PC Tp gl 128 [Arg.mk .str (bl l)] [.bool] R:=by
 apply zgv
 refine⟨λp=>p.1=bl l/\p.2<=l.length/\(l.drop p.2).all yb=l.all yb,λp=>l.length-p.2,⟨rfl,by omega,by simp⟩,?_⟩
 rintro⟨_,p⟩ ⟨rfl,hp,h2⟩
 simp only at hp h2 ⊢
 rw[zqt,zu1]
 refine⟨λhc=>⟨hc,λhx=>?_,λhx=>?_⟩,λhc=>?_⟩
 all_goals first
  |have aa:p<l.length:=by simpa using hc
  |have aa:¬p<l.length:=by simpa using hc
 ·have Z:l.drop p≠[]:=λe=>by have:=congrArg Bb e;simp at this;omega
  have hd:¬(48<=(dec (l.drop p)).1/\(dec (l.drop p)).1<=57):=by
   rw[Bn]at hx
   rcases Cr _ _ ▸ hx with hx|hx <;> simp at hx <;> omega
  have hf:l.all yb=false:=by
   rw[<-h2]
   obtain⟨c,t,e⟩:=Co Z
   rw[e]
   cases O:yb c with
   |false=>simp[O]
   |true=>
    exfalso;apply hd
    have:c.toNat<128:=by simp[yb]at O;omega
    rw[e,X4 this]
    simpa[yb]using O
  have:Qe l=false:=by simp[Qe,hf]
  rw[this]at h;exact h
 ·have Z:l.drop p≠[]:=λe=>by have:=congrArg Bb e;simp at this;omega
  have hd:48<=(dec (l.drop p)).1/\(dec (l.drop p)).1<=57:=by
   rw[Bn]at hx
   have:=Cn.1 hx
   simp at this;omega
  obtain⟨h1,c,t,e,O,_⟩:=z95 Z hd
  rw[zmd l p aa,h1]
  refine⟨⟨trivial,by omega,?_⟩,by omega⟩
  have e2:l.drop (p+1)=t:=by rw[<-Cd,e];rfl
  rw[e2,<-h2,e];simp[O]
 ·have:l.drop p=[]:=A6 (by omega)
  rw[this]at h2
  have e:Qe l=!(decide (l=[])):=by
   rw[Qe,<-h2];cases l <;> simp
  have:=zcl l []
  rw[show(⟨#[]⟩:Bt)=bl []from rfl,this,<-e];exact h
abbrev tN:Ty:=.pair .bool (.pair .str (.int .i64))
theorem zqv{n:Nm}(h:R (Xc n)):PC Tp gl 199 [Arg.mk tN (nmB n)] [.bool] R:=by
 apply za6
 simp only[show(⟨#[]⟩:Bt)=bl []from rfl,zcl]
 have e:Xc n=((n.1==false)&&(decide (n.2.1=[])&&((n.2.2==0)&&true))):=by
  unfold Xc
  rcases n with⟨_|_,_|⟨_,_⟩,e⟩ <;> simp
 rw[e]at h;exact h
theorem zhl(h:0<l.length):(((l[0]?.getD 0).toNat:Int) != 48)=(l.head? != some 48):=by
 cases l with
 |nil=>simp at h
 |cons c t=>
  rw[AB];simp
  constructor
  ·intro h1 h2;exact h1 (by rw[h2];rfl)
  ·intro h1 h2;exact h1 (Ct.1 (by(have:c.toNat=48:=by omega);rw[this];rfl))
theorem zu3(h:0<l.length):(((l[l.length-1]?.getD 0).toNat:Int) != 48)=(l.getLast? != some 48):=by
 rw[List.getLast?_eq_getElem?]
 rw[Am (by omega)]
 rw[AB];simp
 constructor
 ·intro h1 h2;exact h1 (by rw[h2];rfl)
 ·intro h1 h2;exact h1 (Ct.1 (by(have:l[l.length-1].toNat=48:=by omega);rw[this];rfl))
theorem W0(h:Qe l=true):0<l.length:=by
 cases l with
 |nil=>simp[Qe]at h
 |cons=>simp
theorem zxn(h:0<n)(hn:n<=4611686018427387904):Aa .i64 ((n:Int)-1)=((n-1:Nat):Int):=by
 rw[wrap64 (by omega) (by omega)];omega
theorem zja{n:Nm}(hn:n.2.1.length<=4611686018427387904)(h:R (yo n)):PC Tp gl 169 [Arg.mk tN (nmB n)] [.bool] R:=by
 apply zcd
 refine zqv (n:=n) ⟨λh1=>?_,λh1=>?_⟩
 ·have:yo n=true:=by simp[yo,h1]
  rw[this]at h;exact h
 ·refine Y9 hn ⟨λh2=>?_,λh2=>?_,?_⟩
  ·have h3:Qe n.2.1=true:=by simp at h2;exact h2.1
   have:=W0 h3
   simp only[zj];omega
  ·have h3:Qe n.2.1=true:=by simp at h2;exact h2.1.1
   have:=W0 h3
   simp only[zj];rw[zxn this hn];omega
  ·have e:yo n=(bif (bif (bif (bif (bif Qe n.2.1 then(decide (((bl n.2.1).size:Int)<=1000))else false)then((zc (bl n.2.1) (0:Int).toNat:Int) != 48)else false)then((zc (bl n.2.1) (Aa .i64 (((bl n.2.1).size:Int)-1):Int).toNat:Int) != 48)else false)then(decide (n.2.2>=(-1000000)))else false)then(decide (n.2.2<=1000000))else false):=by
    unfold yo
    rw[h1,DV]
    simp only[zj,qy]
    cases hd:Qe n.2.1 with
    |false=>simp
    |true=>
     have hp:=W0 hd
     rw[zxn hp hn]
     simp only[Ad,C3,zu3 hp,zhl hp,Bg,Bi,cond_true]
     congr 3
     rw[AB];simp;omega
   rw[e]at h;exact h
theorem zn6{n:Nm}(hn:n.2.1.length<=4611686018427387904)(h:R (yo n)):PC Tp gl 96 [Arg.mk tN (nmB n)] [.bool] R:=by
 apply zix
 simp only[show(⟨#[]⟩:Bt)=bl []from rfl,zcl,zj,qy]
 have e:((n.1==false)&&(decide (n.2.1=[])&&((n.2.2==0)&&true)))=Xc n:=by
  unfold Xc
  rcases n with⟨_|_,_|⟨_,_⟩,e⟩ <;> simp
 rw[e]
 refine⟨λh1=>?_,λh1=>?_⟩
 ·have:yo n=true:=by simp[yo,h1]
  rw[this]at h;exact h
 ·unfold yo at h
  rw[h1,DV]at h
  refine zeg ⟨λh2=>⟨λ_=>?_,λh3=>?_⟩,λh2=>⟨λh3=>⟨λ_=>?_,λh4=>?_⟩,λh3=>⟨?_,λh4=>⟨λ_=>?_,λh5=>?_⟩,λh4=>⟨?_,λh5=>?_,λh5=>?_⟩⟩⟩⟩
  ·have:Qe n.2.1=false:=by simpa using h2
   rw[this]at h;simpa using h
  ·rw[h2]at h3;cases h3
  ·have:decide (n.2.1.length<=1000)=false:=by simp at h3 ⊢;omega
   rw[this]at h;simpa using h
  ·rw[h3]at h4;cases h4
  all_goals
   have hd:Qe n.2.1=true:=by simpa using h2
   have hp:=W0 hd
   have O:decide (n.2.1.length<=1000)=true:=by simp at h3 ⊢;omega
   have eh:=zhl hp
   have el:=zu3 hp
  ·omega
  ·have:(n.2.1.head? != some 48)=false:=by
    rw[<-eh];simp at h4 ⊢;exact h4
   rw[this]at h;simpa using h
  ·rw[h4]at h5;cases h5
  ·rw[zxn hp hn];omega
  ·have:(n.2.1.getLast? != some 48)=false:=by
    rw[<-el];rw[zxn hp hn]at h5;simp at h5 ⊢;exact h5
   rw[this]at h;simpa using h
  ·have e1:(n.2.1.head? != some 48)=true:=by
    rw[<-eh];simp at h4 ⊢;exact h4
   have e2:(n.2.1.getLast? != some 48)=true:=by
    rw[<-el];rw[zxn hp hn]at h5;simp at h5 ⊢;exact h5
   rw[hd,O,e1,e2]at h
   simp only[Bi]at h
   rw[Bg]
   exact h
end
end Go.X
end
section
namespace Go.X
open Go Go.Lib
section
variable {l:Bs} {k:Nat}
theorem zeh(c:UInt8):∀l:Bs,-1<=indexByte l c/\(0<=indexByte l c↔c∈l)
 |[]=>by simp[indexByte]
 |b::l=>by
  have ih:=zeh c l
  unfold indexByte
  by_cases h:b=c
  ·simp[h]
  ·have h':¬c=b:=λe=>h e.symm
   simp only[beq_iff_eq,h,if_false,Af,h',false_or]
   obtain⟨i1,i2⟩:=ih
   split
   ·rename_i e
    rw[e]at i2
    exact⟨by omega,by rw[<-i2]⟩
   ·rename_i e
    refine⟨by omega,?_⟩
    rw[<-i2];omega
theorem W2(u:Nat):(decDigits u).length<=u+1:=by
 rw[decDigits]
 split
 ·simp
 ·rename_i h
  have:=W2 (u / 10)
  simp;omega
theorem itoa_len(n:Int):(itoa n).length<=n.natAbs+2:=by
 unfold itoa
 split
 ·have:=W2 n.natAbs;simp;omega
 ·have:=W2 n.toNat;omega
theorem dig_ext:∀k:Nat,k<10->(([48,49,50,51,52,53,54,55,56,57]:Bs).drop k).take (k+1-k)=[CZ (48+k)]:=by decide
theorem zei(l:Bs)(c:UInt8):hasPrefix l [c]=(l.head?==some c):=by
 cases l with
 |nil=>rfl
 |cons b t=>simp[hasPrefix,BD];rw[AB];simp;exact eq_comm
theorem zbh(l:Bs)(c:UInt8):trimPrefix l [c]=if l.head?==some c then l.tail else l:=by
 unfold trimPrefix
 rw[zei]
 split <;> simp
theorem zs0(l:Bs)(c:UInt8):zi (l++[c])=10*zi l+(c.toNat-48):=by simp[zi,List.foldl_append]
theorem Za(hk:k<l.length):zi (l.take (k+1))=10*zi (l.take k)+(l[k].toNat-48):=by
 rw[Ag hk,zs0]
theorem zn7{p:UInt8->Bool}(h:l.all p=true)(k:Nat):(l.take k).all p=true:=by
 rw[AQ]at h ⊢
 exact λx hx=>h x (BI hx)
theorem z5n{p:UInt8->Bool}(h:l.all p=true)(k:Nat):(l.drop k).all p=true:=by
 rw[AQ]at h ⊢
 exact λx hx=>h x (Cp hx)
theorem zu4(h:l.all yb=true)(hk:k<l.length):48<=l[k].toNat/\l[k].toNat<=57:=by
 have:=AQ.1 h _ (As hk)
 simpa[yb]using this
theorem zqw:∀(n:Nat) (l:Bs),l.length=n->l.all yb=true->zi l<10 ^ n
 |0,l,h,_=>by
  have:l=[]:=Av h
  subst this;simp[zi]
 |n+1,l,h,hd=>by
  have hl:l=l.take (n+1):=by rw[<-h,AD]
  rw[hl,Za (by omega)]
  have h1:=zqw n (l.take n) (by simp;omega) (zn7 hd n)
  have h2:=zu4 hd (k:=n) (by omega)
  rw[Nat.pow_succ];omega
theorem Ys{n:Nat}(hn:l.length<=n)(h:l.all yb=true):zi l<10 ^ n:=
 DD (zqw _ l rfl h) (Nat.pow_le_pow_right (by omega) hn)
theorem zej(h:Qe l=true):l.all yb=true:=by
 unfold Qe at h;exact(Bool.and_eq_true_iff.1 h).1
theorem W4{p q:UInt8->Bool}(h:l.all p=true):(l.dropWhile q).all p=true:=by
 rw[AQ]at h ⊢
 exact λx hx=>h x ((List.dropWhile_sublist q).mem hx)
theorem xf(l:Bs)(q:UInt8->Bool):(l.dropWhile q).length<=l.length:=(List.dropWhile_sublist q).length_le
theorem zbi{q:UInt8->Bool}:∀c,(l.dropWhile q).head?=some c->q c=false:=by
 induction l with
 |nil=>simp
 |cons b t ih=>
  intro c h
  rw[Du]at h
  split at h
  ·exact ih c h
  ·rename_i hq;simp at h;subst h;exact Bool.eq_false_iff.2 hq
theorem Q6(h:l.all yb=true)(O:l.dropWhile (· == 48)≠[]):Qe (js l)=true/\(js l).length<=(l.dropWhile (· == 48)).length/\((js l).head? != some 48)=true/\((js l).getLast? != some 48)=true:=by
 unfold js
 obtain⟨c,t,hd⟩:=Co O
 have hc:(c==48)=false:=by
  have:=zbi (l:=l) (q:=(· == 48)) c (by rw[hd];rfl)
  simpa using this
 have key:∀(t:Bs),∃u,((c::t).reverse.dropWhile (· == 48)).reverse=c::u:=by
  intro t
  rw[List.reverse_cons]
  have hx:∀(r:Bs),∃u,(r++[c]).dropWhile (· == 48)=u++[c]:=by
   intro r
   induction r with
   |nil=>exact⟨[],by simp[hc]⟩
   |cons b r ih=>
    rw[A5,Du]
    split
    ·exact ih
    ·exact⟨b::r,rfl⟩
  obtain⟨u,e⟩:=hx t.reverse
  exact⟨u.reverse,by rw[e];simp⟩
 rw[hd]
 obtain⟨u,e⟩:=key t
 refine⟨?_,?_,?_,?_⟩
 ·rw[Qe,Bool.and_eq_true_iff]
  refine⟨?_,by rw[e];rfl⟩
  rw[List.all_reverse]
  apply W4
  rw[List.all_reverse,<-hd]
  exact W4 h
 ·rw[List.length_reverse]
  refine Nat.le_trans (xf _ _) ?_
  simp
 ·rw[e];simp;simpa using hc
 ·rw[List.getLast?_reverse]
  cases hh:((c::t).reverse.dropWhile (· == 48)).head? with
  |none=>rfl
  |some x=>
   have:=zbi (l:=(c::t).reverse) (q:=(· == 48)) x hh
   simpa using this
theorem zxo(h:l.all yb=true)(O:l.dropWhile (· == 48)≠[])(hl:l.length<=1000)(neg:Bool)(e:Int):yo (neg,js l,e)=(decide (-1000000<=e)&&decide (e<=1000000)):=by
 obtain⟨h1,h2,h3,h4⟩:=Q6 h O
 have h5:=xf l (· == 48)
 have hp:(js l).isEmpty=false:=by
  rw[Qe]at h1
  have:=(Bool.and_eq_true_iff.1 h1).2
  simpa using this
 unfold yo Xc
 simp only[h1,h3,h4,hp,EI,Ed,DV,Bi]
 have:decide ((js l).length<=1000)=true:=by simp;omega
 rw[this];simp
theorem zjb{s:Bs}{x:Lit}(h:J1 s=some x):Qe x.whole=true/\x.rest.all yb=true/\x.exp.all yb=true:=by
 obtain⟨O,rfl⟩:=zi9 h
 unfold zef at O
 simp only[AI]at O
 obtain⟨⟨⟨h1,h2⟩,h3⟩,h4⟩:=O
 refine⟨h2,?_,?_⟩
 ·show(wj s).2.1.all yb=true
  cases hp:(wj s).2.2 with
  |true=>rw[hp]at h3;exact zej (by simpa using h3)
  |false=>rw[show(wj s).2.1=[]from(za0 hp).2];rfl
 ·show(if(Zm s).2.2 then zi8 s else []).all yb=true
  cases hm:(Zm s).2.2 with
  |true=>rw[hm]at h1;simpa using zej (by simpa using h1)
  |false=>rfl
theorem zfp(p:UInt8->Bool)(l:Bs):(cutAt p l).1.length+(cutAt p l).2.1.length<=l.length:=by
 induction l with
 |nil=>simp[cutAt]
 |cons c t ih=>unfold cutAt;split <;> simp <;> omega
theorem zfq{s:Bs}{x:Lit}(h:J1 s=some x):x.whole.length+x.rest.length+x.exp.length<=s.length:=by
 obtain⟨O,rfl⟩:=zi9 h
 have h1:(zu2 s).length<=s.length:=by unfold zu2;split <;> simp
 have h2:=zfp isE (zu2 s)
 have h3:=zfp zqu (Zm s).1
 have h4:(zi8 s).length<=(Zm s).2.1.length:=by
  unfold zi8
  split
  ·simp
  ·split <;> simp
 have h5:(if(Zm s).2.2 then zi8 s else []).length<=(Zm s).2.1.length:=by
  split
  ·exact h4
  ·simp
 show(wj s).1.length+(wj s).2.1.length+(if(Zm s).2.2 then zi8 s else []).length<=s.length
 unfold wj
 unfold Zm at *
 omega
end
end Go.X
end
section
namespace Go.X
section
variable {gl:Fr} {l:Bs}
theorem qfn(c:UInt8):(((c.toNat:Int)).toNat).toUInt8=c:=by simp
theorem z7v{l sep:Bs}{p:UInt8->Bool}(hp:∀c,p c=true↔c∈sep)(hl:l.length<=4611686018427387904){R:Bt×Bt×Bool->Prop}(h:R (bl (cutAt p l).1,bl (cutAt p l).2.1,(cutAt p l).2.2)):
  PC Tp gl 155 [Arg.mk .str (bl l),Arg.mk .str (bl sep)] [.str,.str,.bool] R:=by
 apply znq
 simp only[zj,qy,yr]
 refine⟨λi=>∃k:Nat,i=k/\k<=l.length/\∀j (hj:j<l.length),j<k->p l[j]=false,λi=>l.length-i.toNat,⟨0,rfl,by omega,λj _ h=>by omega⟩,?_⟩
 rintro i ⟨k,rfl,hk,h2⟩
 refine⟨λhc=>?_,λhc=>?_⟩
 ·have O:k<l.length:=by simpa using hc
  simp only[Ad,zbg O]
  refine⟨by omega,zaa ?_⟩
  rw[qfn,wh]
  have hm:=(zeh l[k] sep).2
  rw[y5 O hl]
  refine⟨λhx=>⟨by omega,by omega,?_⟩,λhx=>⟨⟨k+1,rfl,by omega,λj hj ac=>?_⟩,by simp;omega⟩⟩
  ·have Z:p l[k]=true:=(hp _).2 (hm.1 (by simpa using hx))
   rw[zhk O (λj hj=>h2 j (by omega) hj) Z]at h
   simp only[Ad,C3,A2,Ca]
   rw[AX (l:=l.drop (k+1)) (by simp)]
   exact h
  ·by_cases e:j=k
   ·subst e
    cases hpj:p l[j]with
    |false=>rfl
    |true=>exact absurd (hm.2 ((hp _).1 hpj)) (by simpa using hx)
   ·exact h2 j hj (by omega)
 ·have O:¬k<l.length:=by simpa using hc
  rw[zaz (λc aa=>by
   obtain⟨j,hj,rfl⟩:=Bc aa
   exact h2 j hj (by omega))]at h
  exact h
theorem zme{c:UInt8}{R:Bt×Bool->Prop}(h:R (bl (if l.head?==some c then l.tail else l),l.head?==some c)):PC Tp gl 154 [Arg.mk .str (bl l),Arg.mk .str (bl [c])] [.str,.bool] R:=by
 refine zqq ?_
 rw[wh,wh,zbh,zei];exact h
theorem zs1{c:UInt8}{R:Bt->Prop}(h:R (bl (if l.head?==some c then l.tail else l))):PC Tp gl 156 [Arg.mk .str (bl l),Arg.mk .str (bl [c])] [.str] R:=by
 refine zn3 ?_
 rw[wh,wh,zbh];exact h
theorem zjc{R:Bt->Prop}(h:R (bl (l.dropWhile (· == 48)))):PC Tp gl 131 [Arg.mk .str (bl l),Arg.mk .str (bl [48])] [.str] R:=by
 refine zsx (c:=48) (by decide) ?_
 rw[wh];exact h
theorem zxp(hl:l.length<=4611686018427387904){R:Bt->Prop}(h:R (bl (l.reverse.dropWhile (· == 48)).reverse)):PC Tp gl 132 [Arg.mk .str (bl l),Arg.mk .str (bl [48])] [.str] R:=by
 refine zqr (c:=48) (by decide) (by rw[zj];omega) ?_
 rw[wh];exact h
theorem z97{s:Bs}(hs:s.length<=4611686018427387904){R:(Bool×Bool×Bt×Bt×Bt)×Bool->Prop}
  (h1:zef s=true->R (((Je s).neg,(Je s).low,bl (Je s).whole,bl (Je s).rest,bl (Je s).exp),true)) (h2:zef s=false->∀a b c d e,R ((a,b,bl c,bl d,bl e),false)):
  PC Tp gl 130 [Arg.mk .str (bl s)] [.pair .bool (.pair .bool (.pair .str (.pair .str .str))),.bool] R:=by
 apply zkx
 refine zme (c:=45) ?_
 dsimp only
 have hS:(zu2 s).length<=s.length:=by unfold zu2;split <;> simp
 have hM:=zfp isE (zu2 s)
 refine z7v (l:=zu2 s) (sep:=[101,69]) (p:=isE) (λc=>by simp[isE]) (by omega) ?_
 dsimp only
 have ar:(Zm s).1.length+(Zm s).2.1.length<=(zu2 s).length:=hM
 have ah:∀(e:Bs) (low:Bool),((Zm s).2.2=true->Qe (zi8 s)=true/\low=Yr s/\e=zi8 s)->((Zm s).2.2=false->low=false/\e=[]) ->
   PC Tp gl 155 [Arg.mk .str (bl (Zm s).1),Arg.mk .str (bl [46])] [.str,.str,.bool] (λO:Bt×Bt×Bool=>PC Tp gl 128 [Arg.mk .str O.1] [.bool] (λaa:Bool=>∃ai:Bool->Prop,(((!(!aa))&&O.2.2)=true->PC Tp gl 128 [Arg.mk .str O.2.1] [.bool] ai) /\
      ∀af:Bool,(((!(!aa))&&O.2.2)=true->ai af)->((bif (!aa)then true else(bif O.2.2 then(!af)else false))=true->R ((s.head?==some 45,(low,(O.1,(O.2.1,bl e)))),false)) /\
      ((bif (!aa)then true else(bif O.2.2 then(!af)else false))=false->((!((O.1:Bt).toList==((⟨#[48]⟩:Bt):Bt).toList))=true->(0<=(0:Int)/\(0:Int)<((O.1).size:Int))) /\
       R ((s.head?==some 45,(low,(O.1,(O.2.1,bl e)))),bif ((O.1:Bt).toList==((⟨#[48]⟩:Bt):Bt).toList)then true else((zc O.1 (0:Int).toNat:Int) != 48))))):=by
  intro e low k1 k2
  have ak:(!(Zm s).2.2||Qe (zi8 s))=true/\Yr s=low/\(if(Zm s).2.2 then zi8 s else [])=e:=by
   cases hm:(Zm s).2.2 with
   |true=>obtain⟨a,b,c⟩:=k1 hm;exact⟨by simp[a],b.symm,by simp[c]⟩
   |false=>obtain⟨a,b⟩:=k2 hm;exact⟨rfl,by unfold Yr;rw[hm,a];rfl,by simp[b]⟩
  refine z7v (l:=(Zm s).1) (sep:=[46]) (p:=zqu) (λc=>by simp[zqu]) (by omega) ?_
  refine zeg ⟨λx=>Qe (wj s).2.1=x,λ_=>zeg rfl,λy hy=>?_⟩
  dsimp only
  simp only[show(⟨#[48]⟩:Bt)=bl [48]from rfl,zcl,zj,qy]
  change (_->Qe (wj s).2.1=y)at hy
  show((bif (!Qe (wj s).1)then true else(bif (wj s).2.2 then(!y)else false))=true->R ((s.head?==some 45,(low,(bl (wj s).1,(bl (wj s).2.1,bl e)))),false)) /\
      ((bif (!Qe (wj s).1)then true else(bif (wj s).2.2 then(!y)else false))=false->((!decide ((wj s).1=[48]))=true->(0<=(0:Int)/\(0:Int)<((wj s).1.length:Int))) /\
       R ((s.head?==some 45,(low,(bl (wj s).1,(bl (wj s).2.1,bl e)))),bif decide ((wj s).1=[48])then true else(((((wj s).1[(0:Int).toNat]?).getD 0).toNat:Int) != 48)))
  have am:Qe (wj s).1=true->(wj s).2.2=true->Qe (wj s).2.1=y:=λa b=>hy (by
   show((!(!Qe (wj s).1))&&(wj s).2.2)=true
   rw[a,b];rfl)
  refine⟨λhx=>h2 ?_ _ _ _ _ _,λhx=>⟨λ_=>?_,?_⟩⟩
  ·unfold zef
   cases hd:Qe (wj s).1 with
   |false=>simp
   |true=>
    rw[hd]at hx
    cases hw:(wj s).2.2 with
    |false=>rw[hw]at hx;simp at hx
    |true=>
     rw[hw]at hx
     have:=am hd hw
     rw[this]
     simp at hx;simp[hx]
  all_goals
   have hd:Qe (wj s).1=true:=by
    cases hd:Qe (wj s).1 with
    |true=>rfl
    |false=>rw[hd]at hx;simp at hx
   have hp:=W0 hd
  ·omega
  ·have h3:(!(wj s).2.2||Qe (wj s).2.1)=true:=by
    cases hw:(wj s).2.2 with
    |false=>rfl
    |true=>
     rw[hd,hw]at hx
     have:=am hd hw
     rw[this];simpa using hx
   have h4:(bif decide ((wj s).1=[48])then true else(((((wj s).1[(0:Int).toNat]?).getD 0).toNat:Int) != 48))=((wj s).1==[48]||(wj s).1.head? != some 48):=by
    rw[show(0:Int).toNat=0 from rfl,zhl hp,Bn,AB];simp
   have aj:zef s=((wj s).1==[48]||(wj s).1.head? != some 48):=by
    unfold zef;rw[ak.1,hd,h3];simp
   rw[h4]
   cases ho:((wj s).1==[48]||(wj s).1.head? != some 48)with
   |true=>
    have:=h1 (aj.trans ho)
    unfold Je at this
    rw[ak.2.1,ak.2.2]at this
    exact this
   |false=>exact h2 (aj.trans ho) _ _ _ _ _
 intro K hK
 refine⟨λhm=>?_,λhm=>?_⟩
 ·have ae:(Zm s).2.2=true:=hm
  refine zme (c:=45) (l:=(Zm s).2.1) ?_
  dsimp only
  intro K2 an
  have step:∀low e,low=Yr s->e=zi8 s->K2 (bl e) (s.head?==some 45) low (bl []) (bl []) (bl []):=by
   intro low e ap al
   refine an _ _ _ _ _ _ (zeg ⟨λhx=>?_,λhx=>?_⟩)
   ·refine h2 ?_ _ _ [] [] []
    unfold zef;rw[ae,<-al]
    have:Qe e=false:=by simpa using hx
    rw[this];rfl
   ·refine hK _ _ _ _ _ _ (ah e low (λ_=>⟨by rw[<-al];simpa using hx,ap,al⟩) λh=>by rw[ae]at h;cases h)
  have ac:Yr s=((Zm s).2.1.head?==some 45):=by unfold Yr;rw[ae];rfl
  refine⟨λhx=>?_,λhx=>?_⟩
  ·have Z:((Zm s).2.1.head?==some 45)=false:=by simpa using hx
   rw[Z]
   refine zs1 (c:=43) ?_
   simp only[AW,if_false]
   refine step false _ (by rw[ac,Z]) ?_
   unfold zi8;rw[ac,Z];simp
  ·have Z:((Zm s).2.1.head?==some 45)=true:=by simpa using hx
   rw[Z]
   simp only[if_true]
   refine step true _ (by rw[ac,Z]) ?_
   unfold zi8;rw[ac,Z];simp
 ·have ae:(Zm s).2.2=false:=hm
  have he:(Zm s).2.1=[]:=(za0 ae).2
  have:=ah [] false (λh=>by rw[ae]at h;cases h) λ_=>⟨rfl,rfl⟩
  show K (bl (Zm s).2.1) _ _ _ _ _
  rw[he]
  exact hK _ _ _ _ _ _ this
theorem qdb{α β γ δ:Type}{B:α->β->γ->δ->Prop}{c:Bool}{a b:α}{x:β}{y:γ}{z:δ}(h:∀e,e=(bif c then a else b)->B e x y z):∀K:α->β->γ->δ->Prop,(∀e x y z,B e x y z->K e x y z)->(c=true->K a x y z)/\(c=false->K b x y z):=
 λK hK=>⟨λhc=>hK _ _ _ _ (h _ (by subst hc;rfl)),λhc=>hK _ _ _ _ (h _ (by subst hc;rfl))⟩
theorem w64{n:Int}(h:-4611686018427387904<=n/\n<=4611686018427387904):Aa .i64 n=n:=wrap64 (by omega) (by omega)
set_option maxHeartbeats 1000000 in
theorem zu5{s:Bs}(hs:s.length<=1152921504606846976){R:(Bool×Bt×Int)×Int->Prop}(h:R (nmB (qt s).1,(qt s).2)):PC Tp gl 98 [Arg.mk .str (bl s)] [tN,.int .i64] R:=by
 apply ziy
 refine z97 (by omega) (λai=>?_) (λai a b c d e=>?_)
 rotate_left
 ·refine zjc ⟨λ_=>?_,λhx=>by cases hx⟩
  have:J1 s=none:=by unfold J1;simp[ai]
  unfold qt at h
  rw[this]at h;exact h
 ·have O:J1 s=some (Je s):=by unfold J1;simp[ai]
  have ax:=zfq O
  obtain⟨d1,d2,d3⟩:=zjb O
  unfold qt at h
  rw[O]at h
  simp only at h
  generalize Je s=x at *
  refine zjc ⟨λhx=>(by cases hx),λ_=>?_⟩
  simp only[zj]
  rw[w64 (by omega)]
  refine⟨λhx=>?_,λhx=>?_⟩
  ·rw[if_pos (by simp at hx;omega)]at h;exact h
  ·rw[if_neg (by simp at hx;omega)]at h
   refine⟨λaa=>?_,λaa=>?_⟩
   ·rw[if_pos (by simp at aa;omega)]at h;exact h
   ·rw[if_neg (by simp at aa;omega)]at h
    have ap:x.whole.length+x.rest.length<=1000:=by simp at hx;omega
    have ay:x.exp.all yb=true:=d3
    generalize hE:x.exp.dropWhile (· == 48)=E at *
    have ah:E.all yb=true:=by rw[<-hE];exact W4 d3
    have al:E.length<=9:=by simp at aa;omega
    have aA:zi E<10 ^ 9:=Ys al ah
    refine⟨λe _ _ _ p=>p.1=bl E/\p.2<=E.length/\e=(zi (E.take p.2):Int),λ_ _ _ _ p=>E.length-p.2,⟨rfl,by omega,by simp[zi]⟩,?_⟩
    rintro e b1 b2 b3 ⟨_,p⟩ ⟨rfl,hp,rfl⟩
    simp only at hp ⊢
    rw[zqt,zu1]
    refine⟨λhc=>⟨hc,?_⟩,λhc=>?_⟩
    ·have Z:p<E.length:=by simpa using hc
     have hd:=zu4 ah Z
     have am:E.drop p=E[p]::E.drop (p+1):=AE Z
     rw[zmd E p Z,am,X4 (by omega)]
     have az:=Ys (n:=9) (l:=E.take p) (by simp;omega) (zn7 ah p)
     rw[zi4 (by omega) (by omega),w64 (n:=10*_) (by omega),w64 (n:=(_:Int)-48) (by omega),w64 (by omega)]
     simp only
     refine⟨⟨trivial,by omega,?_⟩,by omega⟩
     rw[Za Z];omega
    ·have Z:¬p<E.length:=by simpa using hc
     have ar:p=E.length:=by omega
     subst ar
     rw[AD]
     apply qdb
     intro e7 ak
     refine⟨by unfold xm;omega,?_⟩
     rw[jh]
     refine zjc ?_
     rw[show(⟨#[]⟩:Bt)=bl []from rfl]
     simp only[zcl]
     have hD:(x.whole++x.rest).all yb=true:=by rw[CR,zej d1,d2];rfl
     refine⟨λae=>?_,λae=>?_⟩
     ·rw[if_pos (by simpa using ae)]at h;exact h
     ·have ac:(x.whole++x.rest).dropWhile (· == 48)≠[]:=by simpa using ae
      rw[if_neg ac]at h
      have au:=xf (x.whole++x.rest) (· == 48)
      rw[Ao]at au
      refine zxp (by omega) ?_
      have aB:=(Q6 hD ac).2.1
      have an:=zxo hD ac (by rw[Ao];exact ap)
      simp only[zj,show((List.dropWhile (λx=>x==48) (x.whole++x.rest)).reverse.dropWhile (λx=>x==48)).reverse=js (x.whole++x.rest)from rfl]
      have aj:e7=if x.low then-(zi E:Int)else(zi E:Int):=by rw[ak];cases x.low <;> simp;exact w64 (by omega)
      have hb:-1000000000<=e7/\e7<=1000000000:=by rw[aj];split <;> omega
      rw[w64 (n:=e7-_) (by omega),w64 (n:=e7-_+_) (by omega),w64 (by omega)]
      refine zn6 (n:=(x.neg,js (x.whole++x.rest),e7-(x.rest.length:Int)+(((x.whole++x.rest).dropWhile (· == 48)).length:Int)-((js (x.whole++x.rest)).length:Int))) (by simp only;omega) ?_
      rw[an]
      change R (nmB (if -1000000<=(if x.low=true then-(zi E:Int)else(zi E:Int))-(x.rest.length:Int)+(((x.whole++x.rest).dropWhile (· == 48)).length:Int)-((js (x.whole++x.rest)).length:Int)/\(if x.low=true then-(zi E:Int)else(zi E:Int))-(x.rest.length:Int)+(((x.whole++x.rest).dropWhile (· == 48)).length:Int)-((js (x.whole++x.rest)).length:Int)<=1000000 then((x.neg,js (x.whole++x.rest),(if x.low=true then-(zi E:Int)else(zi E:Int))-(x.rest.length:Int)+(((x.whole++x.rest).dropWhile (· == 48)).length:Int)-((js (x.whole++x.rest)).length:Int)),0)else((false,[],0),4)).1,_)at h
      rw[<-aj]at h
      refine⟨λaf=>?_,λaf=>?_⟩
      ·rw[if_neg (by simp at af;omega)]at h;exact h
      ·rw[if_pos (by simp at af;omega)]at h;exact h
end
section
variable {gl:Fr} {n:Int}
theorem zgx{a b:Bs}(h:a.length+b.length<=4611686018427387904):xm ((bl a).size+(bl b).size):=by
 unfold xm;rw[zj,zj];omega
theorem z0y(hg:Pow gl){n:Nm}(hn:n.2.1.length<=4611686018427387904){R:Bt->Prop}(h:R (bl (Yq n))):PC Tp gl 56 [Arg.mk tN (nmB n)] [.str] R:=by
 apply zks
 refine zn6 hn ⟨λhx=>?_,λhx=>?_⟩
 ·have:yo n=false:=by simpa using hx
  have e:Yq n=[]:=by unfold Yq;simp[this]
  rw[e]at h;exact h
 ·have hr:yo n=true:=by simpa using hx
  obtain⟨hl,aa,af⟩:=Wz hr
  unfold Yq at h
  rw[if_pos hr]at h
  simp only[show(⟨#[]⟩:Bt)=bl []from rfl,zcl]
  refine⟨λZ=>?_,λZ=>?_⟩
  ·rw[if_pos (by simpa using Z)]at h;exact h
  ·rw[if_neg (by simpa using Z)]at h
   intro K hK
   have key:∀t:Bs,t=(if n.1 then [45]else [])++n.2.1->K (bl t):=by
    intro t ht
    have ac:t.length<=1001:=by rw[ht];split <;> simp <;> omega
    rw[<-ht]at h
    refine hK _ ⟨λO=>?_,λO=>?_⟩
    ·rw[if_neg (by simpa using O)]at h
     have ae:=Go.X.itoa_len n.2.2
     refine z0x hg (by omega) (by omega) ?_
     refine⟨zgx (a:=[101]) (by simp;omega),?_⟩
     rw[show(⟨#[101]⟩:Bt)=bl [101]from rfl,jh,jh]
     exact⟨zgx (by simp;omega),h⟩
    ·rw[if_pos (by simpa using O),Bf]at h;exact h
   refine⟨λO=>⟨zgx (a:=[45]) (by simp;omega),?_⟩,λO=>?_⟩
   ·rw[show(⟨#[45]⟩:Bt)=bl [45]from rfl,jh]
    exact key _ (by rw[if_pos (by simpa using O)])
   ·exact key _ (by rw[if_neg (by simpa using O)];rfl)
theorem qeq{k:Nat}(h:k<10):(bl [48,49,50,51,52,53,54,55,56,57]).extract k (k+1)=bl [CZ (48+k)]:=by
 rw[yr,Go.X.dig_ext k h]
theorem z5o(h:10<=n):Lib.itoa n=Lib.itoa (n / 10)++[CZ (48+(n % 10).toNat)]:=by
 unfold Lib.itoa
 rw[if_neg (by omega),if_neg (by omega),Lib.decDigits,dif_neg (by omega)]
 congr 3
 ·omega
 ·omega
theorem itoa_neg(h:n<=-10):Lib.itoa n=Lib.itoa (n.tdiv 10)++[CZ (48+(-(n.tmod 10)).toNat)]:=by
 obtain⟨m,rfl⟩:∃m:Nat,n=-(m:Int):=⟨n.natAbs,by omega⟩
 have e1:(-(m:Int)).tdiv 10=-((m / 10:Nat):Int):=by rw[Int.neg_tdiv];rfl
 have e2:(-(m:Int)).tmod 10=-((m % 10:Nat):Int):=by rw[Int.neg_tmod];rfl
 rw[e1,e2]
 unfold Lib.itoa
 rw[if_pos (by omega),if_pos (by omega)]
 have a1:(-(m:Int)).natAbs=m:=by omega
 have a2:(-((m / 10:Nat):Int)).natAbs=m / 10:=by omega
 rw[a1,a2]
 conv=>lhs;rw[Lib.decDigits,dif_neg (by omega)]
 rw[A5]
 congr 4
 omega
theorem zfr{gl:Fr}{n:Int}(h1:-9223372036854775808<=n)(h2:n<=9223372036854775807){R:Bt->Prop}(h:R (bl (Lib.itoa n))):PC Tp gl 200 [Arg.mk (.int .i64) n] [.str] R:=by
 apply X3
 have hD:(⟨#[48,49,50,51,52,53,54,55,56,57]⟩:Bt)=bl [48,49,50,51,52,53,54,55,56,57]:=rfl
 simp only[hD]
 have O:(bl [48,49,50,51,52,53,54,55,56,57]).size=10:=by rw[zj];rfl
 refine⟨λhx=>?_,λhx=>⟨λZ=>?_,λZ=>⟨λaa=>?_,λaa=>?_⟩⟩⟩
 ·have hn:0<=n/\n<10:=by simpa[Bg]using hx
  rw[w64 (by omega),O]
  refine⟨by omega,?_⟩
  have e:(n+1).toNat=n.toNat+1:=by omega
  rw[e,qeq (by omega)]
  have:Lib.itoa n=[CZ (48+n.toNat)]:=by unfold Lib.itoa;rw[if_neg (by omega),Lib.decDigits,dif_pos (by omega)]
  rw[<-this];exact h
 ·have hn:10<=n:=by
   have:¬(0<=n/\n<10):=by simpa[Bg]using hx
   have:n>0:=by simpa using Z
   omega
  have e1:n.tdiv 10=n / 10:=Int.tdiv_eq_ediv_of_nonneg (by omega)
  have e2:n.tmod 10=n % 10:=Int.tmod_eq_emod_of_nonneg (by omega)
  rw[e1,e2,w64 (n:=n % 10+1) (by omega),w64 (n:=n / 10) (by omega),O]
  refine⟨trivial,by omega,trivial,by omega,trivial,by omega,by omega,zfr (n:=n / 10) (by omega) (by omega) ?_⟩
  have e:(n % 10+1).toNat=(n % 10).toNat+1:=by omega
  rw[e,qeq (by omega)]
  refine⟨zgx ?_,?_⟩
  ·have:=Go.X.itoa_len (n / 10);simp;omega
  ·rw[jh,<-z5o hn];exact h
 ·have hn:-10<n/\n<0:=by
   have:¬(0<=n/\n<10):=by simpa[Bg]using hx
   have:¬n>0:=by simpa using Z
   have:n > -10:=by simpa using aa
   omega
  have hz:(0:Int)-n=-n:=by omega
  rw[hz,w64 (n:=-n) (by omega),w64 (n:=-n+1) (by omega),O]
  have e:(-n+1).toNat=(-n).toNat+1:=by omega
  rw[e,qeq (by omega)]
  refine⟨by omega,zgx (a:=[45]) (by simp),?_⟩
  rw[show(⟨#[45]⟩:Bt)=bl [45]from rfl,jh]
  have:Lib.itoa n=[45]++[CZ (48+(-n).toNat)]:=by
   unfold Lib.itoa;rw[if_pos (by omega),Lib.decDigits,dif_pos (by omega)]
   have:n.natAbs=(-n).toNat:=by omega
   rw[this];rfl
  rw[<-this];exact h
 ·have hn:n<=-10:=by
   have:¬(0<=n/\n<10):=by simpa[Bg]using hx
   have:¬n>0:=by simpa using Z
   have:¬n > -10:=by simpa using aa
   omega
  have hd:n.tdiv 10=-((-n) / 10):=by
   have:=Int.neg_tdiv (-n) 10
   rw[Int.neg_neg]at this
   rw[this,Int.tdiv_eq_ediv_of_nonneg (by omega)]
  have hm:n.tmod 10=-((-n) % 10):=by
   have:=Int.neg_tmod (-n) 10
   rw[Int.neg_neg]at this
   rw[this,Int.tmod_eq_emod_of_nonneg (by omega)]
  have hz:(0:Int)-n.tmod 10=-(n.tmod 10):=by omega
  rw[hz,w64 (n:=-(n.tmod 10)) (by omega),w64 (n:=-(n.tmod 10)+1) (by omega),w64 (n:=n.tdiv 10) (by omega),O]
  have e:(-(n.tmod 10)+1).toNat=(-(n.tmod 10)).toNat+1:=by omega
  rw[e,qeq (by omega)]
  refine⟨trivial,by omega,trivial,by omega,trivial,by omega,by omega,zfr (n:=n.tdiv 10) (by omega) (by omega) ?_⟩
  refine⟨zgx ?_,?_⟩
  ·have:=Go.X.itoa_len (n.tdiv 10);simp;omega
  ·rw[jh,<-itoa_neg hn];exact h
termination_by n.natAbs
decreasing_by all_goals omega
theorem zxq{n:Nm}(hn:n.2.1.length<=4611686018427387904){R:Bt->Prop}(h:R (bl (Yq n))):PC Tp gl 168 [Arg.mk tN (nmB n)] [.str] R:=by
 apply zd6
 refine zja hn ⟨λhx=>?_,λhx=>?_⟩
 ·have:yo n=false:=by simpa using hx
  have e:Yq n=[]:=by unfold Yq;simp[this]
  rw[e]at h;exact h
 ·have hr:yo n=true:=by simpa using hx
  obtain⟨hl,aa,af⟩:=Wz hr
  unfold Yq at h
  rw[if_pos hr]at h
  refine zqv (n:=n) ⟨λZ=>?_,λZ=>?_⟩
  ·have:n.2.1=[]:=by
    unfold Xc at Z
    simp at Z;exact Z.2.1
   rw[if_pos this]at h;exact h
  ·have:¬n.2.1=[]:=λe=>by have:=zi7 hr e;rw[this]at Z;cases Z
   rw[if_neg this]at h
   intro K hK
   have key:∀t:Bs,t=(if n.1 then [45]else [])++n.2.1->K (bl t):=by
    intro t ht
    have ac:t.length<=1001:=by rw[ht];split <;> simp <;> omega
    rw[<-ht]at h
    refine hK _ ⟨λO=>?_,λO=>?_⟩
    ·rw[if_neg (by simpa using O)]at h
     have ae:=Go.X.itoa_len n.2.2
     refine⟨zgx (b:=[101]) (by simp;omega),zfr (n:=n.2.2) (by omega) (by omega) ?_⟩
     rw[show(⟨#[101]⟩:Bt)=bl [101]from rfl,jh,jh]
     exact⟨zgx (by simp;omega),by rw[AP];exact h⟩
    ·rw[if_pos (by simpa using O),Bf]at h;exact h
   refine⟨λO=>⟨zgx (a:=[45]) (by simp;omega),?_⟩,λO=>?_⟩
   ·rw[show(⟨#[45]⟩:Bt)=bl [45]from rfl,jh]
    exact key _ (by rw[if_pos (by simpa using O)])
   ·exact key _ (by rw[if_neg (by simpa using O)];rfl)
theorem qfo(hg:Pow gl)(h1:-9223372036854775808<=n)(h2:n<=9223372036854775807){R:Bool×Bt×Int->Prop}(h:R (nmB (qt (Lib.itoa n)).1)):PC Tp gl 57 [Arg.mk (.int .i64) n] [tN] R:=by
 apply zqo
 refine z0x hg h1 h2 (zu5 ?_ h)
 have:=Go.X.itoa_len n
 have O:∀u:Nat,u<10 ^ 20->(Lib.decDigits u).length<=20:=by
  have:∀(k u:Nat),u<10 ^ (k+1)->(Lib.decDigits u).length<=k+1:=by
   intro k
   induction k with
   |zero=>intro u hu;rw[Lib.decDigits,dif_pos (by simpa using hu)];simp
   |succ k ih=>
    intro u hu
    rw[Lib.decDigits]
    split
    ·simp
    ·have:=ih (u / 10) (by rw[Nat.pow_succ]at hu;omega)
     simp;omega
  exact this 19
 have:(Lib.itoa n).length<=21:=by
  unfold Lib.itoa
  split
  ·have:=O n.natAbs (by omega);simp;omega
  ·have:=O n.toNat (by omega);omega
 omega
end
section
variable {l:Bs} {n:Int}
theorem z0z{c:UInt8}(hn:n=(c.toNat:Int)):(bif decide ((l.length:Int)>0)then(((l[0]?.getD 0).toNat:Int)==n)else false)=(l.head?==some c):=by
 subst hn
 cases l with
 |nil=>rfl
 |cons b t=>
  have:decide (((b::t).length:Int)>0)=true:=by simp
  rw[this,cond_true]
  show((b.toNat:Int)==(c.toNat:Int))=(some b==some c)
  rw[AB]
  simp only[beq_iff_eq,Int.natCast_inj,Ab]
  exact⟨λh=>Ct.1 h,λh=>by rw[h]⟩
theorem z5p:bl ((l.drop (1:Int).toNat).take (((l.length:Int)).toNat-(1:Int).toNat))=bl l.tail:=by
 rw[Ad,show(1:Int).toNat=1 from rfl,List.drop_one,AX (by simp)]
theorem wz{c:UInt8}(d:UInt8)(hn:n=(d.toNat:Int)):((c.toNat:Int) != n)=!(c==d):=by
 subst hn
 rw[AB]
 simp only[bne_iff_ne,ne_eq,Int.natCast_inj,B4,beq_eq_false_iff_ne]
 exact⟨λh e=>h (by rw[e]),λh e=>h (Ct.1 e)⟩
set_option maxHeartbeats 1000000 in
theorem z5q{gl:Fr}{s:Bs}(hs:s.length<=1152921504606846976){R:Bool×Bt×Bt×Bool×Bt×Bool->Prop}
  (h1:zef s=true->R ((Je s).neg,bl (Je s).whole,bl (Je s).rest,(Je s).low,bl (if(Zm s).2.2 then(Je s).exp else [48]),true)) (h2:zef s=false->∀a b c d e,R (a,bl b,bl c,d,bl e,false)):
  PC Tp gl 198 [Arg.mk .str (bl s)] [.bool,.str,.str,.bool,.str,.bool] R:=by
 apply zce
 simp only[zj,qy,show(0:Int).toNat=0 from rfl,z0z (l:=s) (c:=45) (n:=45) rfl]
 refine⟨λhx=>by simp at hx;omega,?_⟩
 have hS:(zu2 s).length<=s.length:=by unfold zu2;split <;> simp
 have first:∀K:Bt->Prop,K (bl (zu2 s))->(((s.head?==some 45)=true->(0<=(1:Int)/\(1:Int)<=(s.length:Int)/\((s.length:Int))<=(s.length:Int))/\K ((bl s).extract (1:Int).toNat ((s.length:Int)).toNat))/\((s.head?==some 45)=false->K (bl s))):=by
  intro K hK
  unfold zu2 at hK
  refine⟨λhx=>⟨?_,?_⟩,λhx=>?_⟩
  ·cases s with
   |nil=>simp at hx
   |cons=>simp;omega
  ·rw[hx,if_pos rfl]at hK
   rw[yr,z5p];exact hK
  ·rw[hx,if_neg (by simp)]at hK;exact hK
 intro K hK
 refine first K (hK _ ?_)
 clear hK first K
 generalize aV:zu2 s=s1 at *
 simp only[zj,qy]
 have hM:cutAt isE s1=Zm s:=by rw[Zm,aV]
 refine⟨λi=>∃k:Nat,i=k/\k<=s1.length/\∀j (hj:j<s1.length),j<k->isE s1[j]=false,λi=>s1.length-i.toNat,⟨0,rfl,by omega,λj _ h=>by omega⟩,?_⟩
 rintro i ⟨k,rfl,hk,hb⟩
 have an:∀hk:k<s1.length,(bif (bif decide ((k:Int)<(s1.length:Int))then((((s1[((k:Int)).toNat]?).getD 0).toNat:Int) != 101)else false)then((((s1[((k:Int)).toNat]?).getD 0).toNat:Int) != 69)else false)=!isE s1[k]:=by
  intro hk
  rw[Ad,zbg hk]
  have:decide ((k:Int)<(s1.length:Int))=true:=by simpa using hk
  rw[this,cond_true,wz (n:=101) 101 rfl,wz (n:=69) 69 rfl,isE]
  cases s1[k]==101 <;> simp
 refine⟨λhc=>?_,λhc=>?_,λhc=>?_,λhc=>?_⟩
 ·have:k<s1.length:=by simpa using hc
  omega
 ·have:k<s1.length:=by simp at hc;omega
  omega
 ·have aa:k<s1.length:=by simp at hc;omega
  rw[an aa]at hc
  rw[y5 aa (by omega)]
  refine⟨⟨k+1,rfl,by omega,λj hj aJ=>?_⟩,by simp only[Ad];omega⟩
  by_cases e:j=k
  ·subst e;simpa using hc
  ·exact hb j hj (by omega)
 ·-- the whole and the point
  have hm:Zm s=if hk:k<s1.length then(s1.take k,s1.drop (k+1),true)else(s1,[],false):=by
   rw[<-hM]
   split
   ·rename_i aa
    rw[an aa]at hc
    exact zhk aa (λj hj=>hb j (by omega) hj) (by simpa using hc)
   ·exact zaz λc aA=>by
     obtain⟨j,hj,rfl⟩:=Bc aA
     exact hb j hj (by omega)
  have ah:s1.take k=(Zm s).1:=by
   rw[hm];split
   ·rfl
   ·rw[AX (by omega)]
  have rest:∀(e:Bs) (low:Bool),low=Yr s->e=(if(Zm s).2.2 then zi8 s else [48]) ->
    ∀am:Bt->Bool->Prop,(∀ae:Bt,∀Z:Bool,ae=bl e->Z=low->am ae Z)->am (bl e) low:=λe low _ _ am h=>h _ _ rfl rfl
  intro am aD
  have aB:∀(e:Bs) (low:Bool),low=Yr s->e=(if(Zm s).2.2 then zi8 s else [48])->am (bl e) low:=by
   intro e low aS ay
   refine aD _ _ ⟨by omega,?_⟩
   have aO:(bl s1).extract 0 ((k:Int)).toNat=bl (Zm s).1:=by rw[Ad,yr,A2,Ca,ah]
   rw[aO]
   generalize aN:(Zm s).1=m1 at *
   have aY:m1.length<=s1.length:=by rw[<-ah];simp;omega
   have hw:cutAt zqu m1=wj s:=by rw[wj,aN]
   simp only[zj,qy]
   refine⟨λi=>∃k:Nat,i=k/\k<=m1.length/\∀j (hj:j<m1.length),j<k->zqu m1[j]=false,λi=>m1.length-i.toNat,⟨0,rfl,by omega,λj _ h=>by omega⟩,?_⟩
   rintro i ⟨q,rfl,hq,aC⟩
   have al:∀hq:q<m1.length,(bif decide ((q:Int)<(m1.length:Int))then((((m1[((q:Int)).toNat]?).getD 0).toNat:Int) != 46)else false)=!zqu m1[q]:=by
    intro hq
    rw[Ad,zbg hq]
    have:decide ((q:Int)<(m1.length:Int))=true:=by simpa using hq
    rw[this,cond_true,wz (n:=46) 46 rfl,zqu]
   refine⟨λhc=>?_,λhc=>?_,λhc=>⟨?_,?_⟩⟩
   ·have:q<m1.length:=by simpa using hc
    omega
   ·have ac:q<m1.length:=by simp at hc;omega
    rw[al ac]at hc
    rw[y5 ac (by omega)]
    refine⟨⟨q+1,rfl,by omega,λj hj aJ=>?_⟩,by simp only[Ad];omega⟩
    by_cases e:j=q
    ·subst e;simpa using hc
    ·exact aC j hj (by omega)
   ·omega
   ·have aj:wj s=if hq:q<m1.length then(m1.take q,m1.drop (q+1),true)else(m1,[],false):=by
     rw[<-hw]
     split
     ·rename_i ac
      rw[al ac]at hc
      exact zhk ac (λj hj=>aC j (by omega) hj) (by simpa using hc)
     ·exact zaz λc aA=>by
       obtain⟨j,hj,rfl⟩:=Bc aA
       exact aC j hj (by omega)
    have aT:(bl m1).extract 0 ((q:Int)).toNat=bl (wj s).1:=by
     rw[Ad,yr,A2,Ca,aj]
     split
     ·rfl
     ·rw[AX (by omega)]
    rw[aT]
    have aZ:(wj s).1.length<=s.length:=by rw[aj];split <;> simp <;> omega
    have a7:(wj s).2.1.length<=s.length:=by rw[aj];split <;> simp <;> omega
    have a6:e.length<=s.length+1:=by
     rw[ay]
     split
     ·rename_i a1
      have:(zi8 s).length<=(Zm s).2.1.length:=by
       unfold zi8;split
       ·simp
       ·split <;> simp
      have:(Zm s).2.1.length<=s1.length:=by rw[hm];split <;> simp
      omega
     ·simp
    have au:∀(ai:Bt->Prop),(∀r:Bt,r=bl (if(wj s).2.2 then(wj s).2.1 else [48])->ai r)->((decide ((q:Int)<(m1.length:Int)))=true->(0<=(Aa .i64 ((q:Int)+1))/\(Aa .i64 ((q:Int)+1))<=(m1.length:Int)/\((m1.length:Int))<=(m1.length:Int))/\ai ((bl m1).extract (Aa .i64 ((q:Int)+1)).toNat ((m1.length:Int)).toNat))/\((decide ((q:Int)<(m1.length:Int)))=false->ai (bl [48])):=by
     intro ai af
     refine⟨λhx=>?_,λhx=>?_⟩
     ·have ac:q<m1.length:=by simpa using hx
      rw[y5 ac (by omega)]
      refine⟨by omega,af _ ?_⟩
      rw[aj,dif_pos ac,Ad,Ad,yr,AX (by simp)];rfl
     ·have ac:¬q<m1.length:=by simpa using hx
      refine af _ ?_
      rw[aj,dif_neg ac];rfl
    intro ai af
    refine au ai λr hr=>af r ?_
    subst hr
    clear af au
    have ar:((q:Int)==(m1.length:Int))=!(wj s).2.2:=by
     rw[aj,AB]
     split
     ·simp;omega
     ·simp;omega
    refine Y9 (l:=(wj s).1) (by omega) ⟨λx=>Qe (if(wj s).2.2 then(wj s).2.1 else [48])=x,λ_=>Y9 (by split <;> first|omega|simp) rfl,λy hy=>?_⟩
    refine⟨λx=>Qe e=x,λ_=>Y9 (by omega) rfl,λz hz=>?_⟩
    rw[show(⟨#[48]⟩:Bt)=bl [48]from rfl]
    simp only[zcl,zj,qy]
    generalize ax:Qe (wj s).1=d1 at *
    have aE:Qe (if(wj s).2.2 then(wj s).2.1 else [48])=(!(wj s).2.2||Qe (wj s).2.1):=by
     cases(wj s).2.2 <;> simp;decide
    have aG:Qe e=(!(Zm s).2.2||Qe (zi8 s)):=by
     rw[ay];cases(Zm s).2.2 <;> simp;decide
    have O:zef s=((bif (bif d1 then y else false)then z else false)&&((wj s).1==[48]||(wj s).1.head? != some 48)):=by
     unfold zef
     rw[ax,<-aE,<-aG]
     cases hd:d1 with
     |false=>simp
     |true=>
      have aU:=hy hd
      rw[aU]
      cases hyv:y with
      |false=>simp
      |true=>
       have aM:=hz (by rw[hd,hyv];rfl)
       rw[aM];cases z <;> simp
    refine⟨λhx=>?_,?_⟩
    ·have:d1=true:=by simp at hx;exact hx.1.1.1
     have:=W0 (ax.trans this)
     omega
    ·intro aI aF
     have ak:aI (bl (wj s).2.1):=by
      refine aF _ ?_
      have h4:∀hd:d1=true,(bif decide ((wj s).1=[48])then true else(((((wj s).1[0]?).getD 0).toNat:Int) != 48))=((wj s).1==[48]||(wj s).1.head? != some 48):=by
       intro hd
       rw[zhl (W0 (ax.trans hd)),Bn,AB];simp
      cases ho:zef s with
      |true=>
       rw[ho]at O
       have hd:d1=true:=by cases d1 <;> simp at O;rfl
       rw[h4 hd]
       have aL:(bif (bif d1 then y else false)then z else false)=true:=by
        cases hb:(bif (bif d1 then y else false)then z else false)with
        |true=>rfl
        |false=>rw[hb]at O;simp at O
       rw[aL]at O ⊢
       rw[cond_true]
       rw[Bi]at O
       rw[<-O]
       have:=h1 ho
       unfold Je at this
       simp only at this
       rw[aS,ay]
       have e5:(if(Zm s).2.2 then(if(Zm s).2.2 then zi8 s else [])else [48])=(if(Zm s).2.2 then zi8 s else [48]):=by cases(Zm s).2.2 <;> rfl
       rw[e5]at this
       exact this
      |false=>
       rw[ho]at O
       have hv:(bif (bif (bif d1 then y else false)then z else false)then(bif decide ((wj s).1=[48])then true else(((((wj s).1[0]?).getD 0).toNat:Int) != 48))else false)=false:=by
        cases hd:d1 with
        |false=>rfl
        |true=>
         rw[h4 hd]
         rw[hd]at O
         rw[Bg];exact O.symm
       rw[hv]
       exact h2 ho _ _ _ _ _
     refine⟨λhx=>?_,λhx=>?_⟩
     ·rw[ar]at hx
      have aP:(wj s).2.2=false:=by simpa using hx
      have:(wj s).2.1=[]:=(za0 aP).2
      rw[this]at ak;exact ak
     ·rw[ar]at hx
      have aQ:(wj s).2.2=true:=by simpa using hx
      rw[aQ] ;exact ak
  refine⟨λhx=>?_,λhx=>?_⟩
  ·have aa:k<s1.length:=by simpa using hx
   rw[y5 aa (by omega)]
   have hE:(Zm s).2.1=s1.drop (k+1):=by rw[hm,dif_pos aa]
   have az:(Zm s).2.2=true:=by rw[hm,dif_pos aa]
   have aH:(bl s1).extract ((k+1:Nat):Int).toNat ((s1.length:Int)).toNat=bl (Zm s).2.1:=by
    rw[Ad,Ad,yr,AX (by simp),hE]
   rw[aH]
   simp only[zj,qy]
   rw[z0z (l:=(Zm s).2.1) (c:=45) (n:=45) rfl,z0z (l:=(Zm s).2.1) (c:=43) (n:=43) rfl]
   have ap:((Zm s).2.1.head?==some 45)=Yr s:=by unfold Yr;rw[az];rfl
   rw[ap]
   refine⟨by omega,λhy=>by simp at hy;omega,λhy=>by simp at hy;omega,λhy=>⟨?_,?_⟩,λhy=>?_⟩
   ·have:0<(Zm s).2.1.length:=by
     cases hl:(Zm s).2.1 with
     |nil=>rw[<-ap,hl]at hy;simp at hy
     |cons=>simp
    omega
   ·rw[yr,z5p]
    refine aB _ _ rfl ?_
    rw[az,if_pos rfl,zi8]
    cases hl:Yr s with
    |true=>simp
    |false=>rw[hl]at hy;simp at hy;simp[hy]
   ·refine aB _ _ rfl ?_
    rw[az,if_pos rfl,zi8]
    cases hl:Yr s with
    |true=>rw[hl]at hy;simp at hy
    |false=>rw[hl]at hy;simp at hy;simp[hy]
  ·have aa:¬k<s1.length:=by simpa using hx
   refine aB [48] false ?_ ?_
   ·unfold Yr;rw[hm,dif_neg aa];rfl
   ·rw[hm,dif_neg aa];rfl
end
section
variable {l:Bs}
theorem zgg(h:(l.head?==some 48)=false):l.dropWhile (· == 48)=l:=by
 cases l with
 |nil=>rfl
 |cons b t=>
  rw[Du,if_neg]
  simpa using h
theorem zbj(h:(l.head?==some 48)=true):l.tail.dropWhile (· == 48)=l.dropWhile (· == 48):=by
 cases l with
 |nil=>rfl
 |cons b t=>
  have:b=48:=by simpa using h
  subst this;rfl
theorem zqx(l:Bs):zi (48::l)=zi l:=rfl
theorem zs2(l:Bs):zi (l.dropWhile (· == 48))=zi l:=by
 induction l with
 |nil=>rfl
 |cons b t ih=>
  rw[Du]
  split
  ·rename_i h
   have:b=48:=by simpa using h
   subst this;rw[ih,zqx]
  ·rfl
theorem z7w{n:Int}(h1:0<=n)(h2:n<256):Aa .u8 n=n:=by
 unfold Aa
 have e:(2:Int) ^ Ap .u8=256:=by decide
 simp only[e]
 have hs:Ec .u8=false:=rfl
 simp only[hs,Ed,AW,if_false]
 omega
theorem qdc{m:Int}(hm:0<=m):(bif decide ((l.length:Int)>m)then(((l[0]?.getD 0).toNat:Int)==48)else false)=(decide ((l.length:Int)>m)&&l.head?==some 48):=by
 cases hd:decide ((l.length:Int)>m)with
 |false=>rfl
 |true=>
  have hl:0<l.length:=by simp at hd;omega
  rw[cond_true,Bi]
  have:=z0z (l:=l) (c:=48) (n:=48) rfl
  rw[show decide ((l.length:Int)>0)=true by simp;omega,cond_true]at this
  exact this
def stripR(l:Bs):Bs:=(l.reverse.dropWhile (· == 48)).reverse
theorem zs3{c:UInt8}(h:c=48):stripR (l++[c])=stripR l:=by
 subst h;unfold stripR;rw[List.reverse_append];rfl
theorem z00{c:UInt8}(h:¬c=48):stripR (l++[c])=l++[c]:=by
 unfold stripR;rw[List.reverse_append,List.reverse_singleton,DX,Du,if_neg (by simpa using h)];simp
theorem z98{α β γ δ:Type}{B:α->β->γ->δ->Prop}{c:Bool}{a b:α}{x:β}{y:γ}{z:δ}(h:∀e,e=(bif c then a else b)->B e x y z):∀K:α->β->γ->δ->Prop,(∀e x y z,B e x y z->K e x y z)->(c=true->K a x y z)/\(c=false->K b x y z):=
 λK hK=>⟨λhc=>hK _ _ _ _ (h _ (by subst hc;rfl)),λhc=>hK _ _ _ _ (h _ (by subst hc;rfl))⟩
set_option maxHeartbeats 1000000 in
theorem zs4{gl : Fr}{s : Bs}(hs : s.length <= 1152921504606846976){R : (Bool × Bt × Int) × Int -> Prop}(h : R (nmB (qt s).1, (qt s).2)): PC Tp gl 167 [Arg.mk .str (bl s)] [tN, .int .i64] R := by
  apply zcc
  refine z5q hs (λhok => ?_) (λhok a b c d e => ?_)
  rotate_left
  · refine ⟨λ_ => ?_, λhx => by cases hx⟩
    have : J1 s = none := by unfold J1; simp [hok]
    unfold qt at h
    rw [this] at h; exact h
  · have hlit : J1 s = some (Je s) := by unfold J1; simp [hok]
    have hlen := zfq hlit
    obtain ⟨d1, d2, d3⟩ := zjb hlit
    unfold qt at h
    rw [hlit] at h
    simp only at h
    obtain ⟨E1, hE1, hE1d, hE1v⟩ : ∃ E1, (if (Zm s).2.2 then (Je s).exp else [48]) = E1 /\ E1.all yb = true /\ E1.dropWhile (· == 48) = (Je s).exp.dropWhile (· == 48) := by
      refine ⟨_, rfl, ?_, ?_⟩
      · split
        · exact d3
        · rfl
      · cases hm : (Zm s).2.2 with
        | true => rfl
        | false => simp [Je, hm]
    have hE1l : E1.length <= s.length + 1 := by
      rw [<- hE1]; split
      · omega
      · simp only [Cj]; omega
    rw [hE1]
    generalize Je s = x at *
    refine ⟨λhx => (by cases hx), λ_ => ?_⟩
    simp only [zj]
    rw [w64 (by omega)]
    refine ⟨λhx => ?_, λhx => ?_⟩
    · rw [if_pos (by simp at hx; omega)] at h; exact h
    · rw [if_neg (by simp at hx; omega)] at h
      have hx' : x.whole.length + x.rest.length <= 1000 := by simp at hx; omega
      refine ⟨λe8 _ _ _ => ∃ E : Bs, e8 = bl E /\ E.all yb = true /\ E.dropWhile (· == 48) = x.exp.dropWhile (· == 48), λe8 _ _ _ => e8.size, ⟨E1, rfl, hE1d, hE1v⟩, ?_⟩
      rintro e8 b1 b2 b3 ⟨E, rfl, hEd, hEv⟩
      simp only [zj, qy, show (0 : Int).toNat = 0 from rfl, qdc (l := E) (m := 1) (by omega)]
      refine ⟨λhy => by simp at hy; omega, λhy => ?_, λhy => ?_⟩
      · have hy1 : 1 < E.length /\ (E.head? == some 48) = true := by
          have : (1 : Int) < (E.length : Int) /\ E.head? = some 48 := by simpa using hy
          exact ⟨by omega, by simp [this.2]⟩
        rw [yr, z5p]
        refine ⟨by omega, ⟨E.tail, rfl, ?_, ?_⟩, by rw [zj, List.length_tail]; omega⟩
        · rw [<- List.drop_one]; exact z5n hEd 1
        · rw [zbj hy1.2, hEv]
      · have hEx : (E.length <= 1 \/ E.dropWhile (· == 48) = E) := by
          cases hh : (E.head? == some 48) with
          | false => exact .inr (zgg hh)
          | true => rw [hh] at hy; simp at hy; exact .inl (by omega)
        have hdl := xf E (· == 48)
        have hlen9 : E.length > 9 ↔ (x.exp.dropWhile (· == 48)).length > 9 := by
          rw [<- hEv]
          rcases hEx with hx | hx
          · omega
          · rw [hx]
        refine ⟨λhz => ?_, λhz => ?_⟩
        · rw [if_pos (hlen9.1 (by simp at hz; omega))] at h; exact h
        · have hE9 : E.length <= 9 := by simp at hz; omega
          rw [if_neg (λhh => by have := hlen9.2 hh; omega)] at h
          have hval : zi (x.exp.dropWhile (· == 48)) = zi E := by rw [<- hEv, zs2]
          rw [hval] at h
          have hvb : zi E < 10 ^ 9 := Ys hE9 hEd
          refine ⟨λe i _ _ _ => ∃ k : Nat, i = k /\ k <= E.length /\ e = (zi (E.take k) : Int), λ_ i _ _ _ => E.length - i.toNat, ⟨0, rfl, by omega, by simp [zi]⟩, ?_⟩
          rintro e i b1 b2 b3 ⟨k, rfl, hk, rfl⟩
          refine ⟨λhc => ?_, λhc => ?_⟩
          · have hc' : k < E.length := by simpa using hc
            have hd := zu4 hEd hc'
            simp only [Ad, zbg hc']
            have hle := Ys (n := 9) (l := E.take k) (by simp; omega) (zn7 hEd k)
            rw [z7w (by omega) (by omega), y5 hc' (by omega), w64 (n := 10 * _) (by omega), w64 (n := (_ : Int) - 48) (by omega), w64 (n := _ + _) (by omega)]
            refine ⟨by omega, ⟨k + 1, rfl, by omega, ?_⟩, by simp only [Ad]; omega⟩
            rw [Za hc']; omega
          · have hc' : ¬ k < E.length := by simpa using hc
            rw [AX (by omega)]
            apply z98
            intro e7 he7
            refine ⟨by unfold xm; omega, ?_⟩
            rw [jh]
            have hD : (x.whole ++ x.rest).all yb = true := by rw [CR, zej d1, d2]; rfl
            have hev : e7 = if x.low then - (zi E : Int) else (zi E : Int) := by rw [he7]; cases x.low <;> simp; exact w64 (by omega)
            rw [<- hev] at h
            have hb : -1000000000 <= e7 /\ e7 <= 1000000000 := by rw [hev]; split <;> omega
            refine ⟨λd _ _ _ => ∃ D : Bs, d = bl D /\ D.dropWhile (· == 48) = (x.whole ++ x.rest).dropWhile (· == 48) /\ D.length <= 1000, λd _ _ _ => d.size, ⟨_, rfl, rfl, by rw [Ao]; exact hx'⟩, ?_⟩
            rintro d b1 b2 b3 ⟨D, rfl, hDv, hDl⟩
            simp only [zj, qy, show (0 : Int).toNat = 0 from rfl, z0z (l := D) (c := 48) (n := 48) rfl]
            refine ⟨λhy => by simp at hy; omega, λhy => ?_, λhy => ?_⟩
            · have hp : 0 < D.length := by
                cases D with
                | nil => simp at hy
                | cons => simp
              rw [yr, z5p]
              exact ⟨by omega, ⟨D.tail, rfl, by rw [zbj hy, hDv], by rw [List.length_tail]; omega⟩, by rw [zj, List.length_tail]; omega⟩
            · have hDe := zgg hy
              rw [hDv] at hDe
              rw [show (⟨#[]⟩ : Bt) = bl [] from rfl]
              simp only [zcl]
              rw [hDe] at h
              refine ⟨λhz => ?_, λhz => ?_⟩
              · rw [if_pos (by simpa using hz)] at h; exact h
              · have hne : D ≠ [] := by simpa using hz
                rw [if_neg hne] at h
                have hsh : js (x.whole ++ x.rest) = stripR D := by unfold js stripR; rw [hDe]
                have hsl : (stripR D).length <= D.length := by
                  have := (Q6 hD (by rw [hDe]; exact hne)).2.1
                  rw [hsh, hDe] at this; exact this
                have hsne : stripR D ≠ [] := by
                  have := (Q6 hD (by rw [hDe]; exact hne)).1
                  rw [hsh] at this
                  intro e; rw [e] at this; cases this
                rw [hsh] at h
                rw [w64 (n := e7 - _) (by omega)]
                refine ⟨λe d _ _ _ => ∃ D' : Bs, d = bl D' /\ D'.length <= 1000 /\ stripR D' = stripR D /\ e + D'.length = e7 - (x.rest.length : Int) + D.length, λ_ d _ _ _ => d.size, ⟨D, rfl, hDl, rfl, rfl⟩, ?_⟩
                rintro e d b1 b2 b3 ⟨D', rfl, hl', hs', he'⟩
                have hne' : D' ≠ [] := by
                  rintro rfl
                  rw [<- hs'] at hsne; exact hsne rfl
                have hp : 0 < D'.length := A3.2 hne'
                simp only [zj, qy]
                rw [zxn hp (by omega)]
                have hlast : D' = D'.take (D'.length - 1) ++ [D'[D'.length - 1]] := by
                  rw [<- Ag (by omega), show D'.length - 1 + 1 = D'.length by omega, AD]
                simp only [Ad, zbg (show D'.length - 1 < D'.length by omega)]
                refine ⟨by omega, λhq => ?_, λhq => ?_⟩
                · have hc48 : D'[D'.length - 1] = 48 := Ct.1 (by (have : (D'[D'.length - 1].toNat : Int) = 48 := by simpa using hq); (have : D'[D'.length - 1].toNat = 48 := by omega); rw [this]; rfl)
                  rw [w64 (n := e + 1) (by omega), yr]
                  refine ⟨by omega, ⟨D'.take (D'.length - 1), by simp, by simp; omega, ?_, by simp; omega⟩, by rw [zj]; simp; omega⟩
                  rw [<- hs']
                  conv => rhs; rw [hlast]
                  rw [zs3 hc48]
                · have hc48 : ¬ D'[D'.length - 1] = 48 := λe => by rw [e] at hq; simp at hq
                  have hfin : D' = stripR D := by
                    rw [<- hs']
                    conv => rhs; rw [hlast]
                    rw [z00 hc48, <- hlast]
                  have hee : e = e7 - (x.rest.length : Int) + (D.length : Int) - ((stripR D).length : Int) := by rw [<- hfin]; omega
                  rw [hee, hfin]
                  refine ⟨λhw => ?_, λhw => ?_⟩
                  · rw [if_neg (by rw [Bn] at hw; simp at hw; omega)] at h; exact h
                  · rw [if_pos (by rw [Bn] at hw; simp at hw; omega)] at h; exact h
end
end Go.X
end
section
namespace Go.X
open Go Go.Lib
section
variable {a b b0 b1 b2 b3 b4 b5 b6 b7:Nat}
theorem z01(l:Bs)(a:Nat):l.foldl (λn c=>10*n+(c.toNat-48)) a=a*10 ^ l.length+zi l:=by
 induction l generalizing a with
 |nil=>simp[zi]
 |cons c t ih=>
  simp only[List.foldl_cons,Ay,zi]
  rw[ih,ih (10*0+(c.toNat-48)),Nat.pow_succ]
  have:(10*a+(c.toNat-48))*10 ^ t.length=a*(10 ^ t.length*10)+(c.toNat-48)*10 ^ t.length:=by
   rw[BH,C9 10 a,Nat.mul_assoc,C9 10 (10 ^ t.length)]
  rw[this];simp;omega
theorem Q7(a b:Bs):zi (a++b)=zi a*10 ^ b.length+zi b:=by
 rw[zi,List.foldl_append,z01];rfl
theorem zqy(n:Nat):zi (Er n 48)=0:=by
 induction n with
 |zero=>rfl
 |succ n ih=>rw[List.replicate_succ];exact ih
theorem zqz:∀(l:Bs) (acc:Nat),l.all yb=true->acc*10 ^ l.length+zi l<10 ^ 19->parseUintM (2 ^ 64-1) acc l=.ok (acc*10 ^ l.length+zi l)
 |[],acc,_,_=>by simp[parseUintM,zi]
 |c::t,acc,hd,hl=>by
  rw[CB,AI]at hd
  have hc:48<=c.toNat/\c.toNat<=57:=by simpa[yb]using hd.1
  have e:zi (c::t)=(c.toNat-48)*10 ^ t.length+zi t:=by
   have:=Q7 [c] t
   rw[DX]at this
   rw[this];simp[zi]
  have e2:(acc*10+(c.toNat-48))*10 ^ t.length+zi t=acc*10 ^ (c::t).length+zi (c::t):=by
   rw[e,Ay,Nat.pow_succ,BH,Nat.mul_assoc,C9 10 (10 ^ t.length)];omega
  have hp:1<=10 ^ t.length:=Nat.one_le_pow _ _ (by decide)
  have hb:acc*10+(c.toNat-48)<=acc*10 ^ (c::t).length+zi (c::t):=by
   rw[<-e2]
   calc acc*10+(c.toNat-48)=(acc*10+(c.toNat-48))*1:=by omega
    _<=(acc*10+(c.toNat-48))*10 ^ t.length:=Nat.mul_le_mul_left _ hp
    _<=_:=by omega
  rw[parseUintM,if_pos hc,if_neg (by omega),if_neg (by omega),zqz t _ hd.2 (by rw[e2];exact hl),e2]
def xh(n:Nm):Bs:=n.2.1++Er n.2.2.toNat 48
theorem zmf(n:Nm):zi (xh n)=zi n.2.1*10 ^ n.2.2.toNat:=by
 rw[xh,Q7,zqy,List.length_replicate,C8]
theorem zs5{n:Nm}(h:yo n=true):n.2.1.all yb=true:=by
 unfold yo Xc at h
 rcases Cr _ _ ▸ h with h|h
 ·simp at h;rw[h.2.1];rfl
 ·simp only[AI]at h;exact zej h.1.1.1.1.1
theorem zmg{n:Nm}(h:yo n=true):(xh n).all yb=true:=by
 rw[xh,CR,zs5 h,Bi,AQ]
 intro x hx
 rw[List.mem_replicate]at hx
 rw[hx.2];rfl
theorem z02{l:Bs}(neg:Bool)(hd:l.all yb=true)(hl:l.length<=19)(O:l≠[]):
  parseIntB 64 ((if neg then [45]else [])++l)=if neg then(if zi l<=9223372036854775808 then .ok (-(zi l:Int))else .range)else(if zi l<=9223372036854775807 then .ok (zi l:Int)else .range):=by
 have hv:zi l<10 ^ 19:=Ys hl hd
 have hp:=zqz l 0 hd (by rw[Di];omega)
 rw[Di,AH]at hp
 cases neg with
 |true=>
  simp only[if_true,DX]
  unfold parseIntB
  simp only[show(45:UInt8).toNat=45 from rfl,or_true,if_true]
  unfold parseUintB
  rw[if_neg O,hp]
  simp only[not_true_eq_false,false_and,if_false,true_and]
  split
  ·rename_i h;rw[if_neg (by omega)]
  ·rename_i h;rw[if_pos (by omega)]
 |false=>
  simp only[AW,if_false,BP]
  obtain⟨c,t,rfl⟩:=Co O
  have hc:48<=c.toNat/\c.toNat<=57:=by
   rw[CB,AI]at hd
   simpa[yb]using hd.1
  unfold parseIntB
  simp only
  rw[if_neg (by omega)]
  unfold parseUintB
  rw[if_neg (by simp),hp]
  have Z:¬c.toNat=45:=by omega
  simp only[Z,not_false_eq_true,true_and,false_and,if_false]
  split
  ·rename_i h;rw[if_neg (by omega)]
  ·rename_i h;rw[if_pos (by omega)]
theorem z03(ha:a<18446744073709551616)(hb:b<18446744073709551616):Aa .u64 (((Aw (Ap .u64) (a:Int)) ||| (Aw (Ap .u64) (b:Int))).toNat:Int)=((a ||| b:Nat):Int):=by
 have O:Ap .u64=64:=rfl
 have e:((Aw (Ap .u64) (a:Int)) ||| (Aw (Ap .u64) (b:Int))).toNat=a ||| b:=by
  rw[BitVec.toNat_or,Ee,Ee,Ep,Ep,O,Ek (by omega),Ek (by omega)]
 rw[e]
 have Z:a ||| b<2 ^ 64:=D9 (by omega) (by omega)
 unfold Aa
 have e1:(2:Int) ^ Ap .u64=18446744073709551616:=by decide
 simp only[e1]
 have hs:Ec .u64=false:=rfl
 simp only[hs,Ed,AW,if_false]
 omega
theorem z99(ha:a<18446744073709551616)(hb:b<18446744073709551616):Aa .u64 (((Aw (Ap .u64) (a:Int)) &&& (Aw (Ap .u64) (b:Int))).toNat:Int)=((a &&& b:Nat):Int):=by
 have O:Ap .u64=64:=rfl
 have e:((Aw (Ap .u64) (a:Int)) &&& (Aw (Ap .u64) (b:Int))).toNat=a &&& b:=by
  rw[BitVec.toNat_and,Ee,Ee,Ep,Ep,O,Ek (by omega),Ek (by omega)]
 rw[e]
 have Z:a &&& b<2 ^ 64:=Nat.and_lt_two_pow _ (by omega)
 unfold Aa
 have e1:(2:Int) ^ Ap .u64=18446744073709551616:=by decide
 simp only[e1]
 have hs:Ec .u64=false:=rfl
 simp only[hs,Ed,AW,if_false]
 omega
theorem qaa{n:Int}(h1:0<=n)(h2:n<18446744073709551616):Aa .u64 n=n:=by
 unfold Aa
 have e1:(2:Int) ^ Ap .u64=18446744073709551616:=by decide
 simp only[e1]
 have hs:Ec .u64=false:=rfl
 simp only[hs,Ed,AW,if_false]
 omega
theorem zab{n:Nat}(h:n<256):n.testBit 7=false↔n<128:=by
 rw[Nat.testBit_eq_decide_div_mod_eq]
 simp;omega
def MASK:Nat:=9259542123273814144
theorem z5r:∀i,i<8->MASK.testBit (8*i+7)=true:=by decide
theorem z5s{w:Nat}(h:w &&& MASK=0):∀i,i<8->w.testBit (8*i+7)=false:=by
 intro i hi
 have:=congrArg (λx=>x.testBit (8*i+7)) h
 simp only[Nat.testBit_and,z5r i hi,CL,Nat.zero_testBit]at this
 exact this
def z04(b0 b1 b2 b3 b4 b5 b6 b7:Nat):Nat:=((((((b0 ||| b1*2 ^ 8) ||| b2*2 ^ 16) ||| b3*2 ^ 24) ||| b4*2 ^ 32) ||| b5*2 ^ 40) ||| b6*2 ^ 48) ||| b7*2 ^ 56
theorem qdd(b k j:Nat):(b*2 ^ k).testBit j=(decide (k<=j)&&b.testBit (j-k)):=by
 rw[Nat.testBit_mul_two_pow]
theorem zxr{j:Nat}:(z04 b0 b1 b2 b3 b4 b5 b6 b7).testBit j=(b0.testBit j||(decide (8<=j)&&b1.testBit (j-8))||(decide (16<=j)&&b2.testBit (j-16))||(decide (24<=j)&&b3.testBit (j-24))||(decide (32<=j)&&b4.testBit (j-32))||(decide (40<=j)&&b5.testBit (j-40))||(decide (48<=j)&&b6.testBit (j-48))||(decide (56<=j)&&b7.testBit (j-56))):=by
 unfold z04
 simp only[Nat.testBit_or,qdd]
theorem zs6(h:∀i,i<8->(z04 b0 b1 b2 b3 b4 b5 b6 b7).testBit (8*i+7)=false)(r0:b0<256)(r1:b1<256)(r2:b2<256)(r3:b3<256)(r4:b4<256)(r5:b5<256)(r6:b6<256)(r7:b7<256):
  b0<128/\b1<128/\b2<128/\b3<128/\b4<128/\b5<128/\b6<128/\b7<128:=by
 have h0:=h 0 (by decide);have h1:=h 1 (by decide);have h2:=h 2 (by decide);have h3:=h 3 (by decide)
 have h4:=h 4 (by decide);have h5:=h 5 (by decide);have h6:=h 6 (by decide);have h7:=h 7 (by decide)
 rw[zxr]at h0 h1 h2 h3 h4 h5 h6 h7
 simp only[Cn,Bool.and_eq_false_iff]at h0 h1 h2 h3 h4 h5 h6 h7
 refine⟨(zab r0).1 ?_,(zab r1).1 ?_,(zab r2).1 ?_,(zab r3).1 ?_,(zab r4).1 ?_,(zab r5).1 ?_,(zab r6).1 ?_,(zab r7).1 ?_⟩
 ·exact h0.1.1.1.1.1.1.1
 ·rcases h1.1.1.1.1.1.1.2 with h|h
  ·simp at h
  ·simpa using h
 ·rcases h2.1.1.1.1.1.2 with h|h
  ·simp at h
  ·simpa using h
 ·rcases h3.1.1.1.1.2 with h|h
  ·simp at h
  ·simpa using h
 ·rcases h4.1.1.1.2 with h|h
  ·simp at h
  ·simpa using h
 ·rcases h5.1.1.2 with h|h
  ·simp at h
  ·simpa using h
 ·rcases h6.1.2 with h|h
  ·simp at h
  ·simpa using h
 ·rcases h7.2 with h|h
  ·simp at h
  ·simpa using h
theorem zgh{l:Bs}:∀{n:Nat},n<=l.length->(∀i (hi:i<l.length),i<n->l[i].toNat<128)->jr l=jr (l.drop n)
 |0,_,_=>by simp
 |n+1,hn,h=>by
  rw[zgh (n:=n) (by omega) (λi hi O=>h i hi (by omega))]
  rw[AE (show n<l.length by omega),Zk (h n (by omega) (by omega))]
end
end Go.X
end
section
namespace Go.X
section
variable {gl:Fr} {l:Bs}
def bN(l:Bs)(i:Nat):Nat:=(l[i]?.getD 0).toNat
theorem J2(l:Bs)(i:Nat):bN l i<256:=(l[i]?.getD 0).toNat_lt
theorem zu6(l:Bs)(i:Nat):zc (bl l) i=((bN l i:Nat):Int):=qy l i
def Qy(l:Bs):Nat:=z04 (bN l 0) (bN l 1) (bN l 2) (bN l 3) (bN l 4) (bN l 5) (bN l 6) (bN l 7)
theorem ji(l:Bs):Qy l<18446744073709551616:=by
 have h:=J2 l
 have o:∀a b:Nat,a<2 ^ 64->b<2 ^ 64->a ||| b<2 ^ 64:=λa b ha hb=>D9 ha hb
 show _<2 ^ 64
 unfold Qy z04
 refine o _ _ (o _ _ (o _ _ (o _ _ (o _ _ (o _ _ (o _ _ ?_ ?_) ?_) ?_) ?_) ?_) ?_) ?_
 ·have:=h 0;omega
 ·have:=h 1;omega
 ·have:=h 2;omega
 ·have:=h 3;omega
 ·have:=h 4;omega
 ·have:=h 5;omega
 ·have:=h 6;omega
 ·have:=h 7;omega
theorem zcm(a k:Nat)(c:Int)(hc:c=((2 ^ k:Nat):Int)):(a:Int)*c=((a*2 ^ k:Nat):Int):=by rw[hc];omega
theorem zcn(hl:8<=l.length){R:Int->Prop}(h:R (Qy l:Int)):PC Tp gl 170 [Arg.mk .str (bl l)] [.int .u64] R:=by
 apply Yn
 refine⟨λhx=>(by cases hx),λ_=>?_⟩
 simp only[zj,zu6,show(0:Int).toNat=0 from rfl,show(1:Int).toNat=1 from rfl,show(2:Int).toNat=2 from rfl,show(3:Int).toNat=3 from rfl,show(4:Int).toNat=4 from rfl,show(5:Int).toNat=5 from rfl,show(6:Int).toNat=6 from rfl,show(7:Int).toNat=7 from rfl]
 refine⟨by omega,by omega,by omega,by omega,by omega,by omega,by omega,by omega,?_⟩
 have r:=J2 l
 have r0:=r 0;have r1:=r 1;have r2:=r 2;have r3:=r 3;have r4:=r 4;have r5:=r 5;have r6:=r 6;have r7:=r 7
 have m1:=zcm (bN l 1) 8 (2 ^ 8) (by decide);have m2:=zcm (bN l 2) 16 (2 ^ 16) (by decide);have m3:=zcm (bN l 3) 24 (2 ^ 24) (by decide);have m4:=zcm (bN l 4) 32 (2 ^ 32) (by decide)
 have m5:=zcm (bN l 5) 40 (2 ^ 40) (by decide);have m6:=zcm (bN l 6) 48 (2 ^ 48) (by decide);have m7:=zcm (bN l 7) 56 (2 ^ 56) (by decide)
 have o:∀a b:Nat,a<18446744073709551616->b<18446744073709551616->a ||| b<18446744073709551616:=λa b ha hb=>D9 (n:=64) ha hb
 have w:∀n:Nat,n<18446744073709551616->Aa .u64 (n:Int)=(n:Int):=λn hn=>qaa (by omega) (by omega)
 rw[w (bN l 0) (by omega),w (bN l 1) (by omega),w (bN l 2) (by omega),w (bN l 3) (by omega),w (bN l 4) (by omega),w (bN l 5) (by omega),w (bN l 6) (by omega),w (bN l 7) (by omega),m1,m2,m3,m4,m5,m6,m7]
 rw[w (bN l 1*2 ^ 8) (by omega),w (bN l 2*2 ^ 16) (by omega),w (bN l 3*2 ^ 24) (by omega),w (bN l 4*2 ^ 32) (by omega),w (bN l 5*2 ^ 40) (by omega),w (bN l 6*2 ^ 48) (by omega),w (bN l 7*2 ^ 56) (by omega)]
 have q1:bN l 0 ||| bN l 1*2 ^ 8<18446744073709551616:=o _ _ (by omega) (by omega)
 have q2:=o _ (bN l 2*2 ^ 16) q1 (by omega)
 have q3:=o _ (bN l 3*2 ^ 24) q2 (by omega)
 have q4:=o _ (bN l 4*2 ^ 32) q3 (by omega)
 have q5:=o _ (bN l 5*2 ^ 40) q4 (by omega)
 have q6:=o _ (bN l 6*2 ^ 48) q5 (by omega)
 rw[z03 (by omega) (by omega),z03 q1 (by omega),z03 q2 (by omega),z03 q3 (by omega),z03 q4 (by omega),z03 q5 (by omega),z03 q6 (by omega)]
 exact h
theorem Qb(hl:8<=l.length)(h:Qy l &&& MASK=0):jr l=jr (l.drop 8):=by
 have hs:=zs6 (z5s h) (J2 l 0) (J2 l 1) (J2 l 2) (J2 l 3) (J2 l 4) (J2 l 5) (J2 l 6) (J2 l 7)
 refine zgh hl λi hi Z=>?_
 have e:∀j (hj:j<l.length),bN l j=l[j].toNat:=λj hj=>by unfold bN;rw[zbg hj]
 obtain⟨s0,s1,s2,s3,s4,s5,s6,s7⟩:=hs
 have O:i=0\/i=1\/i=2\/i=3\/i=4\/i=5\/i=6\/i=7:=by omega
 rw[<-e i hi]
 rcases O with rfl|rfl|rfl|rfl|rfl|rfl|rfl|rfl <;> assumption
theorem zn8{a b:Nat}(h:(a ||| b) &&& MASK=0):a &&& MASK=0/\b &&& MASK=0:=by
 have key:∀x y:Nat,x ||| y=0->x=0:=by
  intro x y O
  apply Nat.eq_of_testBit_eq
  intro i
  have:=congrArg (λz=>z.testBit i) O
  simp only[Nat.testBit_or,Nat.zero_testBit,Cn]at this
  rw[this.1,Nat.zero_testBit]
 have e:(a ||| b) &&& MASK=(a &&& MASK) ||| (b &&& MASK):=by
  apply Nat.eq_of_testBit_eq
  intro i
  simp only[Nat.testBit_and,Nat.testBit_or,Bool.and_or_distrib_right]
 rw[e]at h
 exact⟨key _ _ h,key _ _ (by rw[Nat.or_comm];exact h)⟩
theorem zxs{n:Int}{k:Nat}(hn:n=(k:Int)):(bl l).extract n.toNat ((l.length:Int)).toNat=bl (l.drop k):=by
 subst hn
 rw[Ad,Ad,yr,AX (by simp)]
theorem Tabs.first(h:Tabs gl){c:Nat}(hc:c<256):zid gl 0 (0+c*1) (.int .u8 (Lib.firstT c)):=by
 obtain⟨⟨cs,a,b⟩,_⟩:=h
 exact⟨cs,a,by rw[AH,Cg];exact b c hc⟩
theorem Tabs.acc(h:Tabs gl){i:Nat}(hi:i<16):zid gl 1 (0+i*2) (.int .u8 (Lib.accLo i))/\zid gl 1 (0+i*2+1) (.int .u8 (Lib.accHi i)):=by
 obtain⟨_,cs,a,b⟩:=h
 exact⟨⟨cs,a,by rw[AH,C9];exact(b i hi).1⟩,⟨cs,a,by rw[AH,C9];exact(b i hi).2⟩⟩
end
section
variable {m:Bs} {n b0 b1 b2 b3 lo hi:Nat}
theorem zu7(h:m≠[]):dec m=Lib.decodeN m.length (bN m 0) (bN m 1) (bN m 2) (bN m 3):=by
 simp only[dec,bN,Bl]
theorem ok0(h:m≠[])(hb:128<=bN m 0/\bN m 0<194\/245<=bN m 0/\bN m 0<256):jr m=false:=by
 rw[xp h,zu7 h,qf7 hb];rfl
theorem ok2(h:m≠[])(hb:194<=bN m 0/\bN m 0<224):jr m=(decide (2<=m.length/\128<=bN m 1/\bN m 1<=191)&&jr (m.drop 2)):=by
 rw[xp h,zu7 h,qfk hb (J2 m 1)]
 by_cases hc:2<=m.length/\128<=bN m 1/\bN m 1<=191
 ·rw[if_pos hc];simp[zi0,hc]
 ·rw[if_neg hc];simp[zi0,hc]
theorem ifc{α:Type}{p q:Prop}[Decidable p][Decidable q]{a b:α}(h:p↔q):(if p then a else b)=if q then a else b:=by
 by_cases hp:p
 ·rw[if_pos hp,if_pos (h.1 hp)]
 ·rw[if_neg hp,if_neg (λhq=>hp (h.2 hq))]
theorem qfp(h:224<=b0/\b0<240)(h1:b1<256)(h2:b2<256)(Z:lo=if b0=224 then 160 else 128)(O:hi=if b0=237 then 159 else 191):Lib.decodeN n b0 b1 b2 b3=
  if 3<=n/\(lo<=b1/\b1<=hi)/\128<=b2/\b2<=191 then(((b0-224)*64+(b1-128))*64+(b2-128),3)else(65533,1):=by
 rw[qfl h h1 h2]
 refine ifc ?_
 split at Z <;> split at O <;> omega
theorem qfq(h:240<=b0/\b0<245)(h1:b1<256)(h2:b2<256)(h3:b3<256)(O:lo=if b0=240 then 144 else 128)(Z:hi=if b0=244 then 143 else 191):Lib.decodeN n b0 b1 b2 b3=
  if 4<=n/\(lo<=b1/\b1<=hi)/\(128<=b2/\b2<=191)/\128<=b3/\b3<=191 then((((b0-240)*64+(b1-128))*64+(b2-128))*64+(b3-128),4)else(65533,1):=by
 rw[qfm h h1 h2 h3]
 refine ifc ?_
 split at O <;> split at Z <;> omega
theorem ok3(h:m≠[])(hb:224<=bN m 0/\bN m 0<240)(Z:lo=if bN m 0=224 then 160 else 128)(O:hi=if bN m 0=237 then 159 else 191):
  jr m=(decide (3<=m.length/\(lo<=bN m 1/\bN m 1<=hi)/\128<=bN m 2/\bN m 2<=191)&&jr (m.drop 3)):=by
 rw[xp h,zu7 h,qfp hb (J2 m 1) (J2 m 2) Z O]
 by_cases hc:3<=m.length/\(lo<=bN m 1/\bN m 1<=hi)/\128<=bN m 2/\bN m 2<=191
 ·rw[if_pos hc];simp[zi0,hc]
 ·rw[if_neg hc];simp[zi0,hc]
theorem ok4(h:m≠[])(hb:240<=bN m 0/\bN m 0<245)(Z:lo=if bN m 0=240 then 144 else 128)(O:hi=if bN m 0=244 then 143 else 191):
  jr m=(decide (4<=m.length/\(lo<=bN m 1/\bN m 1<=hi)/\(128<=bN m 2/\bN m 2<=191)/\128<=bN m 3/\bN m 3<=191)&&jr (m.drop 4)):=by
 rw[xp h,zu7 h,qfq hb (J2 m 1) (J2 m 2) (J2 m 3) Z O]
 by_cases hc:4<=m.length/\(lo<=bN m 1/\bN m 1<=hi)/\(128<=bN m 2/\bN m 2<=191)/\128<=bN m 3/\bN m 3<=191
 ·rw[if_pos hc];simp[zi0,hc]
 ·rw[if_neg hc];simp[zi0,hc]
set_option maxHeartbeats 2000000 in
theorem zk3{gl:Fr}(hg:Tabs gl){l:Bs}(hl:l.length<=4611686018427387904){R:Bool->Prop}(h:R (jr l)):PC Tp gl 141 [Arg.mk .str (bl l)] [.bool] R:=by
 apply Ym
 refine⟨λs=>∃m:Bs,s=bl m/\jr m=jr l/\m.length<=l.length,λs=>s.size,⟨l,rfl,rfl,Ae _⟩,?_⟩
 rintro s ⟨m,rfl,hm,ay⟩
 simp only[zj,zu6,show(0:Int).toNat=0 from rfl,zxs (l:=m) (n:=1) (k:=1) rfl,zxs (l:=m) (n:=2) (k:=2) rfl,zxs (l:=m) (n:=3) (k:=3) rfl,zxs (l:=m) (n:=4) (k:=4) rfl]
 refine⟨λhc=>?_,λhc=>?_⟩
 rotate_left
 ·have:m=[]:=by
   have:¬(m.length:Int)>0:=by simpa using hc
   exact Av (by omega)
  subst this
  rw[zd8]at hm
  rw[<-hm]at h;exact h
 have hp:0<m.length:=by simp at hc;omega
 have O:m≠[]:=A3.1 hp
 refine⟨by omega,λha=>⟨by omega,?_⟩,λha=>?_⟩
 ·have hb:bN m 0<128:=by simp at ha;omega
  obtain⟨c,t,rfl⟩:=Co O
  simp only[List.drop_one,List.tail_cons]
  have ax:jr t=jr l:=by rw[<-hm];exact(Zk hb).symm
  simp only[Ay]at ay ⊢
  simp only[zxs (l:=t) (n:=8) (k:=8) rfl,zj]
  refine⟨λr=>r=(Qy t:Int),λhq=>zcn (by simp at hq;omega) rfl,λr hr=>⟨λhx=>?_,λhx=>⟨⟨t,rfl,ax,by omega⟩,by omega⟩⟩⟩
  have h8:8<t.length:=by
   cases hd:decide ((t.length:Int)>8)with
   |true=>simp at hd;omega
   |false=>rw[hd]at hx;cases hx
  have aj:decide ((t.length:Int)>8)=true:=by simp;omega
  have aB:=hr aj
  rw[aj,cond_true,aB,show(9259542123273814144:Int)=((MASK:Nat):Int)from rfl,z99 (ji t) (by decide)]at hx
  have hz:Qy t &&& MASK=0:=by
   have:((Qy t &&& MASK:Nat):Int)=0:=by simpa using hx
   omega
  have al:jr (t.drop 8)=jr l:=by rw[<-ax,Qb (by omega) hz]
  have aM:(t.drop 8).length+8=t.length:=by simp;omega
  generalize t.drop 8=u at *
  simp only[zxs (l:=u) (n:=8) (k:=8) rfl,zxs (l:=u) (n:=16) (k:=16) rfl]
  refine⟨by omega,λhq=>by simp at hq;omega,λr=>r=(Qy u:Int),λhq=>zcn (by simp at hq;omega) rfl,λaQ ak=>⟨λr=>r=(Qy (u.drop 8):Int),λhq=>zcn (by simp at hq ⊢;omega) rfl,λaV ap=>⟨λaf=>?_,λaf=>⟨⟨u,rfl,al,by omega⟩,by omega⟩⟩⟩⟩
  have aY:16<u.length:=by
   cases hd:decide ((u.length:Int)>16)with
   |true=>simp at hd;omega
   |false=>rw[hd]at af;cases af
  have ae:decide ((u.length:Int)>16)=true:=by simp;omega
  rw[ae,cond_true,ak ae,ap ae,z03 (ji _) (ji _),show(9259542123273814144:Int)=((MASK:Nat):Int)from rfl,z99 (D9 (n:=64) (ji _) (ji _)) (by decide)]at af
  have aC:(Qy u ||| Qy (u.drop 8)) &&& MASK=0:=by
   have:(((Qy u ||| Qy (u.drop 8)) &&& MASK:Nat):Int)=0:=by simpa using af
   omega
  obtain⟨z1,z2⟩:=zn8 aC
  have aF:jr (u.drop 16)=jr l:=by
   rw[<-al,Qb (by omega) z1,Qb (l:=u.drop 8) (by simp;omega) z2,Cd]
  refine⟨by omega,λs=>∃m':Bs,s=bl m'/\jr m'=jr l/\m'.length<(c::t).length,λs=>s.size,⟨u.drop 16,rfl,aF,by simp;omega⟩,?_⟩
  rintro s ⟨v,rfl,hv,aD⟩
  simp only[Ay]at aD
  simp only[zj,zxs (l:=v) (n:=8) (k:=8) rfl,zxs (l:=v) (n:=16) (k:=16) rfl,zxs (l:=v) (n:=24) (k:=24) rfl,zxs (l:=v) (n:=32) (k:=32) rfl]
  refine⟨λhq=>by simp at hq;omega,λhq=>by simp at hq;omega,λhq=>by simp at hq;omega,λr=>r=(Qy v:Int),λhq=>zcn (by simp at hq;omega) rfl,λaT ar=>⟨λr=>r=(Qy (v.drop 8):Int),λhq=>zcn (by simp at hq ⊢;omega) rfl,λaU au=>
   ⟨λr=>r=(Qy (v.drop 16):Int),λhq=>zcn (by simp at hq ⊢;omega) rfl,λaP am=>⟨λr=>r=(Qy (v.drop 24):Int),λhq=>zcn (by simp at hq ⊢;omega) rfl,λaN an=>⟨λZ=>?_,λZ=>⟨⟨v,rfl,hv,by omega⟩,by omega⟩⟩⟩⟩⟩⟩
  have aS:32<v.length:=by
   cases hd:decide ((v.length:Int)>32)with
   |true=>simp at hd;omega
   |false=>rw[hd]at Z;cases Z
  have aa:decide ((v.length:Int)>32)=true:=by simp;omega
  have o2:∀a b:Nat,a<18446744073709551616->b<18446744073709551616->a ||| b<18446744073709551616:=λa b ha hb=>D9 (n:=64) ha hb
  rw[aa,cond_true,ar aa,au aa,am aa,an aa,z03 (ji _) (ji _),z03 (ji _) (ji _),z03 (o2 _ _ (ji _) (ji _)) (o2 _ _ (ji _) (ji _)),show(9259542123273814144:Int)=((MASK:Nat):Int)from rfl,
   z99 (o2 _ _ (o2 _ _ (ji _) (ji _)) (o2 _ _ (ji _) (ji _))) (by decide)]at Z
  have aH:((Qy v ||| Qy (v.drop 8)) ||| (Qy (v.drop 16) ||| Qy (v.drop 24))) &&& MASK=0:=by
   have:((((Qy v ||| Qy (v.drop 8)) ||| (Qy (v.drop 16) ||| Qy (v.drop 24))) &&& MASK:Nat):Int)=0:=by simpa using Z
   omega
  obtain⟨y1,y2⟩:=zn8 aH
  obtain⟨x1,x2⟩:=zn8 y1
  obtain⟨x3,x4⟩:=zn8 y2
  refine⟨by omega,⟨v.drop 32,rfl,?_,by simp;omega⟩,by simp;omega⟩
  rw[<-hv,Qb (by omega) x1,Qb (l:=v.drop 8) (by simp;omega) x2,Cd,Qb (l:=v.drop (8+8)) (by simp;omega) x3,Cd,Qb (l:=v.drop (8+8+8)) (by simp;omega) x4,Cd]
 ·have hb:128<=bN m 0:=by simp at ha;omega
  have aE:=J2 m 0
  have hX:=Lib.firstT_cases (bN m 0)
  have aO:=J2 m 1;have aL:=J2 m 2;have aJ:=J2 m 3
  refine⟨by omega,(Lib.firstT (bN m 0):Int),by simpa using hg.first aE,?_⟩
  obtain⟨i,lo,hi,k,e2,e3,e4,e5,e6,k1,k2,k3,k4,hk⟩:∃i lo hi k:Nat,((Lib.firstT (bN m 0):Int).fdiv (2 ^ 4))=(i:Int)/\i<16/\Lib.accLo i=lo/\Lib.accHi i=hi /\
    (Aa .i64 (Aa .u8 (((Aw (Ap .u8) (Lib.firstT (bN m 0):Int)) &&& (Aw (Ap .u8) 7)).toNat:Int)):Int)=(k:Int) /\
    (k=1->jr m=false)/\(k=2->jr m=(decide (2<=m.length/\lo<=bN m 1/\bN m 1<=hi)&&jr (m.drop 2))) /\
    (k=3->jr m=(decide (3<=m.length/\(lo<=bN m 1/\bN m 1<=hi)/\128<=bN m 2/\bN m 2<=191)&&jr (m.drop 3))) /\
    (k=4->jr m=(decide (4<=m.length/\(lo<=bN m 1/\bN m 1<=hi)/\(128<=bN m 2/\bN m 2<=191)/\128<=bN m 3/\bN m 3<=191)&&jr (m.drop 4)))/\(k=1\/k=2\/k=3\/k=4):=by
   have az:∀v,Lib.firstT (bN m 0)=v->(v=241->(128<=bN m 0/\bN m 0<194)\/(245<=bN m 0/\bN m 0<256))/\(v=2->194<=bN m 0/\bN m 0<224)/\(v=19->bN m 0=224)/\(v=3->(225<=bN m 0/\bN m 0<240/\bN m 0≠237))/\(v=35->bN m 0=237)/\(v=52->bN m 0=240)/\(v=4->241<=bN m 0/\bN m 0<244)/\(v=68->bN m 0=244)/\v≠240:=by
    intro v hv
    unfold Lib.firstT at hv
    repeat' split at hv
    all_goals omega
   have cl:=az _ rfl
   rcases hX with hX|hX|hX|hX|hX|hX|hX|hX|hX
   ·exact absurd hX cl.2.2.2.2.2.2.2.2
   ·exact⟨15,0,0,1,by rw[hX];decide,(by decide),rfl,rfl,by rw[hX];decide,(λ_=>ok0 O (cl.1 hX)),(λe=>by omega),(λe=>by omega),(λe=>by omega),(by omega)⟩
   ·exact⟨0,128,191,2,by rw[hX];decide,(by decide),rfl,rfl,by rw[hX];decide,(λe=>by omega),(λ_=>ok2 O (cl.2.1 hX)),(λe=>by omega),(λe=>by omega),(by omega)⟩
   ·have c:=cl.2.2.1 hX
    exact⟨1,160,191,3,by rw[hX];decide,(by decide),rfl,rfl,by rw[hX];decide,(λe=>by omega),(λe=>by omega),(λ_=>ok3 O (by omega) (by rw[if_pos c]) (by rw[if_neg (by omega)])),(λe=>by omega),(by omega)⟩
   ·have c:=cl.2.2.2.1 hX
    exact⟨0,128,191,3,by rw[hX];decide,(by decide),rfl,rfl,by rw[hX];decide,(λe=>by omega),(λe=>by omega),(λ_=>ok3 O (by omega) (by rw[if_neg (by omega)]) (by rw[if_neg (by omega)])),(λe=>by omega),(by omega)⟩
   ·have c:=cl.2.2.2.2.1 hX
    exact⟨2,128,159,3,by rw[hX];decide,(by decide),rfl,rfl,by rw[hX];decide,(λe=>by omega),(λe=>by omega),(λ_=>ok3 O (by omega) (by rw[if_neg (by omega)]) (by rw[if_pos c])),(λe=>by omega),(by omega)⟩
   ·have c:=cl.2.2.2.2.2.1 hX
    exact⟨3,144,191,4,by rw[hX];decide,(by decide),rfl,rfl,by rw[hX];decide,(λe=>by omega),(λe=>by omega),(λe=>by omega),(λ_=>ok4 O (by omega) (by rw[if_pos c]) (by rw[if_neg (by omega)])),(by omega)⟩
   ·have c:=cl.2.2.2.2.2.2.1 hX
    exact⟨0,128,191,4,by rw[hX];decide,(by decide),rfl,rfl,by rw[hX];decide,(λe=>by omega),(λe=>by omega),(λe=>by omega),(λ_=>ok4 O (by omega) (by rw[if_neg (by omega)]) (by rw[if_neg (by omega)])),(by omega)⟩
   ·have c:=cl.2.2.2.2.2.2.2.1 hX
    exact⟨4,128,143,4,by rw[hX];decide,(by decide),rfl,rfl,by rw[hX];decide,(λe=>by omega),(λe=>by omega),(λe=>by omega),(λ_=>ok4 O (by omega) (by rw[if_neg (by omega)]) (by rw[if_pos c])),(by omega)⟩
  generalize Lib.firstT (bN m 0)=x at *
  rw[e2,e6]
  have ac:=hg.acc e3
  rw[e4,e5]at ac
  simp only[show(1:Int).toNat=1 from rfl,show(2:Int).toNat=2 from rfl,show(3:Int).toNat=3 from rfl]
  have ah:jr m=false->R false:=λe=>by rw[<-hm,e]at h;exact h
  refine⟨by omega,(lo:Int),by simpa using ac.1,(hi:Int),by simpa using ac.2,?_,?_⟩
  ·intro hx
   have aA:k=2:=by simp at hx;omega
   have q:=k2 aA
   refine⟨λhy=>by simp at hy;omega,λhy=>by simp at hy;omega,λhy=>ah ?_,λhy=>?_⟩
   ·simp only[Bn,Cr,decide_eq_true_eq]at hy
    rw[q,decide_eq_false (by omega)];rfl
   ·simp only[Bn,Cn,decide_eq_false_iff_not]at hy
    refine⟨by omega,⟨m.drop 2,rfl,?_,by simp;omega⟩,by simp;omega⟩
    rw[<-hm,q,decide_eq_true (by omega)];simp
  ·intro hx
   refine⟨λZ=>?_,λZ=>⟨λai=>?_,λai=>?_⟩⟩
   ·have aG:k=3:=by simp at Z;omega
    have q:=k3 aG
    refine⟨λhy=>by simp at hy;omega,λhy=>by simp at hy;omega,λhy=>by simp at hy;omega,λhy=>by simp at hy;omega,λhy=>ah ?_,λhy=>?_⟩
    ·simp only[Bn,Cr,decide_eq_true_eq]at hy
     rw[q,decide_eq_false (by omega)];rfl
    ·simp only[Bn,Cn,decide_eq_false_iff_not]at hy
     refine⟨by omega,⟨m.drop 3,rfl,?_,by simp;omega⟩,by simp;omega⟩
     rw[<-hm,q,decide_eq_true (by omega)];simp
   ·have aI:k=4:=by simp at ai;omega
    have q:=k4 aI
    refine⟨λhy=>by simp at hy;omega,λhy=>by simp at hy;omega,λhy=>by simp at hy;omega,λhy=>by simp at hy;omega,λhy=>by simp at hy;omega,λhy=>by simp at hy;omega,λhy=>ah ?_,λhy=>?_⟩
    ·simp only[Bn,Cr,decide_eq_true_eq]at hy
     rw[q,decide_eq_false (by omega)];rfl
    ·simp only[Bn,Cn,decide_eq_false_iff_not]at hy
     refine⟨by omega,⟨m.drop 4,rfl,?_,by simp;omega⟩,by simp;omega⟩
     rw[<-hm,q,decide_eq_true (by omega)];simp
   ·refine ah (k1 ?_)
    simp at hx Z ai;omega
end
end Go.X
end
section
namespace Go.X
open Go Go.Lib
section
variable {v:Tr} {l:List Tr} {k:Nat}
mutual
def tsz:Tr->Nat | .mk _ _ _ xs=>1+xj xs
def xj:List Tr->Nat | []=>0|x::l=>tsz x+xj l
end
mutual
def tdp:Tr->Nat | .mk _ _ _ xs=>zgi xs+1
def zgi:List Tr->Nat | []=>0|x::l=>max (tdp x) (zgi l)
end
mutual
def Yf(p:Tr->Bool):Tr->Bool | .mk k s ks xs=>p (.mk k s ks xs)&&zxt p xs
def zxt(p:Tr->Bool):List Tr->Bool | []=>true|x::l=>Yf p x&&zxt p l
end
mutual
def txB(m:Nat):Tr->Prop | .mk _ s ks xs=>(s.size<=m/\ks.length<=m/\∀k∈ks,k.size<=m)/\z3s m xs
def z3s(m:Nat):List Tr->Prop | []=>True|x::l=>txB m x/\z3s m l
end
theorem j5(v:Tr):tsz v=1+xj v.items:=by cases v;rw[tsz]
theorem zu8(v:Tr):tdp v=zgi v.items+1:=by cases v;rw[tdp]
theorem zjd(p:Tr->Bool)(v:Tr):Yf p v=(p v&&zxt p v.items):=by cases v;rw[Yf]
theorem J3(m:Nat)(v:Tr):txB m v↔(v.text.size<=m/\v.keys.length<=m/\∀k∈v.keys,k.size<=m)/\z3s m v.items:=by cases v;rw[txB]
theorem Ja{m:Nat}:∀{l:List Tr},z3s m l↔∀x∈l,txB m x
 |[]=>by simp[z3s]
 |x::l=>by rw[z3s,Ja];simp
theorem Q8{m:Nat}{v x:Tr}(h:txB m v)(hx:x∈v.items):txB m x:=Ja.1 ((J3 m v).1 h).2 x hx
theorem zac(p:Tr->Bool):∀l:List Tr,zxt p l=l.all (Yf p)
 |[]=>rfl
 |x::l=>by rw[zxt,zac p l];rfl
theorem y7:∀a b:List Tr,xj (a++b)=xj a+xj b
 |[],b=>by simp[xj]
 |x::l,b=>by rw[A5,xj,xj,y7 l b];omega
theorem zje:∀a b:List Tr,zgi (a++b)=max (zgi a) (zgi b)
 |[],b=>by simp[zgi]
 |x::l,b=>by rw[A5,zgi,zgi,zje l b];omega
theorem zu9{x:Tr}:∀{l:List Tr},x∈l->tsz x<=xj l
 |y::l,h=>by
  rw[xj]
  rcases Af.1 h with rfl|h
  ·omega
  ·have:=zu9 h;omega
theorem jj{v x:Tr}(h:x∈v.items):tsz x<tsz v:=by
 have:=zu9 h
 rw[j5 v];omega
theorem Zw:∀l:List Tr,l.length<=xj l
 |[]=>by simp[xj]
 |x::l=>by
  have:=Zw l
  rw[xj,Ay,j5];omega
theorem zn9(v:Tr):0<tsz v:=by rw[j5];omega
theorem zq0(hk:k<l.length):xj (l.take (k+1))=xj (l.take k)+tsz l[k]:=by
 rw[Ag hk,y7];simp[xj]
theorem zq1(hk:k<l.length):zgi (l.take (k+1))=max (zgi (l.take k)) (tdp l[k]):=by
 rw[Ag hk,zje];simp[zgi]
mutual
theorem qde:∀v:Tr,tdp v<=tsz v
 |.mk _ _ _ xs=>by rw[tdp,tsz];have:=zoa xs;omega
theorem zoa:∀l:List Tr,zgi l<=xj l
 |[]=>by simp[zgi]
 |x::l=>by rw[zgi,xj];have:=qde x;have:=zoa l;omega
end
def jy(ks:List Bt):Bool:=ks.all (λk=>jr (lb k))&&decide ks.Nodup
def zq2(s:Bs):Nm×Bool:=((qt s).1,(qt s).2==0&&decide (Yq (qt s).1=s))
def zva(s:Bs):Bool:=(zq2 s).2&&(zxm (zq2 s).1).2&&decide (0<=(zxm (zq2 s).1).1)
def zv(v:Tr):Bool:=
 if v.kind=1 then lb v.text==[]&&v.keys.isEmpty&&v.items.isEmpty
 else if v.kind=2 then(lb v.text==[116,114,117,101]||lb v.text==[102,97,108,115,101])&&v.keys.isEmpty&&v.items.isEmpty
 else if v.kind=3 then(zq2 (lb v.text)).2&&v.keys.isEmpty&&v.items.isEmpty
 else if v.kind=4 then jr (lb v.text)&&v.keys.isEmpty&&v.items.isEmpty
 else if v.kind=5 then lb v.text==[]&&v.keys.isEmpty
 else if v.kind=6 then jy v.keys&&decide (v.keys.length=v.items.length)&&lb v.text==[]
 else if v.kind=7 then zva (lb v.text)&&v.keys.isEmpty&&v.items.isEmpty
 else false
def Z3(v:Tr):Bool:=decide (tsz v<=4096)&&decide (tdp v<=32)
def yg(v:Tr):Bool:=Z3 v&&Yf zv v
def qe(v:Tr):Bool:=Z3 v&&Yf (λx=>decide (x.kind≠7)&&zv x) v
structure Sm (v:Tr):Prop where
 sz:tsz v<=1000000000000
 tx:txB 1048576 v
theorem Sm.item{v x:Tr}(h:Sm v)(hx:x∈v.items):Sm x:=⟨by have:=jj hx;have:=h.sz;omega,Q8 h.tx hx⟩
theorem Sm.text(h:Sm v):(lb v.text).length<=1048576:=by rw[Yo];exact((J3 _ v).1 h.tx).1.1
theorem Sm.key(h:Sm v){k:Bt}(hk:k∈v.keys):(lb k).length<=1048576:=by rw[Yo];exact((J3 _ v).1 h.tx).1.2.2 k hk
theorem Sm.keys(h:Sm v):v.keys.length<=1048576:=((J3 _ v).1 h.tx).1.2.1
theorem Sm.items(h:Sm v):v.items.length<=1000000000000:=by have:=Zw v.items;have:=h.sz;rw[j5]at this;omega
end
end Go.X
end
section
namespace Go.X
section
variable {gl:Fr} {l:Bs} {R:Bool -> Prop}
theorem zvb(hg:Tabs gl)(hl:l.length<=4611686018427387904){R:Int×Bool->Prop}(h:∀k,R (k,jr l)):PC Tp gl 113 [Arg.mk .str (bl l)] [.int .i64,.bool] R:=by
 apply zkt
 refine zk3 hg hl ⟨λhx=>?_,λhx=>?_⟩
 ·have:=h ((bl l).size:Int);rw[hx]at this;exact this
 ·refine⟨λp=>p.1=bl l/\p.2<=l.length/\jr (l.drop p.2)=false,λp=>l.length-p.2,⟨rfl,by omega,by simpa using hx⟩,?_⟩
  rintro⟨_,p⟩ ⟨rfl,hp,h2⟩
  simp only at hp h2 ⊢
  rw[zqt,zu1]
  refine⟨λhc=>⟨hc,hc,λhq=>?_,λhq=>⟨?_,?_⟩⟩,λhc=>?_⟩
  ·have Z:p<l.length:=by simpa using hc
   have O:l.drop p≠[]:=λe=>by have:=congrArg Bb e;simp at this;omega
   have hb:zi0 (dec (l.drop p))=false:=by
    unfold zi0
    have:¬(dec (l.drop p)).1=65533:=λe=>by rw[e]at hq;simp at hq
    simp[this]
   rw[xp O,hb]at h2
   simp only[AW,if_false,Cd]at h2
   rw[zmd l p Z]
   have hw:=Ql (l.drop p);have ac:=zuy O
   simp only[AY]at ac
   exact⟨⟨trivial,by omega,h2⟩,by omega⟩
  ·have Z:p<l.length:=by simpa using hc
   rw[zj];omega
  ·have Z:p<l.length:=by simpa using hc
   have O:l.drop p≠[]:=λe=>by have:=congrArg Bb e;simp at this;omega
   rw[zj,zxs (k:=p) rfl]
   refine z0w hg ?_
   have ae:(bl (l.drop p)).size≠0:=by rw[zj];simp;omega
   have hd:Lib.decodeGo (bl (l.drop p))=dec (l.drop p):=by
    unfold Lib.decodeGo
    rw[if_neg ae,z0e,wh,A2]
   rw[hd]
   refine⟨λaa=>?_,λaa=>?_⟩
   ·have:=h (p:Int)
    have hu:jr l=false:=hx
    rw[hu]at this;exact this
   ·have hb:zi0 (dec (l.drop p))=false:=by
     unfold zi0
     have:¬(dec (l.drop p)).2=1:=λe=>by rw[e]at aa;simp at aa
     simp[this]
    rw[xp O,hb]at h2
    simp only[AW,if_false,Cd]at h2
    rw[zmd l p Z]
    have hw:=Ql (l.drop p);have ac:=zuy O
    simp only[AY]at ac
    exact⟨⟨trivial,by omega,h2⟩,by omega⟩
  ·have:l.drop p=[]:=A6 (by(have:¬p<l.length:=by simpa using hc);omega)
   rw[this,zd8]at h2;cases h2
theorem zvc(hg:Tabs gl)(hl:l.length<=4611686018427387904)(h:R (jr l)):PC Tp gl 75 [Arg.mk .str (bl l)] [.bool] R:=by
 apply zgs
 exact zvb hg hl λk=>h
theorem zq3(hg:Tabs gl)(hl:l.length<=4611686018427387904)(h:R (jr l)):PC Tp gl 84 [Arg.mk .str (bl l)] [.bool] R:=by
 apply zkw
 exact zvb hg hl λk=>h
theorem zjf(hl:l.length<=4611686018427387904){R:Int×Bool->Prop}(h:∀k,R (k,jr l)):PC Tp gl 76 [Arg.mk .str (bl l)] [.int .i64,.bool] R:=
 zsw (by rw[zj];omega) λk=>by rw[wh];exact h k
theorem z7x(hl:l.length<=4611686018427387904)(h:R (jr l)):PC Tp gl 139 [Arg.mk .str (bl l)] [.bool] R:=by
 apply zfk
 exact zjf hl λk=>h
structure GL (gl:Fr):Prop where
 tabs:Tabs gl
 pow:Pow gl
 max:zmc gl
 err:zsy gl
theorem Qm(s:Bs)(hs:s.length<=1152921504606846976):(qt s).1.2.1.length<=4611686018427387904:=by
 unfold qt
 split
 ·simp
 ·rename_i x hx
  have h1:=zfq hx
  split
  ·simp
  ·split
   ·simp
   ·simp only
    generalize (if x.low=true then-(zi (x.exp.dropWhile (· == 48)):Int)else zi (x.exp.dropWhile (· == 48)))=e
    split
    ·simp
    ·rename_i O
     have h2:(js (x.whole++x.rest)).length<=(x.whole++x.rest).length:=by
      unfold js
      rw[List.length_reverse]
      refine Nat.le_trans (xf _ _) ?_
      rw[List.length_reverse]
      exact xf _ _
     rw[Ao]at h2
     split
     ·show(js (x.whole++x.rest)).length<=_;omega
     ·simp
theorem zco(hg:GL gl){s:Bs}(hs:s.length<=1152921504606846976){R:(Bool×Bt×Int)×Bool->Prop}(h:R (nmB (zq2 s).1,(zq2 s).2)):PC Tp gl 83 [Arg.mk .str (bl s)] [tN,.bool] R:=by
 apply zgu
 refine zu5 hs ?_
 refine⟨λt=>t=bl (Yq (qt s).1),λ_=>z0y hg.pow (Qm s hs) rfl,λr hr=>?_⟩
 have e:(bif ((qt s).2==0)then(r.toList==(bl s).toList)else false)=(zq2 s).2:=by
  unfold zq2
  cases hc:((qt s).2==0)with
  |false=>rfl
  |true=>
   rw[hr hc,cond_true,zcl];rfl
 simp only at e ⊢
 rw[e];exact h
theorem zs7{s:Bs}(hs:s.length<=1152921504606846976){R:(Bool×Bt×Int)×Bool->Prop}(h:R (nmB (zq2 s).1,(zq2 s).2)):PC Tp gl 138 [Arg.mk .str (bl s)] [tN,.bool] R:=by
 apply X1
 refine zs4 hs ?_
 refine⟨λt=>t=bl (Yq (qt s).1),λ_=>zxq (Qm s hs) rfl,λr hr=>?_⟩
 have e:(bif ((qt s).2==0)then(r.toList==(bl s).toList)else false)=(zq2 s).2:=by
  unfold zq2
  cases hc:((qt s).2==0)with
  |false=>rfl
  |true=>
   rw[hr hc,cond_true,zcl];rfl
 simp only at e ⊢
 rw[e];exact h
theorem qab(n:Nat):Lib.repeatL [48] n=Er n 48:=by
 induction n with
 |zero=>rfl
 |succ n ih=>rw[Lib.repeatL,ih];rfl
theorem qdf(hg:GL gl){n:Nm}(hn:n.2.1.length<=4611686018427387904){R:Int×Bool->Prop}(h:R (zxm n)):PC Tp gl 119 [Arg.mk tN (nmB n)] [.int .i64,.bool] R:=by
 apply znp
 refine zn6 hn ?_
 unfold zxm at h
 cases hr:yo n with
 |false=>
  rw[hr]at h
  exact⟨λ_=>by simpa using h,λhx=>by simp at hx⟩
 |true=>
  obtain⟨hl,aj,al⟩:=Wz hr
  rw[hr]at h
  simp only[Bi]at h
  simp only[zj]
  rw[w64 (by omega)]
  refine⟨λhx=>?_,λhx=>?_⟩
  ·rw[if_neg]at h
   ·exact h
   ·simp at hx ⊢;omega
  ·have ak:0<=n.2.2/\(n.2.1.length:Int)+n.2.2<=19:=by simp at hx;omega
   rw[if_pos (by simp;omega)]at h
   rw[<-zmf]at h
   obtain⟨e,hE⟩:∃e:Nat,n.2.2=(e:Int):=⟨n.2.2.toNat,by omega⟩
   show PC Tp gl 146 [Arg.mk .str (bl [48]),Arg.mk (.int .i64) n.2.2] [.str] _
   rw[hE]
   refine z0v (by omega) (by rw[zj];simp;omega) ?_
   rw[wh,qab,jh]
   have ae:n.2.1++Er e 48=xh n:=by rw[xh,hE,Ad]
   have ac:(xh n).length<=19:=by rw[<-ae];simp;omega
   have ah:=zmg hr
   rw[ae]
   refine⟨zgx (a:=n.2.1) (by rw[List.length_replicate];omega),?_⟩
   rw[show(⟨#[]⟩:Bt)=bl []from rfl,show(⟨#[45]⟩:Bt)=bl [45]from rfl]
   simp only[jh]
   intro K hK
   have key:∀t:Bs,t=(if n.1 then [45]else [])++xh n->K (bl t):=by
    intro t ht
    refine hK _ ⟨λhz=>?_,λhz=>?_⟩
    ·have ai:t=[]:=by
      have:=zcl t []
      rw[this]at hz;simpa using hz
     rw[ai]at ht
     have af:n.1=false:=by cases hb:n.1 <;> simp[hb]at ht;rfl
     have Z:xh n=[]:=by simp[af]at ht;exact ht
     rw[af,Z]at h
     exact h
    ·have aa:t≠[]:=by
      intro e;rw[e,zcl]at hz;simp at hz
     refine zsz hg.err (by rw[zj,ht];split <;> simp <;> omega) ?_
     rw[wh,ht]
     have Z:xh n≠[]:=by
      intro e0
      cases hb:n.1 with
      |false=>rw[ht,hb,e0]at aa;exact aa rfl
      |true=>
       have hd:n.2.1=[]:=by rw[xh]at e0;exact(List.append_eq_nil_iff.1 e0).1
       have:=zi7 hr hd
       unfold Xc at this;rw[hb]at this;simp at this
     unfold zi6
     rw[z02 n.1 ah ac Z]
     cases hb:n.1 with
     |true=>
      rw[hb]at h
      simp only[if_true]at h ⊢
      by_cases hv:zi (xh n)<=9223372036854775808
      ·rw[if_pos (by omega)]at h
       rw[if_pos hv]
       exact⟨λhq=>(by cases hq),λ_=>h⟩
      ·rw[if_neg (by omega)]at h
       rw[if_neg hv]
       exact⟨λ_=>h,λhq=>(by cases hq)⟩
     |false=>
      rw[hb]at h
      simp only[AW,if_false]at h ⊢
      by_cases hv:zi (xh n)<=9223372036854775807
      ·rw[if_pos (by omega)]at h
       rw[if_pos hv]
       exact⟨λhq=>(by cases hq),λ_=>h⟩
      ·rw[if_neg (by omega)]at h
       rw[if_neg hv]
       exact⟨λ_=>h,λhq=>(by cases hq)⟩
   refine⟨λO=>⟨zgx (a:=[45]) (by simp;omega),?_⟩,λO=>?_⟩
   ·exact key _ (by rw[if_pos (by simpa using O)])
   ·exact key _ (by rw[if_neg (by simpa using O)];rfl)
end
end Go.X
end
section
namespace Go.Proofs.YtbploiccompocaaGreatDoor
open Go Go.X Go.ChangeShapes Go.WideShapes Go.ChangeAt Go.RowKit Go.Lib
open Go.ChangeMaps (open_string shut_string)
set_option linter.unusedVariables false
section
variable {H:Type} {g:Nat} {t:TypeId} {held:Bool}
theorem Tryz.own:ownKnob AK.godebug=none:=by kernel_rfl
theorem Tryz.laidOut:laidOutB AK=true:=by kernel_rfl
theorem zob{enc:TypeId×Value->H}{a:Assume}{C:Checked}{os:Os}{f:FuncId}{fn:Func}{s:ChangeSpec}{aj:List PathCond}{apart ai aa ah:Bool}{X:World->Array Value->Prop}
  (hX:∀(w w':World) (args:Array Value),w.heap=w'.heap->X w args->X w' args)
  (own:ownKnob C.prog.godebug=none) (ae:os.Started) (ak:C.prog.inits.idxOf? f=none) (ar:C.prog.funcs[f]?=some fn)
  (af:∃(w:World) (O:Tape) (i:Input),w.os=os/\(w.forCall O i).Shaped C.prog/\i.vars=[]/\Input.okWide C.prog (w.forCall O i) .any w.heap.size f i /\
   ((s.pre enc C.prog fn aj apart (w.forCall O i).memory i.args/\X (w.forCall O i).memory i.args)/\sizedMet enc C.prog fn (OpenSpec.ofChange s) apart (w.forCall O i).memory i.args)/\a.holds C.prog (lone (Frame.enter C.prog f i.args .normal) [] (w.forCall O i)))
  (ac:∀(W:World) (base:Nat) (args:Array Value) (ds gs:List (DataW H)) (Z:List MemPlace),
   (∀(j:Nat) t v,fn.params[j]?=some t->args[j]?=some v->Value.okWide C.prog W .any base t v) ->
   DataW.Whole enc C.prog fn.params.toList s.vars apart W args.toList ds gs Z ->
   (DataW.weightsEach C.prog (fn.params.toList++s.plain.varTypes C.prog) (ds++gs)).all (·<=reachBytes)=true ->
   X W args->W.ShapedOpen C.prog ->
   Calls C.prog f args W λe W'=>∃v,e=.returned v/\s.post enc C.prog fn apart ai aa ah W args v W'):
  ReturnsInHanded a C os f .any (λw args=>(s.pre enc C.prog fn aj apart w args/\X w args)/\sizedMet enc C.prog fn (OpenSpec.ofChange s) apart w args) (s.post enc C.prog fn apart ai aa ah):=by
 refine returnsInHanded_of_calls own ae ak af ?_
 intro w O i _ ax _ az an ap
 obtain⟨_,_,_,ay,am,_,_,_,_,al⟩:=az
 have e:ay=fn:=Ax (am.symm.trans ar)
 subst e
 obtain⟨⟨⟨ds,gs,Z,hw,hc⟩,hx⟩,hz⟩:=an
 have au:=DataW.Whole.of_heap (w':=w.forCall O i) (by rfl) hw
 refine(ac (w.forCall O i) w.heap.size i.args ds gs Z al au (hz.weights hw) (hX _ _ _ (by rfl) hx) ax).mono λe W' ⟨v,he,hp⟩=>?_
 subst he
 exact ChangeSpec.post_blind hp
theorem z7y{P:Program}{W:World}{n:String}{k:IntKind}{zs:List Int}{t e:TypeId}{m:Nat}(hg:P.globalNamed n=some g)(ht:(P.globals[g]?).map (·.type)=some t)(hu:P.underlying t=some (.array m e))(he:P.underlying e=some (.int k))
  (Z:P.cellsOf e=1) (ae:P.cellsOf t=m) (h:VarReads P W n (tabData k zs)):∃cs:Array Value,Fz W g=some cs/\cs.toList=zs.map λz=>E5 k z:=by
 obtain⟨g',t',cs,fuel,p,aa,ac,O,hd⟩:=h
 obtain rfl:=Ax (hg.symm.trans aa)
 obtain rfl:=Ax (ht.symm.trans ac)
 exact⟨cs,Fz.var hg O,cells_of_tab hu he Z ae hd⟩
theorem z5t{W : World}(h : VarReads Tryz.prog W "unicode/utf8.first" Pinned.utf8First): ∃ cs : Array Value, Fz W 0 = some cs ∧ ∀ c, c < 256 → cs[c]? = some (.int .u8 (Lib.firstT c)) := by
 rw[Pinned.utf8First_eq]at h
 obtain⟨cs,h1,h2⟩:=z7y (g:=0) (t:=172) (e:=5) (m:=256) (by kernel_rfl) (by kernel_rfl) (by kernel_rfl) (by kernel_rfl) (by kernel_rfl) (by kernel_rfl) h
 refine⟨cs,h1,λc hc=>?_⟩
 rw[<-A0,h2]
 simp[firstTab,hc]
theorem z05{W : World}(h : VarReads Tryz.prog W "unicode/utf8.acceptRanges" acceptData): ∃ cs : Array Value, Fz W 1 = some cs ∧ ∀ i, i < 16 → cs[2 * i]? = some (.int .u8 (Lib.accLo i)) ∧ cs[2 * i + 1]? = some (.int .u8 (Lib.accHi i)) := by
 obtain⟨g,t,cs,fuel,p,hg,hty,hvar,hd⟩:=h
 obtain rfl := Option.some.inj ((show Tryz.prog.globalNamed "unicode/utf8.acceptRanges" = some 1 by kernel_rfl).symm.trans hg)
 obtain rfl:=Ax ((show(AK.globals[1]?).map (·.type)=some 175 by kernel_rfl).symm.trans hty)
 refine⟨cs,Fz.var hg hvar,λi hi=>?_⟩
 obtain⟨fuel',d,q,hdi,he⟩:=array_elem (show AK.underlying 175=some (.array 16 174)by kernel_rfl) hd i hi
 simp only[B5,List.getElem?_range hi,Option.map_some,Ab]at hdi
 subst hdi
 have hc:AK.cellsOf 174=2:=by kernel_rfl
 have c5:AK.cellsOf 5=1:=by kernel_rfl
 have u5:AK.underlying 5=some (.int .u8):=by kernel_rfl
 rw[hc]at he
 have hcs:=ints_of_struct De (λj f hj=>by
  match j,hj with
  |0,hj=>simp at hj;subst hj;exact⟨u5,rfl,c5⟩
  |1,hj=>simp at hj;subst hj;exact⟨u5,rfl,c5⟩
  |j+2,hj=>simp at hj) (by rw[hc];rfl) he
 have e0:=congrArg (·[0]?) hcs
 have e1:=congrArg (·[1]?) hcs
 simp only[AF,AJ]at e0 e1
 constructor
 ·rw[<-A0]
  simpa[C9]using e0
 ·rw[<-A0]
  simpa[C9]using e1
theorem qdg{W : World}{d : DataW Unit}(hd : d = tabData .u64 Lib.pow10Tab)(h : VarReads Tryz.prog W "internal/strconv.uint64pow10" d): Pow (Fz W) := by
 subst hd
 obtain⟨cs,h1,h2⟩:=z7y (g:=3) (t:=213) (e:=189) (m:=20) (by kernel_rfl) (by kernel_rfl) (by kernel_rfl) (by kernel_rfl) (by kernel_rfl) (by kernel_rfl) h
 exact⟨_,cs,by kernel_rfl,h1,by rw[<-h2]⟩
theorem z7z{W:World}{n:String}{ms:Array (String×TypeId)}{nm:String}{d:DataW Unit}(hg:AK.globalNamed n=some g)(ht:(AK.globals[g]?).map (·.type)=some t)(hu:AK.underlying t=some (.interface ms))(h:VarReads AK W n (.iface nm d)):
  ∃(cs:Array Value) (e:Value),Fz W g=some cs/\cs[0]?=some e/\(e=.nilIface\/∃te pe,e=.iface te pe):=by
 obtain⟨g',t',cs,fuel,p,Z,ac,O,hd⟩:=h
 obtain rfl:=Ax (hg.symm.trans Z)
 obtain rfl:=Ax (ht.symm.trans ac)
 obtain⟨f1,u,v,aa,_,_⟩:=iface_of_trod hu hd
 exact⟨cs,.iface u v,Fz.var hg O,by rw[<-A0,aa];rfl,.inr ⟨u,v,rfl⟩⟩
theorem qdh{W:World}(h:W.ShapedOpen AK):zmc (Fz W):=by
 obtain⟨m,hm⟩:=cell_of_shapedOpen_int (P:=AK) (g:=2) (t:=3) (zero:=#[.int .i64 0]) (k:=.i64) h (by decide +kernel) (by kernel_rfl) rfl (by kernel_rfl) (by kernel_rfl) (by kernel_rfl)
 obtain⟨b,o,c,e,h1,h2⟩:=Fz.cell hm
 cases e
 exact⟨c,m,h1,h2⟩
def zq4:List (String×DataW Unit):=Rows.patchPartsRow.laid
theorem qfr{W:World}(h:laidMetH AK zq4 W)(hs:W.ShapedOpen AK):GL (Fz W):=by
 have hl:laidMet AK zq4 W:=by
  rw[MakeChecks.laidMetH_plain _ _ _ (by kernel_rfl)]at h;exact h
 have hr:∀(i:Nat) (n:String) (d:DataW Unit),zq4[i]?=some (n,d)->VarReads AK W n d:=λi n d e=>Go.Lib.laidMet.reads hl (CF e)
 exact {
  tabs:=⟨z5t (hr 6 _ _ rfl),z05 (by
   have e:(Rows.laid_unicode_utf8_acceptRanges:DataW Unit)=acceptData:=by kernel_rfl
   rw[<-e];exact hr 3 _ _ rfl)⟩
  pow:=qdg (by kernel_rfl) (hr 2 _ _ rfl)
  max:=qdh hs
  err:=⟨z7z (g:=4) (t:=129) (by kernel_rfl) (by kernel_rfl) Dg (hr 5 _ _ rfl),z7z (g:=5) (t:=129) (by kernel_rfl) (by kernel_rfl) Dg (hr 4 _ _ rfl)⟩ }
noncomputable def qfs(os:Os):World:=World.laidAll AK os zq4
theorem zs8(os:Os)(args:Array Value):((qfs os).forCall (λ_ _=>0) ⟨#[],args,[]⟩).Shaped AK:=World.shaped_of_ZipB (by kernel_rfl) (by kernel_rfl)
theorem z5u(os:Os)(args:Array Value):laidMetH AK zq4 ((qfs os).forCall (λ_ _=>0) ⟨#[],args,[]⟩).memory:=by
 rw[MakeChecks.laidMetH_plain _ _ _ (by kernel_rfl)];exact laidMet_laidAll _ (by kernel_rfl) (by kernel_rfl)
theorem z06{enc:TypeId×Value->H}{W:World}{sp:Nat->Bool}(fuel:Nat)(cs:List Value)(x:DataW H×List MemPlace)(h:DataW.trod enc AK W 0 sp held fuel 25 cs=some x)(hw:ziu AK 25 x.1):∃t:Tr,Rd (Fz W) .tree t cs:=
 z9v (tk:=3) (ts:=9) (tss:=22) (tvs:=23) Tryz.underlying25 (by kernel_rfl) ⟨rfl,rfl,rfl,rfl,rfl,rfl,rfl,rfl⟩ (by kernel_rfl) (by kernel_rfl) (by kernel_rfl) (by kernel_rfl) (by kernel_rfl) (by kernel_rfl) (by kernel_rfl) (by kernel_rfl) (by decide +kernel) (by decide +kernel) fuel cs x h hw
theorem z07{enc:TypeId×Value->H}{W:World}{sp:Nat->Bool}{fuel:Nat}{cs:List Value}{x:DataW H×List MemPlace}(h:DataW.trod enc AK W 0 sp held fuel 22 cs=some x)(hw:ziu AK 22 x.1):∃xs:List ByteArray,Rd (Fz W) (.row .str) xs cs:=
 z0c Tryz.underlying22 Bh (by kernel_rfl) (by decide +kernel) h hw
theorem zvd{ts:List TypeId}{ds:List (DataW H)}(h:(DataW.weightsEach AK ts ds).all (·<=reachBytes)=true){j:Nat}{d:DataW H}(ht:ts[j]?=some t)(hd:ds[j]?=some d):ziu AK t d:=λn hn=>by
 have:=AQ.1 h n (DataW.weights_mem_each ht hd n hn)
 simpa using this
end
end Go.Proofs.YtbploiccompocaaGreatDoor
end
section
namespace Go.X
open Go Go.Lib
section
mutual
def tks:Tr->Nat | .mk _ _ ks xs=>1+ks.length+zmh xs
def zmh:List Tr->Nat | []=>0|x::l=>tks x+zmh l
end
theorem qdi(v:Tr):tks v=1+v.keys.length+zmh v.items:=by cases v;rw[tks]
theorem zjg:∀a b:List Tr,zmh (a++b)=zmh a+zmh b
 |[],b=>by simp[zmh]
 |x::l,b=>by rw[A5,zmh,zmh,zjg l b];omega
theorem z08{l:List Tr}{k:Nat}(hk:k<l.length):zmh (l.take (k+1))=zmh (l.take k)+tks l[k]:=by
 rw[Ag hk,zjg];simp[zmh]
mutual
theorem z09:∀v:Tr,tsz v<=tks v
 |.mk k s ks xs=>by rw[tsz,tks];have:=zq5 xs;omega
theorem zq5:∀l:List Tr,xj l<=zmh l
 |[]=>by simp[xj,zmh]
 |x::l=>by rw[xj,zmh];have:=z09 x;have:=zq5 l;omega
end
mutual
def txS:Tr->Prop | .mk _ s ks xs=>(s.size<=2048/\∀k∈ks,k.size<=1024)/\zkj xs
def zkj:List Tr->Prop | []=>True|x::l=>txS x/\zkj l
end
theorem qdj(v:Tr):txS v↔(v.text.size<=2048/\∀k∈v.keys,k.size<=1024)/\zkj v.items:=by cases v;rw[txS]
theorem zve:∀{l:List Tr},zkj l↔∀x∈l,txS x
 |[]=>by simp[zkj]
 |x::l=>by rw[zkj,zve];simp
mutual
theorem z8a:∀(v:Tr),tks v<=1000000->txS v->txB 1048576 v
 |.mk k s ks xs,h,g=>by
  rw[tks]at h;rw[txS]at g;rw[txB]
  exact⟨⟨by omega,by omega,λk hk=>by have:=g.1.2 k hk;omega⟩,z1a xs (by omega) g.2⟩
theorem z1a:∀(l:List Tr),zmh l<=1000000->zkj l->z3s 1048576 l
 |[],_,_=>by rw[z3s];trivial
 |x::l,h,g=>by
  rw[zmh]at h;rw[zkj]at g;rw[z3s]
  exact⟨z8a x (by omega) g.1,z1a l (by omega) g.2⟩
end
theorem Sm.few{v:Tr}(h:tks v<=1000000)(g:txS v):Sm v:=⟨by have:=z09 v;omega,z8a v h g⟩
structure PS (l:List Bt):Prop where
 n:l.length<=200
 s:∀x∈l,(lb x).length<=1024
def qh(l:List Bt):Bool:=decide (l.length<=64)&&l.all λs=>jr (lb s)
def zr0(c:UInt8):Bs:=if c=126 then [126,48]else if c=47 then [126,49]else [c]
def esc(l:Bs):Bs:=l.flatMap zr0
def Xg(l:List Bs):Bs:=l.flatMap λs=>47::esc s
theorem qac(l:Bs):replaceAll (replaceAll l [126] [126,48]) [47] [126,49]=esc l:=by
 rw[Zl (by simp) (by simp),Zl (by simp) (by simp),zhi,zhi,List.flatMap_assoc,esc]
 congr 1
 funext x
 by_cases h:x=126
 ·subst h;simp[zr0]
 ·by_cases h2:x=47
  ·subst h2;simp[zr0]
  ·simp[zr0,h,h2]
theorem zoc(l:Bs):(esc l).length<=2*l.length:=by
 induction l with
 |nil=>simp[esc]
 |cons c t ih=>
  rw[esc,D2,Ao]
  have:(zr0 c).length<=2:=by
   by_cases h:c=126
   ·simp[zr0,h]
   ·by_cases h2:c=47 <;> simp[zr0,h,h2]
  unfold esc at ih;rw[Ay];omega
theorem z1b:esc []=[]:=rfl
theorem zod(c:UInt8)(l:Bs):esc (c::l)=zr0 c++esc l:=rfl
theorem yh(a b:List Bs):Xg (a++b)=Xg a++Xg b:=by unfold Xg;rw[List.flatMap_append]
theorem xx(x:Bs):Xg [x]=47::esc x:=by simp[Xg]
theorem J4(a b:Bs):esc (a++b)=esc a++esc b:=by unfold esc;rw[List.flatMap_append]
theorem zvf(p:UInt8->Bool):∀l:Bs,(∀c∈l,p c=false)\/∃a c b,l=a++c::b/\p c=true/\∀x∈a,p x=false
 |[]=>.inl (by simp)
 |c::t=>by
  cases hc:p c with
  |true=>exact .inr ⟨[],c,t,rfl,hc,by simp⟩
  |false=>
   rcases zvf p t with h|⟨a,d,b,rfl,hd,ha⟩
   ·exact .inl (by simpa[hc]using h)
   ·exact .inr ⟨c::a,d,b,rfl,hd,by simpa[hc]using ha⟩
def isSp(c:UInt8):Bool:=c==126||c==47
theorem zq6{l:Bs}(h:∀c∈l,isSp c=false):esc l=l:=by
 induction l with
 |nil=>rfl
 |cons c t ih=>
  rw[zod,ih λx hx=>h x (by simp[hx])]
  have:=h c (by simp)
  simp[isSp]at this
  simp[zr0,this.1,this.2]
theorem zvg(n:Nat):∀l:Bs,l.length<=n->jr (esc l)=jr l:=by
 induction n with
 |zero=>(intro l h;have:l=[]:=Av (by omega));subst this;rfl
 |succ n ih=>
  intro l h
  rcases zvf isSp l with hp|⟨a,c,b,rfl,hc,ha⟩
  ·rw[zq6 hp]
  ·rw[Ao,Ay]at h
   rw[J4,zod,zq6 ha]
   have hb:=ih b (by omega)
   have O:c=126\/c=47:=by simpa[isSp]using hc
   rcases O with rfl|rfl
   ·show jr (a++(126::48::esc b))=_
    rw[zay (by decide),zay (by decide),Zk (by decide),hb]
   ·show jr (a++(126::49::esc b))=_
    rw[zay (by decide),zay (by decide),Zk (by decide),hb]
theorem zq7:∀l:List Bs,jr (Xg l)=l.all jr
 |[]=>zd8
 |[x]=>by rw[xx,Zk (by decide),zvg _ x (Ae _)];simp
 |x::y::l=>by
  have ih:=zq7 (y::l)
  rw[show x::y::l=[x]++(y::l)from rfl,yh,xx,A5,Zk (by decide)]
  rw[show Xg (y::l)=47::(esc y++Xg l)from by simp[Xg]]at ih ⊢
  rw[Zk (by decide)]at ih
  rw[zay (by decide),zvg _ x (Ae _),ih];simp
def qdk(out:List Bs)(x:Bs):List Bs:=match out.getLast? with
 |some y=>out.dropLast++[y++x]
 |none=>[]
theorem J5(out:List Bs)(y x:Bs):qdk (out++[y]) x=out++[y++x]:=by unfold qdk;simp
def prc(out:List Bs):Bs->Option (List Bs)
 |[]=>some out
 |c::t=>if c=47 then prc (out++[[]]) t else if c=126 then(match t with
  |[]=>none
  |d::t'=>if d=48 then prc (qdk out [126]) t' else if d=49 then prc (qdk out [47]) t' else none)else prc (qdk out [c]) t
def zpi(s:Bs):List Bs×Int:=if !(jr s)||(!s.isEmpty&&s.head? != some 47)then([],2)else match prc [] s with
 |none=>([],2)
 |some out=>if 64<out.length then([],3)else(out,0)
theorem z5v(n:Nat):∀(s:Bs) (out p:List Bs),s.length<=n->(out=[]->s=[]\/s.head?=some 47)->prc out s=some p->Xg out++s=Xg p:=by
 induction n with
 |zero=>
  intro s out p h _ e
  have:s=[]:=Av (by omega)
  subst this
  rw[prc]at e;cases e;simp
 |succ n ih=>
  intro s out p h ho e
  match s with
  |[]=>rw[prc]at e;cases e;simp
  |c::t=>
   rw[Ay]at h
   rw[prc.eq_def]at e
   simp only at e
   by_cases h1:c=47
   ·subst h1
    rw[if_pos rfl]at e
    rw[<-ih t _ _ (by omega) (by simp) e,yh,xx,z1b];simp
   ·rw[if_neg h1]at e
    have O:out≠[]:=by
     intro h0
     rcases ho h0 with q|q
     ·cases q
     ·simp at q;exact h1 q
    obtain⟨o,y,rfl⟩:∃o y,out=o++[y]:=⟨out.dropLast,out.getLast O,(List.dropLast_concat_getLast O).symm⟩
    by_cases h2:c=126
    ·subst h2
     rw[if_pos rfl]at e
     match t with
     |[]=>cases e
     |d::t'=>
      rw[Ay]at h
      simp only[J5]at e
      by_cases h3:d=48
      ·subst h3
       rw[if_pos rfl]at e
       rw[<-ih t' _ _ (by omega) (by simp) e,yh,yh,xx,xx,J4];simp[esc,zr0]
      ·rw[if_neg h3]at e
       by_cases h4:d=49
       ·subst h4
        rw[if_pos rfl]at e
        rw[<-ih t' _ _ (by omega) (by simp) e,yh,yh,xx,xx,J4];simp[esc,zr0]
       ·rw[if_neg h4]at e;cases e
    ·rw[if_neg h2,J5]at e
     rw[<-ih t _ _ (by omega) (by simp) e,yh,yh,xx,xx,J4];simp[esc,zr0,h1,h2]
theorem qad{s:Bs}{p:List Bs}(h:zpi s=(p,0)):p.length<=64/\p.all jr=true/\Xg p=s:=by
 unfold zpi at h
 split at h
 ·cases h
 ·rename_i hc
  simp only[Cr,B4,not_or,Bool.not_eq_true,Bool.not_eq_false]at hc
  split at h
  ·cases h
  ·rename_i out ho
   split at h
   ·cases h
   ·rename_i hl
    cases h
    have:=z5v s.length s [] p (Ae _) (λ_=>by
     have:=hc.2
     simp at this
     rcases Decidable.em (s=[])with q|q
     ·exact .inl q
     ·exact .inr (this q)) ho
    rw[show Xg []=[]from rfl,BP]at this
    refine⟨by omega,?_,this.symm⟩
    rw[<-zq7,<-this];exact hc.1
end
section
variable {α:Type}
structure IsCmp {α:Type} (c:α->α->Int):Prop where
 rng:∀a b,c a b=-1\/c a b=0\/c a b=1
 eq0:∀a b,c a b=0↔a=b
 swap:∀a b,c b a=-c a b
 tr:∀a b d,c a b<=0->c b d<=0->c a d<=0
def zgy{α:Type}(c:α->α->Int):List α->List α->Int
 |[],[]=>0
 |[],_::_=>-1
 |_::_,[]=>1
 |a::l,b::m=>if c a b=0 then zgy c l m else c a b
theorem z1c{c:α->α->Int}(H:IsCmp c):IsCmp (zgy c) where
 rng:=by
  intro a
  induction a with
  |nil=>intro b;cases b <;> simp[zgy]
  |cons x a ih=>
   intro b
   cases b with
   |nil=>simp[zgy]
   |cons y b=>
    rw[zgy]
    by_cases h:c x y=0
    ·rw[if_pos h];exact ih b
    ·rw[if_neg h];exact H.rng x y
 eq0:=by
  intro a
  induction a with
  |nil=>intro b;cases b <;> simp[zgy]
  |cons x a ih=>
   intro b
   cases b with
   |nil=>simp[zgy]
   |cons y b=>
    rw[zgy,Cq,<-H.eq0 x y]
    by_cases h:c x y=0
    ·rw[if_pos h];simp[h,ih]
    ·rw[if_neg h];simp[h]
 swap:=by
  intro a
  induction a with
  |nil=>intro b;cases b <;> simp[zgy]
  |cons x a ih=>
   intro b
   cases b with
   |nil=>simp[zgy]
   |cons y b=>
    rw[zgy,zgy,H.swap x y]
    by_cases h:c x y=0
    ·rw[if_pos h,if_pos (by omega)];exact ih b
    ·rw[if_neg h,if_neg (by omega)]
 tr:=by
  intro a
  induction a with
  |nil=>intro b d h1 h2;cases d <;> simp[zgy]
  |cons x a ih=>
   intro b d h1 h2
   cases b with
   |nil=>simp[zgy]at h1
   |cons y b=>
    cases d with
    |nil=>simp[zgy]at h2
    |cons z d=>
     rw[zgy]at h1 h2 ⊢
     by_cases hxy:c x y=0
     ·have:=(H.eq0 x y).1 hxy
      subst this
      rw[if_pos hxy]at h1
      by_cases hyz:c x z=0
      ·rw[if_pos hyz]at h2 ⊢;exact ih b d h1 h2
      ·rw[if_neg hyz]at h2 ⊢;exact h2
     ·rw[if_neg hxy]at h1
      by_cases hyz:c y z=0
      ·have:=(H.eq0 y z).1 hyz
       subst this
       rw[if_neg hxy];exact h1
      ·rw[if_neg hyz]at h2
       have h3:=H.tr x y z h1 h2
       by_cases hxz:c x z=0
       ·have:=(H.eq0 x z).1 hxz
        subst this
        have:=H.swap x y
        omega
       ·rw[if_neg hxz];exact h3
theorem z5w{c:α->α->Int}(H:IsCmp c)(p x y:List α):zgy c (p++x) (p++y)=zgy c x y:=by
 induction p with
 |nil=>rfl
 |cons a p ih=>rw[A5,A5,zgy,if_pos ((H.eq0 a a).2 rfl),ih]
def z3t(a b:UInt8):Int:=if a.toNat<b.toNat then -1 else if a.toNat=b.toNat then 0 else 1
theorem cmpU_is:IsCmp z3t where
 rng:=λa b=>by
  unfold z3t
  by_cases h:a.toNat<b.toNat
  ·rw[if_pos h];simp
  ·rw[if_neg h]
   by_cases h2:a.toNat=b.toNat
   ·rw[if_pos h2];simp
   ·rw[if_neg h2];simp
 eq0:=λa b=>by
  unfold z3t
  rw[<-Ct]
  by_cases h:a.toNat<b.toNat
  ·rw[if_pos h];omega
  ·rw[if_neg h]
   by_cases h2:a.toNat=b.toNat
   ·rw[if_pos h2];omega
   ·rw[if_neg h2];omega
 swap:=λa b=>by
  unfold z3t
  by_cases h:a.toNat<b.toNat
  ·rw[if_neg (by omega),if_neg (by omega),if_pos h];rfl
  ·by_cases h2:b.toNat<a.toNat
   ·rw[if_pos h2,if_neg h,if_neg (by omega)]
   ·rw[if_neg h2,if_pos (by omega),if_neg h,if_pos (by omega)];rfl
 tr:=λa b d=>by
  unfold z3t
  intro h1 h2
  by_cases h:a.toNat<d.toNat
  ·rw[if_pos h];omega
  ·rw[if_neg h]
   by_cases h':a.toNat=d.toNat
   ·rw[if_pos h'];omega
   ·exfalso
    by_cases g:a.toNat<b.toNat
    ·rw[if_neg (show¬b.toNat<d.toNat by omega),if_neg (by omega)]at h2;omega
    ·rw[if_neg g]at h1
     by_cases g2:a.toNat=b.toNat
     ·rw[if_neg (show¬b.toNat<d.toNat by omega),if_neg (by omega)]at h2;omega
     ·rw[if_neg g2]at h1;omega
def zq8:Bs->Bs->Int:=zgy z3t
theorem cmpS_is:IsCmp zq8:=z1c cmpU_is
theorem zvh:∀a b:Bs,Da a b=decide (zq8 a b=-1)
 |[],[]=>by simp[Da,zq8,zgy]
 |[],_::_=>by simp[Da,zq8,zgy]
 |_::_,[]=>by simp[Da,zq8,zgy]
 |a::l,b::m=>by
  have ih:=zvh l m
  unfold zq8 at ih ⊢
  rw[zgy,Da,ih]
  by_cases h:a<b
  ·have:z3t a b=-1:=by unfold z3t;rw[if_pos (UInt8.lt_iff_toNat_lt.1 h)]
   simp[h,this]
  ·by_cases h2:a=b
   ·subst h2
    simp[(cmpU_is.eq0 a a).2 rfl,h]
   ·have:z3t a b=1:=by unfold z3t;rw[if_neg (λe=>h (UInt8.lt_iff_toNat_lt.2 e)),if_neg (λe=>h2 (Ct.1 e))]
    simp[h,h2,this]
def cmpL:List Bs->List Bs->Int:=zgy zq8
theorem cmpL_is:IsCmp cmpL:=z1c cmpS_is
theorem qae{a b:List Bs}{k:Nat}(h:a.take k=b.take k):cmpL a b=cmpL (a.drop k) (b.drop k):=by
 have:=z5w cmpS_is (a.take k) (a.drop k) (b.drop k)
 rw[Br,h,Br]at this
 exact this
end
section
def yd:Bs->Bool
 |[]=>true
 |c::t=>(c != 126||(t.head?==some 48||t.head?==some 49))&&yd t
theorem zmi:∀{l:Bs},index l [126]=-1->yd l=true
 |[],_=>rfl
 |c::t,h=>by
  cases hp:BD [126] (c::t)with
  |true=>rw[X5 hp]at h;cases h
  |false=>
   have hc:c≠126:=by
    rintro rfl
    simp[BD]at hp
   rcases Zt t [126]with e|⟨i,e⟩
   ·simp[yd,hc,zmi e]
   ·rw[zd9 hp e]at h;omega
theorem zq9:∀{l:Bs} {i:Nat},index l [126]=i->yd l=(((l.drop (i+1)).head?==some 48||(l.drop (i+1)).head?==some 49)&&yd (l.drop (i+1)))
 |[],i,h=>by rw[zea (by simp)]at h;omega
 |c::t,i,h=>by
  cases hp:BD [126] (c::t)with
  |true=>
   rw[X5 hp]at h
   have:i=0:=by omega
   subst this
   have hc:c=126:=by simp[BD]at hp;exact hp.symm
   subst hc
   simp[yd]
  |false=>
   have hc:c≠126:=by
    rintro rfl
    simp[BD]at hp
   rcases Zt t [126]with e|⟨j,e⟩
   ·rw[zhg hp e]at h;omega
   ·rw[zd9 hp e]at h
    have:i=j+1:=by omega
    subst this
    rw[List.drop_succ_cons,<-zq9 e]
    simp[yd,hc]
def W5(l:Bs):Bs:=zph [126,48] [126] (zph [126,49] [47] l)
theorem z1d(l:Bs):replaceAll (replaceAll l [126,49] [47]) [126,48] [126]=W5 l:=by
 rw[Zl (by simp) (by simp),Zl (by simp) (by simp)];rfl
theorem zjh:W5 []=[]:=by unfold W5;rw[zec (by simp),zec (by simp)]
theorem zxu{c:UInt8}(h:c≠126)(l:Bs):W5 (c::l)=c::W5 l:=by
 unfold W5
 have h1:∀d:UInt8,∀m:Bs,BD [126,d] (c::m)=false:=λd m=>by
  simp[BD];exact λe=>absurd e.symm h
 rw[Zu (by simp),h1,if_neg (by simp),Zu (by simp),h1,if_neg (by simp)]
theorem qaf(l:Bs):W5 (126::48::l)=126::W5 l:=by
 unfold W5
 rw[Zu (by simp),if_neg (by simp[BD]),Zu (old:=[126,49]) (by simp) 48 l,if_neg (by simp[BD]),Zu (by simp),if_pos (by simp[BD])]
 rfl
theorem qag(l:Bs):W5 (126::49::l)=47::W5 l:=by
 unfold W5
 rw[Zu (by simp),if_pos (by simp[BD])]
 show zph [126,48] [126] (47::zph [126,49] [47] l)=_
 rw[Zu (by simp),if_neg (by simp[BD])]
theorem z5x(old new:Bs)(ho:old≠[])(hn:new.length<=old.length)(n:Nat):∀s:Bs,s.length<=n->(zph old new s).length<=s.length:=by
 induction n with
 |zero=>intro s h;(have:s=[]:=Av (by omega));subst this;rw[zec ho];simp
 |succ n ih=>
  intro s h
  match s with
  |[]=>rw[zec ho];simp
  |b::l=>
   rw[Ay]at h
   rw[Zu ho]
   cases hp:old.isPrefixOf (b::l)with
   |true=>
    rw[if_pos rfl,Ao]
    have h1:0<old.length:=A3.2 ho
    have h2:old.length<=(b::l).length:=(List.isPrefixOf_iff_prefix.1 hp).length_le
    rw[Ay]at h2
    have:=ih ((b::l).drop old.length) (by rw[AY,Ay];omega)
    rw[AY,Ay]at this
    rw[Ay];omega
   |false=>
    rw[if_neg (by simp),Ay,Ay]
    have:=ih l (by omega)
    omega
def zbb(x:Bs):List Bs->List Bs
 |[]=>[]
 |y::ys=>(x++W5 y)::ys.map W5
theorem zxv(x:Bs){c:UInt8}(h:c≠47){z:Bs}{t:Bs}(hz:∀y,x++W5 (c::y)=z++W5 y):zbb x (Wb 47 (c::t))=zbb z (Wb 47 t):=by
 rw[Wb,if_neg h]
 cases hs:Wb 47 t with
 |nil=>exact absurd hs (zi3 _ _)
 |cons y ys=>simp only[zbb,hz]
theorem z1e(n:Nat):∀(t:Bs),t.length<=n->∀out x,prc (out++[x]) t=if yd t then some (out++zbb x (Wb 47 t))else none:=by
 induction n with
 |zero=>
  intro t h out x
  have:t=[]:=Av (by omega)
  subst this
  simp[prc,yd,Wb,zbb,zjh]
 |succ n ih=>
  intro t h out x
  match t with
  |[]=>simp[prc,yd,Wb,zbb,zjh]
  |c::t=>
   rw[Ay]at h
   rw[prc.eq_def]
   simp only
   by_cases h1:c=47
   ·subst h1
    rw[if_pos rfl,ih t (by omega)]
    have hw:yd (47::t)=yd t:=by simp[yd]
    rw[hw,Wb,if_pos rfl]
    cases hs:Wb 47 t with
    |nil=>exact absurd hs (zi3 _ _)
    |cons y ys=>simp[zbb,zjh]
   ·rw[if_neg h1]
    by_cases h2:c=126
    ·subst h2
     rw[if_pos rfl]
     match t with
     |[]=>simp[yd]
     |d::t'=>
      rw[Ay]at h
      simp only[J5]
      by_cases h3:d=48
      ·subst h3
       rw[if_pos rfl,ih t' (by omega)]
       have hw:yd (126::48::t')=yd t':=by simp[yd]
       rw[hw]
       have e:zbb (x++[126]) (Wb 47 t')=zbb x (Wb 47 (126::48::t')):=by
        rw[Wb,if_neg (by decide),Wb,if_neg (by decide)]
        cases hs:Wb 47 t' with
        |nil=>exact absurd hs (zi3 _ _)
        |cons y ys=>simp[zbb,qaf]
       rw[e]
      ·rw[if_neg h3]
       by_cases h4:d=49
       ·subst h4
        rw[if_pos rfl,ih t' (by omega)]
        have hw:yd (126::49::t')=yd t':=by simp[yd]
        rw[hw]
        have e:zbb (x++[47]) (Wb 47 t')=zbb x (Wb 47 (126::49::t')):=by
         rw[Wb,if_neg (by decide),Wb,if_neg (by decide)]
         cases hs:Wb 47 t' with
         |nil=>exact absurd hs (zi3 _ _)
         |cons y ys=>simp[zbb,qag]
        rw[e]
       ·rw[if_neg h4]
        have hw:yd (126::d::t')=false:=by simp[yd,h3,h4]
        rw[hw];simp
    ·rw[if_neg h2,J5,ih t (by omega)]
     have hw:yd (c::t)=yd t:=by simp[yd,h2]
     rw[hw,zxv x h1 (z:=x++[c]) (λy=>by rw[zxu h2];simp)]
def goP(s:Bs):List Bs×Int:=
 if !(jr s)||(!s.isEmpty&&s.head? != some 47) || !(yd s)then([],2)else if 64<s.count 47 then([],3)else if s=[]then([],0)else((Wb 47 s.tail).map W5,0)
theorem qdl(s:Bs):goP s=zpi s:=by
 unfold goP zpi
 cases hb:!(jr s)||(!s.isEmpty&&s.head? != some 47)with
 |true=>simp
 |false=>
  simp only[DV,AW,if_false]
  match s,hb with
  |[],_=>simp[yd,prc]
  |c::t,hb=>
   have hc:c=47:=by
    rw[Cn]at hb
    simpa using hb.2
   subst hc
   have hw:yd (47::t)=yd t:=by simp[yd]
   have hp:prc [] (47::t)=prc ([]++[[]]) t:=by rw[prc.eq_def];simp
   rw[hw,hp,z1e t.length t (Ae _)]
   cases hwt:yd t with
   |false=>simp
   |true=>
    simp only[Bool.not_true,AW,if_false,if_true,BP]
    have hj:zbb [] (Wb 47 t)=(Wb 47 t).map W5:=by
     cases hs:Wb 47 t with
     |nil=>rfl
     |cons y ys=>simp[zbb]
    have hl:(zbb [] (Wb 47 t)).length=(47::t).count 47:=by
     rw[hj,Ba,zcf,List.count_cons];simp
    rw[hl,hj]
    simp
theorem zfs(s:Bs)(c:UInt8):countB (bl s) (bl [c])=s.count c:=by
 rw[<-count_one]
theorem zxw(s:Bs)(c:UInt8):splitB (bl [c]) 0 (countB (bl s) (bl [c])) (bl s)=(Wb c s).map bl:=by
 have h:=splitB_data (bl [c]) 0 (countB (bl s) (bl [c])) (bl s)
 have e:∀x:Bt,x.data.toList=lb x:=λ_=>rfl
 simp only[e]at h
 rw[zi2 (by simp) _ _ (by rw[zfs,count_one];exact Ae _),zu0]at h
 have h2:=congrArg (List.map bl) h
 rw[EJ]at h2
 have e2:(bl ∘ λx=>lb x)=(id:Bt->Bt):=funext λx=>Jc x
 rw[e2,List.map_id]at h2
 exact h2
theorem zhm(c:UInt8):∀(l:Bs) (x:Bs),x∈Wb c l->x.length<=l.length
 |[],x,h=>by simp[Wb]at h;subst h;simp
 |b::l,x,h=>by
  rw[Wb]at h
  split at h
  ·rcases Af.1 h with rfl|h
   ·simp
   ·have:=zhm c l x h;rw[Ay];omega
  ·split at h
   ·simp at h;subst h;simp
   ·rename_i y r hs
    rcases Af.1 h with rfl|h
    ·have:=zhm c l y (by rw[hs];simp);rw[Ay,Ay];omega
    ·have:=zhm c l x (by rw[hs];simp[h]);rw[Ay];omega
theorem z5y(l:Bs):(replaceAll l [126] [126,48]).length<=2*l.length:=by
 rw[Zl (by simp) (by simp),zhi]
 induction l with
 |nil=>simp
 |cons c t ih=>
  rw[D2,Ao,Ay]
  have:(if c=126 then [126,48]else [c]:Bs).length<=2:=by
   by_cases hq:c=126
   ·rw[if_pos hq];simp
   ·rw[if_neg hq];simp
  omega
end
section
variable {l:Bs}
def zs9(l:Bs):Prop:=∀c∈l,c.toNat<128
theorem zad(cs:Bs):∀l:Bs,containsAny l cs=l.any λc=>cs.contains c
 |[]=>by simp[containsAny,indexAny]
 |c::l=>by
  have ih:=zad cs l
  have Z:=indexAny_ge cs l
  rw[EV,<-ih]
  unfold containsAny
  rw[indexAny]
  by_cases hc:cs.contains c=true
  ·rw[if_pos hc,hc];simp
  ·have O:cs.contains c=false:=by simpa using hc
   rw[if_neg hc,O,DV]
   by_cases h1:indexAny l cs=-1
   ·simp[h1]
   ·have hb:(indexAny l cs==-1)=false:=by rw[beq_eq_false_iff_ne];exact h1
    rw[hb,if_neg (by simp),AB,decide_eq_true_eq,decide_eq_true_eq];omega
theorem z1f:∀(l:Bs) (acc:Nat),l.all yb=true->acc*10 ^ l.length+zi l<10 ^ 18->parseUint10 acc l=.ok (acc*10 ^ l.length+zi l)
 |[],acc,_,_=>by simp[parseUint10,zi]
 |c::t,acc,hd,hl=>by
  rw[CB,AI]at hd
  have hc:48<=c.toNat/\c.toNat<=57:=by simpa[yb]using hd.1
  have e:zi (c::t)=(c.toNat-48)*10 ^ t.length+zi t:=by
   have:=Q7 [c] t
   rw[DX]at this
   rw[this];simp[zi]
  have e2:(acc*10+(c.toNat-48))*10 ^ t.length+zi t=acc*10 ^ (c::t).length+zi (c::t):=by
   rw[e,Ay,Nat.pow_succ,BH,Nat.mul_assoc,C9 10 (10 ^ t.length)];omega
  have hp:1<=10 ^ t.length:=Nat.one_le_pow _ _ (by decide)
  have hb:acc*10+(c.toNat-48)<=acc*10 ^ (c::t).length+zi (c::t):=by
   rw[<-e2]
   calc acc*10+(c.toNat-48)=(acc*10+(c.toNat-48))*1:=by omega
    _<=(acc*10+(c.toNat-48))*10 ^ t.length:=Nat.mul_le_mul_left _ hp
    _<=_:=by omega
  rw[parseUint10,if_pos hc,if_neg (by omega),if_neg (by omega),z1f t _ hd.2 (by rw[e2];exact hl),e2]
theorem zta:∀(l:Bs) (acc:Nat),l.all yb=false->∀v,parseUint10 acc l≠.ok v
 |[],acc,h,v=>by simp at h
 |c::t,acc,h,v=>by
  rw[parseUint10]
  by_cases hc:48<=c.toNat/\c.toNat<=57
  ·have hd:yb c=true:=by simp[yb,hc]
   rw[CB,hd,Bi]at h
   rw[if_pos hc]
   by_cases h1:1844674407370955162<=acc
   ·rw[if_pos h1];simp
   ·rw[if_neg h1]
    by_cases h2:18446744073709551616<=acc*10+(c.toNat-48)
    ·rw[if_pos h2];simp
    ·rw[if_neg h2];exact zta t _ h v
  ·rw[if_neg hc];simp
theorem qah(hd:l.all yb=true)(Z:l≠[])(hl:l.length<=9):atoiAll l=.ok (zi l:Int):=by
 have hv:zi l<10 ^ 9:=Ys hl hd
 have hp:=z1f l 0 hd (by rw[Di];omega)
 rw[Di,AH]at hp
 obtain⟨c,t,rfl⟩:=Co Z
 have hc:48<=c.toNat/\c.toNat<=57:=by
  rw[CB,AI]at hd
  simpa[yb]using hd.1
 unfold atoiAll
 simp only
 rw[if_neg (by omega)]
 unfold parseMag
 rw[if_neg (by simp),hp]
 have O:¬c.toNat=45:=by omega
 simp only[O,not_false_eq_true,true_and,false_and,if_false]
 rw[if_neg (by omega)]
theorem qai(hd:l.all yb=false)(hh:∀c,l.head?=some c->c.toNat≠43/\c.toNat≠45)(v:Int):atoiAll l≠.ok v:=by
 cases l with
 |nil=>simp at hd
 |cons c t=>
  have hc:=hh c rfl
  unfold atoiAll
  simp only
  rw[if_neg (by omega)]
  unfold parseMag
  rw[if_neg (by simp)]
  have:=zta (c::t) 0 hd
  cases hp:parseUint10 0 (c::t)with
  |ok u=>exact absurd hp (this u)
  |range=>simp
  |_=>simp
theorem qaj(h:¬zs9 l)(v:Int):atoiAll l≠.ok v:=by
 have O:∀m:Bs,¬zs9 m->∀u,parseMag m≠.ok u:=by
  intro m hm u
  unfold parseMag
  split
  ·simp
  ·apply zta
   rw[Bool.eq_false_iff]
   intro hd
   apply hm
   intro c hc
   rw[AQ]at hd
   have:=hd c hc
   simp[yb]at this;omega
 cases l with
 |nil=>exact absurd (λc hc=>by cases hc) h
 |cons c t=>
  unfold atoiAll
  simp only
  have hm:¬zs9 (if c.toNat=43\/c.toNat=45 then t else c::t):=by
   split
   ·rename_i hc
    intro ht
    apply h
    intro d hd
    rcases Af.1 hd with rfl|hd
    ·omega
    ·exact ht d hd
   ·exact h
  have:=O _ hm
  cases hp:parseMag (if c.toNat=43\/c.toNat=45 then t else c::t)with
  |ok u=>exact absurd hp (this u)
  |range=>simp
  |_=>simp
def zek(l:Bs):Int×Bool:=if l.length<1\/9<l.length\/(1<l.length/\l.head?=some 48)then(0,false)else if l.all yb then((zi l:Int),true)else(0,false)
theorem zmj(h:(zek l).2=true):0<=(zek l).1/\(zek l).1<1000000000:=by
 unfold zek at h ⊢
 split
 ·rename_i hc;rw[if_pos hc]at h;cases h
 ·rename_i hc
  rw[if_neg hc]at h
  split
  ·rename_i hd
   have:zi l<10 ^ 9:=Ys (by omega) hd
   simp only;omega
  ·rename_i hd;rw[if_neg hd]at h;cases h
end
section
variable {v:Tr} {k:Nat}
theorem zoe(x:Bt):∀(l:List Bt) (i:Nat),(idxFromS l x i=-1/\x∉l)\/∃k:Nat,idxFromS l x i=((i+k:Nat):Int)/\k<l.length/\l[k]?=some x
 |[],i=>.inl ⟨rfl,by simp⟩
 |z::l,i=>by
  unfold idxFromS
  by_cases h:z=x
  ·rw[if_pos h];exact .inr ⟨0,rfl,by simp,by simp[h]⟩
  ·rw[if_neg h]
   rcases zoe x l (i+1)with⟨h1,h2⟩|⟨k,h1,h2,h3⟩
   ·exact .inl ⟨h1,by simp[h2];exact λe=>h e.symm⟩
   ·exact .inr ⟨k+1,by rw[h1];congr 1;omega,by simp;omega,by simpa using h3⟩
def qu(v:Tr)(s:Bt):Int:=if v.kind=6 then idxOfS v.keys s else if v.kind=5 then(if(zek (lb s)).2=true/\(zek (lb s)).1<v.items.length then(zek (lb s)).1 else -1)else -1
theorem zel(hv:zv v=true)(s:Bt):qu v s=-1\/∃k:Nat,qu v s=k/\k<v.items.length:=by
 unfold qu
 by_cases h6:v.kind=6
 ·rw[if_pos h6]
  have hl:v.keys.length=v.items.length:=by
   unfold zv at hv
   simp[h6]at hv
   exact hv.1.2
  rcases zoe s v.keys 0 with⟨h1,_⟩|⟨k,h1,h2,_⟩
  ·exact .inl h1
  ·exact .inr ⟨k,by unfold idxOfS;rw[h1];simp,by omega⟩
 ·rw[if_neg h6]
  by_cases h5:v.kind=5
  ·rw[if_pos h5]
   by_cases hc:(zek (lb s)).2=true/\(zek (lb s)).1<v.items.length
   ·rw[if_pos hc]
    have:=zmj hc.1
    exact .inr ⟨(zek (lb s)).1.toNat,by omega,by omega⟩
   ·rw[if_neg hc];exact .inl rfl
  ·rw[if_neg h5];exact .inl rfl
def ym:Tr->List Bt->List (Nat×Tr)
 |_,[]=>[]
 |v,s::p=>if 0<=qu v s then(match v.items[(qu v s).toNat]? with
  |some x=>((qu v s).toNat,x)::ym x p
  |none=>[])else []
def lastT(v:Tr)(l:List (Nat×Tr)):Tr:=(l.getLast?.map (·.2)).getD v
theorem zmk(v:Tr)(q:Nat×Tr)(l:List (Nat×Tr)):lastT v (q::l)=lastT q.2 l:=by
 unfold lastT
 cases l with
 |nil=>rfl
 |cons x l=>rw[List.getLast?_cons_cons];cases h:(x::l).getLast? with
  |none=>simp at h
  |some y=>rfl
theorem zml:∀(v:Tr) (p:List Bt),(ym v p).length<=p.length
 |_,[]=>by simp[ym]
 |v,s::p=>by
  unfold ym
  split
  ·split
   ·rename_i x _
    have:=zml x p
    simp;omega
   ·simp
  ·simp
theorem zji{s:Bt}{p:List Bt}(h:qu v s<0):ym v (s::p)=[]:=by
 unfold ym;rw[if_neg (by omega)]
theorem za1{s:Bt}{p:List Bt}(h:qu v s=k)(hk:k<v.items.length):ym v (s::p)=(k,v.items[k])::ym v.items[k] p:=by
 rw[ym,if_pos (by omega),h,Ad,Am hk]
def yj(v:Tr)(p:List Bt):Option Tr:=if(ym v p).length=p.length then some (lastT v (ym v p))else none
theorem J6(v:Tr):yj v []=some v:=rfl
theorem zhn{s:Bt}{p:List Bt}(h:qu v s<0):yj v (s::p)=none:=by
 unfold yj;rw[zji h];simp
theorem Yt{s:Bt}{p:List Bt}(h:qu v s=k)(hk:k<v.items.length):yj v (s::p)=yj v.items[k] p:=by
 unfold yj
 rw[za1 h hk,zmk]
 simp
theorem jk{q:Tr->Bool}{v x:Tr}(h:Yf q v=true)(hx:x∈v.items):Yf q x=true:=by
 rw[zjd,AI,zac,AQ]at h
 exact h.2 x hx
theorem jl{q:Tr->Bool}(h:Yf q v=true):q v=true:=by
 rw[zjd,AI]at h;exact h.1
end
end Go.X
end
section
namespace Go.X
open Go Go.RowKit
section
variable {h h':zb} {bs:List Nat} {v:Tr} {M:Fr} {b o n:Nat} {cs:Array Value} {vs:List Value}
def OKeys(h:zb)(ks:List Bt)(bs:List Nat)(s:Sl):Prop:=
 s.len=ks.length/\ks.length<=140737488355328/\ks.length<=s.cap/\((ks=[]/\bs=[]/\s.cap=0)\/∃b cs,bs=[b]/\s.a=some ⟨b,0,none⟩/\Blk h b cs/\s.cap<=cs.size/\cut cs 0 ks.length=ks.map AU)
inductive OT (h:zb):Tr->List Nat->List Value->Prop where
 |mk {k:Int} {s:Bt} {ks:List Bt} {xs:List Tr} {sk si:Sl} {bk bb:List Nat} {b:Nat} {cs:Array Value} {bf:Nat->List Nat}
  (hk:OKeys h ks bk sk) (hn:si.len=xs.length/\xs.length<=140737488355328/\xs.length<=si.cap)
  (hz:(xs=[]/\bb=[]/\si.cap=0)\/(bb=[b]/\si.a=some ⟨b,0,none⟩/\Blk h b cs/\si.cap*4<=cs.size))
  (hi:∀i (hx:i<xs.length),OT h xs[i] (bf i) (cut cs (i*4) 4))
  (hd:(bk++(bb++(BJ xs.length).flatMap bf)).Nodup):
  OT h (.mk k s ks xs) (bk++(bb++(BJ xs.length).flatMap bf)) [.int .i64 k,.string s,slV sk,slV si]
theorem OKeys.frame{ks:List Bt}{s:Sl}(H:OKeys h ks bs s)(hf:∀b∈bs,h'[b]?=h[b]?):OKeys h' ks bs s:=by
 obtain⟨h1,h2,h3,h4⟩:=H
 refine⟨h1,h2,h3,h4.imp id ?_⟩
 rintro⟨b,cs,rfl,e1,e2,e3⟩
 exact⟨b,cs,rfl,e1,e2.keep (hf b (by simp)),e3⟩
theorem OT.frame{cells:List Value}(H:OT h v bs cells):(∀b∈bs,h'[b]?=h[b]?)->OT h' v bs cells:=by
 induction H with
 | @mk k s ks xs sk si bk bb b cs bf hk hn hz hi hd ih=>
  intro hf
  refine OT.mk (b:=b) (cs:=cs) (hk.frame λx hx=>hf x (by simp[hx])) hn (hz.imp id ?_) (λi hx=>ih i hx λx O=>hf x ?_) hd
  ·rintro⟨rfl,e1,e2,e3⟩
   exact⟨rfl,e1,e2.keep (hf b (by simp)),e3⟩
  ·simp only[An,BA,Cc]
   exact .inr (.inr ⟨i,hx,O⟩)
theorem OT.nodup{cells:List Value}(H:OT h v bs cells):bs.Nodup:=by
 cases H with|mk _ _ _ _ hd=>exact hd
theorem OT.lt{cells:List Value}(H:OT h v bs cells):∀b∈bs,b<h.size:=by
 induction H with
 | @mk k s ks xs sk si bk bb b cs bf hk hn hz hi hd ih=>
  intro x hx
  simp only[An,BA,Cc]at hx
  rcases hx with hx|hx|⟨i,h1,h2⟩
  ·obtain⟨_,_,_,h4⟩:=hk
   rcases h4 with⟨_,rfl,_⟩|⟨b',cs',rfl,_,e,_⟩
   ·cases hx
   ·simp at hx;subst hx;exact e.lt
  ·rcases hz with⟨_,rfl,_⟩|⟨rfl,_,e,_⟩
   ·cases hx
   ·simp at hx;subst hx;exact e.lt
  ·exact ih i h1 x h2
theorem OT.len{cells:List Value}(H:OT h v bs cells):cells.length=4:=by cases H;rfl
theorem OT.one{cells:List Value}(H:OT h v bs cells):∀c∈cells,c.oneCell'=true:=by
 cases H with
 |mk _ _ _ _ _=>
  intro c hc
  simp at hc
  rcases hc with rfl|rfl|rfl|rfl <;> simp[Value.oneCell',slV]
theorem OT.cells{h:zb}{v:Tr}{bs:List Nat}{cells:List Value}(H:OT h v bs cells):∃sk si:Sl,cells=[.int .i64 v.kind,.string v.text,slV sk,slV si]:=by
 cases H with|mk _ _ _ _ _=>exact⟨_,_,rfl⟩
theorem OT.rd{cells:List Value}(H:OT h v bs cells)(hM:∀b∈bs,∀cs,Blk h b cs->M b=some cs):TrRd M v cells:=by
 induction H with
 | @mk k s ks xs sk si bk bb b cs bf hk hn hz hi hd ih=>
  obtain⟨k1,k2,k3,k4⟩:=hk
  have Z:RowAt M (λs cs=>cs=[.string s]) 1 ks (slV sk):=by
   refine⟨sk.a,sk.cap,by rw[slV,k1],⟨k2,k3⟩,?_⟩
   rcases k4 with⟨h0,_⟩|⟨b',cs',rfl,e1,e2,_,e3⟩
   ·exact .inl h0
   ·refine .inr ⟨b',0,cs',e1,hM b' (by simp) cs' e2,λi hx=>?_⟩
    have:(cut cs' 0 ks.length)[i]?=some (AU ks[i]):=by rw[e3,B5,Am hx];rfl
    unfold cut at this ⊢
    rw[AF,if_pos hx,A2]at this
    have O:=(Az.1 this).1
    rw[AH,Cg,AE O,BV,Cz]
    rw[Am O]at this
    rw[Ax this]
  have ac:slV si=.slice si.a xs.length si.cap:=by rw[slV,hn.1]
  rw[ac]
  refine TrRd.mk (b:=b) (o:=0) (cs:=cs) Z hn.2 (hz.imp (·.1) ?_) λi hx=>?_
  ·rintro⟨rfl,e1,e2,_⟩
   exact⟨e1,hM b (by simp) cs e2⟩
  ·rw[AH]
   exact ih i hx λx aa cs' e=>hM x (by
    simp only[An,BA,Cc]
    exact .inr (.inr ⟨i,hx,aa⟩)) cs' e
def MxL(M:Fr)(h:zb)(bs:List Nat):Fr:=λi=>if i∈bs then(match h[i]? with
 |some (.cells cs _ _)=>some cs
 |_=>none)else M i
theorem MxL.ag{M:Fr}{h:zb}(ag:AgM M h)(bs:List Nat):AgM (MxL M h bs) h:=by
 intro b c e
 unfold MxL at e
 split at e
 ·split at e
  ·rename_i cs T m hb
   cases e;exact⟨T,m,hb⟩
  ·cases e
 ·exact ag b c e
theorem MxL.later{h0 h:zb}(ag:AgM M h0)(k:Keep h0.size h0 h)(hb:∀b∈bs,h0.size<=b):Later h0 M h (MxL M h bs) where
 keep:=k
 le:=λb c e=>by
  have:=ag.lt e
  unfold MxL;rw[if_neg (λhm=>by have:=hb b hm;omega)];exact e
 old:=λb hlt=>by unfold MxL;rw[if_neg (λhm=>by have:=hb b hm;omega)]
 ag:=MxL.ag (ag.keep k) bs
theorem MxL.at(hb:b∈bs)(e:Blk h b cs):MxL M h bs b=some cs:=by
 obtain⟨T,e⟩:=e
 unfold MxL;rw[if_pos hb,e]
theorem OT.rdv{cells:List Value}(H:OT h v bs cells):RdV (MxL M h bs) .tree v (.agg cells.toArray):=by
 unfold RdV
 simp only[zdm,if_true]
 exact⟨cells,rfl,H.rd λb hb cs e=>MxL.at hb e⟩
def upd(cs:Array Value)(o:Nat)(vs:List Value):Array Value:=(cs.toList.take o++vs++cs.toList.drop (o+vs.length)).toArray
theorem jm(h:o+vs.length<=cs.size):(upd cs o vs).size=cs.size:=by
 unfold upd;simp;omega
theorem jz(h:o+vs.length<=cs.size)(q:Nat):(upd cs o vs).toList[q]?=if q<o then cs.toList[q]? else if q<o+vs.length then vs[q-o]? else cs.toList[q]?:=by
 unfold upd
 exact Yd (by simpa using h) q
theorem zu{o n i:Nat}:(cut cs o n)[i]?=if i<n then cs.toList[o+i]? else none:=by
 unfold cut
 rw[AF]
 split
 ·rw[AJ]
 ·rfl
theorem zof(h:o+vs.length<=cs.size):cut (upd cs o vs) o vs.length=vs:=by
 apply A7
 intro i
 rw[zu]
 split
 ·rw[jz h,if_neg (by omega),if_pos (by omega)];congr 1;omega
 ·rw[Bu (by omega)]
theorem zft{o p n:Nat}(h:o+vs.length<=cs.size)(O:p+n<=o\/o+vs.length<=p):cut (upd cs o vs) p n=cut cs p n:=by
 apply A7
 intro i
 rw[zu,zu]
 split
 ·rw[jz h]
  split
  ·rfl
  ·rw[if_neg (by omega)]
 ·rfl
theorem Yu{P:Program}{t:TypeId}(hi:jb P t=true)(H:Blk h b cs){v:Value}(hc:v.cells.toList=vs)(hs:ja P t=vs.length)(hl:o+vs.length<=cs.size)(h1:∀u∈vs,u.oneCell'=true){K:zb->Prop}
  (hK:∀h':zb,Blk h' b (upd cs o vs)->h'.size=h.size->(∀j,j≠b->h'[j]?=h[j]?)->K h'):XRunU P (Ai t (.pointer (some ⟨b,o,none⟩)) v) h K:=by
 intro B d
 obtain⟨T,e⟩:=H
 have O:v.cells.size=vs.length:=by rw[<-hc];simp
 obtain⟨h',r1,r2,r3,r4⟩:=Wq (P:=P) hi hs e O hl (by rw[hc];exact h1) B d
 refine⟨d,h',r1,hK h' ⟨T,?_⟩ r3 r4⟩
 rw[r2]
 unfold upd
 rw[hc]
theorem Blk.ofKeep(H:Blk h b cs)(k:Keep h.size h h'):Blk h' b cs:=H.keepN k H.lt
end
section
variable {n k rb:Nat} {h:zb}
def zxx(v:Tr)(k:Nat)(x:Tr):Tr:=.mk v.kind v.text v.keys (v.items.set k x)
theorem zog{bf:Nat->List Nat}:((BJ n).flatMap bf).Nodup↔(∀i,i<n->(bf i).Nodup)/\∀i j,i<j->j<n->∀x∈bf i,∀y∈bf j,x≠y:=by
 unfold List.Nodup
 rw[List.pairwise_flatMap,List.pairwise_iff_getElem]
 constructor
 ·rintro⟨h1,h2⟩
  refine⟨λi hi=>h1 i (by simpa using hi),λi j O hj=>?_⟩
  have:=h2 i j (by simp;omega) (by simpa using hj) O
  simpa using this
 ·rintro⟨h1,h2⟩
  refine⟨λi hi=>h1 i (by simpa using hi),λi j hi hj O=>?_⟩
  simp at hi hj
  simpa using h2 i j O hj
theorem zvi{cs:Array Value}{o n:Nat}(h:o+n<=cs.size):upd cs o (cut cs o n)=cs:=by
 have hl:(cut cs o n).length=n:=by unfold cut;simp;omega
 apply EL
 apply A7
 intro q
 rw[jz (by rw[hl];exact h)]
 split
 ·rfl
 ·split
  ·rw[zu,if_pos (by omega)];congr 1;omega
  ·rfl
theorem OT.put1{v:Tr}{bs:List Nat}{cells:List Value}(H:OT h v bs cells)(hk:k<v.items.length):
  ∃(b:Nat) (cs:Array Value) (si:Sl) (bx:List Nat),cells[3]?=some (slV si)/\si.a=some ⟨b,0,none⟩/\si.len=v.items.length/\Blk h b cs/\v.items.length*4<=cs.size/\b∈bs/\OT h v.items[k] bx (cut cs (k*4) 4)/\b∉bx/\(∀c∈bx,c∈bs) /\
   ∀(h':zb) (x':Tr) (cells':List Value) (b':List Nat),(∀c∈bs,c∉bx->c≠b->h'[c]?=h[c]?)->Blk h' b (upd cs (k*4) cells')->OT h' x' b' cells'->(∀c∈b',c∈bx\/c∉bs)->∃bn,OT h' (zxx v k x') bn cells/\∀c∈bn,c∈bs\/c∈b':=by
 cases H with
 | @mk kd s ks xs sk si bk bb b cs bf hkk hn hz hi hd=>
  have hk:k<xs.length:=hk
  rcases hz with⟨h0,_⟩|⟨rfl,e1,hb,ap⟩
  ·rw[h0]at hk;simp at hk
  have aC:xs.length*4<=cs.size:=by have:=hn.2.2;omega
  rw[A9]at hd
  obtain⟨aA,ar,ai⟩:=hd
  rw[A9]at ar
  obtain⟨aF,ay,aE⟩:=ar
  have nf:=zog.1 ay
  have af:∀i,i<xs.length->b∉bf i:=λi hi hm=>aE b (by simp) b (BA.2 ⟨i,by simpa using hi,hm⟩) rfl
  have ae:∀i,i<xs.length->∀c∈bf i,c∈bk++([b]++(BJ xs.length).flatMap bf):=λi hi c hc=>by
   simp only[An,BA,Cc]
   exact .inr (.inr ⟨i,hi,hc⟩)
  refine⟨b,cs,si,bf k,rfl,e1,hn.1,hb,aC,by simp,hi k hk,af k hk,ae k hk,λh' x' cells' b' hf ax ho ah=>?_⟩
  have aD:cells'.length=4:=ho.len
  have au:∀c∈b',∀i,i<xs.length->i≠k->c∉bf i:=λc hc i Z az hm=>by
   rcases ah c hc with hx|hx
   ·rcases Nat.lt_or_gt_of_ne az with aa|aa
    ·exact nf.2 i k aa hk c hm c hx rfl
    ·exact nf.2 k i aa Z c hx c hm rfl
   ·exact hx (ae i Z c hm)
  have al:b∉b':=λhm=>by
   rcases ah b hm with hx|hx
   ·exact af k hk hx
   ·exact hx (by simp)
  have an:∀c∈bk,c∉b':=λc hc hm=>by
   rcases ah c hm with hx|hx
   ·exact ai c hc c (by rw[An];exact .inr (BA.2 ⟨k,by simpa using hk,hx⟩)) rfl
   ·exact hx (by simp[hc])
  have am:∀c∈bk,c≠b:=λc hc e=>ai c hc b (by simp) e
  have aj:∀c∈bk,∀i,i<xs.length->c∉bf i:=λc hc i Z hm=>ai c hc c (by rw[An];exact .inr (BA.2 ⟨i,by simpa using Z,hm⟩)) rfl
  have ac:(xs.set k x').length=xs.length:=by simp
  have hu:k*4+cells'.length<=cs.size:=by omega
  refine⟨bk++([b]++(BJ (xs.set k x').length).flatMap (λi=>if i=k then b' else bf i)),?_,λc hc=>?_⟩
  ·refine OT.mk (b:=b) (cs:=upd cs (k*4) cells') (hkk.frame λc hc=>hf c (by simp[hc]) (aj c hc k hk) (am c hc)) (by rw[ac];exact hn) (.inr ⟨rfl,e1,ax,by rw[jm hu];exact ap⟩) (λi hx=>?_) ?_
   ·rw[ac]at hx
    by_cases O:i=k
    ·subst O
     rw[if_pos rfl]
     have:=zof hu
     rw[aD]at this
     rw[this,List.getElem_set_self];exact ho
    ·rw[if_neg O,List.getElem_set_ne (by omega),zft hu (by omega)]
     refine(hi i hx).frame λc hc=>hf c (ae i hx c hc) (λhm=>?_) (λe=>af i hx (e ▸ hc))
     rcases Nat.lt_or_gt_of_ne O with aa|aa
     ·exact nf.2 i k aa hk c hc c hm rfl
     ·exact nf.2 k i aa hx c hm c hc rfl
   ·rw[ac,A9]
    refine⟨aA,?_,λx hx y hy=>?_⟩
    ·rw[A9]
     refine⟨by simp,zog.2 ⟨λi Z=>?_,λi j aB hj x hx y hy e=>?_⟩,λx hx y hy=>?_⟩
     ·by_cases O:i=k
      ·rw[if_pos O];exact ho.nodup
      ·rw[if_neg O];exact nf.1 i Z
     ·subst e
      by_cases O:i=k
      ·rw[if_pos O]at hx
       rw[if_neg (by omega)]at hy
       exact au x hx j hj (by omega) hy
      ·rw[if_neg O]at hx
       by_cases ak:j=k
       ·rw[if_pos ak]at hy
        exact au x hy i (by omega) O hx
       ·rw[if_neg ak]at hy
        exact nf.2 i j aB hj x hx x hy rfl
     ·simp at hx;subst hx
      obtain⟨i,Z,hy⟩:=BA.1 hy
      simp at Z
      intro e;subst e
      by_cases O:i=k
      ·rw[if_pos O]at hy;exact al hy
      ·rw[if_neg O]at hy;exact af i Z hy
    ·intro e;subst e
     rw[An]at hy
     rcases hy with hy|hy
     ·simp at hy;exact am x hx hy
     ·obtain⟨i,Z,hy⟩:=BA.1 hy
      simp at Z
      by_cases O:i=k
      ·rw[if_pos O]at hy;exact an x hx hy
      ·rw[if_neg O]at hy;exact aj x hx i Z hy
  ·rw[ac,An,An]at hc
   rcases hc with hc|hc|hc
   ·exact .inl (by simp[hc])
   ·exact .inl (by simp at hc;simp[hc])
   ·obtain⟨i,Z,hc⟩:=BA.1 hc
    simp at Z
    by_cases O:i=k
    ·rw[if_pos O]at hc;exact .inr hc
    ·rw[if_neg O]at hc;exact .inl (ae i Z c hc)
def Foc(h:zb)(base rb:Nat)(p:Addr)(x:Tr)(T:Tr->Tr):Prop:=
 ∃(b o:Nat) (cs:Array Value) (bx:List Nat),p=⟨b,o,none⟩/\Blk h b cs/\o+4<=cs.size/\OT h x bx (cut cs o 4)/\b∉bx/\base<=b/\(∀c∈bx,base<=c) /\
  ∀(h':zb) (x':Tr) (cells':List Value) (b':List Nat),(∀c,c≠b->c∉bx->c<h.size->h'[c]?=h[c]?)->Blk h' b (upd cs o cells')->OT h' x' b' cells'->(∀c∈b',c∈bx\/h.size<=c) ->
   ∃cs' O,Blk h' rb cs'/\cs'.size=4/\OT h' (T x') O cs'.toList/\∀c∈O,base<=c/\c≠rb
theorem Foc.step{base rb:Nat}{p:Addr}{x:Tr}{T:Tr->Tr}(H:Foc h base rb p x T)(hk:k<x.items.length):
  ∃(si:Sl) (a:Addr),zk h (p.add 3)=some (slV si)/\si.a=some a/\si.len=x.items.length/\Foc h base rb (a.add (k*4)) x.items[k] (λy=>T (zxx x k y)):=by
 obtain⟨b,o,cs,bx,rfl,hb,ho,ot,ae,aA,Z,ac⟩:=H
 obtain⟨b2,au,si,aB,e3,ea,el,ax,aC,aa,ak,an,O,ai⟩:=ot.put1 hk
 refine⟨si,⟨b2,0,none⟩,?_,ea,el,b2,k*4,au,aB,by rw[zm,AH],ax,by omega,ak,an,Z b2 aa,λc hc=>Z c (O c hc),λh' x' cells' b' hf al ar af=>?_⟩
 ·rw[zm]
  refine hb.cell ?_
  rw[zu,if_pos (by omega)]at e3
  rw[<-A0];exact e3
 ·have ap:b≠b2:=λe=>ae (e ▸ aa)
  obtain⟨bn,am,ah⟩:=ai h' x' cells' b' (λc hc ay az=>hf c az ay (ot.lt c hc)) al ar (λc hc=>(af c hc).imp id λhx hm=>by have:=ot.lt c hm;omega)
  refine ac h' (zxx x k x') (cut cs o 4) bn (λc hc aj ac=>hf c (λe=>aj (e ▸ aa)) (λhm=>aj (O c hm)) ac) ?_ am λc hc=>?_
  ·rw[zvi ho]
   exact hb.keep (hf b ap (λhm=>ae (O b hm)) hb.lt)
  ·rcases ah c hc with hx|hx
   ·exact .inl hx
   ·rcases af c hx with hy|hy
    ·exact .inl (O c hy)
    ·exact .inr hy
theorem Foc.put{base rb:Nat}{p:Addr}{x:Tr}{T:Tr->Tr}(H:Foc h base rb p x T){h1:zb}(k:Keep h.size h h1){w:Tr}{bw:List Nat}{cw:List Value}(ow:OT h1 w bw cw)(ac:∀c∈bw,h.size<=c):
  ∃(b o:Nat) (cs:Array Value),p=⟨b,o,none⟩/\base<=b/\b<h.size/\Blk h1 b cs/\o+4<=cs.size/\∀h2:zb,Blk h2 b (upd cs o cw)->h2.size=h1.size->(∀j,j≠b->h2[j]?=h1[j]?) ->
   ∃cs' ae,Blk h2 rb cs'/\cs'.size=4/\OT h2 (T w) ae cs'.toList/\∀c∈ae,base<=c/\c≠rb:=by
 obtain⟨b,o,cs,bx,rfl,hb,ho,ot,aj,Z,ai,O⟩:=H
 have af:=hb.lt
 refine⟨b,o,cs,rfl,Z,af,hb.ofKeep k,ho,λh2 ah ak aa=>?_⟩
 refine O h2 w cw bw (λc hc _ O=>(aa c hc).trans (k.get c O)) ah (ow.frame λc hc=>aa c (λe=>by have:=ac c hc;omega)) λc hc=>.inr (ac c hc)
theorem Foc.keep{h h':zb}{base rb:Nat}{p:Addr}{x:Tr}{T:Tr->Tr}(H:Foc h base rb p x T)(k:Keep h.size h h'):Foc h' base rb p x T:=by
 obtain⟨b,o,cs,bx,rfl,hb,ho,ot,ae,O,Z,ai⟩:=H
 have hz:=k.size
 refine⟨b,o,cs,bx,rfl,hb.ofKeep k,ho,ot.frame λc hc=>k.get c (ot.lt c hc),ae,O,Z,λh2 x' cells' b' hf aa af ah=>ai h2 x' cells' b' (λc hc aj ac=>(hf c hc aj (by omega)).trans (k.get c ac)) aa af λc hc=>(ah c hc).imp id λhx=>by omega⟩
end
end Go.X
end
section
namespace Go.X
open Go Go.Lib
section
variable {v w:Tr}
def zae:Tr->List Bt->Tr->Tr
 |_,[],w=>w
 |v,s::p,w=>if 0<=qu v s then(match v.items[(qu v s).toNat]? with
  |some x=>zxx v (qu v s).toNat (zae x p w)
  |none=>v)else v
theorem zvj{s:Bt}{p:List Bt}{k:Nat}(h:qu v s=k)(hk:k<v.items.length):zae v (s::p) w=zxx v k (zae v.items[k] p w):=by
 rw[zae,if_pos (by omega),h,Ad,Am hk]
theorem zcp{s:Bt}{p:List Bt}(h:(ym v (s::p)).length=(s::p).length):∃(k:Nat) (hk:k<v.items.length),qu v s=k/\ym v (s::p)=(k,v.items[k])::ym v.items[k] p/\(ym v.items[k] p).length=p.length:=by
 unfold ym at h
 split at h
 ·rename_i h0
  split at h
  ·rename_i x hx
   obtain⟨hk,e⟩:=Az.1 hx
   refine⟨(qu v s).toNat,hk,by omega,za1 (by omega) hk,?_⟩
   rw[e];simpa using h
  ·simp at h
 ·simp at h
theorem zho:∀(l:List Tr) (k:Nat) (h:k<l.length) (y:Tr),xj (l.set k y)+tsz l[k]=xj l+tsz y
 |x::l,0,_,y=>by simp[xj];omega
 |x::l,k+1,h,y=>by
  have:=zho l k (by simpa using h) y
  simp[xj];omega
theorem z1g(w:Tr):∀(p:List Bt) (v:Tr),tsz (zae v p w)<=tsz v+tsz w
 |[],v=>by rw[zae];omega
 |s::p,v=>by
  rw[zae]
  split
  ·split
   ·rename_i x hx
    obtain⟨hk,e⟩:=Az.1 hx
    have h1:=z1g w p x
    have h2:=zho v.items _ hk (zae x p w)
    rw[e]at h2
    rw[j5,j5 v]
    show 1+xj (v.items.set _ _)<=_
    omega
   ·omega
  ·omega
theorem zfu{m:Nat}{w:Tr}(hw:txB m w):∀(p:List Bt) (v:Tr),txB m v->txB m (zae v p w)
 |[],v,_=>by rw[zae];exact hw
 |s::p,v,hv=>by
  rw[zae]
  split
  ·split
   ·rename_i x hx
    obtain⟨hk,e⟩:=Az.1 hx
    have hm:x∈v.items:=e ▸ As hk
    have h1:=zfu hw p x (Q8 hv hm)
    have h2:=(J3 m v).1 hv
    refine(J3 m _).2 ⟨h2.1,Ja.2 λy hy=>?_⟩
    rcases List.mem_or_eq_of_mem_set hy with hy|rfl
    ·exact Ja.1 h2.2 y hy
    ·exact h1
   ·exact hv
  ·exact hv
theorem zoh(h:yg v=true):tsz v<=4096:=by
 unfold yg Z3 at h
 simp at h
 omega
theorem qak(hv:Sm v)(hw:Sm w)(h1:tsz v+tsz w<=1000000000000)(p:List Bt):Sm (zae v p w):=⟨by have:=z1g w p v;omega,zfu hw.tx p v hv.tx⟩
def zT:Tr:=.mk 0 ⟨#[]⟩ [] []
def qal(v:Tr)(p:List Bt):Tr×Bool:=if yg v&&qh p then(match yj v p with
 |some x=>(x,true)
 |none=>(zT,false))else(zT,false)
end
end Go.X
end
section
namespace Go.X
section
variable {gl:Fr} {R:Bool -> Prop}
theorem zoi{D:Bs}(k:Nat):zi (D.take k)<=zi D:=by
 conv=>rhs;rw[<-Br k D,Q7]
 have:1<=10 ^ (D.drop k).length:=Nat.one_le_pow _ _ (by decide)
 calc zi (D.take k)=zi (D.take k)*1:=by omega
  _<=zi (D.take k)*10 ^ (D.drop k).length:=Nat.mul_le_mul_left _ this
  _<=_:=by omega
set_option maxHeartbeats 1000000 in
theorem z1h{n:Nm}(hn:n.2.1.length<=4611686018427387904){R:Int×Bool->Prop}(h:R (zxm n)):PC Tp gl 140 [Arg.mk tN (nmB n)] [.int .i64,.bool] R:=by
 apply zfl
 refine zja hn ?_
 unfold zxm at h
 cases hr:yo n with
 |false=>
  rw[hr]at h
  exact⟨λ_=>by simpa using h,λhx=>by simp at hx⟩
 |true=>
  obtain⟨hl,an,au⟩:=Wz hr
  rw[hr]at h
  simp only[Bi]at h
  simp only[zj,qy]
  rw[w64 (by omega)]
  refine⟨λhx=>?_,λhx=>?_⟩
  ·rw[if_neg]at h
   ·exact h
   ·simp at hx ⊢;omega
  ·have ar:0<=n.2.2/\(n.2.1.length:Int)+n.2.2<=19:=by simp at hx;omega
   rw[if_pos (by simp;omega)]at h
   rw[<-zmf]at h
   have ai:=zmg hr
   have ak:((xh n).length:Int)=(n.2.1.length:Int)+n.2.2:=by rw[xh,Ao,List.length_replicate];omega
   rw[<-ak]
   have aj:∀k (hk:k<(xh n).length),k<n.2.1.length->n.2.1[k]?.getD 0=(xh n)[k]:=by
    intro k hk ac
    rw[zbg ac];simp only[xh];rw[CX ac]
   have ae:∀k (hk:k<(xh n).length),¬k<n.2.1.length->(xh n)[k]=48:=by
    intro k hk ac
    simp only[xh];rw[Cx (by omega),List.getElem_replicate]
   generalize xh n=D at *
   refine⟨λv i=>∃k:Nat,i=k/\k<=D.length/\v=-(zi (D.take k):Int)/\zi (D.take k)<=9223372036854775808,λ_ i=>D.length-i.toNat,⟨0,rfl,by omega,by simp[zi],by simp[zi]⟩,?_⟩
   rintro v i ⟨k,rfl,hk,rfl,hv⟩
   refine⟨λhc=>?_,λhc=>?_⟩
   ·have O:k<D.length:=by simp at hc;omega
    have hd:=zu4 ai O
    have step:∀d:Int,d=(D[k].toNat:Int)-48->(True/\(10:Int)≠0 /\
      ((decide ((-(zi (D.take k):Int))<(Aa .i64 ((Aa .i64 ((-9223372036854775808)+d)).tdiv 10))))=true->R (0,false)) /\
      ((decide ((-(zi (D.take k):Int))<(Aa .i64 ((Aa .i64 ((-9223372036854775808)+d)).tdiv 10))))=false ->
       ((∃k':Nat,(Aa .i64 ((k:Int)+1))=k'/\k'<=D.length/\(Aa .i64 ((Aa .i64 (10*(-(zi (D.take k):Int))))-d))=-(zi (D.take k'):Int)/\zi (D.take k')<=9223372036854775808) /\
        D.length-(Aa .i64 ((k:Int)+1)).toNat<D.length-((k:Int)).toNat))):=by
     intro d ap
     have am:0<=d/\d<=9:=by omega
     obtain⟨m,hm⟩:∃m:Nat,(-9223372036854775808+d:Int)=-(m:Int):=⟨(9223372036854775808-d).toNat,by omega⟩
     have e1:(-(m:Int)).tdiv 10=-((m / 10:Nat):Int):=by rw[Int.neg_tdiv];rfl
     rw[wrap64 (n:=-9223372036854775808+d) (by omega) (by omega),hm,e1,wrap64 (n:=-((m / 10:Nat):Int)) (by omega) (by omega)]
     refine⟨trivial,by omega,λhq=>?_,λhq=>?_⟩
     ·have aa:-(zi (D.take k):Int) < -((m / 10:Nat):Int):=by simpa using hq
      have al:9223372036854775808<zi (D.take (k+1)):=by rw[Za O];omega
      have:=zoi (D:=D) (k+1)
      cases hb:n.1 with
      |true=>rw[hb]at h;simp only[if_true]at h;rw[if_neg (by omega)]at h;exact h
      |false=>rw[hb]at h;simp only[AW,if_false]at h;rw[if_neg (by omega)]at h;exact h
     ·have aa:¬-(zi (D.take k):Int) < -((m / 10:Nat):Int):=by simpa using hq
      have ah:zi (D.take (k+1))<=9223372036854775808:=by rw[Za O];omega
      have af:=ah
      rw[Za O]at af
      rw[y5 O (by omega),wrap64 (n:=10*_) (by omega) (by omega),wrap64 (n:=10*_-d) (by omega) (by omega)]
      refine⟨⟨k+1,rfl,by omega,?_,ah⟩,by simp only[Ad];omega⟩
      rw[Za O];omega
    intro K hK
    simp only[Ad]
    refine⟨λhq=>⟨by simp at hq;omega,hK _ (step _ ?_)⟩,λhq=>hK _ (step _ ?_)⟩
    ·have aa:k<n.2.1.length:=by simp at hq;omega
     rw[aj k O aa,z7w (by omega) (by omega),w64 (by omega)]
    ·have aa:¬k<n.2.1.length:=by simp at hq;omega
     rw[ae k O aa];rfl
   ·have O:k=D.length:=by simp at hc;omega
    subst O
    rw[AD]at hv ⊢
    refine⟨λhb=>?_,λhb=>⟨λhq=>?_,λhq=>?_⟩⟩
    ·have Z:n.1=true:=hb
     rw[Z]at h
     simp only[if_true]at h
     rw[if_pos (by omega)]at h;exact h
    ·have Z:n.1=false:=hb
     rw[Z]at h
     simp only[AW,if_false]at h
     rw[if_neg (by simp at hq;omega)]at h;exact h
    ·have Z:n.1=false:=hb
     rw[Z]at h
     simp only[AW,if_false]at h
     rw[if_pos (by simp at hq;omega)]at h
     rw[wrap64 (n:=0 - -(zi D:Int)) (by omega) (by simp at hq;omega)]
     have:(0:Int) - -(zi D:Int)=zi D:=by omega
     rw[this];exact h
theorem qam(hg:GL gl){s:Bs}(hs:s.length<=1152921504606846976)(h:R (zva s)):PC Tp gl 85 [Arg.mk .str (bl s)] [.bool] R:=by
 apply zno
 refine zco hg hs (qdf hg (n:=(zq2 s).1) (Qm s hs) ?_)
 simp only[Bg]
 exact h
theorem qo(v:Tr):Tr.mk v.kind v.text v.keys v.items=v:=by cases v;rfl
theorem Jf{l:List Tr}{k:Nat}(h:k<l.length):l[((k:Int)).toNat]?=some l[k]:=by rw[Ad,Am h]
theorem z1i{gl:Fr}(v:Tr)(hv:tsz v<=1000000000000){R:Int->Prop}(h:R (tsz v:Int)):PC Tp gl 78 [Arg.mk .tree v] [.int .i64] R:=by
 apply znn
 have aa:=Zw v.items
 have Z:=j5 v
 refine⟨λn i=>∃k:Nat,i=k/\k<=v.items.length/\n=((1+xj (v.items.take k):Nat):Int),λ_ i=>v.items.length-i.toNat,⟨0,rfl,by omega,by simp[xj]⟩,?_⟩
 rintro n i ⟨k,rfl,hk,rfl⟩
 refine⟨λhc=>?_,λhc=>?_⟩
 ·have O:k<v.items.length:=by simp at hc;omega
  refine⟨v.items[k],⟨by omega,Jf O⟩,?_⟩
  rw[qo]
  have hm:v.items[k]∈v.items:=As O
  have ac:=jj hm
  have ae:xj (v.items.take (k+1))<=xj v.items:=by
   have:=y7 (v.items.take (k+1)) (v.items.drop (k+1))
   rw[Br]at this;omega
  have ht:=zq0 O
  refine z1i (v.items[k]) (by omega) ?_
  rw[y5 O (by omega),w64 (by omega)]
  exact⟨⟨k+1,rfl,by omega,by omega⟩,by simp only[Ad];omega⟩
 ·have O:k=v.items.length:=by simp at hc;omega
  subst O
  rw[AD,<-Z];exact h
termination_by tsz v
theorem zoj{gl:Fr}(v:Tr)(hv:tsz v<=1000000000000){R:Int->Prop}(h:R (tsz v:Int)):PC Tp gl 65 [Arg.mk .tree v] [.int .i64] R:=by
 apply zd1
 have aa:=Zw v.items
 have Z:=j5 v
 refine⟨λn i=>∃k:Nat,i=k/\k<=v.items.length/\n=((1+xj (v.items.take k):Nat):Int),λ_ i=>v.items.length-i.toNat,⟨0,rfl,by omega,by simp[xj]⟩,?_⟩
 rintro n i ⟨k,rfl,hk,rfl⟩
 refine⟨λhc=>?_,λhc=>?_⟩
 ·have O:k<v.items.length:=by simp at hc;omega
  refine⟨v.items[k],⟨by omega,Jf O⟩,?_⟩
  rw[qo]
  have hm:v.items[k]∈v.items:=As O
  have ac:=jj hm
  have ae:xj (v.items.take (k+1))<=xj v.items:=by
   have:=y7 (v.items.take (k+1)) (v.items.drop (k+1))
   rw[Br]at this;omega
  have ht:=zq0 O
  refine zoj (v.items[k]) (by omega) ?_
  rw[y5 O (by omega),w64 (by omega)]
  exact⟨⟨k+1,rfl,by omega,by omega⟩,by simp only[Ad];omega⟩
 ·have O:k=v.items.length:=by simp at hc;omega
  subst O
  rw[AD,<-Z];exact h
termination_by tsz v
theorem zvk{gl:Fr}(v:Tr)(hv:tsz v<=1000000000000){R:Int->Prop}(h:R (tdp v:Int)):PC Tp gl 79 [Arg.mk .tree v] [.int .i64] R:=by
 apply zkv
 have Z:=Zw v.items
 have ae:=j5 v
 have af:=zoa v.items
 have ac:=zu8 v
 refine⟨λn i=>∃k:Nat,i=k/\k<=v.items.length/\n=((zgi (v.items.take k):Nat):Int),λ_ i=>v.items.length-i.toNat,⟨0,rfl,by omega,by simp[zgi]⟩,?_⟩
 rintro n i ⟨k,rfl,hk,rfl⟩
 refine⟨λhc=>?_,λhc=>?_⟩
 ·have O:k<v.items.length:=by simp at hc;omega
  refine⟨v.items[k],⟨by omega,Jf O⟩,?_⟩
  rw[qo]
  have hm:v.items[k]∈v.items:=As O
  have aa:=jj hm
  have ht:=zq1 O
  refine zvk (v.items[k]) (by omega) ?_
  rw[y5 O (by omega)]
  refine⟨⟨k+1,rfl,by omega,?_⟩,by simp only[Ad];omega⟩
  rw[ht];split <;> omega
 ·have O:k=v.items.length:=by simp at hc;omega
  subst O
  rw[AD,w64 (by omega)]
  have:((zgi v.items:Nat):Int)+1=(tdp v:Int):=by omega
  rw[this];exact h
termination_by tsz v
theorem zjj{gl:Fr}(v:Tr)(hv:tsz v<=1000000000000){R:Int->Prop}(h:R (tdp v:Int)):PC Tp gl 66 [Arg.mk .tree v] [.int .i64] R:=by
 apply zca
 have Z:=Zw v.items
 have ae:=j5 v
 have af:=zoa v.items
 have ac:=zu8 v
 refine⟨λn i=>∃k:Nat,i=k/\k<=v.items.length/\n=((zgi (v.items.take k):Nat):Int),λ_ i=>v.items.length-i.toNat,⟨0,rfl,by omega,by simp[zgi]⟩,?_⟩
 rintro n i ⟨k,rfl,hk,rfl⟩
 refine⟨λhc=>?_,λhc=>?_⟩
 ·have O:k<v.items.length:=by simp at hc;omega
  refine⟨v.items[k],⟨by omega,Jf O⟩,?_⟩
  rw[qo]
  have hm:v.items[k]∈v.items:=As O
  have aa:=jj hm
  have ht:=zq1 O
  refine zjj (v.items[k]) (by omega) ?_
  rw[y5 O (by omega)]
  refine⟨⟨k+1,rfl,by omega,?_⟩,by simp only[Ad];omega⟩
  rw[ht];split <;> omega
 ·have O:k=v.items.length:=by simp at hc;omega
  subst O
  rw[AD,w64 (by omega)]
  have:((zgi v.items:Nat):Int)+1=(tdp v:Int):=by omega
  rw[this];exact h
termination_by tsz v
theorem zvl{v:Tr}(hv:Sm v)(h:R (Z3 v)):PC Tp gl 44 [Arg.mk .tree v] [.bool] R:=by
 apply zku
 rw[qo]
 refine z1i v hv.sz ⟨λr=>r=(tdp v:Int),λ_=>zvk v hv.sz rfl,λr hr=>?_⟩
 have e:(bif decide ((tsz v:Int)<=4096)then decide (r<=32)else false)=Z3 v:=by
  unfold Z3
  cases hc:decide ((tsz v:Int)<=4096)with
  |false=>(have:decide (tsz v<=4096)=false:=by simp at hc ⊢;omega);rw[this];rfl
  |true=>
   have:decide (tsz v<=4096)=true:=by simp at hc ⊢;omega
   rw[this,hr hc,cond_true,Bi,AB];simp;omega
 rw[e];exact h
end
section
theorem XF{vs:List Value}{f:FuncId}{fn:Func}{h:zb}{R:Value->zb->Prop}{F:Prop}(pl:Plan)(rs:List ResultVar)(n:Nat)(hf:AK.funcs[f]?=some fn)(H:F)(hb:Wl fn=true:=by kernel_rfl)(hr:fn.results.toList=rs:=by kernel_rfl)(hn:fn.ntmps=n:=by kernel_rfl)(hz:Nat.ble vs.length n=true:=by kernel_rfl)(e:F=W Tp n pl (codeOf fn) (qef Tp rs R) (zy0 0 vs) h:=by kernel_rfl):XC Tp f vs.toArray h R:=zwn Tryz.mixed pl vs hf hb hr hn hz (Eq.mp e H)
theorem zk4(O:Sl)(n1:Int)(h:zb)(R:Value->zb->Prop)
  (H:let b:=h.push (.map #[] 0);∃(c:Int->zb->Prop) (d:Int->zb->Nat),c 0 b/\∀e:Int,∀f:zb,c e f->((decide (e<O.len)=true->∃g,(O.a=some g/\0<=e/\e<O.len)/\∃i,zk f (g.add (e.toNat*1))=some (.string i)/\∃j,QExec Tp (Eg 123 (.map (some h.size)) (.string i) false) f (.bool j)/\∃k:Value->zb->Prop,((!j)=true->XC Tp 84 #[.string i] f (λl m=>∃n,l=.bool n/\k (.bool n) m))/\((!j)=false->∃o,k (.bool o) f)/\((!j)=true->∀p q,k p q->∃r,p=.bool r)/\∀s:Bool,∀t,k (.bool s) t->((bif j then true else(!s))=true->R (.bool false) t)/\((bif j then true else(!s))=false->XRunU Tp (C4 123 (.map (some h.size)) (.string i) (.bool true)) t (λu=>(c (Aa .i64 (e+1)) u/\d (Aa .i64 (e+1)) u<d e f))))/\(decide (e<O.len)=false->R (.bool ((O.len:Int)==n1)) f))):
  XC Tp 82 #[.slice O.a O.len O.cap,.int .i64 n1] h R:=
 XF ⟨[],[(3,[(13,.one (.int .i64))])],[]⟩ [.tmp 4] 32 Tryz.func82 H
theorem wl(s0:Sl)(aa:FuncId)(Z:Array Value)(O:Array Value)(h:zb)(R:Value->zb->Prop)
  (H:XC Tp 118 #[slV s0,.func (.func aa) Z O] h (λb c=>∃d,b=.int .i64 d/\R (.bool (decide (d>=0))) c)):
  XC Tp 80 #[.slice s0.a s0.len s0.cap,.func (.func aa) Z O] h R:=
 XF ⟨[],[],[]⟩ [.tmp 4] 9 Tryz.func80 H
theorem xa(s0:Sl)(O:FuncId)(aa:Array Value)(Z:Array Value)(h:zb)(R:Value->zb->Prop)
  (H:∃(b:Int->zb->Prop) (c:Int->zb->Nat),b 0 h/\∀d:Int,∀e:zb,b d e->((decide (d<s0.len)=true->∃f,(s0.a=some f/\0<=d/\d<s0.len)/\∃g i j k,ze e (f.add (d.toNat*4)) 0 [.int .i64 g,.string i,slV j,slV k]/\qp Tp O=true/\XC Tp O (aa++#[.agg #[.int .i64 g,.string i,slV j,slV k]]++Z) e (λl m=>∃n,l=.bool n/\(n=true->R (.int .i64 d) m)/\(n=false->(b (Aa .i64 (d+1)) m/\c (Aa .i64 (d+1)) m<c d e))))/\(decide (d<s0.len)=false->R (.int .i64 (-1)) e))):
  XC Tp 118 #[.slice s0.a s0.len s0.cap,.func (.func O) aa Z] h R:=
 XF ⟨[],[(2,[(8,.one (.int .i64))])],[]⟩ [.tmp 4] 19 Tryz.func118 H
theorem zgz(b:Int)(c:Bt)(d:Sl)(e:Sl)(c1:Addr)(h:zb)(R:Value->zb->Prop)
  (H:let f:=h.push (.cells #[.int .i64 b,.string c,slV d,slV e] 25);∃g i j k,ze f ⟨h.size,0,none⟩ 0 [.int .i64 g,.string i,slV j,slV k]/\∃l:Value,zk f c1=some l/\XC Tp 45 #[.agg #[.int .i64 g,.string i,slV j,slV k],l] f (λm n=>∃o,m=.bool o/\R (.bool (!o)) n)):
  XC Tp 81 #[.agg #[.int .i64 b,.string c,.slice d.a d.len d.cap,.slice e.a e.len e.cap],.pointer (some c1)] h R:=
 XF ⟨[],[],[]⟩ [.tmp 3] 8 Tryz.func81 H
theorem zk5(b:Int)(c:Bt)(d:Sl)(e:Sl)(Z:FuncId)(O:Array Value)(aa:Array Value)(h:zb)(R:Value->zb->Prop)
  (H:let f:=h.push (.cells #[.int .i64 b,.string c,slV d,slV e] 25);let g:=f.push (.cells #[.func (.func Z) O aa] 44);∃i:Value,zk g ⟨f.size,0,none⟩=some i/\∃j k l m,ze g ⟨h.size,0,none⟩ 0 [.int .i64 j,.string k,slV l,slV m]/\qb9 Tp i #[.agg #[.int .i64 j,.string k,slV l,slV m]] (λn o=>XC Tp n o g (λp q=>∃r,p=.bool r/\∃s,(r=true->zk q (Aj ⟨h.size,0,none⟩ 3)=some (slV s))/\∃t:Value->zb->Prop,(r=true->XC Tp 80 #[slV s,.func (.func 81) #[] #[.pointer (some ⟨f.size,0,none⟩)]] q (λu v=>∃w,u=.bool w/\t (.bool w) v))/\(r=false->∃x,t (.bool x) q)/\(r=true->∀y z,t y z->∃A,y=.bool A)/\∀B:Bool,∀C,t (.bool B) C->R (.bool (bif r then(!B)else false)) C))):
  XC Tp 45 #[.agg #[.int .i64 b,.string c,.slice d.a d.len d.cap,.slice e.a e.len e.cap],.func (.func Z) O aa] h R:=
 XF ⟨[],[],[]⟩ [.tmp 4] 15 Tryz.func45 H
theorem zok(b:Int)(c:Bt)(d:Sl)(e:Sl)(h:zb)(R:Value->zb->Prop)
  (H:let f:=h.push (.cells #[.int .i64 b,.string c,slV d,slV e] 25);∃g i j k,ze f ⟨h.size,0,none⟩ 0 [.int .i64 g,.string i,slV j,slV k]/\XC Tp 44 #[.agg #[.int .i64 g,.string i,slV j,slV k]] f (λl m=>∃n,l=.bool n/\∃o p q r,(n=true->ze m ⟨h.size,0,none⟩ 0 [.int .i64 o,.string p,slV q,slV r])/\∃s:Value->zb->Prop,(n=true->XC Tp 45 #[.agg #[.int .i64 o,.string p,slV q,slV r],.func (.func 47) #[] #[]] m (λt u=>∃v,t=.bool v/\s (.bool v) u))/\(n=false->∃w,s (.bool w) m)/\(n=true->∀x y,s x y->∃z,x=.bool z)/\∀A:Bool,∀B,s (.bool A) B->R (.bool (bif n then A else false)) B)):
  XC Tp 42 #[.agg #[.int .i64 b,.string c,.slice d.a d.len d.cap,.slice e.a e.len e.cap]] h R:=
 XF ⟨[],[],[]⟩ [.tmp 2] 9 Tryz.func42 H
theorem xr(s0:Sl)(aa:FuncId)(Z:Array Value)(O:Array Value)(h:zb)(R:Value->zb->Prop)
  (H:XC Tp 112 #[slV s0,.func (.func aa) Z O] h (λb c=>∃d,b=.int .i64 d/\R (.bool (decide (d>=0))) c)):
  XC Tp 73 #[.slice s0.a s0.len s0.cap,.func (.func aa) Z O] h R:=
 XF ⟨[],[],[]⟩ [.tmp 4] 9 Tryz.func73 H
theorem Zx(s0:Sl)(O:FuncId)(aa:Array Value)(Z:Array Value)(h:zb)(R:Value->zb->Prop)
  (H:∃(b:Int->zb->Prop) (c:Int->zb->Nat),b 0 h/\∀d:Int,∀e:zb,b d e->((decide (d<s0.len)=true->∃f,(s0.a=some f/\0<=d/\d<s0.len)/\∃g,zk e (f.add (d.toNat*1))=some (.string g)/\qp Tp O=true/\XC Tp O (aa++#[.string g]++Z) e (λi j=>∃k,i=.bool k/\(k=true->R (.int .i64 d) j)/\(k=false->(b (Aa .i64 (d+1)) j/\c (Aa .i64 (d+1)) j<c d e))))/\(decide (d<s0.len)=false->R (.int .i64 (-1)) e))):
  XC Tp 112 #[.slice s0.a s0.len s0.cap,.func (.func O) aa Z] h R:=
 XF ⟨[],[(2,[(8,.one (.int .i64))])],[]⟩ [.tmp 4] 19 Tryz.func112 H
theorem zem(s0:Bt)(h:zb)(R:Value->zb->Prop)
  (H:XC Tp 75 #[.string s0] h (λa b=>∃c,a=.bool c/\R (.bool (!c)) b)):
  XC Tp 74 #[.string s0] h R:=
 XF ⟨[],[],[]⟩ [.tmp 2] 6 Tryz.func74 H
theorem zg0(O:Sl)(h:zb)(R:Value->zb->Prop)
  (H:∃b:Value->zb->Prop,(decide ((O.len:Int)<=64)=true->XC Tp 73 #[slV O,.func (.func 74) #[] #[]] h (λc d=>∃e,c=.bool e/\b (.bool e) d))/\(decide ((O.len:Int)<=64)=false->∃f,b (.bool f) h)/\(decide ((O.len:Int)<=64)=true->∀g i,b g i->∃j,g=.bool j)/\∀k:Bool,∀l,b (.bool k) l->R (.bool (bif (decide ((O.len:Int)<=64))then(!k)else false)) l):
  XC Tp 37 #[.slice O.a O.len O.cap] h R:=
 XF ⟨[],[],[]⟩ [.tmp 2] 11 Tryz.func37 H
theorem zk6(b:Int)(c:Bt)(d:Sl)(e:Sl)(h:zb)(R:Value->zb->Prop)
  (H:let f:=h.push (.cells #[.int .i64 b,.string c,slV d,slV e] 25);let g:=f.push (.cells #[.int .i64 0,.string (⟨#[]⟩:Bt),.slice none 0 0,.slice none 0 0] 25);∃i,zk g (Aj ⟨h.size,0,none⟩ 2)=some (slV i)/\∃j,zk g (Aj ⟨h.size,0,none⟩ 3)=some (slV j)/\XC Tp 99 #[slV i] g (λk l=>∃m,k=slV m/\Keep g.size g l/\XC Tp 100 #[slV j] l (λn o=>∃p,n=slV p/\XRunU Tp (Ai 22 (.pointer (some (Aj ⟨h.size,0,none⟩ 2))) (slV m)) o (λq=>XRunU Tp (Ai 23 (.pointer (some (Aj ⟨h.size,0,none⟩ 3))) (slV p)) q (λr=>∃s,zk r (Aj ⟨h.size,0,none⟩ 3)=some (slV s)/\∃(t:Int->zb->Prop) (u:Int->zb->Nat),t 0 r/\∀v:Int,∀w:zb,t v w->((decide (v<s.len)=true->∃x,(s.a=some x/\0<=v/\v<s.len)/\∃y z A B,ze w (x.add (v.toNat*4)) 0 [.int .i64 y,.string z,slV A,slV B]/\let C:=w.push (.cells #[.int .i64 0,.string (⟨#[]⟩:Bt),.slice none 0 0,.slice none 0 0] 25);XRunU Tp (Ai 25 (.pointer (some ⟨w.size,0,none⟩)) (.agg #[.int .i64 y,.string z,slV A,slV B])) C (λD=>∃E,zk D (Aj ⟨h.size,0,none⟩ 3)=some (slV E)/\∃F G I J,ze D ⟨w.size,0,none⟩ 0 [.int .i64 F,.string G,slV I,slV J]/\∃L,(E.a=some L/\0<=v/\v<E.len)/\XC Tp 58 #[.agg #[.int .i64 F,.string G,slV I,slV J]] D (λM N=>∃O P Q S,M=.agg #[.int .i64 O,.string P,slV Q,slV S]/\Keep D.size D N/\XRunU Tp (Ai 25 (.pointer (some (L.add (v.toNat*4)))) (.agg #[.int .i64 O,.string P,slV Q,slV S])) N (λT=>(t (Aa .i64 (v+1)) T/\u (Aa .i64 (v+1)) T<u v w)))))/\(decide (v<s.len)=false->∃U V W X,ze w ⟨h.size,0,none⟩ 0 [.int .i64 U,.string V,slV W,slV X]/\XRunU Tp (Ai 25 (.pointer (some ⟨f.size,0,none⟩)) (.agg #[.int .i64 U,.string V,slV W,slV X])) w (λY=>∃Z aa ab ac,ze Y ⟨f.size,0,none⟩ 0 [.int .i64 Z,.string aa,slV ab,slV ac]/\R (.agg #[.int .i64 Z,.string aa,slV ab,slV ac]) Y)))))))):
  XC Tp 58 #[.agg #[.int .i64 b,.string c,.slice d.a d.len d.cap,.slice e.a e.len e.cap]] h R:=
 XF ⟨[(1,2000),(5,2000)],[(3,[(16,.one (.int .i64))])],[]⟩ [.cell 2 25] 29 Tryz.func58 H
theorem Qz(s0:Sl)(h:zb)(R:Value->zb->Prop)
  (H:(s0.a.isNone=true->R (.slice none 0 0) h)/\(s0.a.isNone=false->let b:=h.push (.cells #[] 9);XRun Tp (Au #[22,22] 22 #[.slice (some ⟨h.size,0,none⟩) 0 0,slV s0]) b (λc d=>∃e,c=slV e/\R (slV e) d))):
  XC Tp 99 #[.slice s0.a s0.len s0.cap] h R:=
 XF ⟨[],[],[]⟩ [.tmp 2] 8 Tryz.func99 H
theorem Zb(s0:Sl)(h:zb)(R:Value->zb->Prop)
  (H:(s0.a.isNone=true->R (.slice none 0 0) h)/\(s0.a.isNone=false->let b:=h.push (.cells #[] 25);XRun Tp (Au #[23,23] 23 #[.slice (some ⟨h.size,0,none⟩) 0 0,slV s0]) b (λc d=>∃e,c=slV e/\R (slV e) d))):
  XC Tp 100 #[.slice s0.a s0.len s0.cap] h R:=
 XF ⟨[],[],[]⟩ [.tmp 2] 8 Tryz.func100 H
theorem zen(b:Int)(c:Bt)(d:Sl)(e:Sl)(h:zb)(R:Value->zb->Prop)
  (H:let f:=h.push (.cells #[.int .i64 b,.string c,slV d,slV e] 25);let g:=f.push (.cells #[.int .i64 0,.string (⟨#[]⟩:Bt),.slice none 0 0,.slice none 0 0] 25);∃i j k l,ze g ⟨h.size,0,none⟩ 0 [.int .i64 i,.string j,slV k,slV l]/\XC Tp 42 #[.agg #[.int .i64 i,.string j,slV k,slV l]] g (λm n=>∃o,m=.bool o/\((!o)=true->XRunU Tp (Ai 25 (.pointer (some ⟨f.size,0,none⟩)) (.agg #[.int .i64 0,.string (⟨#[]⟩:Bt),.slice none 0 0,.slice none 0 0])) n (λp=>∃q r s t,ze p ⟨f.size,0,none⟩ 0 [.int .i64 q,.string r,slV s,slV t]/\R (.agg #[.int .i64 q,.string r,slV s,slV t]) p))/\((!o)=false->∃u v w x,ze n ⟨h.size,0,none⟩ 0 [.int .i64 u,.string v,slV w,slV x]/\XC Tp 58 #[.agg #[.int .i64 u,.string v,slV w,slV x]] n (λy z=>∃A B C D,y=.agg #[.int .i64 A,.string B,slV C,slV D]/\XRunU Tp (Ai 25 (.pointer (some ⟨f.size,0,none⟩)) (.agg #[.int .i64 A,.string B,slV C,slV D])) z (λE=>∃F G I J,ze E ⟨f.size,0,none⟩ 0 [.int .i64 F,.string G,slV I,slV J]/\R (.agg #[.int .i64 F,.string G,slV I,slV J]) E))))):
  XC Tp 32 #[.agg #[.int .i64 b,.string c,.slice d.a d.len d.cap,.slice e.a e.len e.cap]] h R:=
 XF ⟨[],[],[]⟩ [.cell 2 25] 9 Tryz.func32 H
theorem zjk(b:Int)(c:Bt)(d:Sl)(e:Sl)(O:Sl)(h:zb)(R:Value->zb->Prop)
  (H:let f:=h.push (.cells #[.int .i64 b,.string c,slV d,slV e] 25);let g:=f.push (.cells #[slV O] 22);R (.func (.func 116) #[] #[.pointer (some ⟨f.size,0,none⟩),.pointer (some ⟨h.size,0,none⟩)]) g):
  XC Tp 77 #[.agg #[.int .i64 b,.string c,.slice d.a d.len d.cap,.slice e.a e.len e.cap],.slice O.a O.len O.cap] h R:=
 XF ⟨[],[],[]⟩ [.tmp 4] 6 Tryz.func77 H
theorem Q9(b0:Option Addr)(c1:Int)(h:zb)(R:Value->zb->Prop)
  (H:XC Tp 148 #[.pointer b0] h (λb c=>b=.tuple #[]/\∃d,b0=some d/\∃e,zk c (Aj d 1)=some (slV e)/\let f:=c.push (.cells #[.int .u8 c1] 5);XRun Tp (Au #[99,99] 99 #[slV e,.slice (some ⟨c.size,0,none⟩) 1 1]) f (λg i=>∃j,g=slV j/\∃k,b0=some k/\XRunU Tp (Ai 99 (.pointer (some (Aj k 1))) (slV j)) i (λl=>R (.nilIface) l)))):
  XC Tp 120 #[.pointer b0,.int .u8 c1] h R:=
 XF ⟨[],[],[]⟩ [.tmp 4] 17 Tryz.func120 H
theorem Qo(b0:Option Addr)(s1:Bt)(h:zb)(R:Value->zb->Prop)
  (H:XC Tp 148 #[.pointer b0] h (λb c=>b=.tuple #[]/\∃d,b0=some d/\∃e,zk c (Aj d 1)=some (slV e)/\XRun Tp (Au #[99,9] 99 #[slV e,.string s1]) c (λf g=>∃i,f=slV i/\∃j,b0=some j/\XRunU Tp (Ai 99 (.pointer (some (Aj j 1))) (slV i)) g (λk=>R (.tuple #[.int .i64 (s1.size:Int),.nilIface]) k)))):
  XC Tp 121 #[.pointer b0,.string s1] h R:=
 XF ⟨[],[],[]⟩ [.tmp 4,.tmp 5] 19 Tryz.func121 H
theorem zjl(O:Sl)(h:zb)(R:Value->zb->Prop)
  (H:XC Tp 37 #[slV O] h (λb c=>∃d,b=.bool d/\((!d)=true->R (.tuple #[.string (⟨#[]⟩:Bt),.int .i64 1]) c)/\((!d)=false->let e:=c.push (.cells #[.pointer none,.slice none 0 0] 127);∃(f:Int->zb->Prop) (g:Int->zb->Nat),f 0 e/\∀i:Int,∀j:zb,f i j->((decide (i<O.len)=true->∃k,(O.a=some k/\0<=i/\i<O.len)/\∃l,zk j (k.add (i.toNat*1))=some (.string l)/\XC Tp 120 #[.pointer (some ⟨c.size,0,none⟩),.int .u8 47] j (λm n=>∃o:Value,m=o/\XC Tp 122 #[.string l,.string (⟨#[126]⟩:Bt),.string (⟨#[126,48]⟩:Bt)] n (λp q=>∃r,p=.string r/\XC Tp 122 #[.string r,.string (⟨#[47]⟩:Bt),.string (⟨#[126,49]⟩:Bt)] q (λs t=>∃u,s=.string u/\XC Tp 121 #[.pointer (some ⟨c.size,0,none⟩),.string u] t (λv w=>∃x,∃y:Value,v=.tuple #[.int .i64 x,y]/\(f (Aa .i64 (i+1)) w/\g (Aa .i64 (i+1)) w<g i j))))))/\(decide (i<O.len)=false->XC Tp 123 #[.pointer (some ⟨c.size,0,none⟩)] j (λz A=>∃B,z=.string B/\R (.tuple #[.string B,.int .i64 0]) A)))))):
  XC Tp 89 #[.slice O.a O.len O.cap] h R:=
 XF ⟨[],[(5,[(12,.one (.int .i64))])],[]⟩ [.tmp 2,.tmp 3] 23 Tryz.func89 H
end
section
variable {gl M:Fr} {F:FuncId} {A C:Array Value} {h:zb}
theorem z1j:MapT Tp 123 9 4 (.bool false):=⟨by kernel_rfl,by kernel_rfl,⟨Tryz.t4,by kernel_rfl,by kernel_rfl⟩⟩
set_option maxHeartbeats 1000000 in
theorem z5z(hg:GL gl){ks:List Bt}{n:Int}(hk:∀k∈ks,(lb k).length<=1048576){R:Bool->Prop}(h:R (jy ks&&decide ((ks.length:Int)=n))):PC Tp gl 82 [Arg.mk (.row .str) ks,Arg.mk (.int .i64) n] [.bool] R:=by
 intro hp M vs hM ag ha
 match vs,ha with
 |[u,w],⟨h1,h2,_⟩=>
  obtain⟨s,rfl,hr⟩:=zit h1
  have hw:=zux h2
  subst hw
  have hr:Rd M (.row .str) ks [slV s]:=hr
  obtain⟨ak,aG,aH⟩:=rowLen hr
  apply PX.of
  apply zk4 s n
  intro g0
  have kg:Keep hp.size hp g0:=Keep.push _ _ (Ae _)
  have sg:g0.size=hp.size+1:=Ak _
  have mg:MapAt g0 hp.size []:=MapAt.new hp
  clear_value g0
  refine⟨λi h4=>∃k:Nat,i=k/\k<=ks.length/\hp.size<h4.size/\(∃M4,Later hp M h4 M4/\M4 hp.size=none)/\(∃l,MapAt h4 hp.size l/\∀x,zwp l x (.bool false)=.bool (decide (x∈ks.take k)))/\jy (ks.take k)=true,λi _=>ks.length-i.toNat,
   ⟨0,rfl,by omega,by omega,⟨M,Later.same ag kg,ag.none (Ae _)⟩,⟨[],mg,λx=>rfl⟩,by simp[jy]⟩,?_⟩
  rintro i h4 ⟨k,rfl,aF,ae,⟨M4,L4,au⟩,⟨l,af,am⟩,ah⟩
  refine⟨λhc=>?_,λhc=>?_⟩
  ·have aa:k<ks.length:=by simp at hc;omega
   have aC:=Rd.mono L4.le hr
   refine zkr L4.ag aC aa rfl rfl ?_
   have ap:=zbq z1j af ks[k] false
   rw[am]at ap
   refine⟨decide (ks[k]∈ks.take k),ap,?_⟩
   have O:=zq3 hg.tabs (l:=lb ks[k]) (R:=λb=>b=jr (lb ks[k])) (by have:=hk _ (As aa);omega) rfl
   rw[Jc]at O
   generalize hd:decide (ks[k]∈ks.take k)=d
   refine⟨λv h5=>∃b,v=.bool b/\(d=false->b=jr (lb ks[k]))/\hp.size<h5.size/\(∃M5,Later hp M h5 M5/\M5 hp.size=none)/\MapAt h5 hp.size l,λhn=>?_,λhn=>⟨true,true,rfl,λe=>(by rw[e]at hn;cases hn),ae,⟨M4,L4,au⟩,af⟩,λ_ v h5 ⟨b,e,_⟩=>⟨b,e⟩,?_⟩
   ·refine O.go (vs:=[.string ks[k]]) (hM.trans L4.le) L4.ag (qn (rdStr _) y0) λv h5 M5 r L5 ax ay=>⟨r,zc2 ax,r,rfl,λ_=>ay,by have:=L5.keep.size;omega,⟨M5,L4.trans L5,by rw[L5.old _ ae,au]⟩,af.keep (L5.keep.get _ ae)⟩
   ·rintro b h5 ⟨b',e,hb,aE,⟨M5,L5,ar⟩,aA⟩
    cases e
    have al:ks.take (k+1)=ks.take k++[ks[k]]:=Ag aa
    have an:jy (ks.take (k+1))=(!d&&jr (lb ks[k])):=by
     have Z:=ah
     unfold jy at Z ⊢
     rw[AI,decide_eq_true_eq]at Z
     rw[al,CR,Z.1,<-hd]
     have:decide (List.take k ks++[ks[k]]).Nodup=!decide (ks[k]∈ks.take k):=by
      rw[AB]
      simp only[decide_eq_true_eq,B4,decide_eq_false_iff_not,A9]
      constructor
      ·rintro⟨_,_,h3⟩ ac
       exact h3 _ ac _ (by simp) rfl
      ·intro ac
       exact⟨Z.2,by simp,λa ha b hb e=>ac (by simp at hb;rw[<-hb,<-e];exact ha)⟩
     rw[this];simp[Bool.and_comm]
    refine⟨λhx=>?_,λhx=>?_⟩
    ·refine⟨M5,_,L5,zdx.2 (rdBool _),?_⟩
     have hf:jy (ks.take (k+1))=false:=by
      rw[an]
      cases d with
      |true=>rfl
      |false=>rw[hb rfl]at hx;simpa using hx
     have aB:jy ks=false:=by
      cases hks:jy ks with
      |false=>rfl
      |true=>
       unfold jy at hks hf
       rw[AI,decide_eq_true_eq]at hks
       have h1:((ks.take (k+1)).all λk=>jr (lb k))=true:=by
        rw[AQ]at hks ⊢
        exact λx hx=>hks.1 x (BI hx)
       have h2:(ks.take (k+1)).Nodup:=hks.2.sublist (List.take_sublist _ _)
       rw[h1,decide_eq_true h2]at hf;cases hf
     rw[aB]at h;exact h
    ·have aj:d=false:=by cases d with
      |true=>simp at hx
      |false=>rfl
     have aD:jr (lb ks[k])=true:=by rw[<-hb aj];rw[aj]at hx;simpa using hx
     refine zy4 z1j aA ks[k] (.bool true) λh6 m6 s6 o6=>?_
     rw[y5 aa (by omega)]
     refine⟨⟨k+1,rfl,by omega,by omega,⟨M5,⟨⟨by have:=L5.keep.size;omega,λi hi=>by rw[o6 i (by omega)];exact L5.keep.get i hi⟩,L5.le,L5.old,?_⟩,ar⟩,⟨_,m6,λx=>?_⟩,by rw[an,aj,aD];rfl⟩,by simp only[Ad];omega⟩
     ·intro b c e
      have az:b≠hp.size:=λe2=>by rw[e2,ar]at e;cases e
      obtain⟨T,m,e'⟩:=L5.ag b c e
      exact⟨T,m,by rw[o6 b az];exact e'⟩
     ·unfold zwp
      rw[zy3,al]
      by_cases ai:ks[k]=x
      ·subst ai
       rw[if_pos rfl]
       simp only[An,Be,or_true,decide_true,Option.getD_some]
      ·rw[if_neg ai]
       have:=am x
       unfold zwp at this
       rw[this]
       congr 1
       rw[AB,decide_eq_true_eq,decide_eq_true_eq,An,Be]
       exact⟨.inl,λe=>e.elim id λe=>absurd e.symm ai⟩
  ·have aa:k=ks.length:=by simp at hc;omega
   subst aa
   rw[AD]at ah
   refine⟨M4,_,L4,zdx.2 (rdBool _),?_⟩
   rw[ah,Bi]at h
   have:(((s.len:Nat):Int)==n)=decide ((ks.length:Int)=n):=by rw[ak,AB];simp
   rw[this];exact h
def Beh(gl:Fr)(F:FuncId)(A C:Array Value)(h:zb)(M:Fr)(t:Ty)(x:El t)(b:Bool):Prop:=
 qp Tp F=true/\∀h' M' u,Later h M h' M'->RdV M' t x u->PX Tp F (A++#[u]++C) h' M' [.bool] (λr=>r=b)
theorem qdm(ag:AgM M h){xs:List Tr}{s:Sl}(hr:Rd M (.row .tree) xs [slV s]){p:Tr->Bool}(hb:∀x∈xs,Beh gl F A C h M .tree x (p x)):
  PX Tp 80 #[slV s,.func (.func F) A C] h M [.bool] (λr=>r=xs.any p):=by
 apply PX.of
 apply wl s F A C
 apply xa s F A C
 obtain⟨ae,af,ah⟩:=rowLen hr
 refine⟨λi h4=>∃k:Nat,i=k/\k<=xs.length/\(∃M4,Later h M h4 M4)/\(xs.take k).any p=false,λi _=>xs.length-i.toNat,⟨0,rfl,by omega,⟨M,Later.refl ag⟩,by simp⟩,?_⟩
 rintro i h4 ⟨k,rfl,hk,⟨M4,L4⟩,Z⟩
 refine⟨λhc=>?_,λhc=>?_⟩
 ·have O:k<xs.length:=by simp at hc;omega
  obtain⟨a,sk,si,e1,e2,e3,e4⟩:=zqm L4.ag (Rd.mono L4.le hr) O
  refine⟨a,⟨e1,by omega,by omega⟩,xs[k].kind,xs[k].text,sk,si,by rw[Ad];exact e2,(hb _ (As O)).1,?_⟩
  refine((hb _ (As O)).2 h4 M4 _ L4 (yn e3 e4)).go λv h5 M5 r L5 ac aa=>⟨r,zc2 ac,λhx=>?_,λhx=>?_⟩
  ·refine⟨(k:Int),rfl,M5,_,L4.trans L5,zdx.2 (rdBool _),?_⟩
   have:xs.any p=true:=Ei.2 ⟨xs[k],As O,by rw[<-aa];exact hx⟩
   rw[this];simp
  ·rw[y5 O (by omega)]
   refine⟨⟨k+1,rfl,by omega,⟨M5,L4.trans L5⟩,?_⟩,by simp only[Ad];omega⟩
   rw[Ag O,List.any_append,Z]
   simp only[EV,List.any_nil,<-aa,hx];rfl
 ·have O:k=xs.length:=by simp at hc;omega
  subst O
  rw[AD]at Z
  refine⟨-1,rfl,M4,_,L4,zdx.2 (rdBool _),?_⟩
  rw[Z];rfl
theorem qft(ag:AgM M h){xs:List Bt}{s:Sl}(hr:Rd M (.row .str) xs [slV s]){p:Bt->Bool}(hb:∀x∈xs,Beh gl F A C h M .str x (p x)):
  PX Tp 73 #[slV s,.func (.func F) A C] h M [.bool] (λr=>r=xs.any p):=by
 apply PX.of
 apply xr s F A C
 apply Zx s F A C
 obtain⟨ae,af,ah⟩:=rowLen hr
 refine⟨λi h4=>∃k:Nat,i=k/\k<=xs.length/\(∃M4,Later h M h4 M4)/\(xs.take k).any p=false,λi _=>xs.length-i.toNat,⟨0,rfl,by omega,⟨M,Later.refl ag⟩,by simp⟩,?_⟩
 rintro i h4 ⟨k,rfl,hk,⟨M4,L4⟩,Z⟩
 refine⟨λhc=>?_,λhc=>?_⟩
 ·have O:k<xs.length:=by simp at hc;omega
  refine zkr L4.ag (Rd.mono L4.le hr) O rfl rfl ⟨(hb _ (As O)).1,?_⟩
  refine((hb _ (As O)).2 h4 M4 _ L4 (rdStr _)).go λv h5 M5 r L5 ac aa=>⟨r,zc2 ac,λhx=>?_,λhx=>?_⟩
  ·refine⟨(k:Int),rfl,M5,_,L4.trans L5,zdx.2 (rdBool _),?_⟩
   have:xs.any p=true:=Ei.2 ⟨xs[k],As O,by rw[<-aa];exact hx⟩
   rw[this];simp
  ·rw[y5 O (by omega)]
   refine⟨⟨k+1,rfl,by omega,⟨M5,L4.trans L5⟩,?_⟩,by simp only[Ad];omega⟩
   rw[Ag O,List.any_append,Z]
   simp only[EV,List.any_nil,<-aa,hx];rfl
 ·have O:k=xs.length:=by simp at hc;omega
  subst O
  rw[AD]at Z
  refine⟨-1,rfl,M4,_,L4,zdx.2 (rdBool _),?_⟩
  rw[Z];rfl
end
section
variable {l ks:List Bt} {k:Nat} {gl:Fr} {v:Tr} {R:Bool -> Prop} {F:FuncId}
theorem qf3:decide (((l.length:Nat):Int)>0)=!l.isEmpty:=by cases l <;> simp
theorem qdn{l:List Tr}:decide (((l.length:Nat):Int)>0)=!l.isEmpty:=by cases l <;> simp
theorem zvm(s:Bt):(s.toList==(⟨#[]⟩:Bt).toList)=(lb s==[]):=by
 have:=zcl (lb s) []
 rw[Jc]at this
 rw[show(⟨#[]⟩:Bt)=bl []from rfl,this,AB];simp
theorem z6a(s:Bt)(l:Bs):(s.toList==(bl l).toList)=(lb s==l):=by
 have:=zcl (lb s) l
 rw[Jc]at this
 rw[this,AB];simp
theorem qdo{k n:Int}:(k==n)=decide (k=n):=by rw[AB];simp
set_option maxHeartbeats 1000000 in
theorem z1k(hg:GL gl)(hv:Sm v)(h:R (zv v)):PC Tp gl 47 [Arg.mk .tree v] [.bool] R:=by
 apply znm
 have ht:(lb v.text).length<=1152921504606846976:=by have:=hv.text;omega
 have key:∀b,b=zv v->R b:=λb hb=>by rw[hb];exact h
 have hd:=zco hg (s:=lb v.text) (R:=λr=>R r.2\/v.kind≠3) ht
 have ae:=zq3 hg.tabs (l:=lb v.text) (R:=λr=>r=jr (lb v.text)) (by omega) rfl
 have af:=qam hg (s:=lb v.text) (R:=λr=>r=zva (lb v.text)) ht rfl
 have ac:=zco hg (s:=lb v.text) (R:=λr=>r.2=(zq2 (lb v.text)).2) ht rfl
 rw[Jc]at ae af ac
 simp only[qdo,qf3,qdn,show(⟨#[116,114,117,101]⟩:Bt)=bl [116,114,117,101]from rfl,show(⟨#[102,97,108,115,101]⟩:Bt)=bl [102,97,108,115,101]from rfl,z6a]
 unfold zv at key
 refine⟨λh5=>key _ ?_,λh5=>⟨λh6=>?_,λh6=>⟨λhx=>key _ ?_,λhx=>?_⟩⟩⟩
 ·have:v.kind=5:=by simpa using h5
  simp[this,Bool.and_comm]
 ·have O:v.kind=6:=by simpa using h6
  refine z5z hg (λk hk=>hv.key hk) (key _ ?_)
  simp only[O]
  rw[Bg]
  have:decide ((v.keys.length:Int)=(v.items.length:Int))=decide (v.keys.length=v.items.length):=by rw[AB,decide_eq_true_eq,decide_eq_true_eq];omega
  rw[this];rfl
 ·have aa:v.kind≠5:=by simpa using h5
  have O:v.kind≠6:=by simpa using h6
  have Z:(v.keys.isEmpty&&v.items.isEmpty)=false:=by
   cases hk:v.keys.isEmpty <;> cases hi:v.items.isEmpty <;> simp[hk,hi]at hx ⊢
  simp only[aa,O,if_false,Bool.and_assoc,Z,EI]
  simp
 ·have aa:v.kind≠5:=by simpa using h5
  have O:v.kind≠6:=by simpa using h6
  have Z:v.keys.isEmpty=true/\v.items.isEmpty=true:=by
   cases hk:v.keys.isEmpty <;> cases hi:v.items.isEmpty <;> simp[hk,hi]at hx ⊢
  simp only[aa,O,if_false,Z.1,Z.2,CL]at key
  refine⟨λh1=>key _ ?_,λh1=>⟨λh2=>key _ ?_,λh2=>⟨λh3=>?_,λh3=>⟨λh4=>?_,λh4=>⟨λh7=>?_,λh7=>key _ ?_⟩⟩⟩⟩⟩
  ·have:v.kind=1:=by simpa using h1
   simp[this]
  ·have:v.kind=2:=by simpa using h2
   simp[this]
  ·have:v.kind=3:=by simpa using h3
   exact ac.mono λr hr=>key _ (by rw[hr];simp[this])
  ·have:v.kind=4:=by simpa using h4
   exact ae.mono λr hr=>key _ (by rw[hr];simp[this])
  ·have:v.kind=7:=by simpa using h7
   exact af.mono λr hr=>key _ (by rw[hr];simp[this])
  ·have ai:v.kind≠1:=by simpa using h1
   have ah:v.kind≠2:=by simpa using h2
   have aj:v.kind≠3:=by simpa using h3
   have ak:v.kind≠4:=by simpa using h4
   have al:v.kind≠7:=by simpa using h7
   simp[ai,ah,aj,ak,al]
theorem zg1(h:k<l.length):l[((k:Int)).toNat]?=some l[k]:=by rw[Ad,Am h]
theorem zcq(hk:k<ks.length):jy (ks.take (k+1))=(jy (ks.take k)&&(jr (lb ks[k]) && !decide (ks[k]∈ks.take k))):=by
 unfold jy
 rw[Ag hk,CR]
 have:decide (List.take k ks++[ks[k]]).Nodup=(decide (List.take k ks).Nodup && !decide (ks[k]∈ks.take k)):=by
  rw[AB]
  simp only[decide_eq_true_eq,AI,B4,decide_eq_false_iff_not,A9]
  constructor
  ·rintro⟨h1,_,h3⟩
   exact⟨h1,λO=>h3 _ O _ (by simp) rfl⟩
  ·rintro⟨h1,O⟩
   exact⟨h1,by simp,λa ha b hb e=>O (by simp at hb;rw[<-hb,<-e];exact ha)⟩
 rw[this]
 simp only[CB,List.all_nil,CL]
 cases(List.all (List.take k ks) λk=>jr (lb k)) <;> cases jr (lb ks[k]) <;> simp
theorem zmm(k:Nat)(h:jy (ks.take k)=false):jy ks=false:=by
 cases hks:jy ks with
 |false=>rfl
 |true=>
  unfold jy at hks h
  rw[AI,decide_eq_true_eq]at hks
  have h1:((ks.take k).all λk=>jr (lb k))=true:=by
   rw[AQ]at hks ⊢
   exact λx hx=>hks.1 x (BI hx)
  have h2:(ks.take k).Nodup:=hks.2.sublist (List.take_sublist _ _)
  rw[h1,decide_eq_true h2]at h;cases h
set_option maxHeartbeats 1000000 in
theorem z6b(hg:GL gl)(hv:Sm v)(h:R (zv v)):PC Tp gl 106 [Arg.mk .tree v] [.bool] R:=by
 refine PC.bd λap=>?_
 have aE:v.keys.length<=140737488355328:=(ap ⟨.tree,v⟩ (by simp)).1
 apply zd4
 have ht:(lb v.text).length<=1152921504606846976:=by have:=hv.text;omega
 have key:∀b,b=zv v->R b:=λb hb=>by rw[hb];exact h
 have ak:=z7x (gl:=gl) (l:=lb v.text) (R:=λr=>r=jr (lb v.text)) (by omega) rfl
 have ah:=zs7 (gl:=gl) (s:=lb v.text) (R:=λr=>r=(nmB (zq2 (lb v.text)).1,(zq2 (lb v.text)).2)) ht rfl
 rw[Jc]at ak ah
 simp only[qdo,qf3,qdn,show(⟨#[116,114,117,101]⟩:Bt)=bl [116,114,117,101]from rfl,show(⟨#[102,97,108,115,101]⟩:Bt)=bl [102,97,108,115,101]from rfl,z6a]
 have au:∀n:Int,(v.kind != n)=!decide (v.kind=n):=λn=>by rw[bne,qdo]
 simp only[au]
 refine⟨λhx=>key _ ?_,λhx=>?_⟩
 ·unfold zv
  rcases Dt v.keys.isEmpty with hk|hk <;> rcases Dt v.items.isEmpty with hi|hi <;> simp[hk,hi]at hx ⊢
  all_goals grind
 ·intro K hK
  have O:(v.kind≠6->v.keys.isEmpty=true)/\(v.kind≠6->v.kind≠5->v.items.isEmpty=true):=by
   rcases Dt v.keys.isEmpty with hk|hk <;> rcases Dt v.items.isEmpty with hi|hi <;> simp[hk,hi]at hx ⊢ <;> grind
  unfold zv at key
  have af:∀b,(b=true↔v.kind=1\/v.kind=5)->K b:=by
   intro b hb
   refine hK b ⟨λax=>key _ ?_,λac=>?_⟩
   ·rcases hb.1 ax with h1|h5
    ·have a:=O.1 (by omega);have c:=O.2 (by omega) (by omega)
     simp[h1,a,c]
    ·have a:=O.1 (by omega)
     simp[h5,a]
   ·have al:v.kind≠1/\v.kind≠5:=by
     constructor
     ·intro e;rw[hb.2 (.inl e)]at ac;cases ac
     ·intro e;rw[hb.2 (.inr e)]at ac;cases ac
    refine⟨λh2=>key _ ?_,λh2=>⟨λh3=>?_,λh3=>⟨λh4=>?_,λh4=>⟨λh7=>?_,λh7=>⟨λh6=>?_,λh6=>key _ ?_⟩⟩⟩⟩⟩
    ·have:v.kind=2:=by simpa using h2
     have a:=O.1 (by omega);have c:=O.2 (by omega) (by omega)
     simp[this,a,c]
    ·have:v.kind=3:=by simpa using h3
     have a:=O.1 (by omega);have c:=O.2 (by omega) (by omega)
     exact ah.mono λr hr=>key _ (by rw[hr];simp[this,a,c])
    ·have:v.kind=4:=by simpa using h4
     have a:=O.1 (by omega);have c:=O.2 (by omega) (by omega)
     exact ak.mono λr hr=>key _ (by rw[hr];simp[this,a,c])
    ·have:v.kind=7:=by simpa using h7
     have a:=O.1 (by omega);have c:=O.2 (by omega) (by omega)
     refine ah.mono λr hr=>?_
     rw[hr]
     refine z1h (n:=(zq2 (lb v.text)).1) (Qm _ ht) (key _ ?_)
     simp only[Bg]
     rw[if_neg (by omega),if_neg (by omega),if_neg (by omega),if_neg (by omega),if_neg (by omega),if_neg (by omega),if_pos this,a,c,CL,CL]
     unfold zva;rfl
    ·have ai:v.kind=6:=by simpa using h6
     simp only[ai]at key
     have aa:∀b,b=(jy v.keys&&decide (v.keys.length=v.items.length)&&lb v.text==[])->R b:=key
     refine⟨λi=>∃k:Nat,i=k/\k<=v.keys.length/\jy (v.keys.take k)=true,λi=>v.keys.length-i.toNat,⟨0,rfl,by omega,by simp[jy]⟩,?_⟩
     rintro i ⟨k,rfl,hk,aj⟩
     refine⟨λhc=>?_,λhc=>?_⟩
     ·have Z:k<v.keys.length:=by simp at hc;omega
      refine⟨v.keys[k],⟨by omega,zg1 Z⟩,?_⟩
      have hu:=z7x (gl:=gl) (l:=lb v.keys[k]) (R:=λr=>r=jr (lb v.keys[k])) (by have:=hv.key (As Z);omega) rfl
      rw[Jc]at hu
      refine hu.mono λr hr=>⟨λhq=>aa _ ?_,λhq=>?_⟩
      ·have:jy v.keys=false:=zmm (k+1) (by rw[zcq Z,<-hr];simp at hq;simp[hq])
       simp[this]
      ·have az:jr (lb v.keys[k])=true:=by rw[<-hr];simpa using hq
       refine⟨λi=>∃j:Nat,i=j/\j<=k/\v.keys[k]∉v.keys.take j,λi=>k-i.toNat,⟨0,rfl,by omega,by simp⟩,?_⟩
       rintro i ⟨j,rfl,hj,ae⟩
       refine⟨λhd=>?_,λhd=>?_⟩
       ·have aB:j<k:=by simp at hd;omega
        refine⟨v.keys[j],⟨by omega,zg1 (by omega)⟩,v.keys[k],⟨by omega,zg1 Z⟩,λhe=>aa _ ?_,λhe=>?_⟩
        ·have aA:v.keys[j]=v.keys[k]:=by
          have:=z6a v.keys[j] (lb v.keys[k])
          rw[Jc]at this
          rw[this]at he
          exact zmb.1 (by simpa using he)
         have:jy v.keys=false:=zmm (k+1) (by
          rw[zcq Z]
          have hm:v.keys[k]∈v.keys.take k:=by
           rw[<-aA,List.mem_take_iff_getElem]
           exact⟨j,by omega,rfl⟩
          simp[hm])
         simp[this]
        ·have am:v.keys[j]≠v.keys[k]:=by
          intro e
          rw[e]at he
          simp at he
         rw[y5 aB (by omega)]
         refine⟨⟨j+1,rfl,by omega,?_⟩,by simp only[Ad];omega⟩
         rw[Ag (by omega),An,Be]
         exact λe=>e.elim ae λe=>am e.symm
       ·have ar:j=k:=by simp at hd;omega
        subst ar
        rw[y5 Z (by omega)]
        refine⟨⟨j+1,rfl,by omega,?_⟩,by simp only[Ad];omega⟩
        rw[zcq Z,aj,az,decide_eq_false ae];rfl
     ·have Z:k=v.keys.length:=by simp at hc;omega
      subst Z
      rw[AD]at aj
      refine aa _ ?_
      rw[aj,Bg,Bi,Bool.and_comm]
      congr 1
      rw[AB,decide_eq_true_eq,decide_eq_true_eq];omega
    ·have an:v.kind≠2:=by simpa using h2
     have ay:v.kind≠3:=by simpa using h3
     have aC:v.kind≠4:=by simpa using h4
     have aD:v.kind≠7:=by simpa using h7
     have ai:v.kind≠6:=by simpa using h6
     simp[al.1,al.2,an,ay,aC,aD,ai]
  refine⟨λh1=>af _ (by simp at h1;simp[h1]),λh1=>af _ (by simp at h1;simp[h1])⟩
theorem zjm{gl:Fr}(hg:GL gl)(O:Bool)(v:Tr)(hv:Sm v){R:Bool->Prop}(h:R (Yf (λx=>zv x&&(O||decide (x.kind≠7))) v)):PC Tp gl 67 [Arg.mk .tree v,Arg.mk .bool O] [.bool] R:=by
 apply zcb
 rw[qo]
 have ae:=hv.items
 rw[zjd,zac]at h
 refine z6b hg hv ⟨λhx=>?_,λhx=>?_⟩
 ·have:(zv v&&(O||decide (v.kind≠7)))=false:=by
   rw[qdo]at hx
   cases hn:zv v <;> cases O <;> simp[hn]at hx ⊢
   exact hx
  rw[this]at h;exact h
 ·have ht:(zv v&&(O||decide (v.kind≠7)))=true:=by
   rw[qdo]at hx
   cases hn:zv v <;> cases O <;> simp[hn]at hx ⊢
   exact hx
  rw[ht,Bi]at h
  refine⟨λi=>∃k:Nat,i=k/\k<=v.items.length/\(v.items.take k).all (Yf (λx=>zv x&&(O||decide (x.kind≠7))))=true,λi=>v.items.length-i.toNat,⟨0,rfl,by omega,by simp⟩,?_⟩
  rintro i ⟨k,rfl,hk,aa⟩
  refine⟨λhc=>?_,λhc=>?_⟩
  ·have Z:k<v.items.length:=by simp at hc;omega
   refine⟨v.items[k],⟨by omega,Jf Z⟩,?_⟩
   rw[qo]
   have hm:v.items[k]∈v.items:=As Z
   have ac:=jj hm
   refine zjm hg O v.items[k] (hv.item hm) ⟨λhq=>?_,λhq=>?_⟩
   ·have:v.items.all (Yf (λx=>zv x&&(O||decide (x.kind≠7))))=false:=by
     rw[List.all_eq_false]
     exact⟨_,hm,by simpa using hq⟩
    rw[this]at h;exact h
   ·rw[y5 Z (by omega)]
    refine⟨⟨k+1,rfl,by omega,?_⟩,by simp only[Ad];omega⟩
    rw[Ag Z,CR,aa,Bi,CB,List.all_nil,CL]
    simpa using hq
  ·have Z:k=v.items.length:=by simp at hc;omega
   subst Z
   rw[AD]at aa
   rw[aa]at h;exact h
termination_by tsz v
theorem zmn{p q:Tr->Bool}(h:∀x,p x=q x)(v:Tr):Yf p v=Yf q v:=by
 have:p=q:=funext h
 rw[this]
theorem z6c(hg:GL gl)(hv:Sm v)(h:R (yg v)):PC Tp gl 107 [Arg.mk .tree v] [.bool] R:=by
 apply zd0
 rw[qo]
 refine zoj v hv.sz ⟨λr=>r=(tdp v:Int),λ_=>zjj v hv.sz rfl,λr hr=>⟨λb=>b=Yf zv v,λ_=>zjm hg true v hv (zmn (λx=>by simp) v),λb hb=>?_⟩⟩
 have e:(bif decide ((tsz v:Int)<=4096)then decide (r<=32)else false)=Z3 v:=by
  unfold Z3
  cases hc:decide ((tsz v:Int)<=4096)with
  |false=>(have:decide (tsz v<=4096)=false:=by simp at hc ⊢;omega);rw[this];rfl
  |true=>
   have:decide (tsz v<=4096)=true:=by simp at hc ⊢;omega
   rw[this,hr hc,cond_true,Bi,AB];simp;omega
 rw[e]at hb ⊢
 unfold yg at h
 cases hs:Z3 v with
 |false=>rw[hs]at h;exact h
 |true=>rw[hs]at h;rw[cond_true,hb hs];exact h
theorem z6d(hF:qp Tp F=true){p:Tr->Bool}(hp:∀x,Sm x->PC Tp gl F [Arg.mk .tree x] [.bool] (λr=>r=p x))(n:Nat):∀(v:Tr),tsz v<=n->Sm v->∀{h:zb} {M:Fr} {u:Value},Fr.le gl M->AgM M h->RdV M .tree v u ->
  PX Tp 45 #[u,.func (.func F) #[] #[]] h M [.bool] (λr=>r=Yf p v):=by
 induction n with
 |zero=>intro v hn;have:=zn9 v;omega
 |succ n ih=>
 intro v hn hv h M u hM ag hu
 have al:=hu
 obtain⟨sk,si,rfl,rk,ri⟩:=w9 hu
 apply PX.of
 apply zk5 v.kind v.text sk si F #[] #[]
 intro h1 h2
 have L1:Later h M h1 M:=Later.push ag _
 have Z:Later h1 M h2 (Mx M h1.size #[.func (.func F) #[] #[]]):=Later.frz L1.ag _ _
 have s1:h1.size=h.size+1:=Ak _
 have s2:h2.size=h1.size+1:=Ak _
 have ae:ze h2 ⟨h.size,0,none⟩ 0 [.int .i64 v.kind,.string v.text,slV sk,slV si]:=z5f (h':=h2) (by have:=Z.keep;rw[s1]at this;exact this)
 have ar:∀h':zb,Keep h2.size h2 h'->zk h' (Aj ⟨h.size,0,none⟩ 3)=some (slV si):=λh' k=>by
  refine z9t (h:=h) (T:=25) (cs:=[.int .i64 v.kind,.string v.text,slV sk,slV si]) ?_ rfl
  have:=Z.keep.trans k (by omega)
  rw[s1]at this;exact this
 have ac:zk h2 ⟨h1.size,0,none⟩=some (.func (.func F) #[] #[]):=Z.ag.cell (zz9 _ _ _) rfl
 have aj:(Mx M h1.size #[.func (.func F) #[] #[]]) h1.size=some #[.func (.func F) #[] #[]]:=zz9 _ _ _
 have L2:=L1.trans Z
 clear_value h1 h2
 generalize (Mx M h1.size #[.func (.func F) #[] #[]])=M2 at *
 refine⟨_,ac,v.kind,v.text,sk,si,ae,hF,?_⟩
 refine(hp v hv).go (vs:=[.agg #[.int .i64 v.kind,.string v.text,slV sk,slV si]]) (hM.trans L2.le) L2.ag (qn (RdV.mono L2.le al) y0) λw h3 M3 r L3 ai hr=>?_
 refine⟨r,zc2 ai,si,λ_=>ar h3 L3.keep,?_⟩
 have O:=L2.trans L3
 refine⟨λw h4=>∃b,w=.bool b/\(r=true->b=!(zxt p v.items))/\∃M4,Later h M h4 M4,λaC=>?_,λah=>⟨true,true,rfl,λe=>(by rw[e]at ah;cases ah),M3,O⟩,λ_ w h4 ⟨b,e,_⟩=>⟨b,e⟩,?_⟩
 ·have ak:Rd M3 (.row .tree) v.items [slV si]:=Rd.mono O.le ri
  have ax:M3 h1.size=some #[.func (.func F) #[] #[]]:=L3.le _ _ aj
  refine(qdm (gl:=gl) L3.ag ak (p:=λx=>!(Yf p x)) λx hx=>⟨by kernel_rfl,λh' M' u' L' am=>?_⟩).go λw h4 M4 b L4 aa aA=>⟨b,zc2 aa,b,rfl,λ_=>?_,M4,O.trans L4⟩
  ·have aB:=jj hx
   obtain⟨sk',si',rfl,ap,ay⟩:=w9 am
   apply PX.of
   show XC Tp 81 #[.agg #[.int .i64 x.kind,.string x.text,slV sk',slV si'],.pointer (some ⟨h1.size,0,none⟩)] h' _
   apply zgz x.kind x.text sk' si'
   intro g1
   have G1:Later h' M' g1 M':=Later.push L'.ag _
   have au:ze g1 ⟨h'.size,0,none⟩ 0 [.int .i64 x.kind,.string x.text,slV sk',slV si']:=z5f (Keep.refl _ _)
   have az:zk g1 ⟨h1.size,0,none⟩=some (.func (.func F) #[] #[]):=G1.ag.cell (L'.le _ _ ax) rfl
   clear_value g1
   refine⟨x.kind,x.text,sk',si',au,_,az,?_⟩
   refine(ih x (by omega) (hv.item hx) (h:=g1) (M:=M') ((hM.trans O.le).trans L'.le) G1.ag (yn ap ay)).go λw h5 M5 b L5 af an=>⟨b,zc2 af,M5,_,G1.trans L5,zdx.2 (rdBool _),by rw[an]⟩
  ·rw[aA,zac,AB];simp
 ·rintro b h4 ⟨b',e,hb,M4,L4⟩
  cases e
  refine⟨M4,_,L4,zdx.2 (rdBool _),?_⟩
  rw[zjd,<-hr]
  cases r with
  |false=>rfl
  |true=>rw[hb rfl];simp
theorem zvn(hF:qp Tp F=true){p:Tr->Bool}(hp:∀x,Sm x->PC Tp gl F [Arg.mk .tree x] [.bool] (λr=>r=p x))(v:Tr)(hv:Sm v){h:zb}{M:Fr}{u:Value}(hM:Fr.le gl M)(ag:AgM M h)(hu:RdV M .tree v u):
  PX Tp 45 #[u,.func (.func F) #[] #[]] h M [.bool] (λr=>r=Yf p v):=z6d hF hp (tsz v) v (Ae _) hv hM ag hu
theorem zfv(hg:GL gl)(hv:Sm v)(hR:R (yg v)):PC Tp gl 42 [Arg.mk .tree v] [.bool] R:=by
 intro h M vs hM ag ha
 match vs,ha with
 |[u],⟨hu,_⟩=>
  have hu:RdV M .tree v u:=hu
  have ac:=hu
  obtain⟨sk,si,rfl,rk,ri⟩:=w9 hu
  apply PX.of
  apply zok v.kind v.text sk si
  intro h1
  have L1:Later h M h1 M:=Later.push ag _
  have s1:h1.size=h.size+1:=Ak _
  have Z:∀h':zb,Keep h1.size h1 h'->ze h' ⟨h.size,0,none⟩ 0 [.int .i64 v.kind,.string v.text,slV sk,slV si]:=λh' k=>z5f (h':=h') (by rw[s1]at k;exact k)
  clear_value h1
  refine⟨v.kind,v.text,sk,si,Z h1 (Keep.refl _ _),?_⟩
  have ah:PC Tp gl 44 [Arg.mk .tree v] [.bool] (λr=>r=Z3 v):=zvl hv rfl
  refine ah.go (vs:=[.agg #[.int .i64 v.kind,.string v.text,slV sk,slV si]]) (hM.trans L1.le) L1.ag (qn (RdV.mono L1.le ac) y0) λw h2 M2 r L2 af hr=>?_
  refine⟨r,zc2 af,v.kind,v.text,sk,si,λ_=>Z h2 L2.keep,?_⟩
  have O:=L1.trans L2
  refine⟨λw h4=>∃b,w=.bool b/\(r=true->b=Yf zv v)/\∃M4,Later h M h4 M4,λaj=>?_,λae=>⟨true,true,rfl,λe=>(by rw[e]at ae;cases ae),M2,O⟩,λ_ w h4 ⟨b,e,_⟩=>⟨b,e⟩,?_⟩
  ·refine(zvn (F:=47) (by kernel_rfl) (p:=zv) (λx hx=>z1k hg hx rfl) v hv (hM.trans O.le) L2.ag (RdV.mono O.le ac)).go λw h3 M3 b L3 aa ai=>⟨b,zc2 aa,b,rfl,λ_=>ai,M3,O.trans L3⟩
  ·rintro b h4 ⟨b',e,hb,M4,L4⟩
   cases e
   refine⟨M4,_,L4,zdx.2 (rdBool _),?_⟩
   unfold yg at hR
   rw[<-hr]at hR
   cases r with
   |false=>exact hR
   |true=>rw[cond_true,hb rfl];exact hR
end
end Go.X
end
