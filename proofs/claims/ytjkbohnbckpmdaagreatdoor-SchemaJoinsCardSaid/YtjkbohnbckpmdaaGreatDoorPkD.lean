/- A part of the proof: nothing is stated here for its own sake. -/
import Derived.Test.YtjkbohnbckpmdaaGreatDoorPkC
import Derived.Lib.AppendZerosOnto
import Derived.RangeFuncCalls
open _root_.Go.Addr renaming add->zae
open _root_.Array renaming getD_eq_getD_getElem?->zbp,getElem?_append_left->zcu,getElem?_eq_some_iff->zai,getElem?_setIfInBounds_ne->zcs,getElem?_toList->zb7,push->zb4,replicate->zbr,size->zax,size_push->zau,size_setIfInBounds->zbc
open _root_.Bool renaming and_eq_false_iff->zd3,and_eq_true->zan,and_true->zed,eq_iff_iff->za7,false_eq_true->zcc,or_eq_true->zcw,true_and->zcq
open _root_.Go.Builtin renaming append_->zav
open _root_.Classical renaming byContradiction->zc0
open _root_.Go.Code renaming cond->zeq,region->zc8
open _root_.Go.Deferred renaming ofValue->zdt
open _root_.Go.Instr renaming lookup->zd1,mapUpdate->zc7,storeAt->zag
open _root_.Int renaming toNat_natCast->zao
open _root_.Go.IntKind renaming bits->zem,signed->ze1,wrap->zaa
open _root_.List renaming all_append->zei,all_cons->zcx,all_eq_true->zas,append_assoc->zcb,append_nil->zbj,cons_append->zby,drop_drop->zdb,drop_eq_getElem_cons->za9,drop_eq_nil_of_le->zci,drop_length->zdw,drop_zero->zc2,exists_cons_of_ne_nil->zb3,ext_getElem?->zbt,getD_eq_getElem?_getD->zdl,getElem?_append_left->zc1,getElem?_append_right->zcm,getElem?_eq_getElem->zaj,getElem?_eq_some_iff->za0,getElem?_map->zbu,getElem?_modify->zck,getElem_mem->zay,length->zdh,length_append->zat,length_cons->zbi,length_drop->zb2,length_eq_zero_iff->zbq,length_map->zaw,length_nil->zef,length_pos_iff->zbo,length_take->zcr,map_append->zb9,map_cons->zbh,map_map->zb6,mem_append->zaz,mem_append_left->zap,mem_append_right->za4,mem_cons->zah,mem_cons_of_mem->zal,mem_cons_self->zaq,mem_filter->zde,mem_iff_getElem?->zdm,mem_of_getElem?->zbv,mem_range->zcd,mem_singleton->zbm,range->zbk,replicate->zd6,take_append_drop->zce,take_length->zbw,take_of_length_le->zcn,take_succ_cons->zdf,take_succ_eq_append_getElem->zar
open _root_.List.cons renaming injEq->zcg
open _root_.Nat renaming eq_of_beq_eq_true->zak,le_of_ble_eq_true->zbz,le_refl->zaf,lt_or_ge->zbf,mul_le_mul_right->za2,mul_one->zdc,one_mul->zev,strongRecOn->zee,succ_mul->zd2,zero_add->za5,zero_le->zbn
open _root_.Go.Op renaming bytesLess->zdg
open _root_.Option renaming bind_some->zcy,map_eq_some_iff->zcz
open _root_.Option.some renaming inj->za6,injEq->zab
open _root_.Go.Region renaming wanted->za8
open _root_.Go.Proofs.Tryz renaming prog->za3
open _root_.UInt8 renaming ofNat->zcj,toNat_inj->zdo
open _root_.Go.Utf8 renaming encode->zew
open _root_.Go.Value.slice renaming injEq->zbg
set_option linter.all false
set_option maxRecDepth 100000
namespace Go.X
end Go.X
namespace Go.Proofs
end Go.Proofs
open Go Go.X Go.Proofs
open _root_.Bool renaming true->Ta,false->Tb
open _root_.Option renaming some->Tc,none->Td
section
namespace Go.X
section
theorem TU(s0:Bt)(h:zc)(R:Value->zc->Prop) (H:let b:=h.push (.cells #[.string (⟨#[]⟩:Bt),.slice Td 0 0] 114);XC Tp 145 #[.string s0] b (λc d=>∃e f g,c=.tuple #[aK e,iV f,iV g]/\((g != 0)=Ta->XRunU Tp (zag 114 (.pointer (Tc ⟨h.size,0,Td⟩)) (.agg #[.string (⟨#[]⟩:Bt),.slice Td 0 0])) d (λi=>∃j k,zd i ⟨h.size,0,Td⟩ 0 [.string j,aK k]/\R (.tuple #[.agg #[.string j,aK k],iV f,iV g]) i))/\((g != 0)=Tb->let l:=d.push (.cells #[.string s0,.slice Td 0 0,iV 0,iV 0,.slice Td 0 0,iV 0,iV 0] 169);∃(m:Int->zc->Prop) (n:Int->zc->Nat),m 0 l/\∀o:Int,∀p:zc,m o p->((decide (o<e.len)=Ta->∃q,(e.a=Tc q/\0<=o/\o<e.len)/\∃r s t,zd p (q.add (o.toNat*3)) 0 [iV r,iV s,iV t]/\let u:=p.push (.cells #[iV 0,iV 0,iV 0] 171);XRunU Tp (zag 171 (.pointer (Tc ⟨p.size,0,Td⟩)) (.agg #[iV r,iV s,iV t])) u (λv=>∃w,zf v (zae ⟨p.size,0,Td⟩ 0)=Tc (iV w)/\((w != 1)=Ta->∃x:Addr,Tc ⟨d.size,0,Td⟩=Tc x/\∃y,zf v (zae x 1)=Tc (aK y)/\∃z A B,zd v ⟨p.size,0,Td⟩ 0 [iV z,iV A,iV B]/\let C:=v.push (.cells #[iV z,iV A,iV B] 171);(C)[((zae x 1):Addr).block]?=(v)[((zae x 1):Addr).block]?/\Qa Tp (zav #[162,162] 162 #[aK y,.slice (Tc ⟨v.size,0,Td⟩) 1 1]) C (λD E=>∃F,D=aK F/\∃G:Addr,Tc ⟨d.size,0,Td⟩=Tc G/\XRunU Tp (zag 162 (.pointer (Tc (zae G 1))) (aK F)) E (λI=>(m (zaa .i64 (o+1)) I/\n (zaa .i64 (o+1)) I<n o p))))/\((w != 1)=Tb->(m (zaa .i64 (o+1)) v/\n (zaa .i64 (o+1)) v<n o p))))/\(decide (o<e.len)=Tb->XC Tp 146 #[.pointer (Tc ⟨d.size,0,Td⟩),iV 1,.agg #[iV 0,iV 0]] p (λJ L=>∃M,J=.bool M/\∀N:Bool->zc->Prop,(∀O:Bool,∀P:zc,(((!O)=Ta->∃Q:Addr,Tc ⟨d.size,0,Td⟩=Tc Q/\∃S,zf P (zae Q 5)=Tc (iV S)/\∃T:Addr,Tc ⟨d.size,0,Td⟩=Tc T/\∃U,zf P (zae T 6)=Tc (iV U)/\(P)[((zae T 6):Addr).block]?=(P)[((zae T 6):Addr).block]?/\(P)[((zae Q 5):Addr).block]?=(P)[((zae Q 5):Addr).block]?/\XRunU Tp (zag 114 (.pointer (Tc ⟨h.size,0,Td⟩)) (.agg #[.string (⟨#[]⟩:Bt),.slice Td 0 0])) P (λV=>(V)[((zae T 6):Addr).block]?=(P)[((zae T 6):Addr).block]?/\(V)[((zae Q 5):Addr).block]?=(P)[((zae Q 5):Addr).block]?/\(V)[((zae T 6):Addr).block]?=(P)[((zae T 6):Addr).block]?/\∃W X,zd V ⟨h.size,0,Td⟩ 0 [.string W,aK X]/\R (.tuple #[.agg #[.string W,aK X],iV S,iV U]) V))/\((!O)=Tb->∃Y:Addr,Tc ⟨d.size,0,Td⟩=Tc Y/\∃Z,zf P (zae Y 4)=Tc (aK Z)/\XRunU Tp (zag 114 (.pointer (Tc ⟨h.size,0,Td⟩)) (.agg #[.string s0,aK Z])) P (λaa=>∃ab ac,zd aa ⟨h.size,0,Td⟩ 0 [.string ab,aK ac]/\R (.tuple #[.agg #[.string ab,aK ac],iV (s0.size:Int),iV 0]) aa)))->N O P)->∃ad,(M=Ta->Tc ⟨d.size,0,Td⟩=Tc ad)/\∃ae,(M=Ta->zf L (zae ad 1)=Tc (aK ae))/\((bif M then(decide ((ae.len:Int)>0))else Tb)=Ta->XC Tp 147 #[.pointer (Tc ⟨d.size,0,Td⟩),iV 2] L (λaf ag=>∃ah,af=.bool ah/\N ah ag))/\((bif M then(decide ((ae.len:Int)>0))else Tb)=Tb->N M L))))))):
  XC Tp 88 #[.string s0] h R:=
 XF ⟨[(9,8000),(15,8000)],[(6,[(28,.one (.int .i64))])],[(14,[(11,.one (.bool))])]⟩ [.cell 2 114,.tmp 3,.tmp 4] 79 Tryz.func88 H
theorem zv9(b:Bt)(c:Sl)(k1:Int)(be:Int)(h:zc)(R:Value->zc->Prop) (H:let d:=h.push (.cells #[.string b,aK c] 114);let e:=d.push (.cells tC 25);∃f,zf e (zae ⟨h.size,0,Td⟩ 1)=Tc (aK f)/\∃g,(f.a=Tc g/\0<=k1/\k1<f.len)/\∃i j k l m n o,zd e (g.add (k1.toNat*7)) 0 [iV i,iV j,iV k,iV l,iV m,aK n,aK o]/\let p:=e.push (.cells #[iV 0,iV 0,iV 0,iV 0,iV 0,.slice Td 0 0,.slice Td 0 0] 176);XRunU Tp (zag 176 (.pointer (Tc ⟨e.size,0,Td⟩)) (.agg #[iV i,iV j,iV k,iV l,iV m,aK n,aK o])) p (λq=>∀r:Addr->zc->Prop,(∀s:Addr,∀t:zc,(∃u,zf t (zae ⟨e.size,0,Td⟩ 5)=Tc (aK u)/\∃(v:Int->zc->Prop) (w:Int->zc->Nat),v 0 t/\∀x:Int,∀y:zc,v x y->((decide (x<u.len)=Ta->∃z,zf y (zae ⟨e.size,0,Td⟩ 5)=Tc (aK z)/\∃A,(z.a=Tc A/\0<=x/\x<z.len)/\∃B,zf y (A.add (x.toNat*1))=Tc (iV B)/\∃C,((!(decide (B<0)))=Ta->zf y (zae ⟨h.size,0,Td⟩ 1)=Tc (aK C))/\((bif (bif (decide (B<0))then Ta else(decide (B>=C.len)))then Ta else(decide (be>32)))=Ta->∃D E F G,zd y s 0 (tL D E F G)/\XRunU Tp (zag 25 (.pointer (Tc ⟨d.size,0,Td⟩)) (tA D E F G)) y (λI=>∃J L M N,zd I ⟨d.size,0,Td⟩ 0 (tL J L M N)/\R (tA J L M N) I))/\((bif (bif (decide (B<0))then Ta else(decide (B>=C.len)))then Ta else(decide (be>32)))=Tb->∀O:zc->Prop,(∀P:zc,(∃Q,zf P (zae s 3)=Tc (aK Q)/\∃S T,zd P ⟨h.size,0,Td⟩ 0 [.string S,aK T]/\XC Tp 89 #[.agg #[.string S,aK T],iV B,iV (zaa .i64 (be+1))] P (λU V=>∃W X Y Z,U=tA W X Y Z/\(V)[((zae s 3):Addr).block]?=(P)[((zae s 3):Addr).block]?/\let aa:=V.push (.cells #[iV W,.string X,aK Y,aK Z] 25);(aa)[((zae s 3):Addr).block]?=(P)[((zae s 3):Addr).block]?/\Qa Tp (zav #[23,23] 23 #[aK Q,.slice (Tc ⟨V.size,0,Td⟩) 1 1]) aa (λab ac=>∃ae,ab=aK ae/\XRunU Tp (zag 23 (.pointer (Tc (zae s 3))) (aK ae)) ac (λaf=>(v (zaa .i64 (x+1)) af/\w (zaa .i64 (x+1)) af<w x y)))))->O P)->∃ag,zf y (zae ⟨e.size,0,Td⟩ 0)=Tc (iV ag)/\((ag==6)=Ta->∃ah,zf y (zae s 2)=Tc (aK ah)/\∃ai aj,zd y ⟨h.size,0,Td⟩ 0 [.string ai,aK aj]/\XC Tp 150 #[.agg #[.string ai,aK aj],iV B] y (λak al=>∃am,ak=.string am/\(al)[((zae s 2):Addr).block]?=(y)[((zae s 2):Addr).block]?/\let an:=al.push (.cells #[.string am] 9);(an)[((zae s 2):Addr).block]?=(y)[((zae s 2):Addr).block]?/\Qa Tp (zav #[22,22] 22 #[aK ah,.slice (Tc ⟨al.size,0,Td⟩) 1 1]) an (λao ap=>∃aq,ao=aK aq/\XRunU Tp (zag 22 (.pointer (Tc (zae s 2))) (aK aq)) ap (λar=>O ar))))/\((ag==6)=Tb->O y)))/\(decide (x<u.len)=Tb->∃au av aw ax,zd y s 0 (tL au av aw ax)/\XRunU Tp (zag 25 (.pointer (Tc ⟨d.size,0,Td⟩)) (tA au av aw ax)) y (λay=>∃az aA aB aC,zd ay ⟨d.size,0,Td⟩ 0 (tL az aA aB aC)/\R (tA az aA aB aC) ay))))->r s t)->∃aD,zf q (zae ⟨e.size,0,Td⟩ 0)=Tc (iV aD)/\∃aE,zf q (zae ⟨e.size,0,Td⟩ 0)=Tc (iV aE)/\∃aF aG,zd q ⟨h.size,0,Td⟩ 0 [.string aF,aK aG]/\∃aH aI,zd q (zae ⟨e.size,0,Td⟩ 1) 0 [iV aH,iV aI]/\let aJ:Addr->Bt->zc->Prop:=λ(aL:Addr) aM (aN:zc)=>(XRunU Tp (zag 25 (.pointer (Tc aL)) (.agg #[iV aD,.string aM,.slice Td 0 0,.slice Td 0 0])) aN (λaO=>r aL aO));let aP:Addr->Bt->zc->Prop:=λ(aQ:Addr) aS (aT:zc)=>(aJ aQ aS aT);let aU:Addr->Bt->zc->Prop:=λ(aV:Addr) aW (aX:zc)=>(XC Tp 148 #[iV aE,.string aW] aX (λaY aZ=>∃a0,aY=.string a0/\(aZ)[((zae ⟨e.size,0,Td⟩ 0):Addr).block]?=(q)[((zae ⟨e.size,0,Td⟩ 0):Addr).block]?/\aP aV a0 aZ));(XC Tp 149 #[.agg #[.string aF,aK aG],.agg #[iV aH,iV aI]] q (λa1 a2=>∃a3,a1=.string a3/\(a2)[((zae ⟨e.size,0,Td⟩ 0):Addr).block]?=(q)[((zae ⟨e.size,0,Td⟩ 0):Addr).block]?/\(a2)[((zae ⟨e.size,0,Td⟩ 0):Addr).block]?=(q)[((zae ⟨e.size,0,Td⟩ 0):Addr).block]?/\(XC Tp 148 #[iV aE,.string a3] a2 (λa4 a5=>∃a6,a4=.string a6/\(a5)[((zae ⟨e.size,0,Td⟩ 0):Addr).block]?=(q)[((zae ⟨e.size,0,Td⟩ 0):Addr).block]?/\(let a7:=a5.push (.cells tC 25);aJ ⟨a5.size,0,Td⟩ a6 a7)/\(let a8:=a5.push (.cells tC 25);(a8)[((zae ⟨e.size,0,Td⟩ 0):Addr).block]?=(q)[((zae ⟨e.size,0,Td⟩ 0):Addr).block]?/\aP ⟨a5.size,0,Td⟩ a6 a8)))/\(let a9:=a2.push (.cells tC 25);(a9)[((zae ⟨e.size,0,Td⟩ 0):Addr).block]?=(q)[((zae ⟨e.size,0,Td⟩ 0):Addr).block]?/\(a9)[((zae ⟨e.size,0,Td⟩ 0):Addr).block]?=(q)[((zae ⟨e.size,0,Td⟩ 0):Addr).block]?/\aU ⟨a2.size,0,Td⟩ a3 a9)))/\(let ba:=q.push (.cells tC 25);(ba)[((zae ⟨e.size,0,Td⟩ 1):Addr).block]?=(q)[((zae ⟨e.size,0,Td⟩ 1):Addr).block]?/\(ba)[(⟨h.size,0,Td⟩:Addr).block]?=(q)[(⟨h.size,0,Td⟩:Addr).block]?/\(ba)[((zae ⟨e.size,0,Td⟩ 0):Addr).block]?=(q)[((zae ⟨e.size,0,Td⟩ 0):Addr).block]?/\(ba)[((zae ⟨e.size,0,Td⟩ 0):Addr).block]?=(q)[((zae ⟨e.size,0,Td⟩ 0):Addr).block]?/\XC Tp 149 #[.agg #[.string aF,aK aG],.agg #[iV aH,iV aI]] ba (λbb bc=>∃bd,bb=.string bd/\(bc)[((zae ⟨e.size,0,Td⟩ 0):Addr).block]?=(q)[((zae ⟨e.size,0,Td⟩ 0):Addr).block]?/\(bc)[((zae ⟨e.size,0,Td⟩ 0):Addr).block]?=(q)[((zae ⟨e.size,0,Td⟩ 0):Addr).block]?/\aU ⟨q.size,0,Td⟩ bd bc)))):
  XC Tp 89 #[.agg #[.string b,.slice c.a c.len c.cap],.int .i64 k1,.int .i64 be] h R:=
 XF ⟨[(11,8000),(10,8000),(2,8000)],[(4,[(29,.one (.int .i64))])],[(3,[(8,.one (.ad))]),(11,[])]⟩ [.cell 6 25] 74 Tryz.func89 H
theorem Yj(p0:Option Addr)(aC:Int)(b:Int)(c:Int)(h:zc)(R:Value->zc->Prop) (H:let d:=h.push (.cells #[.pointer p0] 165);let e:=d.push (.cells #[iV b,iV c] 167);∃f:Option Addr,zf e ⟨h.size,0,Td⟩=Tc (.pointer f)/\XC Tp 211 #[.pointer f] e (λg i=>∃j,g=iV j/\XC Tp 210 #[iV j] i (λk l=>∃m,k=iV m/\((m==0)=Ta->∃n:Option Addr,zf l ⟨h.size,0,Td⟩=Tc (.pointer n)/\XC Tp 147 #[.pointer n,iV 2] l (λo p=>∃q,o=.bool q/\R (.bool q) p))/\((m==0)=Tb->(decide (aC>32)=Ta->∃r:Option Addr,zf l ⟨h.size,0,Td⟩=Tc (.pointer r)/\XC Tp 147 #[.pointer r,iV 5] l (λs t=>∃u,s=.bool u/\R (.bool u) t))/\(decide (aC>32)=Tb->∃v:Option Addr,zf l ⟨h.size,0,Td⟩=Tc (.pointer v)/\∃w,v=Tc w/\∃x,zf l (zae w 4)=Tc (aK x)/\(((x.len:Int)==4096)=Ta->∃y:Option Addr,zf l ⟨h.size,0,Td⟩=Tc (.pointer y)/\XC Tp 147 #[.pointer y,iV 6] l (λz A=>∃B,z=.bool B/\R (.bool B) A))/\(((x.len:Int)==4096)=Tb->∃C:Option Addr,zf l ⟨h.size,0,Td⟩=Tc (.pointer C)/\∃D,C=Tc D/\∃E,zf l (zae D 4)=Tc (aK E)/\∃F:Option Addr,zf l ⟨h.size,0,Td⟩=Tc (.pointer F)/\∃G:Option Addr,zf l ⟨h.size,0,Td⟩=Tc (.pointer G)/\∃I,G=Tc I/\∃J,zf l (zae I 4)=Tc (aK J)/\∃L:Option Addr,zf l ⟨h.size,0,Td⟩=Tc (.pointer L)/\∃M,L=Tc M/\∃N,zf l (zae M 1)=Tc (aK N)/\∃O,(N.a=Tc O/\0<=(0:Int)/\(0:Int)<(N.len:Int))/\∃P Q,zd l (zae (O.add ((0:Int).toNat*3)) 1) 0 [iV P,iV Q]/\∃S T,zd l ⟨d.size,0,Td⟩ 0 [iV S,iV T]/\(l)[((zae I 4):Addr).block]?=(l)[((zae I 4):Addr).block]?/\(l)[(⟨h.size,0,Td⟩:Addr).block]?=(l)[(⟨h.size,0,Td⟩:Addr).block]?/\(l)[(⟨h.size,0,Td⟩:Addr).block]?=(l)[(⟨h.size,0,Td⟩:Addr).block]?/\let U:=l.push (.cells #[iV m,iV P,iV Q,iV S,iV T,.slice Td 0 0,.slice Td 0 0] 176);(U)[((zae I 4):Addr).block]?=(l)[((zae I 4):Addr).block]?/\(U)[(⟨h.size,0,Td⟩:Addr).block]?=(l)[(⟨h.size,0,Td⟩:Addr).block]?/\(U)[(⟨h.size,0,Td⟩:Addr).block]?=(l)[(⟨h.size,0,Td⟩:Addr).block]?/\Qa Tp (zav #[112,112] 112 #[aK J,.slice (Tc ⟨l.size,0,Td⟩) 1 1]) U (λV W=>∃X,V=aK X/\∃Y,F=Tc Y/\(W)[(⟨h.size,0,Td⟩:Addr).block]?=(l)[(⟨h.size,0,Td⟩:Addr).block]?/\XRunU Tp (zag 112 (.pointer (Tc (zae Y 4))) (aK X)) W (λZ=>∃aa:Option Addr,zf Z ⟨h.size,0,Td⟩=Tc (.pointer aa)/\XC Tp 212 #[.pointer aa] Z (λab ac=>ab=.tuple #[]/\∀ad:Bool->zc->Prop,(∀ae:Bool,∀af:zc,(∃ag:Option Addr,zf af ⟨h.size,0,Td⟩=Tc (.pointer ag)/\∃ah,ag=Tc ah/\∃ai,zf af (zae ah 4)=Tc (aK ai)/\∃aj:Option Addr,zf af ⟨h.size,0,Td⟩=Tc (.pointer aj)/\∃ak,aj=Tc ak/\∃al,zf af (zae (zae ak 2) 1)=Tc (iV al)/\∃am,(ai.a=Tc am/\0<=(E.len:Int)/\(E.len:Int)<(ai.len:Int))/\XRunU Tp (zag 3 (.pointer (Tc (zae (zae (am.add ((E.len:Int).toNat*7)) 1) 1))) (iV al)) af (λan=>R (.bool ae) an))->ad ae af)->((m==5)=Ta->∃ao:Option Addr,zf ac ⟨h.size,0,Td⟩=Tc (.pointer ao)/\∃ap:Option Addr,zf ac ⟨h.size,0,Td⟩=Tc (.pointer ap)/\XC Tp 213 #[.pointer ao,iV (E.len:Int),iV aC,iV 5,.func (.func 214) #[.pointer ap] #[]] ac (λaq ar=>∃au,aq=.bool au/\ad au ar))/\((m==5)=Tb->((m==6)=Ta->let av:=ac.push (.map #[] 0);let aw:=av.push (.cells #[.map Td] 105);XRunU Tp (zag 105 (.pointer (Tc ⟨av.size,0,Td⟩)) (.map (Tc ac.size))) aw (λax=>∃ay:Option Addr,zf ax ⟨h.size,0,Td⟩=Tc (.pointer ay)/\XC Tp 213 #[.pointer ay,iV (E.len:Int),iV aC,iV 3,.func (.func 215) #[] #[.pointer (Tc ⟨h.size,0,Td⟩),.pointer (Tc ⟨av.size,0,Td⟩)]] ax (λaz aA=>∃aB,az=.bool aB/\ad aB aA)))/\((m==6)=Tb->ad Ta ac))))))))))):
  XC Tp 146 #[.pointer p0,.int .i64 aC,.agg #[.int .i64 b,.int .i64 c]] h R:=
 XF ⟨[(9,8000),(18,8000)],[],[(18,[(9,.one (.bool))])]⟩ [.tmp 6] 90 Tryz.func146 H
theorem zff(k:Option Addr)(i:Int)(h:zc)(R:Value->zc->Prop) (H:XC Tp 217 #[.pointer k] h (λa b=>∃c,a=iV c/\∃d,k=Tc d/\XRunU Tp (zag 3 (.pointer (Tc (zae d 5))) (iV c)) b (λe=>∃f,k=Tc f/\XRunU Tp (zag 30 (.pointer (Tc (zae f 6))) (iV i)) e (λg=>R (.bool Tb) g)))):
  XC Tp 147 #[.pointer k,.int .i64 i] h R:=
 XF ⟨[],[],[]⟩ [.tmp 4] 14 Tryz.func147 H
theorem Yn(b0:Option Addr)(p:Int)(h:zc)(R:Value->zc->Prop) (H:XC Tp 116 #[.pointer b0] h (λb c=>b=.tuple #[]/\∃d,b0=Tc d/\∃e,zf c (zae d 1)=Tc (aK e)/\∃f,b0=Tc f/\∃g,zf c (zae f 1)=Tc (aK g)/\XC Tp 309 #[aK g,.int .i32 p] c (λi j=>∃k,i=aK k/\∃l,b0=Tc l/\XRunU Tp (zag 86 (.pointer (Tc (zae l 1))) (aK k)) j (λm=>∃n,b0=Tc n/\∃o,zf m (zae n 1)=Tc (aK o)/\R (.tuple #[iV (zaa .i64 ((o.len:Int)-(e.len:Int))),.nilIface]) m)))):
  XC Tp 252 #[.pointer b0,.int .i32 p] h R:=
 XF ⟨[],[],[]⟩ [.tmp 4,.tmp 5] 30 Tryz.func252 H
theorem Ol(b:Bt)(h:zc)(R:Value->zc->Prop) (H:let a:=h.push (.cells #[.string b] 9);R (.func (.func 273) #[] #[.pointer (Tc ⟨h.size,0,Td⟩)]) a):
  XC Tp 209 #[.string b] h R:=
 XF ⟨[],[],[]⟩ [.tmp 2] 4 Tryz.func209 H
theorem Ux(i:Option Addr)(h:zc)(R:Value->zc->Prop) (H:∃b,i=Tc b/\∃c,zf h (zae b 1)=Tc (aK c)/\(((c.len:Int)==0)=Ta->R (iV 0) h)/\(((c.len:Int)==0)=Tb->∃d,i=Tc d/\∃e,zf h (zae d 1)=Tc (aK e)/\∃f,(e.a=Tc f/\0<=(0:Int)/\(0:Int)<(e.len:Int))/\∃g,zf h (zae (f.add ((0:Int).toNat*3)) 0)=Tc (iV g)/\R (iV g) h)):
  XC Tp 211 #[.pointer i] h R:=
 XF ⟨[],[],[]⟩ [.tmp 2] 16 Tryz.func211 H
theorem Sj(n:Option Addr)(h:zc)(R:Value->zc->Prop) (H:∃b,n=Tc b/\∃c,zf h (zae b 1)=Tc (aK c)/\∃d,(c.a=Tc d/\0<=(0:Int)/\(0:Int)<(c.len:Int))/\∃e f,zd h (zae (d.add ((0:Int).toNat*3)) 1) 0 [iV e,iV f]/\∃g,n=Tc g/\∃i,zf h (zae g 1)=Tc (aK i)/\((Td:Option Value)=Td\/∃v,(Td:Option Value)=Tc v)/\(0<=(1:Int)/\(1:Int)<=(i.len:Int)/\(i.len:Int)<=(i.cap:Int)/\(i.cap:Int)<=(i.cap:Int))/\∃j,n=Tc j/\XRunU Tp (zag 167 (.pointer (Tc (zae j 2))) (.agg #[iV e,iV f])) h (λk=>∃l,n=Tc l/\XRunU Tp (zag 162 (.pointer (Tc (zae l 1))) (.slice (iD i.a 3 ((1:Int).toNat) ((i.cap:Int).toNat)) ((i.len:Int).toNat-(1:Int).toNat) ((i.cap:Int).toNat-(1:Int).toNat))) k (λm=>R (.tuple #[]) m))):
  XC Tp 212 #[.pointer n] h R:=
 XF ⟨[(0,8000)],[],[]⟩ [] 20 Tryz.func212 H
theorem Vf(p0:Option Addr)(n1:Int)(aa:Int)(Y:Int)(Z:FuncId)(ae:Array Value)(ab:Array Value)(h:zc)(R:Value->zc->Prop) (H:XC Tp 275 #[.pointer p0,iV Y] h (λb c=>∃d,b=.bool d/\(d=Ta->R (.bool Ta) c)/\(d=Tb->∃(e:zc->Prop) (f:zc->Nat),e c/\∀g:zc,e g->(∃i,p0=Tc i/\∃j,zf g (zae (zae i 2) 1)=Tc (iV j)/\∃k,p0=Tc k/\∃l,zf g (zae k 4)=Tc (aK l)/\zo Tp Z=Ta/\XC Tp Z (ae++#[iV (zaa .i64 (aa+1))]++ab) g (λm n=>∃o,m=.bool o/\((!o)=Ta->R (.bool Tb) n)/\((!o)=Tb->∃p,p0=Tc p/\∃q,zf n (zae p 4)=Tc (aK q)/\∃r,(q.a=Tc r/\0<=n1/\n1<q.len)/\∃s,Tc (r.add (n1.toNat*7))=Tc s/\∃t,zf n (zae s 5)=Tc (aK t)/\let u:=n.push (.cells #[iV (l.len:Int)] 3);Qa Tp (zav #[80,80] 80 #[aK t,.slice (Tc ⟨n.size,0,Td⟩) 1 1]) u (λv w=>∃x,v=aK x/\∃y,Tc (r.add (n1.toNat*7))=Tc y/\XRunU Tp (zag 80 (.pointer (Tc (zae y 5))) (aK x)) w (λz=>∃A,Tc (r.add (n1.toNat*7))=Tc A/\∃B,zf z (zae A 6)=Tc (aK B)/\XC Tp 217 #[.pointer p0] z (λC D=>∃E,C=iV E/\(D)[((zae A 6):Addr).block]?=(z)[((zae A 6):Addr).block]?/\(D)[((zae A 6):Addr).block]?=(z)[((zae A 6):Addr).block]?/\let F:=D.push (.cells #[iV j,iV E] 167);(F)[((zae A 6):Addr).block]?=(z)[((zae A 6):Addr).block]?/\Qa Tp (zav #[174,174] 174 #[aK B,.slice (Tc ⟨D.size,0,Td⟩) 1 1]) F (λG I=>∃J,G=aK J/\∃L,Tc (r.add (n1.toNat*7))=Tc L/\XRunU Tp (zag 174 (.pointer (Tc (zae L 6))) (aK J)) I (λM=>XC Tp 275 #[.pointer p0,iV Y] M (λN O=>∃P,N=.bool P/\(P=Ta->R (.bool Ta) O)/\(P=Tb->XC Tp 275 #[.pointer p0,iV 6] O (λQ S=>∃T,Q=.bool T/\((!T)=Ta->XC Tp 147 #[.pointer p0,iV 2] S (λU V=>∃W,U=.bool W/\R (.bool W) V))/\((!T)=Tb->(e S/\f S<f g)))))))))))))))):
  XC Tp 213 #[.pointer p0,.int .i64 n1,.int .i64 aa,.int .i64 Y,.func (.func Z) ae ab] h R:=
 XF ⟨[(8,8000)],[(3,[])],[]⟩ [.tmp 10] 71 Tryz.func213 H
theorem zfj(f:Option Addr)(e:Int)(h:zc)(R:Value->zc->Prop) (H:XC Tp 146 #[.pointer f,iV e,.agg #[iV 0,iV 0]] h (λa b=>∃c,a=.bool c/\R (.bool c) b)):
  XC Tp 214 #[.pointer f,.int .i64 e] h R:=
 XF ⟨[],[],[]⟩ [.tmp 4] 9 Tryz.func214 H
theorem Nj(f:Int)(i:Addr)(c2:Addr)(h:zc)(R:Value->zc->Prop) (H:∃a:Option Addr,zf h i=Tc (.pointer a)/\∃b:Option Nat,zf h c2=Tc (.map b)/\XC Tp 216 #[.pointer a,iV f,.map b] h (λc d=>∃e,c=.bool e/\R (.bool e) d)):
  XC Tp 215 #[.int .i64 f,.pointer (Tc i),.pointer (Tc c2)] h R:=
 XF ⟨[],[],[]⟩ [.tmp 4] 9 Tryz.func215 H
theorem VF(Y:Option Addr)(U:Int)(V:Option Nat)(h:zc)(R:Value->zc->Prop) (H:XC Tp 211 #[.pointer Y] h (λb c=>∃d,b=iV d/\((d != 8)=Ta->XC Tp 147 #[.pointer Y,iV 2] c (λe f=>∃g,e=.bool g/\R (.bool g) f))/\((d != 8)=Tb->∃i,Y=Tc i/\∃j,zf c (zae i 1)=Tc (aK j)/\∃k,(j.a=Tc k/\0<=(0:Int)/\(0:Int)<(j.len:Int))/\∃l m,zd c (zae (k.add ((0:Int).toNat*3)) 1) 0 [iV l,iV m]/\let n:=c.push (.cells #[iV 0,iV 0] 167);XRunU Tp (zag 167 (.pointer (Tc ⟨c.size,0,Td⟩)) (.agg #[iV l,iV m])) n (λo=>∃p,Y=Tc p/\∃q,zf o (zae p 0)=Tc (.string q)/\∃r,zf o (zae ⟨c.size,0,Td⟩ 0)=Tc (iV r)/\∃s,zf o (zae ⟨c.size,0,Td⟩ 1)=Tc (iV s)/\(0<=r/\r<=s/\s<=q.size)/\XC Tp 126 #[.string (q.extract r.toNat s.toNat)] o (λt u=>∃v w x,t=.tuple #[.string v,iV w,iV x]/\∃y,QExec Tp (zd1 105 (.map V) (.string v) Tb) u (.bool y)/\(y=Ta->XC Tp 147 #[.pointer Y,iV 7] u (λz A=>∃B,z=.bool B/\R (.bool B) A))/\(y=Tb->XRunU Tp (zc7 105 (.map V) (.string v) (.bool Ta)) u (λC=>XC Tp 212 #[.pointer Y] C (λD E=>D=.tuple #[]/\XC Tp 275 #[.pointer Y,iV 7] E (λF G=>∃I,F=.bool I/\((!I)=Ta->XC Tp 147 #[.pointer Y,iV 2] G (λJ L=>∃M,J=.bool M/\R (.bool M) L))/\((!I)=Tb->∃N O,zd G ⟨c.size,0,Td⟩ 0 [iV N,iV O]/\XC Tp 146 #[.pointer Y,iV U,.agg #[iV N,iV O]] G (λP Q=>∃S,P=.bool S/\R (.bool S) Q))))))))))):
  XC Tp 216 #[.pointer Y,.int .i64 U,.map V] h R:=
 XF ⟨[(4,8000)],[],[]⟩ [.tmp 6] 55 Tryz.func216 H
theorem NL(k:Option Addr)(h:zc)(R:Value->zc->Prop) (H:∃b,k=Tc b/\∃c,zf h (zae b 1)=Tc (aK c)/\(((c.len:Int)==0)=Ta->∃d,k=Tc d/\∃e,zf h (zae d 0)=Tc (.string e)/\R (iV (e.size:Int)) h)/\(((c.len:Int)==0)=Tb->∃f,k=Tc f/\∃g,zf h (zae f 1)=Tc (aK g)/\∃i,(g.a=Tc i/\0<=(0:Int)/\(0:Int)<(g.len:Int))/\∃j,zf h (zae (zae (i.add ((0:Int).toNat*3)) 1) 0)=Tc (iV j)/\R (iV j) h)):
  XC Tp 217 #[.pointer k] h R:=
 XF ⟨[],[],[]⟩ [.tmp 2] 22 Tryz.func217 H
theorem zzl(s0:Bt)(bz:Int)(h:zc)(R:Value->zc->Prop) (H:let a:=h.push (.cells #[iV bz] 3);let b:=a.push (.cells #[iV 0,iV 0,iV 0] 171);∃c,zf b ⟨h.size,0,Td⟩=Tc (iV c)/\(0<=c/\c<=s0.size/\(s0.size:Int)<=(s0.size:Int))/\(0<=(0:Int)/\(0:Int)<((s0.extract c.toNat (s0.size:Int).toNat).size:Int))/\XC Tp 194 #[.string (⟨#[123,125,91,93,44,58]⟩:Bt),.int .u8 (qj (s0.extract c.toNat (s0.size:Int).toNat) (0:Int).toNat)] b (λd e=>∃f,d=iV f/\(decide (f>=0)=Ta->∃g,zf e ⟨h.size,0,Td⟩=Tc (iV g)/\zo Tp 331=Ta/\XC Tp 331 #[iV (zaa .i64 (2+f)),iV (zaa .i64 (g+1)),.pointer (Tc ⟨h.size,0,Td⟩)] e (λi j=>∃k l m n,i=.tuple #[.agg #[iV k,iV l,iV m],iV n]/\XRunU Tp (zag 171 (.pointer (Tc ⟨a.size,0,Td⟩)) (.agg #[iV k,iV l,iV m])) j (λo=>∃p q r,zd o ⟨a.size,0,Td⟩ 0 [iV p,iV q,iV r]/\R (.tuple #[.agg #[iV p,iV q,iV r],iV n]) o)))/\(decide (f>=0)=Tb->XC Tp 194 #[.string (⟨#[32,9,10,13]⟩:Bt),.int .u8 (qj (s0.extract c.toNat (s0.size:Int).toNat) (0:Int).toNat)] e (λs t=>∃u,s=iV u/\(decide (u>=0)=Ta->∃v,zf t ⟨h.size,0,Td⟩=Tc (iV v)/\XC Tp 334 #[.string (⟨#[32,9,10,13]⟩:Bt)] t (λw x=>∃y:Value,w=y/\(x)[(⟨h.size,0,Td⟩:Addr).block]?=(t)[(⟨h.size,0,Td⟩:Addr).block]?/\XC Tp 333 #[.string (s0.extract c.toNat (s0.size:Int).toNat),y] x (λz A=>∃B,z=iV B/\(A)[(⟨h.size,0,Td⟩:Addr).block]?=(t)[(⟨h.size,0,Td⟩:Addr).block]?/\zo Tp 331=Ta/\XC Tp 331 #[iV 1,iV (zaa .i64 (v+B)),.pointer (Tc ⟨h.size,0,Td⟩)] A (λC D=>∃E F G I,C=.tuple #[.agg #[iV E,iV F,iV G],iV I]/\XRunU Tp (zag 171 (.pointer (Tc ⟨a.size,0,Td⟩)) (.agg #[iV E,iV F,iV G])) D (λJ=>∃L M N,zd J ⟨a.size,0,Td⟩ 0 [iV L,iV M,iV N]/\R (.tuple #[.agg #[iV L,iV M,iV N],iV I]) J)))))/\(decide (u>=0)=Tb->(((qj (s0.extract c.toNat (s0.size:Int).toNat) (0:Int).toNat:Int)==34)=Ta->∃O,zf t ⟨h.size,0,Td⟩=Tc (iV O)/\XC Tp 192 #[.string s0,iV O] t (λP Q=>∃S T,P=.tuple #[iV S,iV T]/\((T != 0)=Ta->zo Tp 332=Ta/\XC Tp 332 #[iV S,iV T] Q (λU V=>∃W X Y Z,U=.tuple #[.agg #[iV W,iV X,iV Y],iV Z]/\XRunU Tp (zag 171 (.pointer (Tc ⟨a.size,0,Td⟩)) (.agg #[iV W,iV X,iV Y])) V (λaa=>∃ab ac ad,zd aa ⟨a.size,0,Td⟩ 0 [iV ab,iV ac,iV ad]/\R (.tuple #[.agg #[iV ab,iV ac,iV ad],iV Z]) aa)))/\((T != 0)=Tb->zo Tp 331=Ta/\XC Tp 331 #[iV 8,iV S,.pointer (Tc ⟨h.size,0,Td⟩)] Q (λae af=>∃ag ah ai aj,ae=.tuple #[.agg #[iV ag,iV ah,iV ai],iV aj]/\XRunU Tp (zag 171 (.pointer (Tc ⟨a.size,0,Td⟩)) (.agg #[iV ag,iV ah,iV ai])) af (λak=>∃al am an,zd ak ⟨a.size,0,Td⟩ 0 [iV al,iV am,iV an]/\R (.tuple #[.agg #[iV al,iV am,iV an],iV aj]) ak)))))/\(((qj (s0.extract c.toNat (s0.size:Int).toNat) (0:Int).toNat:Int)==34)=Tb->((bif ((qj (s0.extract c.toNat (s0.size:Int).toNat) (0:Int).toNat:Int)==45)then Ta else(bif (decide ((qj (s0.extract c.toNat (s0.size:Int).toNat) (0:Int).toNat:Int)>=48))then(decide ((qj (s0.extract c.toNat (s0.size:Int).toNat) (0:Int).toNat:Int)<=57))else Tb))=Ta->∃ao,zf t ⟨h.size,0,Td⟩=Tc (iV ao)/\XC Tp 334 #[.string (⟨#[45,43,46,48,49,50,51,52,53,54,55,56,57,101,69]⟩:Bt)] t (λap aq=>∃ar:Value,ap=ar/\(aq)[(⟨h.size,0,Td⟩:Addr).block]?=(t)[(⟨h.size,0,Td⟩:Addr).block]?/\XC Tp 333 #[.string (s0.extract c.toNat (s0.size:Int).toNat),ar] aq (λau av=>∃aw,au=iV aw/\(av)[(⟨h.size,0,Td⟩:Addr).block]?=(t)[(⟨h.size,0,Td⟩:Addr).block]?/\∃ax,zf av ⟨h.size,0,Td⟩=Tc (iV ax)/\(0<=ax/\ax<=(zaa .i64 (ao+aw))/\(zaa .i64 (ao+aw))<=(s0.size:Int))/\XC Tp 107 #[.string (s0.extract ax.toNat (zaa .i64 (ao+aw)).toNat)] av (λay az=>∃aA aB aC aD,ay=.tuple #[.agg #[.bool aA,.string aB,iV aC],iV aD]/\let aE:=az.push (.cells #[.bool Tb,.string (⟨#[]⟩:Bt),iV 0] 78);XRunU Tp (zag 78 (.pointer (Tc ⟨az.size,0,Td⟩)) (.agg #[.bool aA,.string aB,iV aC])) aE (λaF=>((aD != 0)=Ta->∃aG,zf aF ⟨h.size,0,Td⟩=Tc (iV aG)/\zo Tp 332=Ta/\XC Tp 332 #[iV aG,iV aD] aF (λaH aI=>∃aJ aL aM aN,aH=.tuple #[.agg #[iV aJ,iV aL,iV aM],iV aN]/\XRunU Tp (zag 171 (.pointer (Tc ⟨a.size,0,Td⟩)) (.agg #[iV aJ,iV aL,iV aM])) aI (λaO=>∃aP aQ aS,zd aO ⟨a.size,0,Td⟩ 0 [iV aP,iV aQ,iV aS]/\R (.tuple #[.agg #[iV aP,iV aQ,iV aS],iV aN]) aO)))/\((aD != 0)=Tb->zo Tp 331=Ta/\XC Tp 331 #[iV 9,iV (zaa .i64 (ao+aw)),.pointer (Tc ⟨h.size,0,Td⟩)] aF (λaT aU=>∃aV aW aX aY,aT=.tuple #[.agg #[iV aV,iV aW,iV aX],iV aY]/\XRunU Tp (zag 171 (.pointer (Tc ⟨a.size,0,Td⟩)) (.agg #[iV aV,iV aW,iV aX])) aU (λaZ=>∃a0 a1 a2,zd aZ ⟨a.size,0,Td⟩ 0 [iV a0,iV a1,iV a2]/\R (.tuple #[.agg #[iV a0,iV a1,iV a2],iV aY]) aZ))))))))/\((bif ((qj (s0.extract c.toNat (s0.size:Int).toNat) (0:Int).toNat:Int)==45)then Ta else(bif (decide ((qj (s0.extract c.toNat (s0.size:Int).toNat) (0:Int).toNat:Int)>=48))then(decide ((qj (s0.extract c.toNat (s0.size:Int).toNat) (0:Int).toNat:Int)<=57))else Tb))=Tb->XC Tp 333 #[.string (s0.extract c.toNat (s0.size:Int).toNat),.func (.func 335) #[] #[]] t (λa3 a4=>∃a5,a3=iV a5/\(0<=(0:Int)/\(0:Int)<=a5/\a5<=((s0.extract c.toNat (s0.size:Int).toNat).size:Int))/\XC Tp 336 #[.string ((s0.extract c.toNat (s0.size:Int).toNat).extract (0:Int).toNat a5.toNat)] a4 (λa6 a7=>∃a8,a6=iV a8/\((a8 != 0)=Ta->∃a9,zf a7 ⟨h.size,0,Td⟩=Tc (iV a9)/\zo Tp 331=Ta/\XC Tp 331 #[iV a8,iV (zaa .i64 (a9+a5)),.pointer (Tc ⟨h.size,0,Td⟩)] a7 (λba bb=>∃bc bd be bf,ba=.tuple #[.agg #[iV bc,iV bd,iV be],iV bf]/\XRunU Tp (zag 171 (.pointer (Tc ⟨a.size,0,Td⟩)) (.agg #[iV bc,iV bd,iV be])) bb (λbg=>∃bh bi bj,zd bg ⟨a.size,0,Td⟩ 0 [iV bh,iV bi,iV bj]/\R (.tuple #[.agg #[iV bh,iV bi,iV bj],iV bf]) bg)))/\((a8 != 0)=Tb->∃bk,zf a7 ⟨h.size,0,Td⟩=Tc (iV bk)/\zo Tp 332=Ta/\XC Tp 332 #[iV bk,iV 2] a7 (λbl bm=>∃bn bo bp bq,bl=.tuple #[.agg #[iV bn,iV bo,iV bp],iV bq]/\XRunU Tp (zag 171 (.pointer (Tc ⟨a.size,0,Td⟩)) (.agg #[iV bn,iV bo,iV bp])) bm (λbr=>∃bs bt bu,zd br ⟨a.size,0,Td⟩ 0 [iV bs,iV bt,iV bu]/\R (.tuple #[.agg #[iV bs,iV bt,iV bu],iV bq]) br)))))))))))):
  XC Tp 274 #[.string s0,.int .i64 bz] h R:=
 XF ⟨[(9,8000),(16,8000)],[],[]⟩ [.cell 4 171,.tmp 5] 130 Tryz.func274 H
theorem QQ(i:Option Addr)(f:Int)(h:zc)(R:Value->zc->Prop) (H:XC Tp 211 #[.pointer i] h (λa b=>∃c,a=iV c/\((c != f)=Ta->R (.bool Tb) b)/\((c != f)=Tb->XC Tp 212 #[.pointer i] b (λd e=>d=.tuple #[]/\R (.bool Ta) e)))):
  XC Tp 275 #[.pointer i,.int .i64 f] h R:=
 XF ⟨[],[],[]⟩ [.tmp 4] 11 Tryz.func275 H
theorem O0(s:Bt)(r:Int)(h:zc)(R:Value->zc->Prop) (H:((!(decide (r>=s.size)))=Ta->(0<=r/\r<s.size))/\((bif (decide (r>=s.size))then Ta else((qj s r.toNat:Int) != 34))=Ta->R (.tuple #[.string (⟨#[]⟩:Bt),iV r,iV 2]) h)/\((bif (decide (r>=s.size))then Ta else((qj s r.toNat:Int) != 34))=Tb->let a:=h.push (.cells #[.pointer Td,.slice Td 0 0] 88);∃(b:Int->zc->Prop) (c:Int->zc->Nat),b (zaa .i64 (r+1)) a/\∀d:Int,∀e:zc,b d e->((decide (d<s.size)=Ta->(0<=d/\d<s.size)/\(((qj s d.toNat:Int)==34)=Ta->XC Tp 72 #[.pointer (Tc ⟨h.size,0,Td⟩)] e (λf g=>∃i,f=.string i/\R (.tuple #[.string i,iV (zaa .i64 (d+1)),iV 0]) g))/\(((qj s d.toNat:Int)==34)=Tb->(0<=d/\d<=s.size/\(s.size:Int)<=(s.size:Int))/\XC Tp 263 #[.string (s.extract d.toNat (s.size:Int).toNat)] e (λj k=>∃l m,j=.tuple #[.int .i32 l,iV m]/\((m==0)=Ta->R (.tuple #[.string (⟨#[]⟩:Bt),iV d,iV 2]) k)/\((m==0)=Tb->XC Tp 252 #[.pointer (Tc ⟨h.size,0,Td⟩),.int .i32 l] k (λn o=>∃p,∃q:Value,n=.tuple #[iV p,q]/\(b (zaa .i64 (d+m)) o/\c (zaa .i64 (d+m)) o<c d e))))))/\(decide (d<s.size)=Tb->R (.tuple #[.string (⟨#[]⟩:Bt),iV (s.size:Int),iV 2]) e)))):
  XC Tp 195 #[.string s,.int .i64 r] h R:=
 XF ⟨[],[(5,[(1,.one (.int .i64))])],[]⟩ [.tmp 4,.tmp 5,.tmp 6] 51 Tryz.func195 H
theorem Sz(i:Int)(k:Int)(c2:Addr)(h:zc)(R:Value->zc->Prop) (H:let a:=h.push (.cells #[iV 0,iV 0,iV 0] 171);∃b,zf a c2=Tc (iV b)/\XRunU Tp (zag 171 (.pointer (Tc ⟨h.size,0,Td⟩)) (.agg #[iV i,iV b,iV k])) a (λc=>∃d e f,zd c ⟨h.size,0,Td⟩ 0 [iV d,iV e,iV f]/\R (.tuple #[.agg #[iV d,iV e,iV f],iV 0]) c)):
  XC Tp 331 #[.int .i64 i,.int .i64 k,.pointer (Tc c2)] h R:=
 XF ⟨[],[],[]⟩ [.cell 5 171,.tmp 6] 12 Tryz.func331 H
theorem Rw(m:Bt)(i:FuncId)(l:Array Value)(k:Array Value)(h:zc)(R:Value->zc->Prop) (H:∃(a:Int->zc->Prop) (b:Int->zc->Nat),a 0 h/\∀c:Int,∀d:zc,a c d->((decide (c<m.size)=Ta->(0<=c/\c<m.size)/\zo Tp i=Ta/\XC Tp i (l++#[.int .u8 (qj m c.toNat)]++k) d (λe f=>∃g,e=.bool g/\((!g)=Ta->R (iV c) f)/\((!g)=Tb->(a (zaa .i64 (c+1)) f/\b (zaa .i64 (c+1)) f<b c d))))/\(decide (c<m.size)=Tb->R (iV (m.size:Int)) d))):
  XC Tp 333 #[.string m,.func (.func i) l k] h R:=
 XF ⟨[],[(2,[(8,.one (.int .i64))])],[]⟩ [.tmp 4] 21 Tryz.func333 H
theorem zwa(b:Bt)(h:zc)(R:Value->zc->Prop) (H:let a:=h.push (.cells #[.string b] 9);R (.func (.func 374) #[] #[.pointer (Tc ⟨h.size,0,Td⟩)]) a):
  XC Tp 334 #[.string b] h R:=
 XF ⟨[],[],[]⟩ [.tmp 2] 4 Tryz.func334 H
theorem QW(e:Int)(f:Addr)(h:zc)(R:Value->zc->Prop) (H:∃a,zf h f=Tc (.string a)/\XC Tp 194 #[.string a,.int .u8 e] h (λb c=>∃d,b=iV d/\R (.bool (decide (d>=0))) c)):
  XC Tp 374 #[.int .u8 e,.pointer (Tc f)] h R:=
 XF ⟨[],[],[]⟩ [.tmp 3] 8 Tryz.func374 H
theorem Ye(s0:Bt)(aM:Int)(aL:Int)(h:zc)(R:Value->zc->Prop) (H:((s0.toList==(⟨#[]⟩:Bt).toList)=Ta->R (.tuple #[.int .u64 0,.iface 306 (iV 2)]) h)/\((s0.toList==(⟨#[]⟩:Bt).toList)=Tb->∀b:Bt->Int->zc->Prop,(∀c:Bt,∀d:Int,∀e:zc,(∀f:Int->zc->Prop,(∀g:Int,∀i:zc,(∀j:Int->zc->Prop,(∀k:Int,∀l:zc,(0<=(zaa .u64 g)/\Qa Tp (convert 9 86 (.string c)) l (λm n=>∃o,m=aK o/\∃(p:Bool->Int->Int->zc->Prop) (q:Bool->Int->Int->zc->Nat),p Tb 0 0 n/\∀r:Bool,∀s t:Int,∀u:zc,p r s t u->((decide (t<o.len)=Ta->∃v,(o.a=Tc v/\0<=t/\t<o.len)/\∃w,zf u (v.add (t.toNat*1))=Tc (.int .u8 w)/\∀x:Bool->Int->zc->Prop,(∀y:Bool,∀z:Int,∀A:zc,((decide (z>=(zaa .u8 d))=Ta->R (.tuple #[.int .u64 0,.iface 306 (iV 2)]) A)/\(decide (z>=(zaa .u8 d))=Tb->(decide (s>=k)=Ta->R (.tuple #[.int .u64 (zaa .u64 ((zaa .u64 (1*2 ^ (min (zaa .u64 g).toNat 64)))-1)),.iface 306 (iV 1)]) A)/\(decide (s>=k)=Tb->((bif (decide ((zaa .u64 ((zaa .u64 (s*(zaa .u64 d)))+(zaa .u64 z)):Int)<(zaa .u64 (s*(zaa .u64 d)))))then Ta else(decide ((zaa .u64 ((zaa .u64 (s*(zaa .u64 d)))+(zaa .u64 z)):Int)>(zaa .u64 ((zaa .u64 (1*2 ^ (min (zaa .u64 g).toNat 64)))-1)))))=Ta->R (.tuple #[.int .u64 (zaa .u64 ((zaa .u64 (1*2 ^ (min (zaa .u64 g).toNat 64)))-1)),.iface 306 (iV 1)]) A)/\((bif (decide ((zaa .u64 ((zaa .u64 (s*(zaa .u64 d)))+(zaa .u64 z)):Int)<(zaa .u64 (s*(zaa .u64 d)))))then Ta else(decide ((zaa .u64 ((zaa .u64 (s*(zaa .u64 d)))+(zaa .u64 z)):Int)>(zaa .u64 ((zaa .u64 (1*2 ^ (min (zaa .u64 g).toNat 64)))-1)))))=Tb->(p y (zaa .u64 ((zaa .u64 (s*(zaa .u64 d)))+(zaa .u64 z))) (zaa .i64 (t+1)) A/\q y (zaa .u64 ((zaa .u64 (s*(zaa .u64 d)))+(zaa .u64 z))) (zaa .i64 (t+1)) A<q r s t u)))))->x y z A)->((bif (w==95)then(aM==0)else Tb)=Ta->(p Ta s (zaa .i64 (t+1)) u/\q Ta s (zaa .i64 (t+1)) u<q r s t u))/\((bif (w==95)then(aM==0)else Tb)=Tb->((bif (decide ((48:Int)<=w))then(decide (w<=57))else Tb)=Ta->x r (zaa .u8 (w-48)) u)/\((bif (decide ((48:Int)<=w))then(decide (w<=57))else Tb)=Tb->XC Tp 375 #[.int .u8 w] u (λB C=>∃D,B=.int .u8 D/\∃E:Value->zc->Prop,(decide ((97:Int)<=D)=Ta->XC Tp 375 #[.int .u8 w] C (λF G=>∃I,F=.int .u8 I/\E (.int .u8 I) G))/\(decide ((97:Int)<=D)=Tb->∃J,E (.int .u8 J) C)/\(decide ((97:Int)<=D)=Ta->∀L M,E L M->∃N,L=.int .u8 N)/\∀O:Int,∀P,E (.int .u8 O) P->((bif (decide ((97:Int)<=D))then(decide (O<=122))else Tb)=Ta->XC Tp 375 #[.int .u8 w] P (λQ S=>∃T,Q=.int .u8 T/\x r (zaa .u8 ((zaa .u8 (T-97))+10)) S))/\((bif (decide ((97:Int)<=D))then(decide (O<=122))else Tb)=Tb->R (.tuple #[.int .u64 0,.iface 306 (iV 2)]) P)))))/\(decide (t<o.len)=Tb->∃U:Value->zc->Prop,(r=Ta->XC Tp 376 #[.string s0] u (λV W=>∃X,V=.bool X/\U (.bool X) W))/\(r=Tb->∃Y,U (.bool Y) u)/\(r=Ta->∀Z aa,U Z aa->∃ab,Z=.bool ab)/\∀ac:Bool,∀ad,U (.bool ac) ad->((bif r then(!ac)else Tb)=Ta->R (.tuple #[.int .u64 0,.iface 306 (iV 2)]) ad)/\((bif r then(!ac)else Tb)=Tb->R (.tuple #[.int .u64 s,.nilIface]) ad)))))->j k l)->((d==10)=Ta->j 1844674407370955162 i)/\((d==10)=Tb->((d==16)=Ta->j 1152921504606846976 i)/\((d==16)=Tb->IntKind.u64=IntKind.u64/\(zaa .u64 d)≠0/\j (zaa .u64 ((zaa .u64 ((18446744073709551615:Int).tdiv (zaa .u64 d)))+1)) i)))->f g i)->((aL==0)=Ta->f 64 e)/\((aL==0)=Tb->((bif (decide (aL<0))then Ta else(decide (aL>64)))=Ta->R (.tuple #[.int .u64 0,.iface 306 (iV 4)]) e)/\((bif (decide (aL<0))then Ta else(decide (aL>64)))=Tb->f aL e)))->b c d e)->((bif (decide ((2:Int)<=aM))then(decide (aM<=36))else Tb)=Ta->b s0 aM h)/\((bif (decide ((2:Int)<=aM))then(decide (aM<=36))else Tb)=Tb->((aM==0)=Ta->(0<=(0:Int)/\(0:Int)<(s0.size:Int))/\(((qj s0 (0:Int).toNat:Int)==48)=Ta->(decide ((s0.size:Int)>=3)=Ta->(0<=(1:Int)/\(1:Int)<(s0.size:Int)))/\∃ae:Value->zc->Prop,(decide ((s0.size:Int)>=3)=Ta->XC Tp 375 #[.int .u8 (qj s0 (1:Int).toNat)] h (λaf ag=>∃ah,af=.int .u8 ah/\ae (.int .u8 ah) ag))/\(decide ((s0.size:Int)>=3)=Tb->∃ai,ae (.int .u8 ai) h)/\(decide ((s0.size:Int)>=3)=Ta->∀aj ak,ae aj ak->∃al,aj=.int .u8 al)/\∀am:Int,∀an,ae (.int .u8 am) an->((bif (decide ((s0.size:Int)>=3))then(am==98)else Tb)=Ta->(0<=(2:Int)/\(2:Int)<=(s0.size:Int)/\(s0.size:Int)<=(s0.size:Int))/\b (s0.extract (2:Int).toNat (s0.size:Int).toNat) 2 an)/\((bif (decide ((s0.size:Int)>=3))then(am==98)else Tb)=Tb->(decide ((s0.size:Int)>=3)=Ta->(0<=(1:Int)/\(1:Int)<(s0.size:Int)))/\∃ao:Value->zc->Prop,(decide ((s0.size:Int)>=3)=Ta->XC Tp 375 #[.int .u8 (qj s0 (1:Int).toNat)] an (λap aq=>∃ar,ap=.int .u8 ar/\ao (.int .u8 ar) aq))/\(decide ((s0.size:Int)>=3)=Tb->∃au,ao (.int .u8 au) an)/\(decide ((s0.size:Int)>=3)=Ta->∀av aw,ao av aw->∃ax,av=.int .u8 ax)/\∀ay:Int,∀az,ao (.int .u8 ay) az->((bif (decide ((s0.size:Int)>=3))then(ay==111)else Tb)=Ta->(0<=(2:Int)/\(2:Int)<=(s0.size:Int)/\(s0.size:Int)<=(s0.size:Int))/\b (s0.extract (2:Int).toNat (s0.size:Int).toNat) 8 az)/\((bif (decide ((s0.size:Int)>=3))then(ay==111)else Tb)=Tb->(decide ((s0.size:Int)>=3)=Ta->(0<=(1:Int)/\(1:Int)<(s0.size:Int)))/\∃aA:Value->zc->Prop,(decide ((s0.size:Int)>=3)=Ta->XC Tp 375 #[.int .u8 (qj s0 (1:Int).toNat)] az (λaB aC=>∃aD,aB=.int .u8 aD/\aA (.int .u8 aD) aC))/\(decide ((s0.size:Int)>=3)=Tb->∃aE,aA (.int .u8 aE) az)/\(decide ((s0.size:Int)>=3)=Ta->∀aF aG,aA aF aG->∃aH,aF=.int .u8 aH)/\∀aI:Int,∀aJ,aA (.int .u8 aI) aJ->((bif (decide ((s0.size:Int)>=3))then(aI==120)else Tb)=Ta->(0<=(2:Int)/\(2:Int)<=(s0.size:Int)/\(s0.size:Int)<=(s0.size:Int))/\b (s0.extract (2:Int).toNat (s0.size:Int).toNat) 16 aJ)/\((bif (decide ((s0.size:Int)>=3))then(aI==120)else Tb)=Tb->(0<=(1:Int)/\(1:Int)<=(s0.size:Int)/\(s0.size:Int)<=(s0.size:Int))/\b (s0.extract (1:Int).toNat (s0.size:Int).toNat) 8 aJ))))/\(((qj s0 (0:Int).toNat:Int)==48)=Tb->b s0 10 h))/\((aM==0)=Tb->R (.tuple #[.int .u64 0,.iface 306 (iV 3)]) h)))):
  XC Tp 342 #[.string s0,.int .i64 aM,.int .i64 aL] h R:=
 XF ⟨[],[(36,[(12,.one (.bool)),(13,.one (.int .u64)),(101,.one (.int .i64))])],[(21,[(0,.one (.str)),(1,.one (.int .i64))]),(25,[(2,.one (.int .i64))]),(32,[(10,.one (.int .u64))]),(46,[(12,.one (.bool)),(16,.one (.int .u8))])]⟩ [.tmp 6,.tmp 7] 172 Tryz.func342 H
theorem Pn(l:Bt)(k:Int)(i:Int)(h:zc)(R:Value->zc->Prop) (H:XC Tp 342 #[.string l,iV k,iV i] h (λa b=>∃c,∃d:Value,a=.tuple #[.int .u64 c,d]/\m3 d=Ta/\((!nn d)=Ta->XC Tp 286 #[.string (⟨#[80,97,114,115,101,85,105,110,116]⟩:Bt),.string l,iV k,iV i,d] b (λe f=>∃g:Value,e=g/\R (.tuple #[.int .u64 c,g]) f))/\((!nn d)=Tb->R (.tuple #[.int .u64 c,.nilIface]) b))):
  XC Tp 386 #[.string l,.int .i64 k,.int .i64 i] h R:=
 XF ⟨[],[],[]⟩ [.tmp 6,.tmp 7] 26 Tryz.func386 H
end
section
variable {gl:Fr} {R:Tr -> Prop} {l:List Tr}
theorem KM{gl:Fr}(v:Tr)(l d:Int)(z:0<=l/\l<=1000)(w:0<=d/\d<=61){R:Int->Prop}(h:∀r,-1000000000000000<=r->r<=l->(0<=r->r+iJ v<=l)->R r):PC Tp gl 80 [Arg.mk .tree v,Arg.mk (.int .i64) l,Arg.mk (.int .i64) d] [.int .i64] R:=by
 refine PC.bd λe=>?_;have x:v.keys.length<=140737488355328/\v.items.length<=140737488355328:=e ⟨.tree,v⟩ (by simp);apply LY;refine⟨λm=>h _ (by omega) (by omega) (by omega),λm=>?_⟩;have u:d<=60:=by simp at m;omega
 rw[im (n:=l-1) (by omega),im (by omega)];refine⟨λc i=>∃k:Nat,i=k/\k<=v.items.length/\-1000000000000000<=c/\c<=l/\(0<=c->c+(1+v.keys.length+iA (v.items.take k))<=l),λc i=>v.items.length-i.toNat,⟨0,rfl,by omega,by omega,by omega,λ_=>by simp[iA];omega⟩,?_⟩;rintro c i ⟨k,rfl,y,h1,q,t⟩;refine⟨λf=>?_,λf=>h c h1 q λh0=>?_⟩;have b:k<v.items.length/\0<=c:=by simp at f;omega
 refine⟨v.items[k],⟨by omega,tj b.1⟩,?_⟩;rw[xb,im (by omega)];have o:=yl (zay b.1);refine KM v.items[k] c (d+1) ⟨b.2,by omega⟩ (by omega) λr s A p=>?_;rw[Ze b.1 (by omega)];refine⟨⟨k+1,rfl,by omega,s,by omega,λh0=>?_⟩,by grind⟩;have:=p h0;have:=t b.2;rw[qaw b.1];omega;grind [VU]
termination_by bR v
theorem HZ{gl:Fr}(v:Tr){R:Bool->Prop}(h:∀b,(b=Ta->lL v)->R b):PC Tp gl 81 [Arg.mk .tree v] [.bool] R:=by
 refine PC.bd λo=>?_;have t:v.keys.length<=140737488355328/\v.items.length<=140737488355328:=o ⟨.tree,v⟩ (by simp);apply RQ;refine⟨λq=>h _ (λe=>by cases e),λq=>?_⟩;have m:v.text.size<=2048:=by simp at q;omega
 refine⟨λi=>∃k:Nat,i=k/\k<=v.keys.length/\∀x∈v.keys.take k,x.size<=1024,λi=>v.keys.length-i.toNat,⟨0,rfl,by omega,by simp⟩,?_⟩;rintro i ⟨k,rfl,w,h1⟩;refine⟨λn=>?_,λn=>?_⟩;have f:k<v.keys.length:=by simp at n;omega
 refine⟨v.keys[k],⟨by omega,A7 f⟩,λ_=>h _ (λe=>by cases e),λr=>?_⟩;have u:v.keys[k].size<=1024:=by simp at r;omega
 rw[Ze f (by omega)];refine⟨⟨k+1,rfl,by omega,?_⟩,by grind⟩;rw[zar f];grind;have f:k=v.keys.length:=by simp at n;omega
 subst f;rw[zbw]at h1;refine⟨λi=>∃k:Nat,i=k/\k<=v.items.length/\∀x∈v.items.take k,lL x,λi=>v.items.length-i.toNat,⟨0,rfl,by omega,by simp⟩,?_⟩;rintro i ⟨k,rfl,w,p⟩;refine⟨λl=>?_,λl=>h _ λ_=>?_⟩;have c:k<v.items.length:=by simp at l;omega
 refine⟨v.items[k],⟨by omega,tj c⟩,?_⟩;rw[xb];have s:=yl (zay c);refine HZ v.items[k] λb t=>⟨λ_=>h _ (λe=>by cases e),λr=>?_⟩;rw[Ze c (by omega)];refine⟨⟨k+1,rfl,by omega,?_⟩,by grind⟩;rw[zar c];grind;have c:k=v.items.length:=by simp at l;omega
 subst c;rw[zbw]at p;exact(qn6 v).2 ⟨⟨m,h1⟩,Gl.2 p⟩
termination_by bR v
theorem KH{v:Tr}{m:Int}(f:0<=m/\m<=1000){R:Bool->Prop}(h:∀b,(b=Ta->iJ v<=m/\Sm v)->R b):PC Tp gl 39 [Arg.mk .tree v,Arg.mk (.int .i64) m] [.bool] R:=by
 apply R5;rw[xb];refine KM v m 0 f (by omega) λr h1 i k=>⟨λb=>b=Ta->lL v,λ_=>HZ v λb c=>c,λb c=>h _ λe=>?_⟩;cases hr:decide (r>=0)with
 |false=>simp_all
 |true=>rw[hr,zH]at e;grind [Sm.few]
theorem y7(h:R (.mk 5 ⟨#[]⟩ [] l)):PC Tp gl 28 [Arg.mk (.row .tree) l] [.tree] R:=by apply TK;exact h
theorem vP{ks:List Bt}(h:R (.mk 6 ⟨#[]⟩ ks l)):PC Tp gl 29 [Arg.mk (.row .str) ks,Arg.mk (.row .tree) l] [.tree] R:=by apply SF;exact h
theorem EH(b:GL gl){n:Int}(h1:-1000000<=n)(c:n<=1000000)(h:R (.mk 3 (bl (j0 (zw (Lib.itoa n)).1)) [] [])):PC Tp gl 30 [Arg.mk (.int .i64) n] [.tree] R:=by apply UG;refine Ou b.pow (by omega) (by omega) ?_;exact yQ b.pow (Zn _ (by have:=Go.X.itoa_len n;omega)) h
end
section
variable {a b:List Bt} {k:Nat} {gl:Fr}
structure SL (l:List Bt):Prop where
 n:l.length<=1000000
 s:∀x∈l,(lb x).length<=1048576
theorem vE(s t:Bt):zdg s.toList t.toList=decide (gZ (lb s) (lb t)=-1):=by rw[W7,W7,KS]
theorem Lm(s t:Bt):(s.toList==t.toList)=decide (gZ (lb s) (lb t)=0):=by rw[W7,W7,za7,beq_iff_eq,zA,cmpS_is.eq0]
def lQ(a b:List Bt):Int:=cmpL (a.map lb) (b.map lb)
theorem GP(h:a.take k=b.take k):lQ a b=lQ (a.drop k) (b.drop k):=by unfold lQ;rw[Re (k:=k),List.map_drop,List.map_drop];rw[<-List.map_take,<-List.map_take,h]
theorem XP(x y:Bt)(a b:List Bt):lQ (x::a) (y::b)=if gZ (lb x) (lb y)=0 then lQ a b else gZ (lb x) (lb y):=rfl
theorem R9(h : a.take k = b.take k)(hk : k = a.length \/ k = b.length): lQ a b = if a.length < b.length then -1 else if b.length < a.length then 1 else 0 := by
  have hl := congrArg zdh h;simp only [zcr] at hl;rw [GP h];rcases hk with rfl | rfl;rw [zdw];cases hd : b.drop a.length with
  | nil => have := List.drop_eq_nil_iff.1 hd; (rw [za (by omega), za (by omega)]; rfl)
  | cons y t => have : a.length < b.length := by
                  rcases zbf a.length b.length with q | q;exact q;rw [zci q] at hd; cases hd
                rw [zb this]; rfl
  rw [zdw];cases hd : a.drop b.length with
  | nil => have := List.drop_eq_nil_iff.1 hd; (rw [za (by omega), za (by omega)]; rfl)
  | cons y t => have : b.length < a.length := by
                  rcases zbf b.length a.length with q | q;exact q;rw [zci q] at hd; cases hd
                rw [za (by omega), zb this]; rfl
theorem NF(h:a.take k=b.take k)(e:k<a.length)(f:k<b.length)(c:gZ (lb a[k]) (lb b[k])≠0):lQ a b=gZ (lb a[k]) (lb b[k]):=by rw[GP h,za9 e,za9 f,XP,za c]
theorem UR(h:a.take k=b.take k)(c:k<a.length)(f:k<b.length)(e:gZ (lb a[k]) (lb b[k])=0):a.take (k+1)=b.take (k+1):=by rw[zar c,zar f,h,wD.1 ((cmpS_is.eq0 _ _).1 e)]
theorem VM(u:a.length<=1000000){R:Int->Prop}(h:R (lQ a b)):PC Tp gl 54 [Arg.mk (.row .str) a,Arg.mk (.row .str) b] [.int .i64] R:=by
 apply NB;refine⟨λi=>∃k:Nat,i=k/\k<=a.length/\k<=b.length/\a.take k=b.take k,λi=>a.length-i.toNat,⟨0,rfl,by omega,by omega,by simp⟩,?_⟩;rintro i ⟨k,rfl,x,t,n⟩;refine⟨λm=>?_,λm=>?_⟩;have c:k<a.length/\k<b.length:=by simp at m;omega
 have q:=A7 c.1;have r:=A7 c.2;have p:=NF n c.1 c.2;have w:=cmpS_is.rng (lb a[k]) (lb b[k]);refine⟨a[k],⟨by omega,q⟩,b[k],⟨by omega,r⟩,λl=>?_,λl=>⟨a[k],⟨by omega,q⟩,b[k],⟨by omega,r⟩,λe=>?_,λe=>?_⟩⟩;rw[vE]at l;have f:gZ (lb a[k]) (lb b[k])=-1:=by simpa using l
 rw[p (by omega),f]at h;exact h;rw[vE,Lm]at e;have f:gZ (lb a[k]) (lb b[k])=1:=by simp at e;omega
 rw[p (by omega),f]at h;exact h;rw[vE]at l;rw[vE,Lm]at e;have f:gZ (lb a[k]) (lb b[k])=0:=by simp at l e;omega
 have o:=Ze c.1 (by omega);rw[o];exact⟨⟨k+1,rfl,by omega,by omega,UR n c.1 c.2 f⟩,by have:=c.1;simp only[zao];omega⟩;have c:k=a.length\/k=b.length:=by simp at m;by_cases l:k<a.length;right;have:=m l;omega;left;omega
 rw[R9 n c]at h;refine⟨λl=>?_,λl=>⟨λe=>?_,λe=>?_⟩⟩;have:a.length<b.length:=by simp at l;omega
 rw[zb this]at h;exact h;have:b.length<a.length:=by simp at e;omega
 rw[za (by omega),zb this]at h;exact h;have h1:¬a.length<b.length:=by simp at l;omega
 have s:¬b.length<a.length:=by simp at e;omega
 rw[za h1,za s]at h;exact h
theorem TC(a b:List Bt):lQ a b=0↔a=b:=by unfold lQ;rw[cmpL_is.eq0];constructor;intro h;have:=congrArg (List.map bl) h;rw[zb6,zb6]at this;have e:(bl ∘ lb)=(id:Bt->Bt):=funext λx=>jL x;rw[e,List.map_id,List.map_id]at this;exact this;rintro rfl;rfl
theorem BB(c:a.length<=1000000){R:Bool->Prop}(h:∀r,(r=Ta↔a=b)->R r):PC Tp gl 21 [Arg.mk (.row .str) a,Arg.mk (.row .str) b] [.bool] R:=by apply RD;refine VM c (h _ ?_);rw[<-TC];simp
end
end Go.X
end
section
namespace Go.X
open Go Go.Proofs Go.Shelf Go.RowKit
section
def Ew:Go.Shelf.Ren:=⟨fun|169=>72|n=>n,fun|70=>85|9=>9|0=>0|72=>88|37=>86|127=>149|3=>3|5=>5|n=>n,fun|n=>n⟩
theorem WF:Go.Proofs.Lays.n169 Tp Ew:=by constructor <;> intros <;> kernel_rfl
theorem NU:Builder.Extra Tp Ew:={
 sizeBuilder:=by kernel_rfl
 liesBuilder:=by kernel_rfl
 t5:=Tryz.underlying5
 a5:=Tryz.isAgg5
 z5:=Tryz.sizeOf5
 v5:=Tryz.zeroValue5
 infoByte:=by kernel_rfl
 cellsByte:=by kernel_rfl
 sizeByte:=by kernel_rfl
 neB5:=by decide }
theorem So(B b:Nat)(l:List UInt8)(w:World)(h:Lib.IsBuilder 88 5 B b (Lib.byteCells l) w)(c:B<=w.heap.size): Calls Tp 72 #[.pointer (Tc ⟨b,0,Td⟩)] w λe w'=>e=.returned (.string ⟨l.toArray⟩)/\Below B w w':=Any.Builder_String_any WF NU B b l w h c
def zs0:Go.Shelf.Ren:=⟨fun|153=>359|152=>351|226=>383|227=>241|228=>293|137=>194|119=>381|224=>312|225=>311|217=>262|266=>316|n=>n,fun|9=>9|3=>3|4=>4|5=>5|21=>21|117=>237|116=>236|0=>0|46=>244|124=>240|n=>n,fun|n=>n⟩
theorem VC:Go.Proofs.Lays.n153 Tp zs0:=by constructor <;> intros <;> kernel_rfl
open Go.RowKit Go.Lib in
theorem Uy(h:∀w,(zeroValue 236).run Tp w=.ok (.agg (zbr 256 (.bool Tb))) w)(s c:Bt)(w:World)(l:2<=c.size)(k:8<s.size)(m:s.size<4294967281)(i:c.size<4294967281)(f:∀(j:Nat) b,c.data.toList[j]?=Tc b->b.toNat<128): Calls Tp 359 #[.string s,.string c] w λe w'=>e=.returned (.int .i64 (Lib.indexAny s.data.toList c.data.toList))/\w'=((w.alloc (.cells (Lib.setCells c.data.toList) 236)).alloc (.cells (Lib.setCells c.data.toList) 236)):=Any.strings_IndexAny_long VC h (by kernel_rfl) s c w l k m i f
end
end Go.X
end
section
namespace Go.X
open Go Go.X Go.Proofs Go.RowKit
section
variable {h h':zc} {b:Nat} {l:Bs} {cs:Array Value} {s:Sl} {K:Value -> zc -> Prop}
def Bld(h:zc)(b:Nat)(l:Bs):Prop:=∃(p:Option Addr) (s:Sl),h[b]?=Tc (.cells #[.pointer p,aK s] 88 (0,0))/\(p=Td\/p=Tc ⟨b,0,Td⟩)/\Owns h (b+1) 5 1 s (Lib.byteCells l)
theorem Bld.lt(H:Bld h b l):b<h.size:=by obtain⟨p,s,e,_⟩:=H;grind
theorem Bld.keep(H:Bld h b l)(k:Keep h.size h h'):Bld h' b l:=by have c:=H.lt;obtain⟨p,s,e,f,i⟩:=H;exact⟨p,s,by rw[k.get b c];exact e,f,i.keepN k⟩
theorem Bld.new(h:zc):Bld (h.push (.cells #[.pointer Td,.slice Td 0 0] 88)) h.size []:= ⟨Td,⟨Td,0,0⟩,w8 _ _,.inl rfl,Owns.nil _ _ _ _⟩
theorem Ku:(za3.info? 88).map (·.size)=Tc 2:=by kernel_rfl
theorem On:liesAt Tp za3.depth 88 (2 / za3.cellsOf 88) 0 88 1=Ta:=by kernel_rfl
theorem xT:za3.underlying 85=Tc (.pointer 88):=by kernel_rfl
theorem KD:za3.underlying 196=Tc .unsafePointer:=by kernel_rfl
set_option maxHeartbeats 1000000 in
set_option maxRecDepth 100000 in
theorem PV(b:Nat)(w:World)(h0:w.cell? ⟨b,0,Td⟩=Tc (.pointer (Tc ⟨b,0,Td⟩))):
  Calls Tp 116 #[.pointer (Tc ⟨b,0,Td⟩)] w λe w'=>e=.returned (.tuple #[])/\w'=w:=by
 obtain⟨j,c,_⟩:=zcz.1 Ku;have mixed:=Tryz.mixed
 go_enter Tryz.func116,Tryz.ntmps116
 go_wp2
 rw[Lib.run_neq_ptr_same w _ xT c]
 go_wp2
 go_end0
 simp
set_option maxHeartbeats 1000000 in
set_option maxRecDepth 100000 in
theorem RZ(b:Nat)(w:World)(h0:w.cell? ⟨b,0,Td⟩=Tc (.pointer Td))(c:w.shape? b=Tc (88,2))(h:w.frozen? ⟨b,0,Td⟩=Tb):
  Calls Tp 116 #[.pointer (Tc ⟨b,0,Td⟩)] w λe w'=>e=.returned (.tuple #[])/\w'=w.setCell ⟨b,0,Td⟩ (.pointer (Tc ⟨b,0,Td⟩)):=by
 obtain⟨j,f,i⟩:=zcz.1 Ku;have mixed:=Tryz.mixed
 go_enter Tryz.func116,Tryz.ntmps116
 go_wp2
 rw[Lib.run_to_unsafe w ⟨b,0,Td⟩ xT KD f (by omega) c (Nat.zero_lt_succ 1)];simp only[Result.andThen];rw[Oper.upon_value]
 go_wp2
 rw[run_callFunc_extern Tryz.func188 (by kernel_rfl) (by kernel_rfl) (by kernel_rfl) (e:=Extern.AbiNoEscape.same) (by kernel_rfl)];rw[Lib.run_noEscape];simp only[Result.andThen];rw[Oper.upon_value]
 go_wp2
 rw[Lib.run_from_unsafe w ⟨b,0,Td⟩ KD xT f c On];simp only[Result.andThen];rw[Oper.upon_value]
 go_wp2
 go_end0
 simp
theorem z6d{b o:Nat}{T:TypeId}(e:h[b]?=Tc (.cells cs T (0,0)))(v:Value)(B:World)(d:Nat):(mk B d h).setCell ⟨b,o,Td⟩ v=mk B d (h.setIfInBounds b (.cells (cs.setIfInBounds o v) T (0,0))):=by unfold World.setCell mk;simp only;congr 1;grind
theorem Keep.ne(e:h'.size=h.size)(c:∀i,i≠b->h'[i]?=h[i]?):Keep b h h':=⟨by omega,λi hi=>c i (by omega)⟩
def Itk(h h':zc):Prop:=∀(i:Nat) (s:Bt) (p:Nat),h[i]?=Tc (.stringIter s p)->h'[i]?=Tc (.stringIter s p)
theorem Itk.trans{a b c:zc}(x:Itk a b)(y:Itk b c):Itk a c:=λi s p e=>y i s p (x i s p e)
theorem Itk.keep(k:Keep h.size h h'):Itk h h':=λi s p e=>by have hi:i<h.size:=(zai.1 e).1;rw[k.get i hi];exact e
theorem Itk.ne{T:TypeId}{m:Nat×Nat}(e:h[b]?=Tc (.cells cs T m))(f:∀i,i≠b->h'[i]?=h[i]?):Itk h h':=λi s p c=>by grind
theorem Itk.own{base:Nat}{e:TypeId}{sz:Nat}{xs:List Value}(H:Owns h base e sz s xs)(f:∀i,i<h.size->(∀p,s.a=Tc p->i≠p.block)->h'[i]?=h[i]?):Itk h h':=λi t p k=>by have hi:i<h.size:=(zai.1 k).1;rw[f i hi λq n m=>?_];exact k;rcases H.2 with⟨l,_⟩|⟨g,cap,b,l,_,c,_⟩;simp_all;have c:h[g]?=Tc (.cells b e (0,0)):=c;simp_all
theorem Ng(H:Bld h b l)(k:∀h',Bld h' b l->Keep b h h'->h'.size=h.size->Itk h h'->K (.tuple #[]) h'):XC Tp 116 #[.pointer (Tc ⟨b,0,Td⟩)] h K:=by
 have o:=H.lt;obtain⟨p,s,e,m,f⟩:=H;have c:∀B d,(mk B d h).cell? ⟨b,0,Td⟩=Tc (.pointer p):=λB d=>by have:(mk B d h).heap[b]?=Tc (.cells #[.pointer p,aK s] 88 (0,0)):=e;simp[World.cell?,this]
 rcases m with rfl|rfl;refine XC.of_calls λB d=>(RZ b (mk B d h) (c B d) ?_ ?_).mono ?_
 have:(mk B d h).heap[b]?=Tc (.cells #[.pointer Td,aK s] 88 (0,0)):=e;simp[World.shape?,this];exact LF ⟨_,e⟩ B d;rintro e' w' ⟨rfl,rfl⟩;rw[z6d e];refine⟨_,rfl,rfl,rfl,rfl,?_⟩;show K _ (h.setIfInBounds b _);refine k _ ⟨_,s,?_,.inr rfl,?_⟩ ?_ (by simp) (Itk.ne e λi hi=>zcs (Ne.symm hi));simp_all;refine f.keep λq n=>?_;have:=f.base_le q n;grind;exact Keep.setBlk _ (zaf _);refine XC.of_calls λB d=>(PV b (mk B d h) (c B d)).mono ?_;rintro e' w' ⟨rfl,rfl⟩;exact⟨_,rfl,rfl,rfl,rfl,k _ ⟨_,s,e,.inr rfl,f⟩ (Keep.refl _ _) rfl (Itk.keep (Keep.refl _ _))⟩
theorem elemU8:ElemT Tp 86 5 (.int .u8 0) 1 1:=⟨by kernel_rfl,⟨Tryz.t5,by kernel_rfl,by kernel_rfl,by kernel_rfl,by kernel_rfl⟩,rfl,by omega⟩
theorem Ry:za3.underlying 9=Tc .string:=by kernel_rfl
theorem LK:qo Tp 86=Ta:=by kernel_rfl
theorem Md:ya Tp 86=1:=by kernel_rfl
theorem qn8{p:Option Addr}{s u:Sl}(e:h[b]?=Tc (.cells #[.pointer p,aK u] 88 (0,0)))(m:p=Td\/p=Tc ⟨b,0,Td⟩)(i:Owns h (b+1) 5 1 s (Lib.byteCells l)){K:zc->Prop}
  (t:∀h',Bld h' b l->Keep b h h'->h'.size=h.size->Itk h h'->K h'):XRunU Tp (zag 86 (.pointer (Tc ⟨b,1,Td⟩)) (.slice s.a s.len s.cap)) h K:=by
 intro B d;obtain⟨h',r,k,f,c⟩:=Xx (P:=Tp) LK Md e (o:=1) (v:=aK s) rfl (by simp) (by simp[aK,Value.cells,Value.oneCell']) B d;refine⟨d,h',r,t h' ⟨p,s,?_,m,?_⟩ (Keep.ne f c) f (Itk.ne e c)⟩;rw[k];rfl;refine i.keep λq n=>?_;have:=i.base_le q n;grind
theorem RL(H:Bld h b l)(o:∀h',Keep b h h'->K (.string (bl l)) h'):XC Tp 72 #[.pointer (Tc ⟨b,0,Td⟩)] h K:=by
 have k:=H.lt;obtain⟨p,s,e,n,i⟩:=H;refine XC.of_calls λB d=>(So b b l (mk B d h) ?_ (Nat.le_of_lt k)).mono ?_;have m:Lib.BuilderAt 88 5 b b (.pointer p) (Lib.byteCells l) (mk B d h):=by
  refine⟨zaf _,aK s,e,?_,?_⟩;have h1:=i.1;rw[zdc]at h1;rw[h1];exact i.base (Nat.le_succ b);intro f;cases ha:s.a with
  |none=>rw[aK,ha]at f;cases f
  |some q=>
   have:=i.base_le q ha;rw[aK,ha]at f;have:q.block=b:=by simpa[Value.ownBlock]using f
   omega
 rcases n with rfl|rfl;exact .inl m;exact .inr m;rintro e' w' ⟨rfl,c⟩;exact⟨_,rfl,c.os,c.tape,c.output,o _ ⟨c.size,c.block⟩⟩
end
end Go.X
end
section
namespace Go.X
section
theorem ZS(gl:Fr)(b:Bt×List (Int×(Int×Int)×(Int×Int)×(List Int)×List (Int×Int)))(s1:Int×Int)(R:Bt->Prop) (H:((bif (bif (decide (s1.1<0))then Ta else(decide (s1.1>s1.2)))then Ta else(decide (s1.2>b.1.size)))=Ta->R (⟨#[]⟩:Bt))/\((bif (bif (decide (s1.1<0))then Ta else(decide (s1.1>s1.2)))then Ta else(decide (s1.2>b.1.size)))=Tb->(0<=s1.1/\s1.1<=s1.2/\s1.2<=b.1.size)/\R (b.1.extract s1.1.toNat s1.2.toNat))):
  PC Tp gl 149 [Arg.mk (.pair .str (.row (.pair (.int .i64) (.pair (.pair (.int .i64) (.int .i64)) (.pair (.pair (.int .i64) (.int .i64)) (.pair (.row (.int .i64)) (.row (.pair (.int .i64) (.int .i64))))))))) b,Arg.mk (.pair (.int .i64) (.int .i64)) s1] [.str] R:=
 PF ⟨[],[],[],[]⟩ [.tmp 4] 30 Tryz.func149 H
theorem My(gl:Fr)(e:Int)(s1:Bt)(R:Bt->Prop) (H:((e==2)=Ta->R s1)/\((e==2)=Tb->((e==3)=Ta->PC Tp gl 107 [Arg.mk .str s1] [.pair .bool (.pair .str (.int .i64)),.int .i64] (λa:(Bool×Bt×Int)×Int=>PC Tp gl 63 [Arg.mk (.pair .bool (.pair .str (.int .i64))) (a.1.1,(a.1.2.1,a.1.2.2))] [.str] (λb:Bt=>R b)))/\((e==3)=Tb->((e==4)=Ta->PC Tp gl 126 [Arg.mk .str s1] [.str,.int .i64,.int .i64] (λc:Bt×Int×Int=>R c.1))/\((e==4)=Tb->R (⟨#[]⟩:Bt))))):
  PC Tp gl 148 [Arg.mk (.int .i64) e,Arg.mk .str s1] [.str] R:=
 PF ⟨[],[],[],[]⟩ [.tmp 4] 32 Tryz.func148 H
theorem zpa(gl:Fr)(c:Int)(R:Int->Prop) (H:((c==12)=Ta->R 1)/\((c==12)=Tb->∀a:Bool->Prop,(∀b:Bool,((b=Ta->R 2)/\(b=Tb->((c==9)=Ta->R 3)/\((c==9)=Tb->((c==8)=Ta->R 4)/\((c==8)=Tb->((c==4)=Ta->R 5)/\((c==4)=Tb->((c==2)=Ta->R 6)/\((c==2)=Tb->R 0))))))->a b)->((c==10)=Ta->a (c==10))/\((c==10)=Tb->a (c==11)))):
  PC Tp gl 210 [Arg.mk (.int .i64) c] [.int .i64] R:=
 PF ⟨[],[],[],[(6,⟨[(6,.one (.dat .bool))],[],[],[100384]⟩)]⟩ [.tmp 2] 17 Tryz.func210 H
theorem WO(gl:Fr)(b:Bt)(R:(Bt×Int×Int)->Prop) (H:PC Tp gl 195 [Arg.mk .str b,Arg.mk (.int .i64) 0] [.str,.int .i64,.int .i64] (λa:Bt×Int×Int=>((bif (a.2.2==0)then(decide (a.2.1<b.size))else Tb)=Ta->R ((⟨#[]⟩:Bt),a.2.1,2))/\((bif (a.2.2==0)then(decide (a.2.1<b.size))else Tb)=Tb->R (a.1,a.2.1,a.2.2)))):
  PC Tp gl 126 [Arg.mk .str b] [.str,.int .i64,.int .i64] R:=
 PF ⟨[],[],[],[]⟩ [.tmp 2,.tmp 3,.tmp 4] 26 Tryz.func126 H
theorem XY(gl:Fr)(c:Int)(b:Int)(R:((Int×Int×Int)×Int)->Prop) (H:R ((0,(c,c)),b)):
  PC Tp gl 332 [Arg.mk (.int .i64) c,Arg.mk (.int .i64) b] [.pair (.int .i64) (.pair (.int .i64) (.int .i64)),.int .i64] R:=
 PF ⟨[],[],[],[]⟩ [.cell 4 171,.tmp 5] 11 Tryz.func332 H
theorem Vt(gl:Fr)(c:Bt)(b:Int)(R:(Int×Int)->Prop) (H:((bif (decide (b<0))then Ta else(decide (b>c.size)))=Ta->R (0,2))/\((bif (decide (b<0))then Ta else(decide (b>c.size)))=Tb->PC Tp gl 195 [Arg.mk .str c,Arg.mk (.int .i64) b] [.str,.int .i64,.int .i64] (λa:Bt×Int×Int=>R (a.2.1,a.2.2)))):
  PC Tp gl 192 [Arg.mk .str c,Arg.mk (.int .i64) b] [.int .i64,.int .i64] R:=
 PF ⟨[],[],[],[]⟩ [.tmp 4,.tmp 5] 26 Tryz.func192 H
theorem QS(gl:Fr)(b:Int)(R:Bool->Prop) (H:R (bif (decide (b>=97))then(decide (b<=122))else Tb)):
  PC Tp gl 335 [Arg.mk (.int .u8) b] [.bool] R:=
 PF ⟨[],[],[],[]⟩ [.tmp 2] 9 Tryz.func335 H
theorem O7(gl:Fr)(b:Bt)(R:Int->Prop) (H:((b.toList==(⟨#[116,114,117,101]⟩:Bt).toList)=Ta->R 10)/\((b.toList==(⟨#[116,114,117,101]⟩:Bt).toList)=Tb->((b.toList==(⟨#[102,97,108,115,101]⟩:Bt).toList)=Ta->R 11)/\((b.toList==(⟨#[102,97,108,115,101]⟩:Bt).toList)=Tb->((b.toList==(⟨#[110,117,108,108]⟩:Bt).toList)=Ta->R 12)/\((b.toList==(⟨#[110,117,108,108]⟩:Bt).toList)=Tb->R 0)))):
  PC Tp gl 336 [Arg.mk .str b] [.int .i64] R:=
 PF ⟨[],[],[],[]⟩ [.tmp 2] 10 Tryz.func336 H
theorem zs3(gl:Fr)(c:Bt)(R:(Int×Int)->Prop) (H:(0<=(0:Int)/\(0:Int)<(c.size:Int))/\(((qj c (0:Int).toNat:Int)==92)=Ta->PC Tp gl 317 [Arg.mk .str c] [.int .i32,.int .i64] (λa:Int×Int=>R (a.1,a.2)))/\(((qj c (0:Int).toNat:Int)==92)=Tb->PC Tp gl 233 [Arg.mk .str c] [.int .i32,.int .i64] (λb:Int×Int=>((bif (decide (b.1<32))then Ta else(bif (b.1==65533)then(b.2==1)else Tb))=Ta->R (0,0))/\((bif (decide (b.1<32))then Ta else(bif (b.1==65533)then(b.2==1)else Tb))=Tb->R (b.1,b.2))))):
  PC Tp gl 263 [Arg.mk .str c] [.int .i32,.int .i64] R:=
 PF ⟨[],[],[],[]⟩ [.tmp 2,.tmp 3] 30 Tryz.func263 H
theorem Uq(gl:Fr)(c:Bt)(R:(Int×Int)->Prop) (H:(decide ((c.size:Int)<2)=Ta->R (0,0))/\(decide ((c.size:Int)<2)=Tb->(0<=(1:Int)/\(1:Int)<(c.size:Int))/\PC Tp gl 364 [Arg.mk (.int .u8) (qj c (1:Int).toNat)] [.int .i32,.bool] (λa:Int×Bool=>(a.2=Ta->R (a.1,2))/\(a.2=Tb->(0<=(1:Int)/\(1:Int)<(c.size:Int))/\(((qj c (1:Int).toNat:Int)==117)=Ta->PC Tp gl 365 [Arg.mk .str c] [.int .i32,.int .i64] (λb:Int×Int=>R (b.1,b.2)))/\(((qj c (1:Int).toNat:Int)==117)=Tb->R (0,0)))))):
  PC Tp gl 317 [Arg.mk .str c] [.int .i32,.int .i64] R:=
 PF ⟨[],[],[],[]⟩ [.tmp 2,.tmp 3] 24 Tryz.func317 H
theorem W3(gl:Fr)(c:Int)(R:(Int×Bool)->Prop) (H:∀a:Bool->Prop,(∀b:Bool,((b=Ta->R (zaa .i32 c,Ta))/\(b=Tb->((c==98)=Ta->R (8,Ta))/\((c==98)=Tb->((c==102)=Ta->R (12,Ta))/\((c==102)=Tb->((c==110)=Ta->R (10,Ta))/\((c==110)=Tb->((c==114)=Ta->R (13,Ta))/\((c==114)=Tb->((c==116)=Ta->R (9,Ta))/\((c==116)=Tb->R (0,Tb))))))))->a b)->((c==34)=Ta->a (c==34))/\((c==34)=Tb->((c==92)=Ta->a (c==92))/\((c==92)=Tb->a (c==47)))):
  PC Tp gl 364 [Arg.mk (.int .u8) c] [.int .i32,.bool] R:=
 PF ⟨[],[],[],[(5,⟨[(5,.one (.dat .bool))],[],[],[100320]⟩)]⟩ [.tmp 2,.tmp 3] 21 Tryz.func364 H
theorem zkx(gl:Fr)(f:Bt)(R:(Int×Int)->Prop) (H:(0<=(2:Int)/\(2:Int)<=(f.size:Int)/\(f.size:Int)<=(f.size:Int))/\PC Tp gl 384 [Arg.mk .str (f.extract (2:Int).toNat (f.size:Int).toNat)] [.int .i32,.bool] (λa:Int×Bool=>∀b:Bool->Prop,(∀c:Bool,((c=Ta->R (0,0))/\(c=Tb->((bif (decide (a.1<55296))then Ta else(decide (a.1>=57344)))=Ta->R (a.1,6))/\((bif (decide (a.1<55296))then Ta else(decide (a.1>=57344)))=Tb->(0<=(6:Int)/\(6:Int)<=(f.size:Int)/\(f.size:Int)<=(f.size:Int))/\PC Tp gl 76 [Arg.mk .str (f.extract (6:Int).toNat (f.size:Int).toNat),Arg.mk .str (⟨#[92,117]⟩:Bt)] [.bool] (λd:Bool=>((!d)=Ta->R (0,0))/\((!d)=Tb->(0<=(8:Int)/\(8:Int)<=(f.size:Int)/\(f.size:Int)<=(f.size:Int))/\PC Tp gl 384 [Arg.mk .str (f.extract (8:Int).toNat (f.size:Int).toNat)] [.int .i32,.bool] (λe:Int×Bool=>((bif (bif (!e.2)then Ta else(decide (e.1<56320)))then Ta else(decide (e.1>=57344)))=Ta->R (0,0))/\((bif (bif (!e.2)then Ta else(decide (e.1<56320)))then Ta else(decide (e.1>=57344)))=Tb->R (zaa .i32 ((zaa .i32 ((zaa .i32 (65536+(zaa .i32 ((zaa .i32 (a.1-55296))*1024))))+e.1))-56320),12))))))))->b c)->((!a.2)=Ta->b (!a.2))/\((!a.2)=Tb->b (bif (decide (a.1>=56320))then(decide (a.1<57344))else Tb)))):
  PC Tp gl 365 [Arg.mk .str f] [.int .i32,.int .i64] R:=
 PF ⟨[],[],[],[(4,⟨[(13,.one (.dat .bool))],[],[],[100832]⟩)]⟩ [.tmp 2,.tmp 3] 58 Tryz.func365 H
theorem Rk(gl:Fr)(e:Bt)(R:(Int×Bool)->Prop) (H:((!(decide ((e.size:Int)<4)))=Ta->(0<=(0:Int)/\(0:Int)<=4/\(4:Int)<=(e.size:Int)))/\∃a:Bool->Prop,((!(decide ((e.size:Int)<4)))=Ta->PC Tp gl 307 [Arg.mk .str (e.extract (0:Int).toNat (4:Int).toNat),Arg.mk .str (⟨#[43,45,95]⟩:Bt)] [.bool] a)/\∀b:Bool,((!(decide ((e.size:Int)<4)))=Ta->a b)->((bif (decide ((e.size:Int)<4))then Ta else b)=Ta->R (0,Tb))/\((bif (decide ((e.size:Int)<4))then Ta else b)=Tb->(0<=(0:Int)/\(0:Int)<=4/\(4:Int)<=(e.size:Int))/\PC Tp gl 386 [Arg.mk .str (e.extract (0:Int).toNat (4:Int).toNat),Arg.mk (.int .i64) 16,Arg.mk (.int .i64) 32] [.int .u64,.err] (λc:Int×Bool=>R (zaa .i32 c.1,c.2)))):
  PC Tp gl 384 [Arg.mk .str e] [.int .i32,.bool] R:=
 PF ⟨[],[],[],[]⟩ [.tmp 2,.tmp 3] 24 Tryz.func384 H
end
end Go.X
end
section
namespace Go.X
open Go Go.Lib
section
variable {n r:Nat} {l:Bs}
def iq(c:UInt8):Option Nat:=
 if 48<=c.toNat/\c.toNat<=57 then Tc (c.toNat-48)
 else if 97<=c.toNat/\c.toNat<=102 then Tc (c.toNat-87)
 else if 65<=c.toNat/\c.toNat<=70 then Tc (c.toNat-55)
 else Td
theorem qkx{c:UInt8}(h:iq c=Tc n):n<16:=by unfold iq at h;grind
def iu:Nat->Bs->Option Nat
 |n,[]=>Tc n
 |n,c::l=>match iq c with
  |some d=>iu (16*n+d) l
  |none=>Td
def iQ(l:Bs):Option Nat:=if 4<=l.length then iu 0 (l.take 4)else Td
theorem A3:∀{l:Bs} {n m:Nat},iu n l=Tc m->m<(n+1)*16 ^ l.length
 |[],n,m,h=>by cases h;simp
 |c::l,n,m,h=>by
  unfold iu at h;cases e:iq c with
  |none=>grind
  |some d=>rw[e]at h;have h1:=A3 h;have f:=qkx e;have b:(16*n+d+1)*16 ^ l.length<=(16*(n+1))*16 ^ l.length:=za2 _ (by omega);grind
theorem tD(h:iQ l=Tc n):n<65536:=by unfold iQ at h;split at h;have:=A3 h;simp_all;cases h
def oc(c:UInt8):Option Nat:=
 if c=34\/c=92\/c=47 then Tc c.toNat else if c=98 then Tc 8 else if c=102 then Tc 12 else if c=110 then Tc 10 else if c=114 then Tc 13 else if c=116 then Tc 9 else Td
def rR(t:Bs):Option (Nat×Nat):=match iQ t with
 |none=>Td
 |some n=>if 56320<=n/\n<57344 then Td else if n<55296\/57344<=n then Tc (n,6)else
  if(t.drop 4).take 2=[92,117]then match iQ (t.drop 6)with
   |some m=>if 56320<=m/\m<57344 then Tc (65536+(n-55296)*1024+(m-56320),12)else Td
   |none=>Td
  else Td
def rD(l:Bs):Option (Nat×Nat):=match l with
 |_::c::t=>match oc c with
  |some r=>Tc (r,2)
  |none=>if c=117 then rR t else Td
 |_=>Td
def kX(l:Bs):Option (Nat×Nat):=if l.head?=Tc 92 then rD l else if(dec l).1<32\/jW (dec l)=Ta then Td else Tc (dec l)
def np:Nat->Bs->Bs×Nat×Bool
 |0,_=>([],0,Tb)
 |f+1,l=>if l=[]then([],0,Tb)else if l.head?=Tc 34 then([],1,Ta)else match kX l with
  |none=>([],0,Tb)
  |some (r,n)=>let q:=np f (l.drop n);(encodeRune (r:Int)++q.1,n+q.2.1,q.2.2)
def kf(l:Bs):Bs×Nat×Bool:=np l.length l
theorem z6e{t:Bs}(h:rR t=Tc (r,n)):(n=6\/n=12)/\n<=t.length+2/\r<=1114111:=by
 unfold rR at h;cases e:iQ t with
 |none=>grind
 |some m=>
  have c:=tD e;have f:4<=t.length:=by unfold iQ at e;split at e;assumption;cases e
  rw[e]at h;dsimp only at h;split at h;cases h;split at h;grind;split at h;cases e2:iQ (t.drop 6)with
  |none=>simp_all
  |some k=>
   have b:4<=(t.drop 6).length:=by unfold iQ at e2;split at e2;assumption;cases e2
   grind
  cases h
theorem RX{c:UInt8}(h:oc c=Tc r):r<=255:=by have:=c.toNat_lt;unfold oc at h;grind
theorem Pd(h:rD l=Tc (r,n)):2<=n/\n<=12/\n<=l.length/\r<=1114111:=by
 match l,h with
 |a::c::t,h=>
  unfold rD at h;dsimp only at h;cases e:oc c with
  |some k=>rw[e]at h;cases h;have:=RX e;grind
  |none=>rw[e]at h;dsimp only at h;split at h;obtain⟨h1,f,b⟩:=z6e h;grind;cases h
theorem VG(l:Bs):(dec l).1<=1114111:=by have h0:=(l.getD 0 0).toNat_lt;have h1:=(l.getD 1 0).toNat_lt;have c:=(l.getD 2 0).toNat_lt;have b:=(l.getD 3 0).toNat_lt;unfold dec decodeN;grind
theorem vq(c:l≠[])(h:kX l=Tc (r,n)):1<=n/\n<=12/\n<=l.length/\r<=1114111:=by
 unfold kX at h;split at h;obtain⟨h1,b,e,f⟩:=Pd h;omega;split at h;cases h;have h:=za6 h;obtain⟨rfl,rfl⟩:r=(dec l).1/\n=(dec l).2:=by simp_all
 have h1:=Y7 l;have b:=xM c;exact⟨h1.1,by omega,b,VG l⟩
theorem HM:∀(f:Nat) (l:Bs),l.length<=f->∀g,l.length<=g->np f l=np g l
 |0,l,h,g,_=>by have:l=[]:=zbq.1 (by omega);subst this;cases g <;> simp[np]
 |f+1,l,h,0,hg=>by have:l=[]:=zbq.1 (by omega);subst this;simp[np]
 |f+1,l,h,g+1,hg=>by
  unfold np;by_cases h1:l=[];simp_all;rw[za h1,za h1];by_cases b:l.head?=Tc 34;simp_all;rw[za b,za b];cases e:kX l with
  |none=>rfl
  |some x=>obtain⟨r,n⟩:=x;obtain⟨c,_,i,_⟩:=vq h1 e;have:=HM f (l.drop n) (by grind) g (by grind);simp_all
theorem RA:kf []=([],0,Tb):=rfl
theorem Hc(h:l≠[]):kf l=if l.head?=Tc 34 then([],1,Ta)else match kX l with
  |none=>([],0,Tb)
  |some (r,n)=>(encodeRune (r:Int)++(kf (l.drop n)).1,n+(kf (l.drop n)).2.1,(kf (l.drop n)).2.2):=by
 have i:=zbo.2 h;obtain⟨f,c⟩:∃f,l.length=f+1:=⟨l.length-1,by omega⟩;rw[kf,c,np,za h];by_cases b:l.head?=Tc 34;simp_all;rw[za b,za b];cases e:kX l with
 |none=>rfl
 |some x=>obtain⟨r,n⟩:=x;obtain⟨k,_,m,_⟩:=vq h e;dsimp only;rw[kf,HM f (l.drop n) (by simp_all) (l.drop n).length (zaf _)]
theorem qbi:∀(k:Nat) (l:Bs),l.length=k->(kf l).2.1<=l.length/\(kf l).1.length<=4*l.length:=by
 intro k;induction k using zee with
 |_ k b=>
  intro l i;by_cases h:l=[];subst h;exact⟨zaf _,zaf _⟩;have f:=zbo.2 h;rw[Hc h];split;grind;cases e:kX l with
  |none=>simp
  |some x=>
   obtain⟨r,n⟩:=x;obtain⟨m,_,p,_⟩:=vq h e;have c:(l.drop n).length=l.length-n:=zb2;have:=b (l.drop n).length (by omega) _ rfl;have o:(encodeRune (r:Int)).length<=4:=by have:=(encodeRuneZ_length (r:Int)).2;rw[encodeRune,zaw];exact this
   simp;omega
def wm(t:Bs)(a:Nat):Bs×Nat×Int:=
 if(t.drop a).head?=Tc 34 then(let q:=kf (t.drop (a+1));if q.2.2 then(q.1,a+1+q.2.1,0)else([],a+1+q.2.1,2))else([],a,2)
def gX(t:Bs):Bs×Nat×Int:=let r:=wm t 0;if r.2.2=0/\r.2.1<t.length then([],r.2.1,2)else r
def P9(c:UInt8):Bs:=
 if c=34\/c=92 then [92,c]else if c=8 then [92,98]else if c=12 then [92,102]else if c=10 then [92,110]else if c=13 then [92,114]else if c=9 then [92,116]
 else if c.toNat<32 then [92,117,48,48,zcj (48+c.toNat / 16),zcj (if c.toNat % 16<10 then 48+c.toNat % 16 else 87+c.toNat % 16)]else [c]
def MQ(l:Bs):Bs:=l.flatMap P9
def Co(l:Bs):Bs×Int:=if gL l then(34::MQ l++[34],0)else([],2)
end
end Go.X
end
section
namespace Go.X
open Go Go.X Go.Proofs Go.RowKit
section
variable {h:zc} {b:Nat} {l:Bs} {r:Int} {K:Value -> zc -> Prop}
theorem Vv(H:Bld h b l)(h0:0<=r)(h1:r<=1114111)(hl:l.length+4<=140737488355328)(O:∀h' n,Bld h' b (l++Lib.encodeRune r)->Keep b h h'->Itk h h'->K (.tuple #[.int .i64 n,.nilIface]) h'):
  XC Tp 252 #[.pointer (Tc ⟨b,0,Td⟩),.int .i32 r] h K:=by
 apply Yn;refine Ng H λf D k2 z2 G=>⟨rfl,_,rfl,?_⟩;have t:=D.lt;obtain⟨p,s,e,U,w⟩:=D;have u:=w.1;rw[Lib.byteCells_length,zdc]at u;have C:=Blk.cellAdd (o:=0) (k:=1) (v:=aK s) (cs:=#[.pointer p,aK s]) ⟨_,e⟩ rfl;refine⟨s,C,_,rfl,s,C,?_⟩;refine XC.of_calls λB d=>(zad (b+1) (aK s) s.len (Lib.byteCells l) r (by omega) (by omega) (mk B d f) w (by omega) (show b+1<=f.size by omega)).mono ?_;rintro e' w' ⟨E,rfl,q,o,m⟩;obtain⟨s',rfl,Z⟩:∃s':Sl,E=aK s'/\s'.len=s.len+(Lib.runeCells r).length:=by rcases q.2 with⟨rfl,hz⟩|⟨g,cap,V,rfl,_⟩;exact⟨⟨Td,0,0⟩,rfl,hz.symm⟩;exact⟨⟨_,_,_⟩,rfl,rfl⟩
 have F:Owns w'.heap (b+1) 5 1 s' (Lib.byteCells (l++Lib.encodeRune r)):=by
  have e1:Lib.byteCells (l++Lib.encodeRune r)=Lib.byteCells l++Lib.runeCells r:=by rw[<-Lib.byteCells_encodeRune];unfold Lib.byteCells;rw[zb9]
  rw[e1];rw[<-Z]at q;exact q
 have J:w'.heap[b]?=Tc (.cells #[.pointer p,aK s] 88 (0,0)):=by
  have x:=m.block b (by show b<(f.push o).size;grind) (by
   intro c;cases ha:s.a with
   |none=>rw[aK,ha]at c;cases c
   |some a=>have:=w.base_le a ha;rw[aK,ha]at c;simp only[Value.ownBlock,zab]at c;omega)
  rw[x];show(f.push o)[b]?=_;rw[Array.getElem?_push_lt t,<-e];simp[t]
 have L:Keep b h w'.heap:=by
  refine k2.trans ⟨?_,λi hi=>?_⟩ (zaf _);have:=m.size;have h3:(f.push o).size<=w'.heap.size:=this;grind;have x:=m.block i (by show i<(f.push o).size;grind) (by
   intro c;cases ha:s.a with
   |none=>rw[aK,ha]at c;cases c
   |some a=>have:=w.base_le a ha;rw[aK,ha]at c;simp only[Value.ownBlock,zab]at c;omega)
  rw[x];show(f.push o)[i]?=_;grind
 have Q:Itk f w'.heap:=Itk.own w λi hi y=>by
  have x:=m.block i (by show i<(f.push o).size;grind) (by
   intro c;cases ha:s.a with
   |none=>rw[aK,ha]at c;cases c
   |some a=>have:=y a ha;rw[aK,ha]at c;simp only[Value.ownBlock,zab]at c;exact this c)
  rw[x];show(f.push o)[i]?=_;grind
 refine⟨_,rfl,m.os,m.tape,m.output,s',rfl,_,rfl,?_⟩;refine qn8 J U F λN A I z7 M=>?_;have P:=A;obtain⟨S,z,Y,_,_⟩:=P;exact⟨_,rfl,z,Blk.cellAdd (o:=0) (k:=1) (v:=aK z) (cs:=#[.pointer S,aK z]) ⟨_,Y⟩ rfl,O N _ A (L.trans I (zaf _)) (G.trans (Q.trans M))⟩
theorem Pu(H:Bld h b l)(h0:0<=r)(h1:r<=1114111)(c:l.length+4<=140737488355328)(e:∀h' n,Bld h' b (l++Lib.encodeRune r)->Keep b h h'->K (.tuple #[.int .i64 n,.nilIface]) h'):
  XC Tp 252 #[.pointer (Tc ⟨b,0,Td⟩),.int .i32 r] h K:=
 Vv H h0 h1 c λh' n a b _=>e h' n a b
def AZ(c:Int):Option Nat:=let lo:=bits .or .u8 c 32
 if 97<=lo/\lo<=122 then(let d:=zaa .u8 ((zaa .u8 (lo-97))+10);if d>=16 then Td else Tc d.toNat)else Td
theorem YP:(zbk 256).all (λc=>decide (48<=c/\c<=57)||(AZ (c:Int)==iq (zcj c)))=Ta:=by kernel_rfl
theorem US{c:UInt8}(h:¬(48<=c.toNat/\c.toNat<=57)):AZ (c.toNat:Int)=iq c:=by have:=zas.1 YP c.toNat (zcd.2 c.toNat_lt);rw[zcw,zA]at this;rcases this with h1|h1;omega;simp_all
theorem qbj:(zbk 256).all (λc=>decide (0<=zaa .u8 ((zaa .u8 ((bits .or .u8 (c:Int) 32)-97))+10)))=Ta:=by kernel_rfl
theorem BD{c:Int}(b:K (.int .u8 (bits .or .u8 c 32)) h):XC Tp 375 #[.int .u8 c] h K:=by refine XC.of_calls λB d=>(W6 c (mk B d h)).mono ?_;rintro e w' ⟨rfl,rfl⟩;exact⟨_,rfl,rfl,rfl,rfl,b⟩
theorem BQ:∀(a b:Bs) (n:Nat),iu n (a++b)=(iu n a).bind λm=>iu m b
 |[],b,n=>rfl
 |c::a,b,n=>by
  show(match iq c with|some d=>iu (16*n+d) (a++b)|none=>Td)=(match iq c with|some d=>iu (16*n+d) a|none=>Td).bind _;cases iq c with
  |none=>rfl
  |some d=>exact BQ a b _
theorem YF(n:Nat)(c:UInt8):iu n [c]=(iq c).map λd=>16*n+d:=by show(match iq c with|some d=>iu (16*n+d) []|none=>Td)=_;cases iq c <;> rfl
theorem VX{s:Bs}(c:∀(x:Sl) h',Keep h.size h h'->x.len=s.length->x.a=Tc ⟨h.size,0,Td⟩->(∀j (b:j<s.length),zf h' ⟨h.size,j,Td⟩=Tc (.int .u8 (s[j].toNat:Int)))->K (aK x) h'):
  Qa Tp (convert 9 86 (.string (bl s))) h K:=by
 intro B d;refine⟨_,_,_,Lib.run_convert_string_bytes (P:=Tp) (mk B d h) 9 86 5 (bl s) Ry elemU8.slice (by kernel_rfl),?_⟩;refine c ⟨Tc ⟨h.size,0,Td⟩,(bl s).size,_⟩ _ ⟨?_,λi hi=>?_⟩ (zu s) rfl λj b=>?_;show h.size<=(Lib.bytesWorld (mk B d h) 5 (bl s)).heap.size;rw[Lib.bytesWorld_size];exact Nat.le_succ _;exact Lib.bytesWorld_at_old (mk B d h) 5 (bl s) i hi;have:=Lib.bytesWorld_cell (mk B d h) 5 (bl s) j (by rw[zu];exact b);have e:(bl s).data.toList=s:=yo s;rw[e,zdl,zaj b]at this;exact this
set_option maxHeartbeats 4000000 in
theorem zzt(C:l.length=4)(h1:∀n h',iu 0 l=Tc n->Keep h.size h h'->K (.tuple #[.int .u64 (n:Int),.nilIface]) h') (Z:∀h',iu 0 l=Td->Keep h.size h h'->K (.tuple #[.int .u64 0,.iface 306 (.int .i64 2)]) h'):
  XC Tp 342 #[.string (bl l),.int .i64 16,.int .i64 32] h K:=by
 apply Ye;have he:((bl l:Bt).toList==((⟨#[]⟩:Bt):Bt).toList)=Tb:=by have:((bl l:Bt).toList==((⟨#[]⟩:Bt):Bt).toList)=decide (l=[]):=ke l [];rw[this,decide_eq_false_iff_not];intro e;rw[e]at C;simp at C
 refine⟨λe=>(by simp_all),λ_=>?_⟩;intro K4 Q;refine⟨λ_=>Q _ _ _ ?_,λe=>by simp at e⟩;intro K7 L;refine⟨λe=>by simp at e,λ_=>⟨λe=>by simp at e,λ_=>L _ _ ?_⟩⟩;intro aa B;refine⟨λe=>by simp at e,λ_=>⟨λ_=>B _ _ ?_,λe=>by simp at e⟩⟩;have A:(zaa .u64 32:Int)=32:=by decide
 refine⟨by rw[A];omega,?_⟩;refine VX λx h3 I xl xa xc=>⟨x,rfl,?_⟩;refine⟨λu n i g=>u=Tb/\g=h3/\∃(k m:Nat),k<=4/\i=(k:Int)/\n=(m:Int)/\iu 0 (l.take k)=Tc m,λu n i g=>4-i.toNat,⟨rfl,rfl,0,0,by omega,rfl,rfl,rfl⟩,?_⟩;rintro u n i g ⟨rfl,rfl,k,m,hk,rfl,rfl,D⟩;have ab:m<65536:=by
  have:=A3 D;have hp:(l.take k).length<=4:=by rw[zcr];omega
  have:16 ^ (l.take k).length<=16 ^ 4:=Nat.pow_le_pow_right (by omega) hp;omega
 refine⟨λY=>?_,λY=>?_⟩;have y:k<4:=by rw[zA,xl,C]at Y;omega
 have t:k<l.length:=by omega
 refine⟨⟨h.size,0,Td⟩,⟨xa,by omega,by omega⟩,(l[k].toNat:Int),?_,?_⟩;rw[qy,zao,zdc,za5];exact xc k t;generalize H:l[k]=c;have f:iu 0 (l.take (k+1))=(iq c).map λd=>16*m+d:=by rw[zar t,BQ,D,H];exact YF m c
 have o:iq c=Td->iu 0 l=Td:=by intro e;rw[e]at f;rw[<-zce (k+1) l,BQ,f];rfl
 have cl:=c.toNat_lt;intro J s;have fin:∀d:Int,0<=d->(d<16->iq c=Tc d.toNat)->(16<=d->iq c=Td)->J Tb d g:=by
  intro d V N E;apply s;have F:(zaa .u8 16:Int)=16:=by decide
  have q:(zaa .u64 16:Int)=16:=by decide
  rw[F,q,A];refine⟨λe=>Z _ (o (E (by simpa using e))) I,λe=>?_⟩;have r:d<16:=by simpa using e
  have hv:=N r;rw[hv]at f;have O:∀z:Int,0<=z->z<18446744073709551616->zaa .u64 z=z:=by
   intro z z0 z1;unfold zaa;have p:(2:Int) ^ zem .u64=18446744073709551616:=by decide
   have M:ze1 .u64=Tb:=rfl;simp only[p,M,Bool.false_and,zcc,if_false];exact Int.emod_eq_of_lt z0 z1
  have p:zaa .u64 ((m:Int)*16)=(m:Int)*16:=O _ (by omega) (by omega);have M:zaa .u64 d=d:=O _ V (by omega);have e3:zaa .u64 ((m:Int)*16+d)=(m:Int)*16+d:=O _ (by omega) (by omega);have e4:(zaa .u64 ((zaa .u64 (1*2 ^ (min (32:Int).toNat 64)))-1):Int)=4294967295:=by decide
  rw[p,M,e3,e4];refine⟨λe=>?_,λ_=>⟨λe=>?_,λ_=>?_⟩⟩;rw[zA]at e;omega;simp only[Bool.cond_eq_ite,Bool.if_true_left,zcw,zA]at e;omega;rw[Ze (n:=4) y (by omega)];refine⟨⟨rfl,rfl,k+1,16*m+d.toNat,by omega,rfl,by omega,f⟩,?_⟩;simp;omega
 have w:(bif ((c.toNat:Int)==95)then((16:Int)==0)else Tb)=Tb:=by cases((c.toNat:Int)==95) <;> rfl
 refine⟨λe=>(by rw[w]at e;cases e),λ_=>⟨λe=>?_,λe=>?_⟩⟩;have r:48<=c.toNat/\c.toNat<=57:=by simp only[Bool.cond_eq_ite,Bool.if_false_right,zan,zA]at e;omega
 rw[Na (by omega) (by omega)];refine fin _ (by omega) (λ_=>?_) (λh9=>by omega);unfold iq;rw[zb r];congr 1;omega;have r:¬(48<=c.toNat/\c.toNat<=57):=by simp only[Bool.cond_eq_ite,Bool.if_false_right,zd3,decide_eq_false_iff_not,zA]at e;omega
 have b:=US r;have U:=zas.1 qbj c.toNat (zcd.2 cl);rw[zA]at U;unfold AZ at b;dsimp only at b;refine BD ?_;generalize S:bits .or .u8 (c.toNat:Int) 32=lo at b U ⊢;refine⟨lo,rfl,λv g'=>v=.int .u8 lo/\g'=g,λ_=>BD ?_,λ_=>⟨lo,rfl,rfl⟩,?_,?_⟩;simp;omega;simp;rintro x g' ⟨p,rfl⟩;injection p with _ p;subst p;refine⟨λG=>BD ?_,λG=>?_⟩;rw[S];refine⟨x,rfl,?_⟩;have P:97<=x/\x<=122:=by simp only[Bool.cond_eq_ite,Bool.if_false_right,zan,zA]at G;omega
 rw[zb P]at b;refine fin _ U (λh9=>?_) (λh9=>?_);rw[za (by omega)]at b;exact b.symm;rw[zb (by omega)]at b;exact b.symm;have P:¬(97<=x/\x<=122):=by simp only[Bool.cond_eq_ite,Bool.if_false_right,zd3,decide_eq_false_iff_not,zA]at G;omega
 rw[za P]at b;exact Z _ (o b.symm) I;have y:k=4:=by rw[decide_eq_false_iff_not,xl,C]at Y;omega
 refine⟨λv g'=>g'=g,(λe=>by cases e),(λ_=>⟨Ta,rfl⟩),(λe=>by cases e),?_⟩;rintro x g' rfl;refine⟨λe=>(by cases e),λ_=>h1 _ _ ?_ I⟩;rw[zcn (by omega)]at D;exact D
end
end Go.X
end
section
namespace Go.X
section
theorem qfy{gl:Fr}(D:GL gl){l:List Bt}(F:SL l){R:Bool->Prop}(J:R (kE l)):PC Tp gl 67 [Arg.mk (.row .str) l] [.bool] R:=by
 intro h M vs z ag I
 match vs,I with
 |[u],⟨hu,_⟩=>
  obtain⟨s,rfl,n⟩:=oC hu;have n:Rd M (.row .str) l [aK s]:=n;obtain⟨i,L,G⟩:=rowLen n;apply PX.of;apply zkt s;have y:decide (((s.len:Nat):Int)<=64)=decide (l.length<=64):=by rw[i,za7,zA,zA];omega
  rw[y];refine⟨λv h'=>∃b,v=.bool b/\(decide (l.length<=64)=Ta->b=l.any λx=>!(gL (lb x)))/\∃M',Later h M h' M',λk=>?_,λk=>⟨Ta,Ta,rfl,λe=>(by rw[e]at k;cases k),M,Later.refl ag⟩,λ_ v h' ⟨b,e,_⟩=>⟨b,e⟩,?_⟩;refine(ZQ (gl:=gl) ag n (p:=λx=>!(gL (lb x))) λx H=>⟨by kernel_rfl,λh' M' S m o=>?_⟩).go λw P N b E c r=>⟨b,dK c,b,rfl,λ_=>r,N,E⟩;have:=Za o;subst this;apply PX.of;show XC Tp 112 #[.string x] h' _;apply Vm;have t:=Mb D.tabs (l:=lb x) (R:=λb=>b=gL (lb x)) (by have:=F.s x H;omega) rfl;rw[jL]at t;exact t.go (vs:=[.string x]) (z.trans m.le) m.ag (zi (rdStr _) zq) λw Q A b B f q=>⟨b,dK f,A,_,B,Y5.2 (rdBool _),by rw[q]⟩;rintro b h' ⟨O,e,C,M',m⟩;cases e;refine⟨M',_,m,Y5.2 (rdBool _),?_⟩;have:(bif decide (l.length<=64)then !b else Tb)=kE l:=by
   unfold kE;cases k:decide (l.length<=64)with
   |false=>rfl
   |true=>rw[C k,zH,zcq,za7];simp
  rw[this];exact J
end
end Go.X
end
section
namespace Go.X
open Go Go.X Go.Proofs Go.RowKit
section
theorem XX{z:UInt8}(h:128<=z.toNat):Lib.indexByte [95] z=-1:=by
 have:z≠95:=by rintro rfl;revert h;decide
 unfold Lib.indexByte;simp[Lib.indexByte,this.symm]
theorem YE{z:UInt8}:Lib.indexByte [] z=-1:=by simp[Lib.indexByte]
def VR(r:Int)(e:Ending):Prop:=∃b,e=.returned (.bool b)/\(b=Ta->(0<=r/\r<55296)\/(57343<r/\r<=1114111))
set_option maxHeartbeats 4000000 in
set_option maxRecDepth 1000000 in
theorem Ud(r:Int)(w:World):Calls Tp 381 #[.int .i32 r] w λe w'=>VR r e/\w'=w:=by
 have mixed:=Tryz.mixed
 go_enter Tryz.func381,Tryz.ntmps381
 by_cases h1:0<=r <;> by_cases b:r<55296 <;> by_cases f:57343<r <;> by_cases c:r<=1114111 <;> (go_wp2;go_ret;exact⟨⟨_,rfl,λh=>by first|omega|cases h⟩,rfl⟩)
theorem MA(r:Int)(h:128<=r):(∃a z:UInt8,zew r=⟨#[a,z]⟩/\128<=z.toNat)\/(∃a b z:UInt8,zew r=⟨#[a,b,z]⟩/\128<=z.toNat)\/(∃a b c z:UInt8,zew r=⟨#[a,b,c,z]⟩/\128<=z.toNat):=by
 have hz:∀n:Nat,128<=(zcj (128+n % 64)).toNat:=λn=>by have:(zcj (128+n % 64)).toNat=(128+n % 64) % 256:=UInt8.toNat_ofNat;rw[this,Nat.mod_eq_of_lt (by omega)];omega
 have i:∃c:Nat,128<=c/\(if Utf8.valid r then r.toNat else Utf8.runeError)=c:=by refine⟨_,?_,rfl⟩;split;omega;decide
 obtain⟨c,k,e⟩:=i;unfold zew;simp only[e];rw[za (by omega)];by_cases h1:c<2048;rw[zb h1];exact .inl ⟨_,_,rfl,hz _⟩;rw[za h1];by_cases f:c<65536;rw[zb f];exact .inr (.inl ⟨_,_,_,rfl,hz _⟩);rw[za f];exact .inr (.inr ⟨_,_,_,_,rfl,hz _⟩)
def IR(e:Ending):Prop:=∃n,e=.returned (.int .i64 n)
set_option maxHeartbeats 4000000 in
set_option maxRecDepth 1000000 in
theorem SR(r:Int)(w:World)(h1:128<=r)(p:r≠65533):Calls Tp 351 #[.string ⟨#[43,45,95]⟩,.int .i32 r] w λe w'=>IR e/\Below w.heap.size w w':=by
 have mixed:=Tryz.mixed;have l:∀args w,(callFunc 194 args).run Tp w=.ok (.enter 194 args) w:=enters_of Tryz.func194 (by kernel_rfl) rfl;have m:∀args w,(callFunc 381 args).run Tp w=.ok (.enter 381 args) w:=enters_of Tryz.func381 (by kernel_rfl) rfl;have o:¬r<128:=by omega
 go_enter Tryz.func351,Tryz.ntmps351
 go_wp2_with (go_at_fn 381;refine(Ud _ _).mono ?_;rintro e w' ⟨⟨b,rfl,q⟩,n⟩;rw[n];cases b)
 go_ret
 exact⟨⟨_,rfl⟩,Below.refl _ _⟩
 ·rcases MA r h1 with⟨a,z,k,hz⟩|⟨a,b,z,k,hz⟩|⟨a,b,c,z,k,hz⟩
  ·have f:=λ(w:World)=>run_convert_int_string (P:=Tp) w 21 9 .i32 r (by kernel_rfl) (by kernel_rfl);rw[k]at f;refine wp_scope_straight ?_
   go_wp2
   go_loop [9] (λv=>v=.int .i64 1) (λ_=>0)
   case atStart=>rfl
   case round=>
    subst hrel
    go_wp2
    refine wp_scope_straight ?_;have i:((45:Int) != (z.toNat:Int))=Ta:=bne_iff_ne.2 (by omega)
    go_wp2
    go_region
    simp only[show ∀h,((⟨#[43,45,95]⟩:Bt)[1]'h)=45 from λ_=>rfl,show ∀h,((⟨#[a,z]⟩:Bt)[1]'h)=z from λ_=>rfl,show((45:UInt8).toNat:Int)=45 from rfl,i];all_goals go_wp2
    all_goals go_region_with (go_at_call 194;refine(wl _ _ _).mono ?_;rintro e w' ⟨rfl,rfl⟩)
    all_goals simp only[show ∀h,((⟨#[a,z]⟩:Bt)[1]'h)=z from λ_=>rfl,XX hz]
    all_goals go_wp2
    all_goals simp only[Exit.noGoto,Exit.inBlock]
    all_goals go_wp2
    all_goals simp only[Exit.noGoto,Exit.inBlock]
    all_goals go_wp2
    all_goals go_ret
    all_goals exact⟨⟨_,rfl⟩,G6 w 2⟩
  ·have f:=λ(w:World)=>run_convert_int_string (P:=Tp) w 21 9 .i32 r (by kernel_rfl) (by kernel_rfl);rw[k]at f;refine wp_scope_straight ?_
   go_wp2
   go_loop [9] (λv=>v=.int .i64 2) (λ_=>0)
   case atStart=>rfl
   case round=>
    subst hrel
    go_wp2
    refine wp_scope_straight ?_;have i:((95:Int) != (z.toNat:Int))=Ta:=bne_iff_ne.2 (by omega)
    go_wp2
    go_region
    simp only[show ∀h,((⟨#[43,45,95]⟩:Bt)[2]'h)=95 from λ_=>rfl,show ∀h,((⟨#[a,b,z]⟩:Bt)[2]'h)=z from λ_=>rfl,show((95:UInt8).toNat:Int)=95 from rfl,i];all_goals go_wp2
    all_goals go_region_with (go_at_call 194;refine(wl _ _ _).mono ?_;rintro e w' ⟨rfl,rfl⟩)
    all_goals simp only[show ∀h,((⟨#[a,b,z]⟩:Bt)[2]'h)=z from λ_=>rfl,YE]
    all_goals go_wp2
    all_goals simp only[Exit.noGoto,Exit.inBlock]
    all_goals go_wp2
    all_goals simp only[Exit.noGoto,Exit.inBlock]
    all_goals go_wp2
    all_goals go_ret
    all_goals exact⟨⟨_,rfl⟩,G6 w 2⟩
  ·have f:=λ(w:World)=>run_convert_int_string (P:=Tp) w 21 9 .i32 r (by kernel_rfl) (by kernel_rfl);rw[k]at f;refine wp_scope_straight ?_
   go_wp2
   go_loop [9] (λv=>v=.int .i64 3) (λ_=>0)
   case atStart=>rfl
   case round=>
    subst hrel
    go_wp2
    go_ret
    exact⟨⟨_,rfl⟩,Below.refl _ _⟩
end
end Go.X
end
section
namespace Go.X
section
theorem UX(gl:Fr)(c:Bt)(b:Bt)(R:Bool->Prop) (H:PC Tp gl 359 [Arg.mk .str c,Arg.mk .str b] [.int .i64] (λa:Int=>R (decide (a>=0)))):
  PC Tp gl 307 [Arg.mk .str c,Arg.mk .str b] [.bool] R:=
 PF ⟨[],[],[],[]⟩ [.tmp 4] 9 Tryz.func307 H
theorem Ml(gl:Fr)(l:Bt)(k:Bt)(R:Int->Prop) (H:((k.toList==(⟨#[]⟩:Bt).toList)=Ta->R (-1))/\((k.toList==(⟨#[]⟩:Bt).toList)=Tb->(((k.size:Int)==1)=Ta->(0<=(0:Int)/\(0:Int)<(k.size:Int))/\∀a:Int->Prop,(∀b:Int,(PC Tp gl 351 [Arg.mk .str l,Arg.mk (.int .i32) b] [.int .i64] (λc:Int=>R c))->a b)->((decide ((zaa .i32 (qj k (0:Int).toNat))>=128))=Ta->a 65533)/\((decide ((zaa .i32 (qj k (0:Int).toNat))>=128))=Tb->a (zaa .i32 (qj k (0:Int).toNat))))/\(((k.size:Int)==1)=Tb->∀d:Prop,((∃(e:(Bt×Nat)->Prop) (f:(Bt×Nat)->Nat),e (l,0)/\∀h:Bt×Nat,e h->(((hP h.1 h.2)=Ta->(hP h.1 h.2)=Ta/\(hP h.1 h.2)=Ta/\PC Tp gl 351 [Arg.mk .str k,Arg.mk (.int .i32) (i8 h.1 h.2)] [.int .i64] (λg:Int=>(decide (g>=0)=Ta->R (h.2:Int))/\(decide (g>=0)=Tb->(e (h.1,ir h.1 h.2)/\f (h.1,ir h.1 h.2)<f h))))/\((hP h.1 h.2)=Tb->R (-1))))->d)->PC Tp gl 383 [Arg.mk (.int .i64) (l.size:Int)] [.bool] (λi:Bool=>(i=Ta->False)/\(i=Tb->d))))):
  PC Tp gl 359 [Arg.mk .str l,Arg.mk .str k] [.int .i64] R:=
 PF ⟨[],[],[(18,⟨[],[(45,[.dat .iter])],[],[1002880]⟩)],[(7,⟨[(5,.one (.dat (.int .i32)))],[],[],[100320]⟩),(17,⟨[],[],[],[]⟩)]⟩ [.tmp 4] 55 Tryz.func359 H
theorem Yk(gl:Fr)(h:Bt)(f:Int)(R:Int->Prop) (H:((bif (decide ((0:Int)<=f))then(decide (f<128))else Tb)=Ta->PC Tp gl 194 [Arg.mk .str h,Arg.mk (.int .u8) (zaa .u8 f)] [.int .i64] (λa:Int=>R a))/\((bif (decide ((0:Int)<=f))then(decide (f<128))else Tb)=Tb->((f==65533)=Ta->∃(b:(Bt×Nat)->Prop) (c:(Bt×Nat)->Nat),b (h,0)/\∀e:Bt×Nat,b e->(((hP e.1 e.2)=Ta->(hP e.1 e.2)=Ta/\(hP e.1 e.2)=Ta/\(((i8 e.1 e.2:Int)==65533)=Ta->R (e.2:Int))/\(((i8 e.1 e.2:Int)==65533)=Tb->(b (e.1,ir e.1 e.2)/\c (e.1,ir e.1 e.2)<c e)))/\((hP e.1 e.2)=Tb->R (-1))))/\((f==65533)=Tb->PC Tp gl 381 [Arg.mk (.int .i32) f] [.bool] (λd:Bool=>((!d)=Ta->R (-1))/\((!d)=Tb->False))))):
  PC Tp gl 351 [Arg.mk .str h,Arg.mk (.int .i32) f] [.int .i64] R:=
 PF ⟨[],[],[(38,⟨[],[(175,[.dat .iter])],[],[1011200]⟩)],[]⟩ [.tmp 4] 187 Tryz.func351 H
theorem Yo(gl:Fr)(b:Int)(R:Bool->Prop) (H:R (decide (b>8))):
  PC Tp gl 383 [Arg.mk (.int .i64) b] [.bool] R:=
 PF ⟨[],[],[],[]⟩ [.tmp 2] 5 Tryz.func383 H
end
end Go.X
end
section
namespace Go.X
open Go Go.X Go.Proofs Go.RowKit
section
variable {gl:Fr} {R:Int -> Prop} {l:Bs}
theorem Le{f:FuncId}{args:List Arg}{us:List Value}(c:mI args=Tc us)(l:∀n,R n)
  (H:∀w:World,Calls Tp f us.toArray w λe w'=>IR e/\Below w.heap.size w w'):PC Tp gl f args [.int .i64] R:=by
 intro h M vs m ag i;rw[u0 c i];refine XC.of_calls λB d=>(H (mk B d h)).mono ?_;rintro e w' ⟨⟨n,rfl⟩,b⟩;have k:Keep h.size h w'.heap:=⟨b.size,b.block⟩;exact⟨_,rfl,b.os,b.tape,b.output,k,M,n,Fr.le.refl _,λ_ _=>rfl,ag.keep k,sX _ _,l n⟩
theorem NX{r:Int}(l:0<=r)(b:∀n,R n):PC Tp gl 351 [Arg.mk .str (bl [43,45,95]),Arg.mk (.int .i32) r] [.int .i64] R:=by
 by_cases h1:r<128;apply Yk;have e:(bif decide ((0:Int)<=r)then decide (r<128)else Tb)=Ta:=by simp[l,h1]
 rw[e];exact⟨λ_=>BV (b _),λc=>by cases c⟩;by_cases i:r=65533;subst i;apply Yk;refine⟨λ_=>BV (b _),λ_=>⟨λ_=>?_,λc=>by cases c⟩⟩;refine⟨λq=>∃p:Nat,q=(bl [43,45,95],p),λq=>3-q.2,⟨0,rfl⟩,?_⟩;rintro q ⟨p,rfl⟩;simp only[sF];refine⟨λf=>⟨f,f,λ_=>b _,λ_=>⟨⟨_,rfl⟩,?_⟩⟩,λ_=>b _⟩;have h:p < [43,45,95].length:=by simpa using f
 have k:p<3:=h;rw[oU _ _ h];have:=(Y7 (([43,45,95]:Bs).drop p)).1;omega;exact Le (us:=[.string ⟨#[43,45,95]⟩,.int .i32 r]) rfl b λw=>SR r w (by omega) i
theorem LX(w:World)(b c:Obj):Below w.heap.size w ((w.alloc b).alloc c):=((Below.refl _ w).alloc (zaf _) b).alloc (by show w.heap.size<=(w.heap.push b).size;simp) c
theorem XL(l:Bs):(0:Int)<=((dec l).1:Int):=Int.natCast_nonneg _
theorem Kr(B:l.length<=9){R:Bool->Prop}(h1:nS l->R (l.any λc=>[43,45,95].contains c))(o:¬nS l->∀b,R b):PC Tp gl 307 [Arg.mk .str (bl l),Arg.mk .str (bl [43,45,95])] [.bool] R:=by
 have i:∀(j:Nat) (b:UInt8),([43,45,95]:Bs)[j]?=Tc b->b.toNat<128:=by intro j b f;have:b∈([43,45,95]:Bs):=zbv f;simp at this;rcases this with rfl|rfl|rfl <;> decide
 by_cases m:nS l;refine TL (s:=bl l) (c:=bl [43,45,95]) (by rw[zu];omega) (by rw[zu];decide) ?_ ?_ ?_;rw[yo];exact λj b f=>m b (zbv f);rw[yo];exact i;rw[yo,yo,Hh];exact h1 m;have f:=o m;apply UX;by_cases A:l.length<=8;apply Ml;have y:((bl [43,45,95]).toList==(⟨#[]⟩:Bt).toList)=Tb:=by rw[JU,yo];rfl
 have u:((((bl [43,45,95]).size:Int))==1)=Tb:=by rw[zu];rfl
 rw[y,u];refine⟨λh=>(by cases h),λ_=>⟨λh=>(by cases h),λ_ K r=>?_⟩⟩;apply Yo;have z:decide (((bl l).size:Int)>8)=Tb:=by rw[zu];simp;omega
 rw[z];refine⟨λh=>(by cases h),λ_=>r ?_⟩;refine⟨λq=>∃p:Nat,q=(bl l,p),λq=>l.length-q.2,⟨0,rfl⟩,?_⟩;rintro q ⟨p,rfl⟩;simp only[sF];refine⟨λk=>⟨k,k,?_⟩,λ_=>f _⟩;have x:p<l.length:=by simpa using k
 refine NX (by rw[uc];exact XL _) λn=>⟨λ_=>f _,λ_=>⟨⟨_,rfl⟩,?_⟩⟩;rw[oU _ _ x];have:=(Y7 (l.drop p)).1;omega;refine Le (us:=[.string (bl l),.string (bl [43,45,95])]) rfl (λn=>f _) λw=>?_;have hz:=(zero_of_info (P:=Tp) (t:=236) (v:=.agg (zbr 256 (.bool Tb))) (n:=256) (by kernel_rfl)).1;refine(Uy hz (bl l) (bl [43,45,95]) w (by rw[zu];decide) (by rw[zu];omega) (by rw[zu];omega) (by rw[zu];decide) i).mono ?_;rintro e w' ⟨rfl,rfl⟩;exact⟨⟨_,rfl⟩,LX w _ _⟩
theorem U0:(bif (bif (l==[])then Ta else decide ((l.length:Int)>9))then Ta else(bif (!(l==[48]))then((((l[0]?).getD 0).toNat:Int)==48)else Tb))=decide (l.length<1\/9<l.length\/(1<l.length/\l.head?=Tc 48)):=by
 match l with
 |[]=>simp
 |[c]=>
  rw[za7,zA];by_cases i:c=48;subst i;simp;have:((c.toNat:Int)==48)=Tb:=by have:=Io (c:=c) (n:=48) 48 rfl;unfold bne at this;rw[<-Bool.not_not ((c.toNat:Int)==48),this];simp[i]
  show(bif (bif ([c]==[])then Ta else decide ((([c]:Bs).length:Int)>9))then Ta else(bif (!([c]==[48]))then((c.toNat:Int)==48)else Tb))=Ta↔_;rw[this];simp
 |c::d::t=>
  have e:((c.toNat:Int)==48)=(c==48):=by have:=Io (c:=c) (n:=48) 48 rfl;unfold bne at this;rw[<-Bool.not_not ((c.toNat:Int)==48),this,Bool.not_not]
  show(bif (bif ((c::d::t)==[])then Ta else decide (((c::d::t:Bs).length:Int)>9))then Ta else(bif (!((c::d::t)==[48]))then((c.toNat:Int)==48)else Tb))=_;rw[e,za7,zA];have f:¬(c::d::t:Bs).length<1:=by simp
  have b:1<(c::d::t:Bs).length:=by simp
  have h1:((c::d::t:Bs)==[])=Tb:=rfl;have k:((c::d::t:Bs)==[48])=Tb:=by simp
  rw[h1,k,zI,Bool.not_false,zH];generalize (c::d::t:Bs).length=n at *;by_cases h:9<n;have:decide ((n:Int)>9)=Ta:=by simp;omega
  rw[this];simp[h];have:decide ((n:Int)>9)=Tb:=by simp;omega
  rw[this,zI];simp[h,f,b]
theorem QE(h:l.any (λc=>[43,45,95].contains c)=Tb):∀c,l.head?=Tc c->c.toNat≠43/\c.toNat≠45:=by intro c b;rw[List.any_eq_false]at h;have:=h c (List.mem_of_head? b);constructor;intro e;have:c=43:=zdo.1 (by rw[e];rfl);subst this;exact absurd rfl ‹¬_›;intro e;have:c=45:=zdo.1 (by rw[e];rfl);subst this;exact absurd rfl ‹¬_›
theorem DD(h:l.all yq=Ta):nS l/\(l.any λc=>[43,45,95].contains c)=Tb:=by rw[zas]at h;constructor;intro c b;have:=h c b;simp[yq]at this;omega;rw[List.any_eq_false];intro c b e;have f:=h c b;simp[yq]at f;simp at e;rcases e with rfl|rfl|rfl <;> revert f <;> decide
theorem QD(w:GL gl)(x:l.length<=1048576){R:Int×Bool->Prop}(h:R (i9 l)):PC Tp gl 250 [Arg.mk .str (bl l)] [.int .i64,.bool] R:=by
 apply QL;have o:∀s:Bs,((bl s).toList==(⟨#[48]⟩:Bt).toList)=(s==[48]):=λs=>by rw[show(⟨#[48]⟩:Bt)=bl [48]from rfl,IY,yo]
 simp only[zu,xt,show(0:Int).toNat=0 from rfl,JU,yo,o,U0];refine⟨λc=>⟨by omega,?_⟩,?_⟩;simp at c;have:=zbo.2 c.1.1;omega;unfold i9 at h;by_cases f:l.length<1\/9<l.length\/(1<l.length/\l.head?=Tc 48);rw[zb f]at h;rw[zD f];exact⟨λ_=>True,λc=>(by cases c),λr _=>⟨λ_=>h,λc=>by cases c⟩⟩;rw[za f]at h;rw[zF f];refine⟨λb=>(l.all yq=Ta->b=Tb)/\(l.all yq=Tb->b=Tb->∀v,Lib.atoiAll l≠.ok v),λ_=>?_,λb u=>?_⟩;refine Kr (by omega) (λt=>⟨λe=>(DD e).2,λe q=>T7 e (QE q)⟩) (λi b=>⟨λe=>absurd (DD e).1 i,λe q v=>qkp i v⟩);obtain⟨p,n⟩:=u rfl;refine⟨λc=>?_,λc=>?_⟩;have k:b=Ta:=by simpa using c
 cases e:l.all yq with
 |true=>rw[p e]at k;cases k
 |false=>rw[e,za (by simp)]at h;exact h
 have m:b=Tb:=by simpa using c
 refine QA w.err (s:=bl l) (by rw[zu];omega) ?_;rw[yo];unfold BI;cases e:l.all yq with
 |true=>rw[T8 e (by rintro rfl;simp at f) (by omega)];rw[e,zb rfl]at h;exact⟨λc=>(by cases c),λ_=>h⟩
 |false=>
  rw[e,za (by simp)]at h;have:=n e m;cases t:Lib.atoiAll l with
  |ok v=>exact absurd t (this v)
  |range=>exact⟨λ_=>h,λc=>by cases c⟩
  |_=>exact⟨λ_=>h,λc=>by cases c⟩
end
section
variable {gl:Fr} {l:Bs}
theorem Sg{gl M:Fr}(k:vf gl)(f:Fr.le gl M){h:zc}(ag:AgM M h){fn s:Bt}(i:s.size<=281474976710656){b n:Int}{K:Value->zc->Prop}(p:∀t u h',Keep h.size h h'->K (.iface t u) h'):
  XC Tp 286 #[.string fn,.string s,.int .i64 b,.int .i64 n,.iface 306 (.int .i64 2)] h K:=by
 obtain⟨⟨cs,l,m,q,o⟩,_⟩:=k;refine XC.of_calls λB d=>(W5 fn s b n l (mk B d h) i (AgM.glob (w:=mk B d h) ag (f _ _ m) q) o).mono ?_;rintro e w' ⟨N,rfl,h1,r,c⟩;exact⟨_,rfl,c.os,c.tape,c.output,p _ _ _ ⟨c.size,c.block⟩⟩
theorem zN:∀{l:Bs} {c:UInt8} (n:Nat),c∈l->iq c=Td->iu n l=Td
 |x::l,c,n,b,hv=>by
  show(match iq x with|some d=>iu (16*n+d) l|none=>Td)=Td;rcases zah.1 b with rfl|b;rw[hv];cases iq x with
  |none=>rfl
  |some d=>exact zN _ b hv
theorem Lx{c:UInt8}(h:c.toNat<48\/c=95\/128<=c.toNat):iq c=Td:=by
 have h':c.toNat<48\/c.toNat=95\/128<=c.toNat:=by rcases h with h|rfl|h <;> simp[*]
 unfold iq;rw[za (by omega),za (by omega),za (by omega)]
theorem Ns(m:GL gl)(c:l.length=4){R:Int×Bool->Prop}(h1:∀n:Nat,iu 0 l=Tc n->R ((n:Int),Ta))(f:iu 0 l=Td->R (0,Tb)):
  PC Tp gl 386 [Arg.mk .str (bl l),Arg.mk (.int .i64) 16,Arg.mk (.int .i64) 32] [.int .u64,.err] R:=by
 intro h M vs i ag p
 match vs,p with
 |[u1,u2,u3],⟨a1,a2,a3,_⟩=>obtain rfl:=Za a1;obtain rfl:=jq a2;obtain rfl:=jq a3;apply PX.of;apply Pn;refine zzt c (λn h' e k=>?_) (λh' e k=>?_);exact⟨(n:Int),.nilIface,rfl,rfl,λb=>(by cases b),λ_=>⟨M,((n:Int),Ta),Later.same ag k,CW _ _,h1 n e⟩⟩;refine⟨0,.iface _ _,rfl,rfl,λ_=>?_,λb=>(by cases b)⟩;refine Sg m.err i (ag.keep k) (by rw[zu];omega) λt u q o=>⟨_,rfl,M,(0,Tb),Later.same ag (k.trans o k.size),qP _ _ _ _,f e⟩
theorem Gz(u:GL gl)(z:l.length<=1152921504606846976){R:Int×Bool->Prop}(h1:∀n:Nat,iQ l=Tc n->R ((n:Int),Ta))(o:iQ l=Td->∀v,R (v,Tb)):
  PC Tp gl 384 [Arg.mk .str (bl l)] [.int .i32,.bool] R:=by
 apply Rk;simp only[zu,Ql,show(0:Int).toNat=0 from rfl,show(4:Int).toNat=4 from rfl,zc2,Nat.sub_zero];by_cases y:l.length<4;have e:decide (((l.length:Nat):Int)<4)=Ta:=by rw[zA];omega
 have w:iQ l=Td:=by unfold iQ;rw[za (by omega)]
 simp only[e];exact⟨λi=>(by cases i),λ_=>True,λi=>(by cases i),λr _=>⟨λ_=>o w 0,λi=>(by cases i)⟩⟩;have e:decide (((l.length:Nat):Int)<4)=Tb:=by rw[decide_eq_false_iff_not];omega
 simp only[e];have f:iQ l=iu 0 (l.take 4):=by unfold iQ;rw[zb (by omega)]
 have t:(l.take 4).length=4:=by rw[zcr];omega
 refine⟨λ_=>⟨by omega,by omega,by omega⟩,λr=>r=Ta->iQ l=Td,λ_=>?_,λr x=>⟨λi=>o (x rfl i) 0,λi=>⟨⟨by omega,by omega,by omega⟩,?_⟩⟩⟩;refine Kr (l:=l.take 4) (by omega) (λs p=>?_) (λs b p=>?_);obtain⟨c,k,h⟩:=List.any_eq_true.1 p;rw[f];refine zN 0 k (Lx ?_);simp at h;rcases h with rfl|rfl|rfl;left;decide;left;decide;right;left;rfl;rw[f];have:∃c∈l.take 4,128<=c.toNat:=by refine zc0 λq=>s λc k=>?_;refine zc0 λA=>q ⟨c,k,by omega⟩
 obtain⟨c,k,h⟩:=this;exact zN 0 k (Lx (.inr (.inr h)));refine Ns u t (λn m=>?_) (λm=>o (f.trans m) _);have q:=tD (f.trans m);have:=h1 n (f.trans m);rw[mY (by omega) (by omega)];exact this
end
end Go.X
end
section
namespace Go.X
open Go Go.Lib
section
variable {a:Nat}
abbrev Tk:=Int×Int×Int
def nK:Bs:=[32,9,10,13]
def kU:Bs:=[123,125,91,93,44,58]
def iC:Bs:=[45,43,46,48,49,50,51,52,53,54,55,56,57,101,69]
def rA:Bs:=[45,48,49,50,51,52,53,54,55,56,57]
def Q0:Bs:=[97,98,99,100,101,102,103,104,105,106,107,108,109,110,111,112,113,114,115,116,117,118,119,120,121,122]
def dR(p:UInt8->Bool)(l:Bs):Nat:=(l.takeWhile p).length
theorem ED(p:UInt8->Bool)(l:Bs):dR p l<=l.length:=(List.takeWhile_sublist p).length_le
theorem HX{p:UInt8->Bool}{c:UInt8}{l:Bs}(h:p c=Ta):0<dR p (c::l):=by unfold dR;simp_all
theorem Ck{p:UInt8->Bool}:∀{l:Bs} {k:Nat} (b:k<=l.length),(∀j (f:j<k),p (l[j]'(by omega))=Ta)->(∀h:k<l.length,p l[k]=Tb)->dR p l=k
 |[],k,b,h1,h2=>by simp at b;subst b;rfl
 |c::l,0,b,h1,h2=>by have:=h2 (by simp);unfold dR;simp_all
 |c::l,k+1,b,h1,h2=>by have e:=h1 0 (by omega);simp only[List.getElem_cons_zero]at e;unfold dR;rw[List.takeWhile_cons,zb e,zbi];have:=Ck (p:=p) (l:=l) (k:=k) (by grind) (λj f=>by grind) (λi=>by simp_all);unfold dR at this;omega
def jG(s:Bs):Int:=if s=[116,114,117,101]then 10 else if s=[102,97,108,115,101]then 11 else if s=[110,117,108,108]then 12 else 0
def Jj(l:Bs)(c:UInt8):Bool:=decide (c∈l)
def gP(s:Bs)(a:Nat):Int×Nat×Int:=match s.drop a with
 |[]=>(0,a,2)
 |c::t=>
  if c∈kU then(2+indexByte kU c,a+1,0)
  else if c∈nK then(1,a+dR (Jj nK) (c::t),0)
  else if c=34 then(if(wm s a).2.2=0 then(8,(wm s a).2.1,0)else(0,(wm s a).2.1,(wm s a).2.2))
  else if c∈rA then(if(zw ((c::t).take (dR (Jj iC) (c::t)))).2=0 then(9,a+dR (Jj iC) (c::t),0)else(0,a,(zw ((c::t).take (dR (Jj iC) (c::t)))).2))
  else if jG ((c::t).take (dR (Jj Q0) (c::t)))=0 then(0,a,2)else(jG ((c::t).take (dR (Jj Q0) (c::t))),a+dR (Jj Q0) (c::t),0)
theorem UB{t:Bs}(h:(wm t a).2.2=0):a<(wm t a).2.1/\(wm t a).2.1<=t.length:=by
 unfold wm at h ⊢;split at h;rename_i c;rw[zb c];have:=(qbi _ (t.drop (a+1)) rfl).1;have b:a<t.length:=by rcases zbf a t.length with h1|h1;exact h1;simp_all
 grind;cases h
theorem Hm{s:Bs}(q:a<s.length)(h:(gP s a).2.2=0):a<(gP s a).2.1/\(gP s a).2.1<=s.length:=by
 have k:s.drop a=s[a]::s.drop (a+1):=za9 q;have n:(s[a]::s.drop (a+1)).length=s.length-a:=by rw[<-k,zb2]
 have o:=λp=>ED p (s[a]::s.drop (a+1));rw[n]at o;unfold gP at h ⊢;rw[k]at h ⊢;dsimp only at h ⊢;split;grind;rename_i h1;rw[za h1]at h;split;rename_i m;have:=HX (p:=Jj nK) (l:=s.drop (a+1)) (c:=s[a]) (by unfold Jj;grind);grind;rename_i m;rw[za m]at h;split;rename_i i;rw[zb i]at h;split at h;simp_all[UB];simp_all;rename_i i;rw[za i]at h;split;rename_i b;rw[zb b]at h;split at h;rename_i f;rw[zb f];have r:s[a]∈iC:=by
  have:∀c∈rA,c∈iC:=by decide
  exact this _ b
 have:=HX (p:=Jj iC) (l:=s.drop (a+1)) (c:=s[a]) (by unfold Jj;simp_all);grind;simp_all;rename_i b;rw[za b]at h;split at h;cases h;rename_i f;rw[za f];have:0<dR (Jj Q0) (s[a]::s.drop (a+1)):=by refine Nat.pos_of_ne_zero λe=>f ?_;rw[e];rfl
 grind
def jB:Nat->Bs->Nat->List Tk->List Tk×Nat×Int
 |0,_,a,o=>(o,a,0)
 |f+1,s,a,o=>if a<s.length then(if(gP s a).2.2=0 then jB f s (gP s a).2.1 (o++[((gP s a).1,((a:Int),((gP s a).2.1:Int)))])else([],(gP s a).2.1,(gP s a).2.2))else(o,a,0)
def Zg(s:Bs):List Tk×Nat×Int:=if 65536<s.length then([],0,3)else jB s.length s 0 []
end
section
variable {s:Bs}
abbrev Sp:=Int×Int
abbrev Nd:=Int×Sp×Sp×List Int×List Sp
structure PSt where
 rest:List Tk
 last:Int
 nodes:List Nd
abbrev PR(α:Type):=α ⊕ (Int×Int)
def PSt.kind(st:PSt):Int:=match st.rest with | []=>0|t::_=>t.1
def PSt.here(st:PSt)(n:Nat):Int:=match st.rest with | []=>(n:Int)|t::_=>t.2.1
def PSt.skip(st:PSt):PSt:=match st.rest with | []=>st|t::r=>⟨r,t.2.2,st.nodes⟩
def Qp(k:Int):Int:=if k=12 then 1 else if k=10\/k=11 then 2 else if k=9 then 3 else if k=8 then 4 else if k=4 then 5 else if k=2 then 6 else 0
def p8(k:Int)(p:Sp)(x:Nd):Nd:=(x.1,x.2.1,x.2.2.1,x.2.2.2.1++[k],x.2.2.2.2++[p])
def rM(t:Int)(x:Nd):Nd:=(x.1,(x.2.1.1,t),x.2.2)
def PSt.addKid(st:PSt)(n:Nat)(k:Int)(p:Sp):PSt:=⟨st.rest,st.last,st.nodes.modify n (p8 k p)⟩
def PSt.setTo(st:PSt)(n:Nat):PSt:=⟨st.rest,st.last,st.nodes.modify n (rM st.last)⟩
def PSt.err{α:Type}(st:PSt)(s:Bs)(e:Int):PR α:=.inr (st.here s.length,e)
abbrev i0:=List Bs->PSt->PR (List Bs×PSt)
def jF(s:Bs)(n:Nat)(closing:Int)(kid:i0):Nat->List Bs->PSt->PR PSt
 |0,_,st=>st.err s 2
 |f+1,had,st=>match kid had st with
  |.inr e=>.inr e
  |.inl (had',st')=>
   if st'.kind=closing then .inl (st'.addKid n st.nodes.length (st.last,st'.here s.length)).skip
   else if st'.kind=6 then jF s n closing kid f had' (st'.addKid n st.nodes.length (st.last,st'.here s.length)).skip
   else st'.err s 2
def kH(s:Bs)(n:Nat)(closing:Int)(kid:i0)(st:PSt):PR PSt:=
 if st.kind=closing then .inl st.skip else jF s n closing kid (st.rest.length+1) [] st
abbrev iZ:=Sp->PSt->PR PSt
def lO(val:iZ):i0:=λb st=>match val (0,0) st with
 |.inl st'=>.inl (b,st')
 |.inr e=>.inr e
def ig(s:Bs)(p:Sp):Bs:=(s.drop p.1.toNat).take (p.2.toNat-p.1.toNat)
def jX(s:Bs)(val:iZ):i0:=λb st=>match st.rest with
 |[]=>st.err s 2
 |t::_=>
  if t.1=8 then
   if(gX (ig s t.2)).1∈b then st.err s 7
   else if st.skip.kind=7 then match val t.2 st.skip.skip with
    |.inl st'=>.inl (b++[(gX (ig s t.2)).1],st')
    |.inr e=>.inr e
   else st.skip.err s 2
  else st.err s 2
def PSt.open(st:PSt)(key:Sp):PSt:=match st.rest with
 |[]=>st
 |t::r=>⟨r,t.2.2,st.nodes++[(Qp t.1,t.2,key,[],[])]⟩
def lK(s:Bs)(val:iZ)(n:Nat)(k:Int)(st:PSt):PR PSt:=
 if k=5 then kH s n 5 (lO val) st else if k=6 then kH s n 3 (jX s val) st else .inl st
def gT(s:Bs):Nat->iZ
 |0,key,st=>if Qp st.kind=0 then st.err s 2 else st.err s 5
 |d+1,key,st=>if Qp st.kind=0 then st.err s 2 else if st.nodes.length=4096 then st.err s 6 else
  match lK s (gT s d) st.nodes.length (Qp st.kind) (st.open key)with
  |.inl st'=>.inl (st'.setTo st.nodes.length)
  |.inr e=>.inr e
def wn(l:List Tk):List Tk:=l.filter λt=>decide (t.1≠1)
def fR(s:Bs):(Bs×List Nd)×Int×Int:=
 if(Zg s).2.2=0 then
  match gT s 32 (0,0) ⟨wn (Zg s).1,0,[]⟩with
  |.inl st=>if st.rest=[]then((s,st.nodes),(s.length:Int),0)else(([],[]),st.here s.length,2)
  |.inr e=>(([],[]),e.1,e.2)
 else(([],[]),((Zg s).2.1:Int),(Zg s).2.2)
def lU(s:Bs)(t:Tk):Prop:=0<=t.2.1/\t.2.1<t.2.2/\t.2.2<=(s.length:Int)/\(2<=t.1/\t.1<=7->t.2.2=t.2.1+1)
theorem PS{a:Nat}(c:a<s.length)(h:2<=(gP s a).1/\(gP s a).1<=7):(gP s a).2.1=a+1:=by
 have b:s.drop a=s[a]::s.drop (a+1):=za9 c;unfold gP at h ⊢;rw[b]at h ⊢;dsimp only at h ⊢;have e:∀l:Bs,jG l=0\/jG l=10\/jG l=11\/jG l=12:=λl=>by unfold jG;omega
 grind
theorem Ey:∀(f:Nat) (s:Bs) (a:Nat) (o:List Tk),(∀t∈o,lU s t)->∀t∈(jB f s a o).1,lU s t
 |0,s,a,o,h=>h
 |f+1,s,a,o,h=>by rw[jB];split;rename_i c;split;rename_i h0;refine Ey f s _ _ λt b=>?_;rcases zaz.1 b with b|b;exact h t b;rw[zbm.1 b];have e:=Hm c h0;refine⟨by simp,by grind,by grind,λi=>?_⟩;simp_all[PS];simp;exact h
theorem Uf(s:Bs):∀t∈(Zg s).1,lU s t:=by unfold Zg;grind [Ey]
theorem PO{l:List Tk}(h:∀t∈l,lU s t):∀t∈wn l,lU s t:=λt b=>h t (zde.1 b).1
end
section
variable {k:Int} {s:Bs}
def iO(x:Nd):Nat:=x.2.2.2.1.length+x.2.2.2.2.length
def PSt.T(st:PSt):Nat:=2*st.rest.length+(st.nodes.map iO).sum
theorem xH{f:Nd->Nd}{k:Nat}(h:∀x,iO (f x)<=iO x+k):∀(l:List Nd) (n:Nat),((l.modify n f).map iO).sum<=(l.map iO).sum+k
 |[],n=>by simp
 |x::l,0=>by grind
 |x::l,n+1=>by have:=xH h l n;grind
theorem Cv{st:PSt}{x:Nd}(h:x∈st.nodes):iO x<=st.T:=by
 have:∀(l:List Nd),x∈l->iO x<=(l.map iO).sum:=by
  intro l;induction l with
  |nil=>simp
  |cons y l b=>grind
 have:=this _ h;unfold PSt.T;omega
theorem qf1(st:PSt)(n:Nat)(k:Int)(p:Sp):(st.addKid n k p).T<=st.T+2:=by have:=xH (f:=p8 k p) (k:=2) (λx=>by unfold iO p8;simp;omega) st.nodes n;unfold PSt.T PSt.addKid;grind
theorem Ob(st:PSt)(n:Nat):(st.setTo n).T<=st.T:=by have:=xH (f:=rM st.last) (k:=0) (λx=>by unfold iO rM;simp) st.nodes n;unfold PSt.T PSt.setTo;grind
theorem XE{st:PSt}(h:st.rest≠[]):st.skip.T+2=st.T:=by unfold PSt.skip PSt.T;grind
theorem UN{st:PSt}{key:Sp}(h:st.rest≠[]):(st.open key).T+2=st.T:=by
 unfold PSt.open PSt.T;cases hr:st.rest with
 |nil=>grind
 |cons t r=>simp only[zbi,zb9,List.sum_append,zbh,List.map_nil,List.sum_cons,List.sum_nil,iO,zef];omega
theorem Zo(st:PSt):st.skip.nodes=st.nodes:=by unfold PSt.skip;split <;> rfl
theorem PSt.ne_kind{st:PSt}(h:st.kind=k)(b:k≠0):st.rest≠[]:=λe=>by unfold PSt.kind at h;simp_all
theorem CX{st:PSt}(h:¬Qp st.kind=0):st.rest≠[]:=λe=>by refine h ?_;unfold PSt.kind;rw[e];rfl
theorem EJ(st:PSt)(n:Nat)(k:Int)(p:Sp):(st.addKid n k p).nodes.length=st.nodes.length:=by unfold PSt.addKid;simp
theorem Cs(st:PSt)(n:Nat):(st.setTo n).nodes.length=st.nodes.length:=by unfold PSt.setTo;simp
theorem Aa{st:PSt}{key:Sp}(h:st.rest≠[]):(st.open key).nodes.length=st.nodes.length+1:=by unfold PSt.open;grind
structure Okk (st st':PSt) (k:Nat):Prop where
 t:st'.T+k<=st.T
 r:2*st'.rest.length+k<=2*st.rest.length
 w:∀t∈st'.rest,t∈st.rest
 n:st.nodes.length<=st'.nodes.length
 m:st.nodes.length<=4096->st'.nodes.length<=4096
theorem Okk.trans{a b c:PSt}{j k:Nat}(x:Okk a b j)(y:Okk b c k):Okk a c (j+k):=⟨by have:=x.t;have:=y.t;omega,by have:=x.r;have:=y.r;omega,λt h=>x.w t (y.w t h),by have:=x.n;have:=y.n;omega,λh=>y.m (x.m h)⟩
theorem Okk.le{a b:PSt}{j k:Nat}(x:Okk a b j)(h:k<=j):Okk a b k:=⟨by have:=x.t;omega,by have:=x.r;omega,x.w,x.n,x.m⟩
theorem Okk.refl(a:PSt):Okk a a 0:=⟨zaf _,zaf _,λt h=>h,zaf _,id⟩
theorem qof{st:PSt}(h:st.rest≠[]):st.skip.rest.length+1=st.rest.length:=by unfold PSt.skip;grind
theorem Tw{st:PSt}{key:Sp}(h:st.rest≠[]):(st.open key).rest.length+1=st.rest.length:=by unfold PSt.open;grind
theorem TV(st:PSt):∀t∈st.skip.rest,t∈st.rest:=by unfold PSt.skip;grind
theorem qoi(st:PSt)(key:Sp):∀t∈(st.open key).rest,t∈st.rest:=by unfold PSt.open;grind
theorem m0{st:PSt}(h:st.rest≠[]):Okk st st.skip 2:=⟨by have:=XE h;omega,by have:=qof h;omega,TV st,by rw[Zo];omega,by rw[Zo];exact id⟩
def pd(kid:i0):Prop:=∀c st b st',kid c st=.inl (b,st')->Okk st st' 2
theorem Cm{kid:i0}(l:pd kid){i f:List Bs}{st st':PSt}{n:Nat}{p:Sp}(e:kid i st=.inl (f,st'))(h:st'.rest≠[]):Okk st (st'.addKid n k p).skip 2:=by have a:=l _ _ _ _ e;have o:(st'.addKid n k p).rest≠[]:=h;have b:=m0 o;have c:=qf1 st' n k p;have d:=EJ st' n k p;have q:(st'.addKid n k p).rest=st'.rest:=rfl;exact⟨by have:=a.t;have:=b.t;omega,by have:=a.r;have:=b.r;grind,λt h=>a.w t (b.w t h),by have:=a.n;have:=b.n;omega,λh=>b.m (by have:=a.m h;omega)⟩
theorem G1{s:Bs}{n:Nat}{closing:Int}(o:closing≠0){kid:i0}(i:pd kid):∀(f:Nat) (b:List Bs) (st st':PSt),jF s n closing kid f b st=.inl st'->Okk st st' 2
 |0,b,st,st',h=>by unfold jF PSt.err at h;cases h
 |f+1,b,st,st',h=>by rw[jF]at h;split at h;cases h;rename_i c m e;split at h;rename_i l;cases h;exact Cm i e (PSt.ne_kind l o);split at h;rename_i q;have a:=Cm i e (n:=n) (k:=(st.nodes.length:Int)) (p:=(st.last,m.here s.length)) (PSt.ne_kind q (by omega));exact(a.trans (G1 o i f c _ st' h)).le (by omega);unfold PSt.err at h;cases h
theorem FG{n:Nat}{closing:Int}(b:closing≠0){kid:i0}(c:pd kid){st st':PSt}(h:kH s n closing kid st=.inl st'):Okk st st' 0:=by unfold kH at h;split at h;rename_i e;cases h;exact(m0 (PSt.ne_kind e b)).le (by omega);exact(G1 b c _ _ _ _ h).le (by omega)
def Cj(val:iZ):Prop:=∀key st st',val key st=.inl st'->Okk st st' 2
theorem F8{val:iZ}(h:Cj val):pd (lO val):=by intro i st b st' e;unfold lO at e;split at e;rename_i f c;cases e;exact h _ _ _ c;cases e
theorem Gv{val:iZ}(h:Cj val):pd (jX s val):=by intro m st c st' e;unfold jX at e;split at e;unfold PSt.err at e;cases e;rename_i t r i;split at e;split at e;unfold PSt.err at e;cases e;split at e;rename_i k;split at e;rename_i l f;cases e;have a:=m0 (st:=st) (by rw[i];simp);have b:=m0 (PSt.ne_kind k (by omega));exact((a.trans b).trans (h _ _ _ f)).le (by omega);cases e;unfold PSt.err at e;cases e;unfold PSt.err at e;cases e
theorem Gk{st:PSt}{key:Sp}(h:st.rest≠[])(c:¬st.nodes.length=4096):Okk st (st.open key) 2:=⟨by simp_all[UN],by have:=Tw (key:=key) h;omega,qoi st key,by rw[Aa h];omega,λb=>by rw[Aa h];omega⟩
theorem qF(s:Bs):∀d:Nat,Cj (gT s d)
 |0=>by intro key st st' e;unfold gT at e;split at e <;> (unfold PSt.err at e;cases e)
 |d+1=>by
  intro key st st' e;unfold gT at e;split at e;unfold PSt.err at e;cases e;rename_i k;split at e;unfold PSt.err at e;cases e;rename_i l;split at e;rename_i f i;cases e;have a:=Gk (key:=key) (CX k) l;have b:Okk (st.open key) f 0:=by unfold lK at i;split at i;exact FG (by omega) (F8 (qF s d)) i;split at i;exact FG (by omega) (Gv (qF s d)) i;cases i;exact Okk.refl _
  have c:Okk f (f.setTo st.nodes.length) 0:=⟨Ob _ _,zaf _,λt h=>h,by rw[Cs];omega,by rw[Cs];exact id⟩;exact(a.trans b).trans c;cases e
def uX(s:Bs)(b:List Bs)(st:PSt):PR (Bs×Sp×PSt):=match st.rest with
 |[]=>st.err s 2
 |t::_=>
  if t.1=8 then
   if(gX (ig s t.2)).1∈b then st.err s 7
   else if st.skip.kind=7 then .inl ((gX (ig s t.2)).1,t.2,st.skip.skip)
   else st.skip.err s 2
  else st.err s 2
theorem qf2(s:Bs)(val:iZ)(b:List Bs)(st:PSt):jX s val b st=match uX s b st with
  |.inl x=>(match val x.2.1 x.2.2 with
   |.inl st'=>.inl (b++[x.1],st')
   |.inr e=>.inr e)
  |.inr e=>.inr e:=by
 unfold jX uX PSt.err;grind
theorem UJ{c:List Bs}{st:PSt}{x:Bs×Sp×PSt}(h:uX s c st=.inl x):Okk st x.2.2 4/\x.2.2.nodes=st.nodes:=by unfold uX PSt.err at h;split at h;cases h;rename_i t r e;split at h;split at h;cases h;split at h;rename_i f;cases h;have a:=m0 (st:=st) (by rw[e];simp);have b:=m0 (PSt.ne_kind f (by omega));exact⟨a.trans b,by simp[Zo]⟩;cases h;cases h
end
section
variable {lvs:List Nat} {l n lk:Nat} {s:Bs} {closing:Int}
structure GoodN (lvs:List Nat) (nodes:List Nd):Prop where
 len:lvs.length=nodes.length
 lv:∀(k l:Nat),lvs[k]?=Tc l->1<=l/\l<=32
 kid:∀(k l:Nat) (x:Nd),nodes[k]?=Tc x->lvs[k]?=Tc l->∀c∈x.2.2.2.1,∃j:Nat,c=(j:Int)/\k<j/\lvs[j]?=Tc (l+1)
theorem GoodN.nil:GoodN [] []:=⟨rfl,λk l h=>(by cases h),λk l x h=>(by cases h)⟩
theorem GoodN.push{nodes:List Nd}(G:GoodN lvs nodes)(h1:1<=l)(o:l<=32){x:Nd}(p:x.2.2.2.1=[]):GoodN (lvs++[l]) (nodes++[x]):=by refine⟨by simp[G.len],λk m h=>?_,λk m y b e c i=>?_⟩;rw[List.getElem?_append]at h;split at h;exact G.lv k m h;grind;rw[List.getElem?_append]at b e;have n:=G.len;by_cases f:k<nodes.length;rw[zb f]at b;rw[zb (by omega)]at e;obtain⟨j,q,s,r⟩:=G.kid k m y b e c i;grind;grind
theorem GoodN.mod{nodes:List Nd}(G:GoodN lvs nodes){f:Nd->Nd}(h:∀x l c,lvs[n]?=Tc l->c∈(f x).2.2.2.1->c∈x.2.2.2.1\/∃j:Nat,c=(j:Int)/\n<j/\lvs[j]?=Tc (l+1)):GoodN lvs (nodes.modify n f):=by
 refine⟨by rw[List.length_modify];exact G.len,G.lv,λk l x b i c m=>?_⟩;rw[zck]at b;cases hy:nodes[k]? with
 |none=>simp_all
 |some y=>
  rw[hy]at b;by_cases e:n=k;subst e;have b:f y=x:=by simpa using b
  grind [kid];grind [kid]
def tB(kid:i0)(lk:Nat):Prop:=∀c st b st' lvs,kid c st=.inl (b,st')->GoodN lvs st.nodes->∃new,GoodN (lvs++lk::new) st'.nodes
theorem Ht{s:Bs}{n l:Nat}{closing:Int}{kid:i0}(r:tB kid (l+1)):∀(f:Nat) (b:List Bs) (st st':PSt) (lvs:List Nat),jF s n closing kid f b st=.inl st'->GoodN lvs st.nodes->lvs[n]?=Tc l->∃new,GoodN (lvs++new) st'.nodes
 |0,b,st,st',lvs,h,G,hn=>by unfold jF PSt.err at h;cases h
 |f+1,b,st,st',lvs,h,G,hn=>by
  rw[jF]at h;split at h;cases h;rename_i k i e;obtain⟨new,A⟩:=r _ _ _ _ lvs e G;have q:=(za0.1 hn).1;have o:=G.len;have p:(lvs++(l+1)::new)[n]?=Tc l:=by rw[zc1 q];exact hn
  have w:(lvs++(l+1)::new)[st.nodes.length]?=Tc (l+1):=by rw[zcm (by omega),<-o,Nat.sub_self];rfl
  have z:GoodN (lvs++(l+1)::new) (i.addKid n st.nodes.length (st.last,i.here s.length)).skip.nodes:=by rw[Zo];refine A.mod λx m c u y=>?_;unfold p8 at y;rw[p]at u;cases u;rcases zaz.1 y with h|h;exact .inl h;grind
  split at h;grind;split at h;obtain⟨t,B⟩:=Ht r f k _ st' _ h z p;grind;unfold PSt.err at h;cases h
theorem Kj{kid:i0}(c:tB kid (l+1)){st st':PSt}(h:kH s n closing kid st=.inl st')(G:GoodN lvs st.nodes)(b:lvs[n]?=Tc l):∃new,GoodN (lvs++new) st'.nodes:=by unfold kH at h;split at h;cases h;exact⟨[],by rw[zbj,Zo];exact G⟩;grind [Ht]
def AX(val:iZ)(lk:Nat):Prop:=∀key st st' lvs,val key st=.inl st'->GoodN lvs st.nodes->∃new,GoodN (lvs++lk::new) st'.nodes
theorem Tj{val:iZ}(h:AX val lk):tB (lO val) lk:=by intro i st b st' lvs e G;unfold lO at e;split at e;rename_i f c;cases e;exact h _ _ _ _ c G;cases e
theorem P7{val:iZ}(h:AX val lk):tB (jX s val) lk:=by intro k st b st' lvs e G;rw[qf2]at e;split at e;rename_i x l;have i:=(UJ l).2;split at e;rename_i f c;cases e;exact h _ _ _ _ c (by grind);cases e;cases e
theorem Se{st:PSt}{key:Sp}(h:st.rest≠[]):∃x:Nd,x.2.2.2.1=[]/\(st.open key).nodes=st.nodes++[x]:=by
 unfold PSt.open;cases hr:st.rest with
 |nil=>grind
 |cons t r=>simp
theorem Lo(s:Bs):∀d:Nat,d<=32->AX (gT s d) (33-d)
 |0,_=>by intro key st st' lvs e G;unfold gT at e;split at e <;> (unfold PSt.err at e;cases e)
 |d+1,hd=>by
  intro key st st' lvs e G;have i:=Lo s d (by omega);rw[show 33-d=33-(d+1)+1 by omega]at i;unfold gT at e;split at e;unfold PSt.err at e;cases e;rename_i p;split at e;unfold PSt.err at e;cases e;split at e;rename_i h b;cases e;obtain⟨x,k,f⟩:=Se (key:=key) (CX p);have o:GoodN (lvs++[33-(d+1)]) (st.open key).nodes:=by rw[f];exact G.push (by omega) (by omega) k
  have n:(lvs++[33-(d+1)])[st.nodes.length]?=Tc (33-(d+1)):=by rw[<-G.len,zcm (zaf _),Nat.sub_self];rfl
  obtain⟨new,m⟩:∃new,GoodN (lvs++[33-(d+1)]++new) h.nodes:=by unfold lK at b;split at b;exact Kj (Tj i) b o n;split at b;exact Kj (P7 i) b o n;cases b;exact⟨[],by simp_all⟩
  refine⟨new,?_⟩;rw[zcb]at m;exact m.mod λx l c r q=>.inl q;cases e
def ug(kid:i0):Prop:=∀b st x,kid b st=.inr x->x.2≠0
def AI(val:iZ):Prop:=∀key st x,val key st=.inr x->x.2≠0
theorem l8{α:Type}{st:PSt}{e:Int}(b:e≠0){x:Int×Int}(h:(st.err s e:PR α)=.inr x):x.2≠0:=by unfold PSt.err at h;grind
theorem Ed{s:Bs}{n:Nat}{closing:Int}{kid:i0}(c:ug kid):∀(f:Nat) (b:List Bs) (st:PSt) (x:Int×Int),jF s n closing kid f b st=.inr x->x.2≠0
 |0,b,st,x,h=>by unfold jF at h;exact l8 (by omega) h
 |f+1,b,st,x,h=>by rw[jF]at h;split at h;rename_i y e;cases h;exact c _ _ _ e;split at h;cases h;split at h;exact Ed c f _ _ x h;exact l8 (by omega) h
theorem HA{kid:i0}(b:ug kid){st:PSt}{x:Int×Int}(h:kH s n closing kid st=.inr x):x.2≠0:=by unfold kH at h;grind [Ed]
theorem OU{val:iZ}(h:AI val):ug (lO val):=by intro c st x e;unfold lO at e;split at e;cases e;rename_i y b;cases e;exact h _ _ _ b
theorem TP{val:iZ}(h:AI val):ug (jX s val):=by intro c st x e;unfold jX at e;split at e;exact l8 (by omega) e;split at e;split at e;exact l8 (by omega) e;split at e;split at e;cases e;rename_i y b;cases e;exact h _ _ _ b;exact l8 (by omega) e;exact l8 (by omega) e
theorem Db(s:Bs):∀d:Nat,AI (gT s d)
 |0=>by intro key st x e;unfold gT at e;grind [l8]
 |d+1=>by intro key st x e;unfold gT at e;split at e;exact l8 (by omega) e;split at e;exact l8 (by omega) e;split at e;cases e;rename_i y b;cases e;unfold lK at b;split at b;exact HA (OU (Db s d)) b;split at b;exact HA (TP (Db s d)) b;cases b
theorem qb1(h:(fR s).2.2=0):∃lvs,GoodN (1::lvs) (fR s).1.2/\(fR s).1.1=s/\(fR s).2.1=(s.length:Int)/\(fR s).1.2.length<=4096/\∀x∈(fR s).1.2,iO x<=2*(Zg s).1.length:=by
 have b:∀{x:Int×Int},gT s 32 (0,0) ⟨wn (Zg s).1,0,[]⟩=.inr x->x.2≠0:=λh=>Db s 32 _ _ _ h;unfold fR at h ⊢;split at h;rename_i h0;rw[zb h0];split at h;rename_i st e;split at h;rename_i c;rw[zb c];have a:=qF s 32 _ _ _ e;obtain⟨new,G⟩:=Lo s 32 (by omega) _ _ _ [] e GoodN.nil;refine⟨new,G,rfl,rfl,a.m (by simp),λx f=>?_⟩;have h1:=Cv f;have i:=a.t;have l:(⟨wn (Zg s).1,0,[]⟩:PSt).T=2*(wn (Zg s).1).length:=by unfold PSt.T;simp
 have k:(wn (Zg s).1).length<=(Zg s).1.length:=List.length_filter_le _ _;omega;simp at h;simp_all;simp_all
end
section
def xo(t:Bs)(p:Sp):Bs:=if p.1<0\/p.2<p.1\/(t.length:Int)<p.2 then []else ig t p
theorem Lw(t:Bs)(p:Sp):(xo t p).length<=t.length:=by unfold xo ig;grind
def kZ(kind:Int)(t:Bs):Bs:=if kind=2 then t else if kind=3 then j0 (zw t).1 else if kind=4 then(gX t).1 else []
def pZ(t:Bs)(x:Nd):Bs:=(gX (xo t x.2.2.1)).1
def sB(t:Bs)(nodes:List Nd)(c:Int):Bs:=match nodes[c.toNat]? with
 |some x=>pZ t x
 |none=>[]
def mW(t:Bs)(nodes:List Nd):Nat->Nat->Tr
 |0,_=>.mk 0 (bl []) [] []
 |f+1,k=>match nodes[k]? with
  |none=>.mk 0 (bl []) [] []
  |some x=>.mk x.1 (bl (kZ x.1 (xo t x.2.1))) (if x.1=6 then x.2.2.2.1.map λc=>bl (sB t nodes c)else []) (x.2.2.2.1.map λc=>mW t nodes f c.toNat)
def W9(s:Bs):Tr×Int×Int:=if(fR s).2.2=0 then(mW s (fR s).1.2 33 0,(s.length:Int),0)else(.mk 0 (bl []) [] [],(fR s).2.1,(fR s).2.2)
end
section
theorem sZ{k:Nat}(h:k<10):(zcj (48+k)).toNat=48+k:=by simp;omega
theorem Jc:∀(n u:Nat),u<=n->(decDigits u).all yq=Ta/\decDigits u≠[]/\zz (decDigits u)=u/\(1<=u->(decDigits u).head?≠Tc 48)
 |0,u,h=>by
  have:u=0:=by omega
  subst this;rw[decDigits,dif_pos (by omega)];exact⟨by decide,by simp,by decide,λh=>by omega⟩
 |n+1,u,h=>by by_cases b:u<10;rw[decDigits,dif_pos b];refine⟨?_,by simp,?_,λh1=>?_⟩;simp only[zcx,List.all_nil,zed,yq,sZ b];simp;omega;simp only[zz,List.foldl_cons,List.foldl_nil,sZ b];omega;intro e;simp only[List.head?_cons,zab]at e;have:=congrArg UInt8.toNat e;grind [sZ];rw[decDigits,dif_neg b];obtain⟨h1,i,k,l⟩:=Jc n (u / 10) (by omega);have f:u % 10<10:=Nat.mod_lt _ (by omega);refine⟨?_,by simp,?_,λ_=>?_⟩;rw[zei,h1];simp only[zcx,List.all_nil,zed,zcq,yq,sZ f];simp;omega;rw[IE,k,sZ f];omega;obtain⟨c,t,e⟩:=zb3 i;grind
theorem H6:∀(k u:Nat),u<10 ^ (k+1)->(decDigits u).length<=k+1
 |0,u,h=>by rw[decDigits,dif_pos (by omega)];simp
 |k+1,u,h=>by by_cases b:u<10;rw[decDigits,dif_pos b];simp;have:=H6 k (u / 10) (by omega);rw[decDigits,dif_neg b,zat];grind
theorem zta{u:Nat}(h:u<=1000000):(decDigits u).length<=9:=H6 8 u (by omega)
theorem Mm(u:Nat):itoa (u:Int)=decDigits u:=by unfold itoa;simp
end
section
def mA(x:Tr):Bool:=decide (x.kind≠7)&&zh x
mutual
theorem Jv{p q:Tr->Bool}(h:∀x,p x=Ta->q x=Ta):∀v:Tr,j7 p v=Ta->j7 q v=Ta
 |.mk k s ks xs,hv=>by rw[j7,zan]at hv ⊢;exact⟨h _ hv.1,KX h xs hv.2⟩
theorem KX{p q:Tr->Bool}(h:∀x,p x=Ta->q x=Ta):∀l:List Tr,lE p l=Ta->lE q l=Ta
 |[],_=>rfl
 |x::l,hl=>by rw[lE,zan]at hl ⊢;exact⟨Jv h x hl.1,KX h l hl.2⟩
end
end
section
def mC(b:Bool)(nd lv:Nat):Bs:=if b then 10::zd6 (nd*lv) 32 else []
def Bl(b:Bool)(nd lv:Nat):List Bs->Bs
 |[]=>[]
 |p::ps=>mC b nd lv++p++ps.flatMap λq=>44::(mC b nd lv++q)
def nU(b:Bool)(nd lv:Nat)(ps:List Bs):Bs:=Bl b nd (lv+1) ps++(if ps=[]then []else mC b nd lv)
def mr(b:Bool)(k:Bt)(p:Bs):Bs:=(Co (lb k)).1++58::((if b then [32]else [])++p)
mutual
def iT(b:Bool)(nd:Nat):Tr->Nat->Bs
 |.mk k s ks xs,lv=>if k=1 then [110,117,108,108]else if k=4 then(Co (lb s)).1 else if k=5 then 91::nU b nd lv (rE b nd xs (lv+1))++[93]
  else if k=6 then 123::nU b nd lv (List.zipWith (mr b) ks (rE b nd xs (lv+1)))++[125]else lb s
def rE(b:Bool)(nd:Nat):List Tr->Nat->List Bs
 |[],_=>[]
 |x::l,lv=>iT b nd x lv::rE b nd l lv
end
theorem Hi(b:Bool)(nd:Nat)(lv:Nat):∀l:List Tr,rE b nd l lv=l.map λx=>iT b nd x lv
 |[]=>rfl
 |x::l=>by rw[rE,Hi b nd lv l];rfl
theorem KV(b:Bool)(nd:Nat)(v:Tr)(lv:Nat):iT b nd v lv=if v.kind=1 then [110,117,108,108]else if v.kind=4 then(Co (lb v.text)).1 else if v.kind=5 then 91::nU b nd lv (v.items.map λx=>iT b nd x (lv+1))++[93]
  else if v.kind=6 then 123::nU b nd lv (List.zipWith (mr b) v.keys (v.items.map λx=>iT b nd x (lv+1)))++[125]else lb v.text:=by
 cases v with
 |mk k s ks xs=>rw[iT,Hi]
theorem DX:∀{l:List Tr} {y:Tr},y∈l->bK y<=Jp l
 |x::l,y,h=>by rw[Jp];rcases zah.1 h with rfl|h;omega;have:=DX h;omega
theorem xm{v x:Tr}(h:x∈v.items):bK x<bK v:=by have:=DX h;rw[W8 v];omega
end
end Go.X
end
section
namespace Go.X
open Go Go.X Go.Proofs Go.RowKit
section
variable {gl:Fr} {l:Bs} {n:Nat}
theorem UL{s p:Bs}{R:Bool->Prop}(h:R (p.isPrefixOf s)):PC Tp gl 76 [Arg.mk .str (bl s),Arg.mk .str (bl p)] [.bool] R:= PC.of_scal rfl (λ_=>v6 _) (r:=p.isPrefixOf s) h λw i=>by have:=PT (bl s) (bl p) w;have c:(bl s).data.toList=s:=yo s;have f:(bl p).data.toList=p:=yo p;rw[c,f]at this;exact this.mono λe w' ⟨h1,b⟩=>⟨h1,b ▸ Below.refl _ _⟩
theorem VA{a b:UInt8}(l:Bs):[a,b].isPrefixOf l=decide (l.take 2=[a,b]):=by
 match l with
 |[]=>rfl
 |[x]=>simp[List.isPrefixOf]
 |x::y::l=>simp only[List.isPrefixOf,zdf,List.take_zero,zed,zcg,and_true];rw[za7,zan,beq_iff_eq,beq_iff_eq,zA];constructor <;> (rintro⟨rfl,rfl⟩;exact⟨rfl,rfl⟩)
theorem Pj(h:iQ l=Tc n):4<=l.length:=by unfold iQ at h;split at h;assumption;cases h
theorem Mw(p:GL gl)(u:2<=l.length)(t:l.length<=1152921504606846976){R:Int×Int->Prop}(h:R (match rR (l.drop 2)with|some (r,n)=>((r:Int),(n:Int))|none=>(0,0))):
  PC Tp gl 365 [Arg.mk .str (bl l)] [.int .i32,.int .i64] R:=by
 apply zkx;simp only[zu,oL (show(2:Int)=((2:Nat):Int)from rfl),oL (show(6:Int)=((6:Nat):Int)from rfl),oL (show(8:Int)=((8:Nat):Int)from rfl)];refine⟨⟨by omega,by omega,by omega⟩,?_⟩;unfold rR at h;refine Gz p (by rw[zb2];omega) (λn e=>?_) (λe v=>?_);rw[e]at h;have w:=tD e;have s:=Pj e;rw[zb2]at s;dsimp only at h;intro K o;refine⟨λb=>(by cases b),λ_=>o _ ?_⟩;refine⟨λb=>?_,λb=>⟨λk=>?_,λk=>⟨⟨by omega,by omega,by omega⟩,?_⟩⟩⟩;simp only[Bool.cond_eq_ite,Bool.if_false_right,zan,zA]at b;rw[zb (by omega)]at h;exact h;simp only[Bool.cond_eq_ite,Bool.if_false_right,zd3,decide_eq_false_iff_not,Bool.if_true_left,zcw,zA]at b k;rw[za (by omega),zb (by omega)]at h;exact h;simp only[Bool.cond_eq_ite,Bool.if_false_right,zd3,decide_eq_false_iff_not,Bool.if_true_left,Bool.or_eq_false_iff,zA]at b k;rw[za (by omega),za (by omega)]at h;rw[zdb,zdb]at h;refine UL ?_;rw[VA];refine⟨λhz=>?_,λhz=>⟨⟨by omega,?_,by omega⟩,?_⟩⟩;rw[za (by simpa using hz)]at h;exact h;have c:(l.drop 6).take 2=[92,117]:=by simpa using hz
 have:=congrArg zdh c;simp only[zcr,zb2,zbi,zef]at this;omega;have c:(l.drop 6).take 2=[92,117]:=by simpa using hz
 rw[zb c]at h;refine Gz p (by rw[zb2];omega) (λm i=>?_) (λi v=>?_);rw[show 2+6=8 from rfl,i]at h;have x:=tD i;dsimp only at h;refine⟨λf=>?_,λf=>?_⟩;simp only[Bool.cond_eq_ite,Bool.if_true_left,zcw,zA,Bool.not_true,zcc,false_or]at f;rw[za (show¬(56320<=m/\m<57344)by omega)]at h;exact h;simp only[Bool.cond_eq_ite,Bool.if_true_left,Bool.or_eq_false_iff,decide_eq_false_iff_not,Bool.not_true,zcc,decide_false,zA,Bool.false_or]at f;rw[zb (show 56320<=m/\m<57344 by omega)]at h;dsimp only at h;rw[mY (n:=(n:Int)-55296) (by omega) (by omega),mY (n:=((n:Int)-55296)*1024) (by omega) (by omega),mY (n:=65536+((n:Int)-55296)*1024) (by omega) (by omega),mY (n:=65536+((n:Int)-55296)*1024+(m:Int)) (by omega) (by omega),mY (by omega) (by omega)];have q:(((65536+(n-55296)*1024+(m-56320):Nat):Int))=65536+((n:Int)-55296)*1024+(m:Int)-56320:=by omega
 rw[q]at h;exact h;rw[show 2+6=8 from rfl,i]at h;exact⟨λ_=>h,λf=>by simp at f⟩;rw[e]at h;intro K o;exact⟨λ_=>o _ ⟨λ_=>h,λb=>by cases b⟩,λb=>by cases b⟩
theorem pY{c:UInt8}(b:n<256):((c.toNat:Int)==(n:Int))=decide (c=zcj n):=by rw[za7,beq_iff_eq,zA,ZV b];omega
theorem VB{c:UInt8}{R:Int×Bool->Prop}(h:R (match oc c with|some r=>((r:Int),Ta)|none=>(0,Tb))):PC Tp gl 364 [Arg.mk (.int .u8) (c.toNat:Int)] [.int .i32,.bool] R:=by
 apply W3;have B:=c.toNat_lt;have q:∀n:Nat,n<256->((c.toNat:Int)==(n:Int))=decide (c=zcj n):=λn z=>pY z;have m:=q 34 (by omega);have s:=q 92 (by omega);have p:=q 47 (by omega);have o:=q 98 (by omega);have f:=q 102 (by omega);have e:=q 110 (by omega);have i:=q 114 (by omega);have k:=q 116 (by omega);simp only[Int.cast_ofNat_Int,show zcj 34=34 from rfl,show zcj 92=92 from rfl,show zcj 47=47 from rfl,show zcj 98=98 from rfl,show zcj 102=102 from rfl,show zcj 110=110 from rfl,show zcj 114=114 from rfl,show zcj 116=116 from rfl]at m s p o f e i k;rw[m,s,p,o,f,e,i,k];unfold oc at h;intro K A;have yes:(c=34\/c=92\/c=47)->K Ta:=by intro h1;apply A;rw[zb h1]at h;rw[mY (by omega) (by omega)];exact⟨λ_=>h,λb=>by cases b⟩
 refine⟨λh1=>by rw[h1];exact yes (.inl (by simpa using h1)),λh1=>⟨λl=>by rw[l];exact yes (.inr (.inl (by simpa using l))),λl=>?_⟩⟩;by_cases x:c=47;rw[zD x];exact yes (.inr (.inr x));have z:¬(c=34\/c=92\/c=47):=by rw[decide_eq_false_iff_not]at h1 l;rintro(h|h|h);exact h1 h;exact l h;exact x h
 rw[za z]at h;rw[zF x];apply A;refine⟨λb=>(by cases b),λ_=>?_⟩;by_cases y:c=98;rw[zb y]at h;rw[zD y];exact⟨λ_=>h,λb=>by cases b⟩;rw[za y]at h;rw[zF y];refine⟨λb=>(by cases b),λ_=>?_⟩;by_cases a2:c=102;rw[zb a2]at h;rw[zD a2];exact⟨λ_=>h,λb=>by cases b⟩;rw[za a2]at h;rw[zF a2];refine⟨λb=>(by cases b),λ_=>?_⟩;by_cases t:c=110;rw[zb t]at h;rw[zD t];exact⟨λ_=>h,λb=>by cases b⟩;rw[za t]at h;rw[zF t];refine⟨λb=>(by cases b),λ_=>?_⟩;by_cases w:c=114;rw[zb w]at h;rw[zD w];exact⟨λ_=>h,λb=>by cases b⟩;rw[za w]at h;rw[zF w];refine⟨λb=>(by cases b),λ_=>?_⟩;by_cases u:c=116;rw[zb u]at h;rw[zD u];exact⟨λ_=>h,λb=>by cases b⟩;rw[za u]at h;rw[zF u];exact⟨λb=>(by cases b),λ_=>h⟩
end
section
variable {gl M:Fr} {l:Bs}
theorem PM(m:GL gl)(f:l.length<=1152921504606846976){R:Int×Int->Prop}(h:R (match rD l with|some (r,n)=>((r:Int),(n:Int))|none=>(0,0))):
  PC Tp gl 317 [Arg.mk .str (bl l)] [.int .i32,.int .i64] R:=by
 apply Uq;rw[zu]
 match l,f,h with
 |[],_,h=>exact⟨λ_=>h,λb=>by simp at b⟩
 |[a],_,h=>exact⟨λ_=>h,λb=>by simp at b⟩
 |a::c::t,f,h=>
  have i:((a::c::t).length:Int)=t.length+2:=by simp;omega
  refine⟨λb=>(by rw[zA]at b;omega),λ_=>⟨⟨by omega,by omega⟩,?_⟩⟩;have k:qj (bl (a::c::t)) (1:Int).toNat=(c.toNat:Int):=by rw[xt];rfl
  rw[k];refine VB ?_;unfold rD at h;dsimp only at h;cases e:oc c with
  |some r=>rw[e]at h;exact⟨λ_=>h,λb=>(by cases b)⟩
  |none=>rw[e]at h;dsimp only at h;refine⟨λb=>(by cases b),λ_=>⟨⟨by omega,by omega⟩,?_⟩⟩;have o:((c.toNat:Int)==117)=decide (c=117):=pY (n:=117) (by omega);rw[o];refine⟨λb=>?_,λb=>?_⟩;rw[zb (by simpa using b)]at h;refine Mw m (by simp) f ?_;exact h;rw[za (by simpa using b)]at h;exact h
theorem V9(h:l≠[]):Lib.decodeGo (bl l)=dec l:=by unfold Lib.decodeGo;have b:=zbo.2 h;rw[za (by rw[zu];omega),vH,yo,zc2]
theorem Tm(e:GL gl)(b:l≠[])(k:l.length<=1152921504606846976){R:Int×Int->Prop}(h:R (match kX l with|some (r,n)=>((r:Int),(n:Int))|none=>(0,0))):
  PC Tp gl 263 [Arg.mk .str (bl l)] [.int .i32,.int .i64] R:=by
 apply zs3;have f:=zbo.2 b;rw[zu,xt,show(0:Int).toNat=0 from rfl,Ai f];refine⟨⟨by omega,by omega⟩,?_⟩;have p:((l[0].toNat:Int)==92)=decide (l[0]=92):=pY (n:=92) (by omega);have o:l.head?=Tc l[0]:=by cases l with
  |nil=>exact absurd rfl b
  |cons a t=>rfl
 rw[p];unfold kX at h;rw[o]at h;refine⟨λc=>?_,λc=>?_⟩;rw[zb (by rw[zB c])]at h;exact PM e k h;rw[za (by rw[zab];exact zC c)]at h;refine E2 e.tabs ?_;rw[V9 b];have i:(bif (decide (((dec l).1:Int)<32))then Ta else(bif (((dec l).1:Int)==65533)then(((dec l).2:Int)==1)else Tb))=decide ((dec l).1<32\/jW (dec l)=Ta):=by rw[za7];unfold jW;simp only[Bool.cond_eq_ite,Bool.if_true_left,Bool.if_false_right,zcw,zan,zA,beq_iff_eq];constructor;rintro(h1|⟨h1,m⟩);left;omega;right;exact⟨by omega,by omega⟩;rintro(h1|⟨h1,m⟩);left;omega;right;exact⟨by omega,by omega⟩
 rw[i];refine⟨λc=>?_,λc=>?_⟩;rw[zb (zB c)]at h;exact h;rw[za (zC c)]at h;exact h
theorem vm(s:Bt)(i j:Int):Jl M [.str,.int .i64,.int .i64] (s,i,j) (.tuple #[.string s,.int .i64 i,.int .i64 j]):= ⟨[_,_,_],⟨_,_,rfl,rdStr s,_,_,rfl,Yb _ i,_,rfl,Yb _ j⟩,rfl⟩
theorem Fi{k:IntKind}{r:Int×Int}{v:Value}(h:Jl M [.int k,.int .i64] r v):v=.tuple #[.int k r.1,.int .i64 r.2]:=by obtain⟨vs,⟨f,rest,rfl,c,e,rfl,b⟩,rfl⟩:=h;rw[jq c,jq b];rfl
set_option maxHeartbeats 1000000 in
theorem K2(U:GL gl){t:Bs}{a:Nat}(Y:a<=1152921504606846976)(hl:t.length<=1099511627776){R:Bt×Int×Int->Prop}(u:R (bl (wm t a).1,((wm t a).2.1:Int),(wm t a).2.2)):
  PC Tp gl 195 [Arg.mk .str (bl t),Arg.mk (.int .i64) (a:Int)] [.str,.int .i64,.int .i64] R:=by
 intro h M vs O ag ha
 match vs,ha with
 |[u1,u2],⟨a1,a2,_⟩=>
  obtain rfl:=Za (s:=bl t) a1;obtain rfl:=jq (i:=(a:Int)) a2;apply PX.of;apply O0;rw[zu,xt,zao];have f:∀{k:Nat},k<t.length->(t.drop k).head?=Tc (t[k]?.getD 0):=λ {k} I=>by rw[List.head?_drop,zaj I];rfl
  have E:∀k:Nat,(((t[k]?.getD 0).toNat:Int)==34)=decide (t[k]?.getD 0=34):=λk=>pY (n:=34) (by omega);have H:(((t[a]?.getD 0).toNat:Int) != 34)=!decide (t[a]?.getD 0=34):=by rw[bne,E]
  rw[H];refine⟨λl=>?_,λl=>?_,λl=>?_⟩;have:¬((a:Int)>=(t.length:Int)):=by simpa using l
  exact⟨by omega,by omega⟩;have hn:¬(t.drop a).head?=Tc 34:=by
   intro e;have o:a<t.length:=by rcases zbf a t.length with h1|h1;exact h1;rw[zci h1]at e;cases e
   rw[f o]at e;have e:=za6 e;have D:decide ((a:Int)>=(t.length:Int))=Tb:=by rw[decide_eq_false_iff_not];omega
   rw[D,e]at l;simp at l
  have e:wm t a=([],a,2):=by unfold wm;rw[za hn]
  rw[e]at u;exact⟨M,(bl [],(a:Int),2),Later.refl ag,vm _ _ _,u⟩;have o:a<t.length:=by
   rcases zbf a t.length with h1|h1;exact h1;have D:decide ((a:Int)>=(t.length:Int))=Ta:=by rw[zA];omega
   rw[D]at l;cases l
  have D:decide ((a:Int)>=(t.length:Int))=Tb:=by rw[decide_eq_false_iff_not];omega
  have V:(t.drop a).head?=Tc 34:=by rw[f o];rw[D]at l;congr 1;simpa using l
  have P:wm t a=(let q:=kf (t.drop (a+1));if q.2.2 then(q.1,a+1+q.2.1,0)else([],a+1+q.2.1,2)):=by unfold wm;rw[zb V]
  rw[Ze o (by omega)];intro h1;have Z:Bld h1 h.size []:=Bld.new h;have J:Keep h.size h h1:=Keep.push _ _ (zaf _);clear_value h1;refine⟨λi g=>∃(k:Nat) (out:Bs),i=(k:Int)/\k<=t.length/\out.length<=4*k/\Bld g h.size out/\Keep h.size h g/\wm t a=(let q:=kf (t.drop k);if q.2.2 then(out++q.1,k+q.2.1,0)else([],k+q.2.1,2)),λi _=>t.length-i.toNat,⟨a+1,[],rfl,by omega,by simp,Z,J,by rw[P];rfl⟩,?_⟩;rintro i g ⟨k,out,rfl,I,ho,B,y,z⟩;simp only[zao];refine⟨λl=>?_,λl=>?_⟩;have p:k<t.length:=by rw[zA]at l;omega
  have w:t.drop k≠[]:=by rw[<-zbo,zb2];omega
  refine⟨⟨by omega,by omega⟩,?_⟩;rw[xt,E];have b:=Hc w;rw[f p]at b;refine⟨λA=>?_,λA=>⟨⟨by omega,by omega,by omega⟩,?_⟩⟩;rw[zb (by rw[zB A])]at b;rw[b]at z;refine RL B λh7 S=>⟨_,rfl,M,(bl out,((k+1:Nat):Int),0),Later.same ag (y.trans S (zaf _)),?_,?_⟩;rw[Ze p (by omega)];exact vm _ _ _;rw[z]at u;simpa using u;rw[za (by rw[zab];exact zC A)]at b;have ex:(bl t).extract k t.length=bl (t.drop k):=oL (n:=(k:Int)) rfl;rw[ex];refine(Tm U w (by rw[zb2];omega) (R:=λr=>r=(match kX (t.drop k)with|some (r,n)=>((r:Int),(n:Int))|none=>(0,0))) rfl).go O (ag.keep y) (zi (a:=Arg.mk .str _) (rdStr _) zq) λv h9 M9 r L hv C=>?_;obtain rfl:=Fi hv;cases ep:kX (t.drop k)with
  |none=>rw[ep]at C b;dsimp only at C;subst C;refine⟨_,_,rfl,λ_=>?_,λhz=>by cases hz⟩;dsimp only at b;rw[b]at z;refine⟨M,(bl [],(k:Int),2),Later.same ag (y.trans L.keep y.size),vm _ _ _,?_⟩;rw[z]at u;simpa using u
  |some x=>
   obtain⟨c,n⟩:=x;rw[ep]at C b;dsimp only at C;subst C;obtain⟨n1,n2,Q,n4⟩:=vq w ep;rw[zb2]at Q;dsimp only at b;refine⟨(c:Int),(n:Int),rfl,λhz=>?_,λ_=>?_⟩;simp only[beq_iff_eq]at hz;omega;refine Pu (B.keep L.keep) (by omega) (by omega) (by omega) λN m G F=>⟨_,_,rfl,?_,?_⟩;refine⟨k+n,out++Lib.encodeRune (c:Int),?_,by omega,?_,G,?_,?_⟩;rw[im (by omega)];omega;have h4:(Lib.encodeRune (c:Int)).length<=4:=by have:=(Lib.encodeRuneZ_length (c:Int)).2;rw[Lib.encodeRune,zaw];exact this
   rw[zat];omega;exact(y.trans L.keep y.size).trans F (zaf _);rw[z,b,zdb];dsimp only;rw[zcb,Nat.add_assoc];show t.length-(zaa .i64 ((k:Int)+(n:Int))).toNat<t.length-((k:Nat):Int).toNat;rw[im (by omega)];omega
  have p:k=t.length:=by rw[decide_eq_false_iff_not]at l;omega
  rw[p,zdw,RA]at z;refine⟨M,(bl [],(t.length:Int),2),Later.same ag y,vm _ _ _,?_⟩;rw[z]at u;simpa using u
end
section
variable {t:Bs} {gl:Fr}
def sV(t:Bs)(a:Int):Int×Int:=if a<0\/(t.length:Int)<a then(0,2)else((wm t a.toNat).2.1,(wm t a.toNat).2.2)
theorem SC{R:Bt×Int×Int->Prop}(h:R (bl (gX t).1,((gX t).2.1:Int),(gX t).2.2)):
  ((bif ((wm t 0).2.2==0)then(decide (((wm t 0).2.1:Int)<(t.length:Int)))else Tb)=Ta->R (bl [],((wm t 0).2.1:Int),2))/\((bif ((wm t 0).2.2==0)then(decide (((wm t 0).2.1:Int)<(t.length:Int)))else Tb)=Tb->R (bl (wm t 0).1,((wm t 0).2.1:Int),(wm t 0).2.2)):=by
 have e:(bif ((wm t 0).2.2==0)then(decide (((wm t 0).2.1:Int)<(t.length:Int)))else Tb)=decide ((wm t 0).2.2=0/\(wm t 0).2.1<t.length):=by rw[za7];simp only[Bool.cond_eq_ite,Bool.if_false_right,zan,zA,beq_iff_eq];omega
 rw[e];unfold gX at h;refine⟨λb=>?_,λb=>?_⟩;rw[zb (zB b)]at h;exact h;rw[za (zC b)]at h;exact h
theorem Ca(b:GL gl)(c:t.length<=1099511627776){R:Bt×Int×Int->Prop}(h:R (bl (gX t).1,((gX t).2.1:Int),(gX t).2.2)):
  PC Tp gl 126 [Arg.mk .str (bl t)] [.str,.int .i64,.int .i64] R:=by
 apply WO;rw[zu];exact K2 b (a:=0) (by omega) c (SC h)
theorem VY(k:GL gl){a:Int}(f:t.length<=1099511627776){R:Int×Int->Prop}(h:R (sV t a)):PC Tp gl 192 [Arg.mk .str (bl t),Arg.mk (.int .i64) a] [.int .i64,.int .i64] R:=by
 apply Vt;rw[zu];have e:(bif (decide (a<0))then Ta else(decide (a>(t.length:Int))))=decide (a<0\/(t.length:Int)<a):=by rw[za7];simp only[Bool.cond_eq_ite,Bool.if_true_left,zcw,zA]
 rw[e];unfold sV at h;refine⟨λc=>?_,λc=>?_⟩;rw[zb (zB c)]at h;exact h;have l:=zC c;rw[za l]at h;have i:a=((a.toNat:Nat):Int):=by omega
 have:=K2 k (t:=t) (a:=a.toNat) (by omega) f (R:=λb=>R (b.2.1,b.2.2)) h;rw[<-i]at this;exact this
end
end Go.X
end
section
namespace Go.X
open Go Go.RowKit
section
variable {cs:Array Value} {o n b:Nat} {h:zc}
theorem nE(h:o+n<=cs.size):(cut cs o n).length=n:=by unfold cut;simp;omega
theorem JN(H:Blk h b cs):Arr h.size h (Tc ⟨b,o,Td⟩) (cut cs o n):=by refine .inr ⟨b,o,rfl,H.lt,λi v c=>H.cell ?_⟩;rw[yd]at c;split at c;rw[<-zb7];exact c;cases c
theorem QH{P:Program}(H:Blk h b cs){vs:List Value}(k:o+vs.length<=cs.size)(h1:∀u∈vs,u.oneCell'=Ta)(B:World)(d:Nat):
  ∃h',(storeCells ⟨b,o,Td⟩ vs 0).run P (mk B d h)=.ok () (mk B d h')/\Blk h' b (upd cs o vs)/\h'.size=h.size/\∀j,j≠b->h'[j]?=h[j]?:=by
 obtain⟨T,e⟩:=H;obtain⟨h',l,c,i,f⟩:=Lu (P:=P) e k h1 B d;exact⟨h',l,⟨T,c⟩,i,f⟩
end
section
variable {cs:Array Value} {vs:List Value}
structure RowO (h:zc) (s:Sl) (b:Nat) (cs:Array Value) (sz:Nat):Prop where
 le:s.len<=s.cap
 at_:(s.len=0/\s.cap=0)\/(s.a=Tc ⟨b,0,Td⟩/\Blk h b cs/\s.cap*sz<=cs.size)
structure RowN (h h':zc) (s':Sl) (b b':Nat) (cs':Array Value) (sz n:Nat) (cells:List Value):Prop where
 a:s'.a=Tc ⟨b',0,Td⟩
 len:s'.len=n
 cap:n<=s'.cap
 blk:Blk h' b' cs'
 size:s'.cap*sz<=cs'.size
 cut:cut cs' 0 (n*sz)=cells
 new:b'=b\/h.size<=b'
 grow:h.size<=h'.size
 old:∀j,j<h.size->j≠b'->h'[j]?=h[j]?
theorem UT{n m:Nat}(e:n+vs.length<=cs.size)(c:m=n+vs.length):cut (upd cs n vs) 0 m=cut cs 0 n++vs:=by subst c;have b:(cut cs 0 n).length=n:=nE (by omega);apply zbt;intro q;rw[yd];split;rename_i f;rw[za5,AJ e];split;rename_i h1;rw[zc1 (by omega),yd,zb h1,za5];simp_all;simp_all
theorem uE{P:Program}{t e:TypeId}{z:Value}{sz bytes:Nat}(T:ElemT P t e z sz bytes){ty:TypeId}{h:zc}{s:Sl}{b:Nat}(H:RowO h s b cs sz){bv cv:Nat}(M:Blk h bv vs.toArray)(i:vs.length=sz)(h1:∀u∈vs,u.oneCell'=Ta)(C:(s.len+1)*bytes<=140737488355328)(J:s.len+1<=140737488355328){K:Value->zc->Prop} (w:∀(s':Sl) (h':zc) (A:Nat) (cs':Array Value),RowN h h' s' b A cs' sz (s.len+1) (cut cs 0 (s.len*sz)++vs)->K (.slice s'.a s'.len s'.cap) h'):
  Qa P (zav #[t,t] ty #[.slice s.a s.len s.cap,.slice (Tc ⟨bv,0,Td⟩) 1 cv]) h K:=by
 intro B d;have l:Arr h.size h (Tc ⟨bv,0,Td⟩) vs:=by have:=JN M (o:=0) (n:=vs.length);rw[show cut vs.toArray 0 vs.length=vs by unfold cut;simp]at this;exact this
 have y:∀B d,Src P sz t (.slice (Tc ⟨bv,0,Td⟩) 1 cv) 1 vs (mk B d h):=λB d=>EA (P:=P) (s:=⟨Tc ⟨bv,0,Td⟩,1,cv⟩) l (by simp[i]) T.pos h1 T.slice B d;have Z:(s.len+1)*sz=s.len*sz+sz:=zd2 _ _;by_cases r:s.len+1<=s.cap;rcases H.at_ with⟨_,h0⟩|⟨x,q,N⟩;omega;have G:(s.len+1)*sz<=s.cap*sz:=za2 _ r;obtain⟨h',S,I,Q,D⟩:=QH (P:=P) q (o:=s.len*sz) (vs:=vs) (by rw[i];omega) h1 B d;have m:=Y3 (P:=P) (ty:=ty) T (s:=s) (h':=h') (y B d) r (λp V=>by simp_all[qe]) (λhn=>by simp_all);refine⟨_,d,h',m,w ⟨s.a,s.len+1,s.cap⟩ h' b _ ⟨x,rfl,r,I,by grind [xW],UT (by rw[i];omega) (by omega),.inl rfl,by omega,λj L k=>D j k⟩⟩;have f:Arr h.size h s.a (cut cs 0 (s.len*sz))/\(cut cs 0 (s.len*sz)).length=s.len*sz:=by rcases H.at_ with⟨h0,_⟩|⟨x,q,N⟩;rw[h0,Nat.zero_mul];exact⟨.inl (by unfold cut;simp),by unfold cut;simp⟩;have G:s.len*sz<=s.cap*sz:=za2 _ H.le;grind [JN,nE]
 obtain⟨c,blk,E,O,U,Y,F⟩:=X0 (P:=P) (ty:=ty) (base:=0) T f.2 (λB d=>Qx f.1 f.2 T.pos B d) y C J (zbn _) (by omega) B d;refine⟨_,d+1,_,E,w ⟨Tc ⟨h.size,0,Td⟩,s.len+1,c⟩ _ h.size blk ⟨rfl,rfl,O,Blk.new _ _ _,by simp_all,by unfold cut;rw[zc2];exact F,.inr (zaf _),by simp,λj L k=>by grind⟩⟩
end
end Go.X
end
section
namespace Go.X
section
variable {lo:Nat} {h h':zc} {M M':Fr} {s:Sl} {bs:List Nat}
def ORow(lo:Nat)(h:zc)(M:Fr)(T:Ty)(xs:List (El T))(s:Sl)(bs:List Nat):Prop:=
 (xs=[]/\s.len=0/\s.cap=0/\bs=[])\/∃(b:Nat) (cs:Array Value),bs=[b]/\s.a=Tc ⟨b,0,Td⟩/\s.len=xs.length/\s.len<=s.cap/\Blk h b cs/\s.cap*sz T<=cs.size/\lo<=b/\M b=Td/\∀i (hi:i<xs.length),Rd M T xs[i] (cut cs (i*sz T) (sz T))
theorem ORow.nil{T:Ty}:ORow lo h M T [] ⟨Td,0,0⟩ []:=.inl ⟨rfl,rfl,rfl,rfl⟩
theorem ORow.len{T:Ty}{xs:List (El T)}(H:ORow lo h M T xs s bs):s.len=xs.length:=by rcases H with⟨rfl,h1,_⟩|⟨b,cs,_,_,h1,_⟩;exact h1;exact h1
theorem ORow.own{T:Ty}{xs:List (El T)}(H:ORow lo h M T xs s bs):∀c∈bs,lo<=c/\c<h.size/\M c=Td:=by rcases H with⟨_,_,_,rfl⟩|⟨b,cs,rfl,_,_,_,e,_,h1,i,_⟩;intro c f;cases f;intro c f;rw[zbm.1 f];exact⟨h1,e.lt,i⟩
theorem ORow.frame{T:Ty}{xs:List (El T)}(H:ORow lo h M T xs s bs)(f:∀c∈bs,h'[c]?=h[c]?)(le:Fr.le M M')(m:∀c∈bs,M' c=Td):ORow lo h' M' T xs s bs:=by rcases H with H|⟨b,cs,rfl,h1,l,n,e,p,o,q,k⟩;exact .inl H;refine .inr ⟨b,cs,rfl,h1,l,n,?_,p,o,m b (by simp),λi hi=>Rd.mono le (k i hi)⟩;unfold Blk at e ⊢;rw[f b (by simp)];exact e
theorem ORow.call{T:Ty}{xs:List (El T)}(H:ORow lo h M T xs s bs)(L:Later h M h' M'):ORow lo h' M' T xs s bs:=by refine H.frame (λc b=>L.keep.get c (H.own c b).2.1) L.le λc b=>?_;rw[L.old c (H.own c b).2.1];exact(H.own c b).2.2
theorem ORow.rd{T:Ty}{xs:List (El T)}{bs all:List Nat}(H:ORow lo h M T xs s bs)(ag:AgM M h)(l:∀c∈bs,c∈all)(o:xs.length<=1000000):Rd (MxL M h all) (.row T) xs [aK s]:=by rcases H with⟨rfl,h1,e,rfl⟩|⟨b,cs,rfl,h1,e,n,m,r,p,q,f⟩;refine⟨_,rfl,s.a,s.cap,?_,⟨by simp,by simp⟩,.inl rfl⟩;show aK s=_;unfold aK;rw[h1];rfl;refine⟨_,rfl,s.a,s.cap,?_,⟨by omega,by omega⟩,?_⟩;unfold aK;rw[e];by_cases k:xs=[];exact .inl k;refine .inr ⟨b,0,cs,h1,MxL.at (l b (by simp)) m,λi hi=>?_⟩;rw[za5];exact Rd.mono (lN ag all) (f i hi)
theorem ORow.app{t e:TypeId}{z:Value}{bytes:Nat}{T:Ty}(E:ElemT Tp t e z (sz T) bytes)(G:bytes<=1000){ty:TypeId}{xs:List (El T)}(ag:AgM M h)(H:ORow lo h M T xs s bs)(ah:lo<=h.size){bv cv:Nat}{vs:List Value}{x:El T}(hv:Blk h bv vs.toArray)(I:Rd M T x vs)(S:xs.length<=1000000){K:Value->zc->Prop} (hK:∀(s':Sl) (h':zc) (p:List Nat),ORow lo h' M T (xs++[x]) s' p->h.size<=h'.size->(∀c∈p,c∈bs\/h.size<=c)->(∀j,j<h.size->j∉bs->h'[j]?=h[j]?)->K (.slice s'.a s'.len s'.cap) h'):
  Qa Tp (zav #[t,t] ty #[.slice s.a s.len s.cap,.slice (Tc ⟨bv,0,Td⟩) 1 cv]) h K:=by
 have C:vs.length=sz T:=Rd.len I;have h1:∀u∈vs,u.oneCell'=Ta:=Rd.one I;have m:=H.len;have A:∀c,h.size<=c->M c=Td:=by
  intro c U;cases e:M c with
  |none=>rfl
  |some cs=>have:=ag.lt e;omega
 obtain⟨b,cs,f,Z,D⟩:∃b cs,RowO h s b cs (sz T)/\((bs=[b]/\lo<=b/\M b=Td)\/(b=h.size/\bs=[]))/\∀i (hi:i<xs.length),i*sz T+sz T<=cs.size/\Rd M T xs[i] (cut cs (i*sz T) (sz T)):=by rcases H with⟨rfl,J,Q,rfl⟩|⟨b,cs,rfl,J,Q,e3,e4,V,e6,Y,e8⟩;exact⟨h.size,#[],⟨by omega,.inl ⟨J,Q⟩⟩,.inr ⟨rfl,rfl⟩,λi hi=>by simp at hi⟩;refine⟨b,cs,⟨e3,.inr ⟨J,e4,V⟩⟩,.inl ⟨rfl,e6,Y⟩,λi hi=>⟨?_,e8 i hi⟩⟩;have:(i+1)*sz T<=s.cap*sz T:=za2 _ (by omega);rw[zd2]at this;omega
 have w:(s.len+1)*bytes<=140737488355328:=by have:(s.len+1)*bytes<=1000001*1000:=Nat.mul_le_mul (by omega) G;omega
 refine uE E f hv C h1 w (by omega) λs' h' n cs' N=>?_;have l:(n∈bs/\lo<=n/\M n=Td)\/h.size<=n:=by rcases N.new with e|e;rcases Z with⟨r,P,F⟩|⟨r,_⟩;subst e;exact .inl ⟨by rw[r];simp,P,F⟩;exact .inr (by omega);exact .inr e
 refine hK s' h' [n] (.inr ⟨n,cs',rfl,N.a,by rw[N.len,zat,m];rfl,by rw[N.len];exact N.cap,N.blk,N.size,?_,?_,λi hi=>?_⟩) N.grow (λc U=>?_) λj hj S=>N.old j hj λe=>?_;rcases l with q|q;exact q.2.1;omega;rcases l with q|q;exact q.2.2;exact A n q;have y:=N.cut;have aa:i<xs.length+1:=by simpa using hi
 have hm:(i+1)*sz T<=(s.len+1)*sz T:=za2 _ (by omega);have ae:(i+1)*sz T=i*sz T+sz T:=zd2 _ _;have af:(s.len+1)*sz T=s.len*sz T+sz T:=zd2 _ _;have key:∀q,q<sz T->(cut cs' (i*sz T) (sz T))[q]?=(cut cs 0 (s.len*sz T)++vs)[i*sz T+q]?:=by intro q k;rw[yd,zb k,<-y,yd,zb (by omega),za5]
 by_cases o:i<xs.length;rw[List.getElem_append_left o];obtain⟨g1,g2⟩:=D i o;have ab:(i+1)*sz T<=s.len*sz T:=za2 _ (by omega);have e:cut cs' (i*sz T) (sz T)=cut cs (i*sz T) (sz T):=by
  apply zbt;intro q;by_cases k:q<sz T;rw[key q k,zc1 ?_,yd,yd,zb k,zb (by omega),za5];have B:s.len*sz T<=cs.size:=by rcases f.at_ with⟨r,P⟩|⟨_,_,F⟩;omega;have:s.len*sz T<=s.cap*sz T:=za2 _ f.le;omega
  rw[nE (by omega)];omega;rw[yd,yd,za k,za k]
 rw[e];exact g2;have L:i=xs.length:=by omega
 subst L;rw[List.getElem_append_right (zaf _)];have O:(cut cs 0 (s.len*sz T)).length=xs.length*sz T:=by
  rcases f.at_ with⟨r,P⟩|⟨_,_,F⟩;have:xs.length=0:=by omega
  rw[r,this];unfold cut;simp;have:s.len*sz T<=s.cap*sz T:=za2 _ f.le;rw[nE (by omega),m]
 have e:cut cs' (xs.length*sz T) (sz T)=vs:=by apply zbt;intro q;by_cases k:q<sz T;rw[key q k,zcm (by omega),O];congr 1;omega;rw[yd,za k,List.getElem?_eq_none (by omega)]
 rw[e];simpa using I;rw[zbm.1 U];rcases l with q|q;exact .inl q.1;exact .inr q;rcases l with q|q;exact S (by rw[e];exact q.1);omega
end
end Go.X
end
section
namespace Go.X
open Go Go.X Go.Proofs Go.RowKit
section
variable {cs:Array Value} {o n q z b bv cv lo c:Nat} {l:List Value} {g g':zc} {t e ty:TypeId} {zv v:Value} {K:Value -> zc -> Prop} {M:Fr}
abbrev lA:Ty:=.pair (.int .i64) (.int .i64)
abbrev ku:Ty:=.pair (.int .i64) (.pair lA (.pair lA (.pair (.row (.int .i64)) (.row lA))))
structure Ax where
 ks:Sl
 kb:List Nat
 ps:Sl
 pb:List Nat
def i3:Ax:=⟨⟨Td,0,0⟩,[],⟨Td,0,0⟩,[]⟩
def jN(p:Nd×Ax):List Value:=[.int .i64 p.1.1,.int .i64 p.1.2.1.1,.int .i64 p.1.2.1.2,.int .i64 p.1.2.2.1.1,.int .i64 p.1.2.2.1.2,aK p.2.ks,aK p.2.ps]
structure CR (g:zc) (z:Nat) (els:List (List Value)) (sl:Sl) (b:Nat) (cs:Array Value):Prop where
 ro:RowO g sl b cs z
 ln:sl.len=els.length
 el:∀(i:Nat) (e:List Value),els[i]?=Tc e->(i+1)*z<=cs.size/\cut cs (i*z) z=e
theorem pU(b:l.length=n)(h:∀q,q<n->cs.toList[o+q]?=l[q]?):cut cs o n=l:=by apply zbt;grind [yd]
theorem vY(h:cut cs o n=l)(b:q<n):cs.toList[o+q]?=l[q]?:=by rw[<-h,yd,zb b]
theorem CR.blk{els:List (List Value)}{sl:Sl}(H:CR g z els sl b cs)(c:els≠[]):sl.a=Tc ⟨b,0,Td⟩/\Blk g b cs:=by rcases H.ro.at_ with⟨h1,_⟩|⟨h1,e,_⟩;have:=H.ln;simp_all;simp_all
theorem CR.frame{els:List (List Value)}{sl:Sl}(H:CR g z els sl b cs)(f:els≠[]\/sl.cap≠0->g'[b]?=g[b]?):CR g' z els sl b cs:=by refine⟨⟨H.ro.le,?_⟩,H.ln,H.el⟩;rcases H.ro.at_ with h1|⟨h1,e,h⟩;omega;by_cases c:sl.cap=0;exact .inl ⟨by have:=H.ro.le;omega,c⟩;exact .inr ⟨h1,e.keep (f (.inr c)),h⟩
theorem CR.app{bytes z:Nat}(E:ElemT Tp t e zv z bytes)(s:bytes<=1000){els:List (List Value)}{sl:Sl}(H:CR g z els sl b cs){vs:List Value}(J:Blk g bv vs.toArray)(k:vs.length=z)(h1:∀u∈vs,u.oneCell'=Ta)(O:els.length<=1000000) (B:∀(s':Sl) (g':zc) (h:Nat) (cs':Array Value),CR g' z (els++[vs]) s' h cs'->g.size<=g'.size->((h=b/\¬(sl.len=0/\sl.cap=0))\/g.size<=h)->h<g'.size->(∀j,j<g.size->j≠h->g'[j]?=g[j]?)->K (.slice s'.a s'.len s'.cap) g'):
  Qa Tp (zav #[t,t] ty #[.slice sl.a sl.len sl.cap,.slice (Tc ⟨bv,0,Td⟩) 1 cv]) g K:=by
 have f:=H.ln;have m:(sl.len+1)*bytes<=140737488355328:=by have:(sl.len+1)*bytes<=1000001*1000:=Nat.mul_le_mul (by omega) s;omega
 obtain⟨b0,c,p,D,l⟩:∃b0 c,RowO g sl b0 c z/\((b0=b/\¬(sl.len=0/\sl.cap=0))\/g.size<=b0)/\(∀(i:Nat) (e:List Value),els[i]?=Tc e->(i+1)*z<=c.size/\cut c (i*z) z=e):=by by_cases h0:sl.len=0/\sl.cap=0;have Q:els=[]:=zbq.1 (by omega);exact⟨g.size,#[],⟨H.ro.le,.inl h0⟩,.inr (zaf _),λi e hi=>by simp_all⟩;exact⟨b,cs,H.ro,.inl ⟨rfl,h0⟩,H.el⟩
 refine uE E p J k h1 m (by omega) λs' g' h cs' N=>B s' g' h cs' ⟨⟨by rw[N.len];exact N.cap,.inr ⟨N.a,N.blk,N.size⟩⟩,by rw[N.len,zat,f];rfl,λi e hi=>?_⟩ N.grow ?_ N.blk.lt N.old;have y:i<els.length+1:=by have:=(za0.1 hi).1;rw[zat]at this;exact this
 have P:(i+1)*z<=(sl.len+1)*z:=za2 _ (by omega);have C:(sl.len+1)*z<=s'.cap*z:=za2 _ N.cap;have F:(i+1)*z=i*z+z:=zd2 _ _;have I:(sl.len+1)*z=sl.len*z+z:=zd2 _ _;have:=N.size;refine⟨by omega,?_⟩;have n:=N.cut;have key:∀q,i*z+q<(sl.len+1)*z->cs'.toList[i*z+q]?=(cut c 0 (sl.len*z)++vs)[i*z+q]?:=λq o=>by rw[<-n,yd,zb o,za5]
 have x:(cut c 0 (sl.len*z)).length=sl.len*z:=by
  by_cases h0:els=[];have:sl.len=0:=by rw[f,h0];rfl
  rw[this,Nat.zero_mul];unfold cut;simp;have G:els.length-1<els.length:=by have:=zbo.2 h0;omega
  have:=(l (els.length-1) _ (zaj G)).1;grind [nE]
 by_cases r:i<els.length;rw[zc1 r]at hi;obtain⟨M,L⟩:=l i e hi;have A:(i+1)*z<=sl.len*z:=za2 _ (by omega);refine pU (by grind [nE]) λq o=>?_;rw[key q (by omega),zc1 (by rw[x];omega),yd,zb (by omega),za5];exact vY L o;have w:i=els.length:=by omega
 subst w;rw[zcm (zaf _),Nat.sub_self]at hi;cases hi;refine pU k λq o=>?_;simp_all;rcases N.new with e|e;omega;exact .inr e
theorem CR.set{els:List (List Value)}{sl:Sl}(H:CR g z els sl b cs)(y:n<els.length)(u:q<z)(B:Blk g' b (cs.setIfInBounds (n*z+q) v)):CR g' z (els.modify n (·.set q v)) sl b (cs.setIfInBounds (n*z+q) v):=by
 have f:els≠[]:=λh=>by simp_all
 have h1:=(H.blk f).1;refine⟨⟨H.ro.le,?_⟩,by rw[List.length_modify];exact H.ln,λi e hi=>?_⟩;rcases H.ro.at_ with⟨p,_⟩|⟨p,_,w⟩;omega;simp_all;rw[zck]at hi;cases hx:els[i]? with
 |none=>simp_all
 |some x=>
  rw[hx]at hi;obtain⟨s,l⟩:=H.el i x hx;have t:(i+1)*z=i*z+z:=zd2 _ _;have o:x.length=z:=by rw[<-l];exact nE (by omega)
  rw[zbc];refine⟨s,?_⟩;have hi:(if n=i then x.set q v else x)=e:=by simpa using hi
  rw[<-hi];refine pU (by grind) λr m=>?_;rw[Array.toList_setIfInBounds,List.getElem?_set];by_cases c:n=i;subst c;rw[zb rfl,List.getElem?_set];by_cases k:q=r;grind;rw[za (by omega),za k];exact vY l m;rw[za c,za ?_];exact vY l m;intro A;rcases Nat.lt_or_gt_of_ne c with h|h;have:(n+1)*z<=i*z:=za2 _ h;grind;have:(i+1)*z<=n*z:=za2 _ h;omega
abbrev NA:=List (Nd×Ax)
def iw(p:Nd×Ax)(c:Nat):Prop:=c∈p.2.kb\/c∈p.2.pb
def iW(na:NA)(sl:Sl)(b c:Nat):Prop:=(sl.cap≠0/\c=b)\/∃p∈na,iw p c
structure NdI (lo:Nat) (g:zc) (M:Fr) (p:Nd×Ax):Prop where
 kk:ORow lo g M (.int .i64) p.1.2.2.2.1 p.2.ks p.2.kb
 pp:ORow lo g M lA p.1.2.2.2.2 p.2.ps p.2.pb
 dd:∀c∈p.2.kb,c∉p.2.pb
structure NS (lo:Nat) (g:zc) (M:Fr) (na:NA) (sl:Sl) (b:Nat) (cs:Array Value):Prop where
 cr:CR g 7 (na.map jN) sl b cs
 lb:sl.cap≠0->lo<=b/\b<g.size/\M b=Td
 nd:∀p∈na,NdI lo g M p
 dj:∀(i j:Nat) (p p':Nd×Ax) (c:Nat),na[i]?=Tc p->na[j]?=Tc p'->iw p c->iw p' c->i=j
 nb:∀p∈na,¬iw p b
theorem NS.len{na:NA}{sl:Sl}(H:NS lo g M na sl b cs):sl.len=na.length:=by rw[H.cr.ln,zaw]
theorem NdI.own{p:Nd×Ax}(H:NdI lo g M p)(h:iw p c):lo<=c/\c<g.size/\M c=Td:=by rcases h with h|h;exact H.kk.own c h;exact H.pp.own c h
theorem NS.own{na:NA}{sl:Sl}(H:NS lo g M na sl b cs)(h:iW na sl b c):lo<=c/\c<g.size/\M c=Td:=by rcases h with⟨h1,rfl⟩|⟨p,e,h⟩;exact H.lb h1;exact(H.nd p e).own h
theorem NdI.frame{p:Nd×Ax}(H:NdI lo g M p)(f:∀c,iw p c->g'[c]?=g[c]?):NdI lo g' M p:= ⟨H.kk.frame (λc b=>f c (.inl b)) (Fr.le.refl _) λc b=>(H.kk.own c b).2.2,H.pp.frame (λc b=>f c (.inr b)) (Fr.le.refl _) λc b=>(H.pp.own c b).2.2,H.dd⟩
theorem NS.frame{na:NA}{sl:Sl}(H:NS lo g M na sl b cs)(hz:g.size<=g'.size)(f:∀c,iW na sl b c->g'[c]?=g[c]?):NS lo g' M na sl b cs:=by refine⟨H.cr.frame λh=>f b (.inl ⟨?_,rfl⟩),λh=>by have:=H.lb h;grind,λp e=>(H.nd p e).frame λc i=>f c (.inr ⟨p,e,i⟩),H.dj,H.nb⟩;rcases h with h|h;have:=H.cr.ln;have k:=H.cr.ro.le;have:=zbo.2 h;omega;exact h
theorem NS.nil:NS lo g M [] ⟨Td,0,0⟩ b cs:= ⟨⟨⟨zaf _,.inl ⟨rfl,rfl⟩⟩,rfl,λi e h=>(by cases h)⟩,λh=>absurd rfl h,λp f=>(by cases f),λi j p k c h=>(by cases h),λp f=>(by cases f)⟩
theorem Hv(p:Nd×Ax):∀u∈jN p,u.oneCell'=Ta:=by intro u b;unfold jN aK at b;simp at b;rcases b with rfl|rfl|rfl|rfl|rfl|rfl|rfl <;> rfl
theorem NS.push{bytes:Nat}(E:ElemT Tp t e zv 7 bytes)(u:bytes<=1000)(ag:AgM M g)(L:lo<=g.size){na:NA}{sl:Sl}(H:NS lo g M na sl b cs){x:Nd}(s:x.2.2.2.1=[])(r:x.2.2.2.2=[])(N:Blk g bv (jN (x,i3)).toArray)(J:na.length<=1000000) (G:∀(s':Sl) (g':zc) (l:Nat) (cs':Array Value),NS lo g' M (na++[(x,i3)]) s' l cs'->g.size<=g'.size->(∀c,iW (na++[(x,i3)]) s' l c->iW na sl b c\/g.size<=c)->(∀j,j<g.size->¬iW na sl b j->g'[j]?=g[j]?)->K (.slice s'.a s'.len s'.cap) g'):
  Qa Tp (zav #[t,t] ty #[.slice sl.a sl.len sl.cap,.slice (Tc ⟨bv,0,Td⟩) 1 cv]) g K:=by
 have B:∀c,g.size<=c->M c=Td:=by
  intro c f;cases e:M c with
  |none=>rfl
  |some cs=>have:=ag.lt e;omega
 refine CR.app E u H.cr N rfl (Hv _) (by simp_all) λs' g' l cs' C F o I z=>?_;have m:iW na sl b l\/g.size<=l:=by rcases o with⟨n,O⟩|n;exact .inl (.inl ⟨by have:=H.cr.ro.le;omega,n⟩);exact .inr n
 have w:∀p∈na,¬iw p l:=λp k f=>by rcases o with⟨n,_⟩|n;grind [nb];have:=((H.nd p k).own f).2.1;omega
 have y:∀c,¬iw (x,i3) c:=λc f=>by rcases f with f|f <;> exact absurd f (by simp[i3])
 have mem:∀p∈na++[(x,i3)],p∈na\/p=(x,i3):=λp k=>by simpa using k
 refine G s' g' l cs' ⟨by simp_all,λ_=>?_,λp k=>?_,?_,λp k=>?_⟩ F (λc f=>?_) (λj A J=>z j A λe=>?_);rcases m with h|h;have:=H.own h;simp_all;grind;rcases mem p k with k|rfl;exact(H.nd p k).frame λc f=>z c ((H.nd p k).own f).2.1 λe=>w p k (e ▸ f)
 refine⟨?_,?_,λc f=>by simp[i3]at f⟩;show ORow lo g' M (.int .i64) x.2.2.2.1 _ _;rw[s];exact .nil;show ORow lo g' M lA x.2.2.2.2 _ _;rw[r];exact .nil;intro i j p P c hi A f D;have q:∀(i:Nat) (p:Nd×Ax),(na++[(x,i3)])[i]?=Tc p->iw p c->na[i]?=Tc p:=λi p hi f=>by rw[List.getElem?_append]at hi;grind
 grind [dj];grind;rcases f with⟨_,rfl⟩|⟨p,k,f⟩;exact m;rcases mem p k with k|rfl;exact .inl (.inr ⟨p,k,f⟩);simp_all;grind
theorem NS.upd{na:NA}{sl:Sl}(H:NS lo g M na sl b cs)(G:n<na.length){f:Nd×Ax->Nd×Ax}(A:q<7)(B:Blk g' b (cs.setIfInBounds (n*7+q) v))(hz:g.size<=g'.size)(m:jN (f na[n])=(jN na[n]).set q v)(E:NdI lo g' M (f na[n]))(F:∀c,iw (f na[n]) c->iw na[n] c\/g.size<=c)(C:∀j,j<g.size->j≠b->¬iw na[n] j->g'[j]?=g[j]?):
  NS lo g' M (na.modify n f) sl b (cs.setIfInBounds (n*7+q) v)/\∀c,iW (na.modify n f) sl b c->iW na sl b c\/g.size<=c:=by
 have u:na[n]?=Tc na[n]:=zaj G;have mem:∀p∈na.modify n f,p=f na[n]\/∃j,j≠n/\na[j]?=Tc p:=λp o=>by obtain⟨j,t⟩:=zdm.1 o;grind
 have s:sl.cap≠0:=by have:=H.len;have:=H.cr.ro.le;omega
 have r:=H.lb s;refine⟨⟨?_,λh=>⟨r.1,by omega,r.2.2⟩,λp o=>?_,?_,λp o=>?_⟩,λc h=>?_⟩;have:=H.cr.set (n:=n) (q:=q) (v:=v) (by simp_all) A B;have e:(na.modify n f).map jN=(na.map jN).modify n (·.set q v):=by apply zbt;intro i;rw[zbu,zck,zck,zbu];by_cases e:n=i;grind;simp[e]
 grind;rcases mem p o with rfl|⟨j,t,k⟩;exact E;have l:=zbv k;exact(H.nd p l).frame λc m=>C c ((H.nd p l).own m).2.1 (λe=>H.nb p l (e ▸ m)) λh=>t (H.dj j n p _ c k u m h)
 intro i j p J c hi t m x;have q:∀(i:Nat) (p:Nd×Ax),(na.modify n f)[i]?=Tc p->iw p c->∃w,na[i]?=Tc w/\((iw w c)\/(i=n/\g.size<=c)):=λi p hi m=>by grind
 obtain⟨w,I,a2⟩:=q i p hi m;obtain⟨D,y,b2⟩:=q j J t x;rcases a2 with a2|⟨a2,L⟩;rcases b2 with b2|⟨b2,b3⟩;grind [dj];have:=((H.nd w (zbv I)).own a2).2.1;omega;rcases b2 with b2|⟨b2,b3⟩;have:=((H.nd D (zbv y)).own b2).2.1;omega;omega;grind [nb];rcases h with⟨h1,z⟩|⟨p,o,h⟩;exact .inl (.inl ⟨h1,z⟩);rcases mem p o with rfl|⟨j,t,k⟩;rcases F c h with h|h;exact .inl (.inr ⟨_,zbv u,h⟩);exact .inr h;exact .inl (.inr ⟨p,zbv k,h⟩)
end
section
variable {t:Bs} {gl:Fr}
abbrev oX:Ty:=.pair .str (.row ku)
theorem slice_form{p:Sp}{R:Bt->Prop}(h:R (bl (xo t p))): ((bif (bif (decide ((p.1:Int)<0))then Ta else(decide ((p.1:Int)>p.2)))then Ta else(decide ((p.2:Int)>((bl t).size:Int))))=Ta->R (⟨#[]⟩:Bt)) /\
  ((bif (bif (decide ((p.1:Int)<0))then Ta else(decide ((p.1:Int)>p.2)))then Ta else(decide ((p.2:Int)>((bl t).size:Int))))=Tb->(0<=(p.1:Int)/\(p.1:Int)<=p.2/\(p.2:Int)<=((bl t).size:Int))/\R ((bl t).extract (p.1:Int).toNat (p.2:Int).toNat)):=by
 rw[zu];have e:(bif (bif (decide ((p.1:Int)<0))then Ta else(decide ((p.1:Int)>p.2)))then Ta else(decide ((p.2:Int)>(t.length:Int))))=decide (p.1<0\/p.2<p.1\/(t.length:Int)<p.2):=by rw[za7];simp only[Bool.cond_eq_ite,Bool.if_true_left,zcw,zA];omega
 rw[e];unfold xo at h;refine⟨λb=>?_,λb=>?_⟩;rw[zb (zB b)]at h;exact h;have b:=zC b;rw[za b]at h;refine⟨by omega,?_⟩;rw[Ql];exact h
theorem EC{nodes:List Nd}{p:Sp}{R:Bt->Prop}(h:R (bl (xo t p))):PC Tp gl 149 [Arg.mk oX (bl t,nodes),Arg.mk lA p] [.str] R:=by apply ZS;exact slice_form h
theorem qf7(e:GL gl){k:Int}(f:t.length<=65536){R:Bt->Prop}(h:R (bl (kZ k t))):PC Tp gl 148 [Arg.mk (.int .i64) k,Arg.mk .str (bl t)] [.str] R:=by apply My;unfold kZ at h;refine⟨λh1=>?_,λh1=>⟨λb=>?_,λb=>⟨λc=>?_,λc=>?_⟩⟩⟩;rw[zb (by simpa using h1)]at h;exact h;rw[za (by simpa using h1),zb (by simpa using b)]at h;exact sN (by omega) (yQ e.pow (Zn t (by omega)) h);rw[za (by simpa using h1),za (by simpa using b),zb (by simpa using c)]at h;exact Ca e (by omega) h;rw[za (by simpa using h1),za (by simpa using b),za (by simpa using c)]at h;exact h
end
section
variable {h:zc} {l:Bs} {K:Value -> zc -> Prop} {lo:Nat}
theorem C4{c:UInt8}(b:K (.int .i64 (Lib.indexByte l c)) h):XC Tp 194 #[.string (bl l),.int .u8 (c.toNat:Int)] h K:=by refine XC.of_calls λB d=>(wl (bl l) (c.toNat:Int) (mk B d h)).mono ?_;rintro e w' ⟨rfl,rfl⟩;refine⟨_,rfl,rfl,rfl,rfl,?_⟩;have f:(bl l).data.toList=l:=yo l;rw[f,IA];exact b
def wE(F:FuncId)(A C:Array Value)(lo:Nat)(p:UInt8->Bool)(h0:zc):Prop:=
 zo Tp F=Ta/\∀(c:UInt8) (h:zc) (K:Value->zc->Prop),Keep lo h0 h->(∀h',Keep lo h h'->K (.bool (p c)) h')->XC Tp F (A++#[.int .u8 (c.toNat:Int)]++C) h K
theorem xG{F:FuncId}{A C:Array Value}{p:UInt8->Bool}(H:wE F A C lo p h)(x:l.length<=1152921504606846976)(r:∀h',Keep lo h h'->K (.int .i64 (dR p l:Int)) h'):
  XC Tp 333 #[.string (bl l),.func (.func F) A C] h K:=by
 obtain⟨w,H⟩:=H;apply Rw;rw[zu];refine⟨λi g=>∃k:Nat,i=(k:Int)/\k<=l.length/\Keep lo h g/\∀j (c:j<k) (f:j<l.length),p l[j]=Ta,λi _=>l.length-i.toNat,⟨0,rfl,by omega,Keep.refl _ _,λj c=>by omega⟩,?_⟩;rintro i g ⟨k,rfl,u,m,n⟩;refine⟨λo=>?_,λo=>?_⟩;have b:k<l.length:=by have:=zB o;omega
 refine⟨⟨by omega,by omega⟩,w,?_⟩;rw[xt,zao,Ai b];refine H _ _ _ m λh' s=>⟨_,rfl,λhz=>?_,λhz=>?_⟩;have e:dR p l=k:=Ck u (λj c=>n j c (by omega)) (λ_=>by simpa using hz);rw[<-e];exact r h' (m.trans s (zaf _));rw[Ze b (by omega)];refine⟨⟨k+1,rfl,by omega,m.trans s (zaf _),λj c f=>?_⟩,by show l.length-((k+1:Nat):Int).toNat<l.length-((k:Nat):Int).toNat;omega⟩;rcases zbf j k with q|q;exact n j q f;have:j=k:=by omega
 subst this;simpa using hz;have b:k=l.length:=by have:=zC o;omega
 have e:dR p l=l.length:=Ck (zaf _) (λj c=>n j (by omega) c) (λt=>absurd t (by omega));rw[<-e];exact r g m
theorem Ek{b:Nat}(n:Blk h b #[.string (bl l)])(i:b<lo):wE 374 #[] #[.pointer (Tc ⟨b,0,Td⟩)] lo (Jj l) h:=by
 refine⟨by kernel_rfl,λc g K k m=>?_⟩;show XC Tp 374 #[.int .u8 (c.toNat:Int),.pointer (Tc ⟨b,0,Td⟩)] g K;apply QW;have f:Blk g b #[.string (bl l)]:=by obtain⟨T,e⟩:=n;exact⟨T,by rw[k.get b i];exact e⟩
 refine⟨bl l,f.cell rfl,C4 ⟨_,rfl,?_⟩⟩;have e:decide (Lib.indexByte l c>=0)=Jj l c:=by unfold Jj;rw[za7,zA,zA];exact(Yl c l).2
 rw[e];exact m g (Keep.refl _ _)
theorem zzz{gl M:Fr}(l:Fr.le gl M)(ag:AgM M h):wE 335 #[] #[] h.size (Jj Q0) h:=by
 refine⟨by kernel_rfl,λc g K i o=>?_⟩;have e:(bif decide ((c.toNat:Int)>=97)then decide ((c.toNat:Int)<=122)else Tb)=Jj Q0 c:=by
  have f:(zbk 256).all (λn=>(bif decide ((n:Int)>=97)then decide ((n:Int)<=122)else Tb)==Jj Q0 (zcj n))=Ta:=by kernel_rfl
  have:=zas.1 f c.toNat (zcd.2 c.toNat_lt);rw[beq_iff_eq,UInt8.ofNat_toNat]at this;exact this
 refine(PC.px (gl:=gl) (args:=[Arg.mk (.int .u8) (c.toNat:Int)]) (rt:=[.bool]) (R:=λb=>b=Jj Q0 c) ?_ l (ag.keep i) (zi (a:=Arg.mk (.int .u8) _) (Yb _ _) zq)).go λv h' M' r L m k=>?_;apply QS;exact e;obtain rfl:=dK m;rw[k];exact o h' (L.keep.mono i.size)
end
section
variable {K:Value -> zc -> Prop} {h:zc} {a e:Int} {M:Fr} {v:Value}
theorem V2:qo Tp 171=Ta:=by kernel_rfl
theorem OW:ya Tp 171=3:=by kernel_rfl
abbrev ly(k f t:Int):List Value:=[.int .i64 k,.int .i64 f,.int .i64 t]
theorem nD{g:zc}{b:Nat}{x y z p q r:Int}(B:Blk g b (ly x y z).toArray){K:zc->Prop}(f:∀g',(∀j,j≠b->g'[j]?=g[j]?)->g'.size=g.size->Blk g' b (ly p q r).toArray->K g'):
  XRunU Tp (zag 171 (.pointer (Tc ⟨b,0,Td⟩)) (.agg #[.int .i64 p,.int .i64 q,.int .i64 r])) g K:=by
 refine Qz (vs:=ly p q r) V2 B rfl OW (zaf 3) (λu c=>?_) λg' e i h=>f g' h i e;simp at c;rcases c with rfl|rfl|rfl <;> rfl
theorem qX{c:Nat}{a k t:Int}(n:Blk h c #[.int .i64 a])(m:∀h',Keep h.size h h'->K (.tuple #[.agg #[.int .i64 k,.int .i64 a,.int .i64 t],.int .i64 0]) h'):
  XC Tp 331 #[.int .i64 k,.int .i64 t,.pointer (Tc ⟨c,0,Td⟩)] h K:=by
 apply Sz;intro h1;have e:Keep h.size h h1:=Keep.push _ _ (zaf _);have f:Blk h1 h.size (ly 0 0 0).toArray:=Blk.new _ _ _;have b:Blk h1 c #[.int .i64 a]:=n.ofKeep e;refine⟨a,b.cell rfl,nD f λg' l p o=>⟨k,a,t,o.ld,m g' (e.trans ⟨by omega,λi hi=>l i (by omega)⟩ (zaf _))⟩⟩
theorem LS{x:Int×Int×Int}(h:Jl M [.pair (.int .i64) (.pair (.int .i64) (.int .i64)),.int .i64] (x,e) v):v=.tuple #[.agg #[.int .i64 x.1,.int .i64 x.2.1,.int .i64 x.2.2],.int .i64 e]:=by obtain⟨vs,⟨p,rest,rfl,b,o,rfl,k⟩,rfl⟩:=h;rw[jq k];unfold RdV at b;simp only[gO,if_true]at b;obtain⟨cs,rfl,n,c2,rfl,c,l,m,rfl,f,i⟩:=b;have c:n=[.int .i64 x.1]:=c;have f:l=[.int .i64 x.2.1]:=f;have i:m=[.int .i64 x.2.2]:=i;subst c f i;rfl
theorem AY{gl M:Fr}(f:Fr.le gl M)(ag:AgM M h)(i:∀h',Keep h.size h h'->K (.tuple #[.agg #[.int .i64 0,.int .i64 a,.int .i64 a],.int .i64 e]) h'):
  XC Tp 332 #[.int .i64 a,.int .i64 e] h K:=by
 refine(PC.px (gl:=gl) (args:=[Arg.mk (.int .i64) a,Arg.mk (.int .i64) e]) (rt:=[.pair (.int .i64) (.pair (.int .i64) (.int .i64)),.int .i64]) (R:=λr=>r=((0,(a,a)),e)) ?_ f ag (zi (a:=Arg.mk (.int .i64) _) (Yb _ _) (zi (a:=Arg.mk (.int .i64) _) (Yb _ _) zq))).go λv h' M' r L b c=>?_;apply XY;rfl;subst c;rw[LS b];exact i h' L.keep
theorem HS{l:Bs}(b:∀h',Keep h.size h h'->h'.size=h.size+1->Blk h' h.size #[.string (bl l)]->K (.func (.func 374) #[] #[.pointer (Tc ⟨h.size,0,Td⟩)]) h'):
  XC Tp 334 #[.string (bl l)] h K:=by
 apply zwa;intro h1;exact b h1 (Keep.push _ _ (zaf _)) (zau _) (Blk.new _ _ _)
def mR(s:Bs)(a:Nat):Value:=if(gP s a).2.2=0 then .tuple #[.agg #[.int .i64 (gP s a).1,.int .i64 (a:Int),.int .i64 ((gP s a).2.1:Int)],.int .i64 0]else .tuple #[.agg #[.int .i64 0,.int .i64 ((gP s a).2.1:Int),.int .i64 ((gP s a).2.1:Int)],.int .i64 (gP s a).2.2]
theorem qti{x:Bool×Bt×Int}(h:Jl M [.pair .bool (.pair .str (.int .i64)),.int .i64] (x,e) v):v=.tuple #[.agg #[.bool x.1,.string x.2.1,.int .i64 x.2.2],.int .i64 e]:=by obtain⟨vs,⟨p,rest,rfl,b,o,rfl,k⟩,rfl⟩:=h;rw[jq k];unfold RdV at b;simp only[gO,if_true]at b;obtain⟨cs,rfl,n,c2,rfl,c,l,m,rfl,f,i⟩:=b;have c:n=[.bool x.1]:=c;have f:l=[.string x.2.1]:=f;have i:m=[.int .i64 x.2.2]:=i;subst c f i;rfl
end
section
variable {gl:Fr} {s:Bs} {a t:Nat} {k:Int}
theorem Dw(l:Bs)(c:UInt8):decide (Lib.indexByte l c>=0)=Jj l c:=by unfold Jj;rw[za7,zA,zA];exact(Yl c l).2
theorem Tf:(zbk 256).all (λn=>(bif ((n:Int)==45)then Ta else(bif decide ((n:Int)>=48)then decide ((n:Int)<=57)else Tb))==Jj rA (zcj n))=Ta:=by kernel_rfl
theorem Nz(c:UInt8):(bif ((c.toNat:Int)==45)then Ta else(bif decide ((c.toNat:Int)>=48)then decide ((c.toNat:Int)<=57)else Tb))=Jj rA c:=by have:=zas.1 Tf c.toNat (zcd.2 c.toNat_lt);simp_all
theorem Sf{R:Int->Prop}(h:R (jG s)):PC Tp gl 336 [Arg.mk .str (bl s)] [.int .i64] R:=by apply O7;have e:∀l:Bs,((bl s:Bt).toList==((⟨l.toArray⟩:Bt):Bt).toList)=decide (s=l):=λl=>ke s l;have b:=e [116,114,117,101];have f:=e [102,97,108,115,101];have c:=e [110,117,108,108];rw[b,f,c];unfold jG at h;grind
theorem qcd{c:UInt8}{t:Bs}(h:s.drop a=c::t):gP s a=
  if c∈kU then(2+Lib.indexByte kU c,a+1,0)
  else if c∈nK then(1,a+dR (Jj nK) (s.drop a),0)
  else if c=34 then(if(wm s a).2.2=0 then(8,(wm s a).2.1,0)else(0,(wm s a).2.1,(wm s a).2.2))
  else if c∈rA then(if(zw ((s.drop a).take (dR (Jj iC) (s.drop a)))).2=0 then(9,a+dR (Jj iC) (s.drop a),0)else(0,a,(zw ((s.drop a).take (dR (Jj iC) (s.drop a)))).2))
  else if jG ((s.drop a).take (dR (Jj Q0) (s.drop a)))=0 then(0,a,2)else(jG ((s.drop a).take (dR (Jj Q0) (s.drop a))),a+dR (Jj Q0) (s.drop a),0):=by
 unfold gP;rw[h]
theorem p5(h:gP s a=(k,t,0)):mR s a=.tuple #[.agg #[.int .i64 k,.int .i64 (a:Int),.int .i64 (t:Int)],.int .i64 0]:=by unfold mR;rw[h];rfl
theorem uY{k e:Int}(h:gP s a=(k,t,e))(b:¬e=0):mR s a=.tuple #[.agg #[.int .i64 0,.int .i64 (t:Int),.int .i64 (t:Int)],.int .i64 e]:=by unfold mR;grind
set_option maxHeartbeats 2000000 in
theorem Nv{gl M:Fr}(hg:GL gl)(N:Fr.le gl M){h:zc}(ag:AgM M h)(hs:s.length<=65536)(ha:a<s.length){K:Value->zc->Prop}(hK:∀h',Keep h.size h h'->K (mR s a) h'):
  XC Tp 274 #[.string (bl s),.int .i64 (a:Int)] h K:=by
 have Y:s.drop a=s[a]::s.drop (a+1):=za9 ha;have ai:s.drop a≠[]:=by rw[Y];exact List.cons_ne_nil _ _
 have aj:(s.drop a).length=s.length-a:=zb2;have l:=qcd Y;generalize hc:s[a]=c at l Y;apply zzl;intro h1 q;have z1:h1.size=h.size+1:=zau _;have z2:q.size=h1.size+1:=zau _;have k1:Keep h.size h h1:=Keep.push _ _ (zaf _);have k2:Keep h1.size h1 q:=Keep.push _ _ (zaf _);have V:Keep h.size h q:=k1.trans k2 (by omega);have A:Blk q h.size #[.int .i64 (a:Int)]:=(Blk.new h #[.int .i64 (a:Int)] 3).ofKeep k2;have B1:Blk q h1.size (ly 0 0 0).toArray:=Blk.new _ _ _;clear_value h1 q;have y:AgM M q:=ag.keep V;have done:∀(k f t e:Int) (g:zc),Keep q.size q g->.tuple #[.agg #[.int .i64 k,.int .i64 f,.int .i64 t],.int .i64 e]=mR s a ->
   XRunU Tp (zag 171 (.pointer (Tc ⟨h1.size,0,Td⟩)) (.agg #[.int .i64 k,.int .i64 f,.int .i64 t])) g (λg'=>∃r1 r2 r3:Int,zd g' ⟨h1.size,0,Td⟩ 0 [.int .i64 r1,.int .i64 r2,.int .i64 r3]/\K (.tuple #[.agg #[.int .i64 r1,.int .i64 r2,.int .i64 r3],.int .i64 e]) g'):=by
  intro k f t e g C he;refine nD (B1.ofKeep C) λg' q1 q2 q3=>⟨k,f,t,q3.ld,?_⟩;rw[he];have hz:=C.size;exact hK g' ((V.trans C (by omega)).trans (c:=g') (m:=h.size) ⟨by omega,λi hi=>q1 i (by omega)⟩ (zaf _))
 have ex:(bl s).extract (a:Int).toNat (s.length:Int).toNat=bl (s.drop a):=oL (n:=(a:Int)) rfl;have b0:qj (bl (s.drop a)) (0:Int).toNat=(c.toNat:Int):=by rw[xt,Y];rfl
 rw[zu];refine⟨(a:Int),A.cell rfl,?_⟩;rw[ex,zu,b0];refine⟨⟨by omega,by omega,by omega⟩,⟨by omega,by omega⟩,?_⟩;have bs:(⟨#[123,125,91,93,44,58]⟩:Bt)=bl kU:=rfl;have bb:(⟨#[32,9,10,13]⟩:Bt)=bl nK:=rfl;have bn:(⟨#[45,43,46,48,49,50,51,52,53,54,55,56,57,101,69]⟩:Bt)=bl iC:=rfl;rw[bs,bb,bn];have E:∀n:Nat,n<=s.length->zaa .i64 ((a:Int)+(n:Int))=((a+n:Nat):Int):=λn B=>by grind [im]
 refine C4 ⟨_,rfl,?_⟩;rw[Dw];refine⟨λF=>?_,λF=>?_⟩
 ·have F:=zB F;rw[zb F]at l;have S:0<=Lib.indexByte kU c/\Lib.indexByte kU c<6:=by
   have:∀c∈kU,0<=Lib.indexByte kU c/\Lib.indexByte kU c<6:=by decide
   exact this c F
  refine⟨(a:Int),A.cell rfl,by kernel_rfl,?_⟩;refine qX A λg C=>⟨_,_,_,_,rfl,done _ _ _ _ g C ?_⟩;rw[p5 l,im (n:=2+Lib.indexByte kU c) (by omega),show zaa .i64 ((a:Int)+1)=((a+1:Nat):Int)from E 1 (by omega)]
 have F:=zC F;rw[za F]at l;refine C4 ⟨_,rfl,?_⟩;rw[Dw];have H:=λp=>ED p (s.drop a);refine⟨λI=>?_,λI=>?_⟩
 ·have I:=zB I;rw[zb I]at l;refine⟨(a:Int),A.cell rfl,HS λg C zg Bg=>⟨_,rfl,C.get h.size (by omega),?_⟩⟩;refine xG (lo:=g.size) (Ek Bg (by omega)) (by omega) λG b=>⟨_,rfl,?_,by kernel_rfl,?_⟩;rw[b.get h.size (by omega)];exact C.get h.size (by omega);have D:Keep q.size q G:=C.trans b (by omega);refine qX (A.ofKeep D) λZ ab=>⟨_,_,_,_,rfl,done _ _ _ _ Z (D.trans ab D.size) ?_⟩;have:=H (Jj nK);rw[p5 l,E _ (by omega)]
 have I:=zC I;rw[za I]at l;rw[show((c.toNat:Int)==34)=decide (c=34)from pY (n:=34) (by omega),Nz];refine⟨λhz=>?_,λhz=>⟨λO=>?_,λO=>?_⟩⟩
 ·have hz:=zB hz;rw[zb hz]at l;refine⟨(a:Int),A.cell rfl,?_⟩;refine((VY hg (t:=s) (a:=(a:Int)) (by omega) (R:=λr=>r=sV s (a:Int)) rfl).px N y (zi (a:=Arg.mk .str _) (rdStr _) (zi (a:=Arg.mk (.int .i64) _) (Yb _ _) zq))).go λv g M' r L U S=>?_;have he:sV s (a:Int)=(((wm s a).2.1:Int),(wm s a).2.2):=by unfold sV;rw[za (by omega),zao]
  rw[he]at S;subst S;rw[Fi U];refine⟨_,_,rfl,λo=>⟨by kernel_rfl,?_⟩,λo=>⟨by kernel_rfl,?_⟩⟩
  ·refine AY N (y.keep L.keep) λG b=>⟨_,_,_,_,rfl,done _ _ _ _ G (L.keep.trans b L.keep.size) ?_⟩;have B:¬(wm s a).2.2=0:=by simpa using o
   rw[za B]at l;rw[uY l B]
  ·refine qX (A.ofKeep L.keep) λG b=>⟨_,_,_,_,rfl,done _ _ _ _ G (L.keep.trans b L.keep.size) ?_⟩;have B:(wm s a).2.2=0:=by simpa using o
   rw[zb B]at l;rw[p5 l]
 ·have hz:=zC hz;have O:=zB O;rw[za hz,zb O]at l;refine⟨(a:Int),A.cell rfl,HS λg C zg Bg=>⟨_,rfl,C.get h.size (by omega),?_⟩⟩;have aa:=H (Jj iC);refine xG (lo:=g.size) (Ek Bg (by omega)) (by omega) λG b=>⟨_,rfl,?_,?_⟩;rw[b.get h.size (by omega)];exact C.get h.size (by omega);have D:Keep q.size q G:=C.trans b (by omega);rw[E _ (by omega)];have Q:(bl s).extract (a:Int).toNat ((a+dR (Jj iC) (s.drop a):Nat):Int).toNat=bl ((s.drop a).take (dR (Jj iC) (s.drop a))):=by rw[zao,zao,Ql,show a+dR (Jj iC) (s.drop a)-a=dR (Jj iC) (s.drop a)by omega]
  refine⟨(a:Int),(A.ofKeep D).cell rfl,⟨by omega,by omega,by omega⟩,?_⟩;rw[Q];refine((sN (gl:=gl) (s:=(s.drop a).take (dR (Jj iC) (s.drop a))) (by grind) (R:=λr=>r=(ix (zw ((s.drop a).take (dR (Jj iC) (s.drop a)))).1,(zw ((s.drop a).take (dR (Jj iC) (s.drop a)))).2)) rfl).px N (y.keep D) (zi (a:=Arg.mk .str _) (rdStr _) zq)).go λv Z M' r L U S=>?_;subst S;rw[qti U];generalize hq:(s.drop a).take (dR (Jj iC) (s.drop a))=w at l;refine⟨_,_,_,_,rfl,?_⟩;intro J;obtain⟨af,_,ae⟩:=wq (g:=J) rfl;have k4:Keep q.size q J:=(D.trans L.keep D.size).trans af (by have:=L.keep.size;have:=D.size;omega);clear_value J;refine Qz (vs:=[.bool (ix (zw w).1).1,.string (ix (zw w).1).2.1,.int .i64 (ix (zw w).1).2.2]) (by kernel_rfl) ae rfl (by kernel_rfl) (zaf 3) (λu hu=>?_) λah q1 q2 q3=>?_;simp at hu;rcases hu with rfl|rfl|rfl <;> rfl;have x:Keep q.size q ah:=k4.trans ⟨by omega,λi hi=>q3 i (by have:=L.keep.size;have:=D.size;omega)⟩ (zaf _);refine⟨λo=>⟨(a:Int),(A.ofKeep x).cell rfl,by kernel_rfl,?_⟩,λo=>⟨by kernel_rfl,?_⟩⟩
  ·refine AY N (y.keep x) λP z=>⟨_,_,_,_,rfl,done _ _ _ _ P (x.trans z x.size) ?_⟩;have B:¬(zw w).2=0:=by simpa using o
   rw[za B]at l;rw[uY l B]
  ·refine qX (A.ofKeep x) λP z=>⟨_,_,_,_,rfl,done _ _ _ _ P (x.trans z x.size) ?_⟩;have B:(zw w).2=0:=by simpa using o
   rw[zb B]at l;rw[p5 l]
 ·have hz:=zC hz;have O:=zC O;rw[za hz,za O]at l;have aa:=H (Jj Q0);refine xG (lo:=q.size) (zzz N y) (by omega) λG b=>⟨_,rfl,⟨by omega,by omega,by omega⟩,?_⟩;have Q:(bl (s.drop a)).extract (0:Int).toNat ((dR (Jj Q0) (s.drop a):Nat):Int).toNat=bl ((s.drop a).take (dR (Jj Q0) (s.drop a))):=by rw[zao,Ql];rfl
  rw[Q];refine((Sf (gl:=gl) (s:=(s.drop a).take (dR (Jj Q0) (s.drop a))) (R:=λr=>r=jG ((s.drop a).take (dR (Jj Q0) (s.drop a)))) rfl).px N (y.keep b) (zi (a:=Arg.mk .str _) (rdStr _) zq)).go λv Z M' r L U S=>?_;subst S;rw[lh U];generalize hq:(s.drop a).take (dR (Jj Q0) (s.drop a))=w at l;have x:Keep q.size q Z:=b.trans L.keep b.size;refine⟨_,rfl,λo=>⟨(a:Int),(A.ofKeep x).cell rfl,by kernel_rfl,?_⟩,λo=>⟨(a:Int),(A.ofKeep x).cell rfl,by kernel_rfl,?_⟩⟩
  ·refine qX (A.ofKeep x) λP z=>⟨_,_,_,_,rfl,done _ _ _ _ P (x.trans z x.size) ?_⟩;have B:¬jG w=0:=by simpa using o
   rw[za B]at l;rw[p5 l,E _ (by omega)]
  ·refine AY N (y.keep x) λP z=>⟨_,_,_,_,rfl,done _ _ _ _ P (x.trans z x.size) ?_⟩;have B:jG w=0:=by simpa using o
   rw[zb B]at l;rw[uY l (by decide)]
end
end Go.X
end
section
namespace Go.X
open Go Go.Code
section
variable {ro:Option Nat} {n:Nat} {P:Program} {f:FuncId} {args:Array Value} {w:World} {o:Oper} {a:Act} {e:aR} {h:zc}
abbrev rf(ro:Option Nat):Fence:={ Fence.wide with round:=ro }
def jC(K:Act->World->Prop):Exit->Act->World->Prop
 |.normal,a,w=>K a w
 |_,_,_=>False
theorem Jd{K:Act->World->Prop}:¬LetsOut (jC K):=λ⟨_,_,h⟩=>h
theorem Oy{R:Ending->World->Prop}(h:Calls P f args w R):CallsIn (rf ro) n P f args w R:=by have h1:CallsIn Fence.wide n P f args w R:=callsIn_wide.2 h;exact h1
theorem WK{row:String}{R:Value->World->Prop}(h:Rows P row args w R):RowsIn (rf ro) n P row args w R:=by have h1:RowsIn Fence.wide n P row args w R:=λc cs _=>let ⟨v,w',r,s⟩:=h c cs;⟨v,w',r,stepsIn_wide.2 s⟩;exact h1
def yw(o:Oper):Bool:=match o.op with
 |.defer _=>Tb
 |_=>Ta
theorem Nx(h:yw o=Ta):∀c,o.op≠.defer c:=by intro c e;unfold yw at h;grind
theorem JJ(c:yw o=Ta){K:Act->World->Prop}{Q:Exit->Act->World->Prop}(h:o.wp P a w K Q):o.wpIn (rf ro) n P a w K Q:=by
 refine⟨λ_ _=>trivial,?_⟩;rw[Oper.semAt_eq _ _ _ (Nx c)];unfold Oper.wp at h;generalize (execOp a.eval o).run P w=r at *;cases r with
 |ok x w'=>
  cases x with
  |enter f args=>exact⟨λb=>(by cases b),Oy h⟩
  |row row args=>exact⟨λb=>(by cases b),WK h⟩
  |value v=>exact h
  |skip=>exact h
  |defer d=>exact h
  |_=>exact h.elim
 |halt x w'=>cases x <;> first|exact h|exact h.elim
theorem pJ{ro:Option Nat}{n:Nat}{P:Program}{ops:Array Oper}{K:Act->World->Prop}{Q:Exit->Act->World->Prop}: ∀(l i:List Oper) (a:Act) (w:World),l.all yw=Ta->wpList P ops (jC K) l a w->(∀a w,K a w->wpListIn (rf ro) n P ops Q i a w)->wpListIn (rf ro) n P ops Q (l++i) a w
 |[],i,a,w,_,h,hK=>hK a w h
 |o::l,i,a,w,hd,h,hK=>by
  rw[zcx,zan]at hd;rw[zby];unfold wpListIn;unfold wpList at h;by_cases m:za8 o (yielded ops a.tmps)=Ta;rw[zb m]at h ⊢;rcases h with h|⟨_,h⟩;have h1:=JJ (ro:=ro) (n:=n) hd.1 h;have p:=Oper.wpIn_mono (λa w q=>pJ l i a w hd.2 q hK) h1;refine⟨p.1,?_⟩;have b:=p.2;revert b;generalize (o.semAt (rf ro).round a.eval).run P w=r;cases r with
  |ok x w'=>
   cases x with
   |enter f args=>exact λb=>⟨b.1,CallsIn.mono b.2 λe k c=>by cases e <;> first|exact c|exact c.elim|exact(Jd c).elim⟩
   |round l f tmps assign body=>exact λb=>⟨b.1,RoundIn.mono b.2 λe k c=>by cases e <;> first|exact c|exact c.elim|exact(Jd c).elim⟩
   |_=>exact λb=>b
  |halt x w'=>cases x <;> first|exact λb=>b|exact λb=>b.elim
  exact(Jd h).elim;rw[za m]at h ⊢;exact⟨λ_ _=>trivial,pJ l i _ _ hd.2 h hK⟩
theorem te{ro:Option Nat}{n:Nat}{P:Program}{md:Region.Mode}{ops:Array Oper}{K:Act->World->Prop}(c:∀(i:Nat) (o:Oper),ops[i]?=Tc o->yw o=Ta):∀(fuel:Nat) (listed:Array Bool) (a:Act) (w:World),wpAny P md ops (jC K) fuel listed a w->wpAnyIn (rf ro) n P md ops (jC K) fuel listed a w
 |0,_,_,_,h=>h
 |fuel+1,listed,a,w,h=>by refine⟨h.1,λi hi=>?_⟩;have b:=h.2 i hi;unfold wpOp at b;unfold wpOpIn;split at b;rename_i e;rw[e];exact te c fuel _ _ _ b;rename_i o e;rw[e];simp only;by_cases f:za8 o (yielded ops a.tmps)=Ta;rw[zb f]at b ⊢;rcases b with b|⟨_,b⟩;exact Oper.wpIn_mono (λa w k=>te c fuel _ a w k) (JJ (c i o e) b);exact(Jd b).elim;rw[za f]at b ⊢;exact⟨λ_ _=>trivial,te c fuel _ _ _ b⟩
def Q7(D:List Deferred)(a:Act):Act:={ a with defers:=a.defers++D }
theorem Kk{D:List Deferred}{K:Act->World->Prop}{R:Act->World->Prop}(h:o.wp P a w K (jC R)):o.wp P (Q7 D a) w (λk w1=>∃a0,k=Q7 D a0/\K a0 w1) (jC λk w1=>∃a0,k=Q7 D a0/\R a0 w1):=by
 unfold Oper.wp at h ⊢;have b:(Q7 D a).eval=a.eval:=rfl;rw[b];have c:∀d v,(Q7 D a).put d v=Q7 D (a.put d v):=λd v=>by cases d <;> rfl
 generalize (execOp a.eval o).run P w=r at *;cases r with
 |ok x w'=>
  cases x with
  |enter f args=>exact Calls.mono h λe i b=>by cases e with
    |returned v=>grind
    |panicked ch=>exact b
    |outgrown=>exact(Jd b).elim
  |row row args=>exact Rows.mono h λv i b=>⟨_,c _ _,b⟩
  |value v=>exact⟨_,c _ _,h⟩
  |skip=>exact⟨_,c _ _,h⟩
  |defer d=>exact⟨(Act.put { a with defers:=d::a.defers } o.dst undef),(by cases o.dst <;> rfl),(show K (Act.put { a with defers:=d::a.defers } o.dst undef) w' from h)⟩
  |_=>exact h.elim
 |halt x w'=>cases x <;> first|exact h|exact h.elim
theorem rq{P:Program}{md:Region.Mode}{ops:Array Oper}{D:List Deferred}{K:Act->World->Prop}:∀(fuel:Nat) (listed:Array Bool) (a:Act) (w:World),wpAny P md ops (jC K) fuel listed a w->wpAny P md ops (jC λf w1=>∃a0,f=Q7 D a0/\K a0 w1) fuel listed (Q7 D a) w
 |0,_,a,_,h=>⟨h.1,a,rfl,h.2⟩
 |fuel+1,listed,a,w,h=>by
  refine⟨λm=>⟨a,rfl,h.1 m⟩,λi hi=>?_⟩;have b:=h.2 i hi;unfold wpOp at b ⊢;have l:yielded ops (Q7 D a).tmps=yielded ops a.tmps:=rfl;split at b;exact rq fuel _ _ _ b;rename_i o p;rw[l];by_cases c:za8 o (yielded ops a.tmps)=Ta;rw[zb c]at b ⊢;rcases b with b|⟨_,b⟩;exact .inl (Oper.wp_mono (λf w1 ⟨a0,e,n⟩=>by rw[e];exact rq fuel _ a0 w1 n) (Kk b));exact(Jd b).elim;rw[za c]at b ⊢;have k:(Q7 D a).put o.dst undef=Q7 D (a.put o.dst undef):=by cases o.dst <;> rfl
  rw[k];exact rq fuel _ _ _ b
def YX(P:Program)(l:Nat)(args:Array Value)(h:zc)(K:Value->zc->Prop):Prop:=
 ∀(m:Nat) (B:World) (d:Nat),∃fn tmps assign body,(Instr.yield l args).run P (mk B d h)=.ok (.round l fn tmps assign body) (mk B d h) /\
  RoundIn (rf Td) m P l fn tmps assign body (mk B d h) λe w'=>∃v b h',e=.returned v/\w'=mk B b h'/\K v h'
def XB(o:Oper):Bool:=match o.op with
 |.call c=>match c.callee with
  |.value x=>!(sI x)
  |_=>Tb
 |_=>Tb
def vd:List Oper->Option (List Oper×Oper×List Oper)
 |[]=>Td
 |o::l=>bif XB o then Tc ([],o,l)else match vd l with
  |some (pre,o',post)=>Tc (o::pre,o',post)
  |none=>Td
theorem RN{l:List Oper}:∀{pre b:List Oper} {o:Oper},vd l=Tc (pre,o,b)->l=pre++o::b:=by
 induction l with
 |nil=>intro pre b o h;cases h
 |cons x l c=>intro pre b o h;rw[vd]at h;grind
def vZ(P:Program)(o:Oper)(e:aR)(h:zc)(K:Value->zc->Prop):Prop:=match o.op with
 |.call c=>match c.callee with
  |.value x=>match Wl e [] x with
   |some (.func (.yield l) A C)=>bif (bif (Nat.beq A.size 0)then(Nat.beq C.size 0)else Tb)then(bif known e [] c.args.toList then YX P l (c.args.map (iP e [])) h λv h'=>typed P o.type v λb=>K b h' else False)else False
   |_=>False
  |_=>False
 |_=>False
theorem Sd{n m:Nat}{K:Value->zc->Prop}(H:vZ P o e h K)(i:Sat n e a)(B:World)(d:Nat){next:Act->World->Prop}{Q:Exit->Act->World->Prop}
  (D:∀v u h',K v h'->next (a.put o.dst v) (mk B u h')):o.wpIn (rf Td) m P a (mk B d h) next Q:=by
 unfold vZ at H;split at H;rename_i c k;split at H;rename_i x f;split at H;rename_i l A C r;obtain⟨hA,p,H⟩:A=#[]/\C=#[]/\(bif known e [] c.args.toList then YX P l (c.args.map (iP e [])) h λv h'=>typed P o.type v λq=>K q h' else False):=by simp_all
 subst hA;subst p;cases hk:known e [] c.args.toList with
 |false=>simp_all
 |true=>
  rw[hk]at H;simp only[zH]at H;obtain⟨fn,tmps,assign,body,h1,t⟩:=H (m-1) B d;have z:a.eval x=.func (.yield l) #[] #[]:=qz i (c:=[]) trivial r;have b:c.args.map a.eval=c.args.map (iP e []):=by apply Array.map_congr_left;intro y s;exact Yx i (c:=[]) trivial hk y (by simpa using s)
  have w:(o.semAt (rf Td).round a.eval).run P (mk B d h)=.ok (.round l fn tmps assign body) (mk B d h):=by show(execOp a.eval o).run P (mk B d h)=_;simp only[execOp,k,resolve,f,z,zdt,Sem.run_bind,Sem.run_pure,Result.andThen_ok,invoke];rw[b];simpa using h1
  refine⟨λ_ _=>trivial,?_⟩;rw[w];refine⟨λf=>(by cases f),t.mono ?_⟩;grind [Zw]
 simp_all;simp_all;simp_all
def AD(P:Program)(n:Nat)(f:List (Nat×Nat))(id:Nat)(ops:Array Oper)(b:Bool)(K:aR->zc->Prop)(e:aR)(h:zc):Prop:=
 match vd ops.toList with
 |none=>regionF P n f id ops b K e h
 |some (pre,o,post)=>bif b then False else bif (pre.all yw&&post.all yw)then(match o.guard with
  |none=>bif jf n [] o.dst then wR P n ops (λc h1=>vZ P o c h1 λv i=>wR P n ops K post (putO c o.dst [] v) i) pre e h else False
  |some _=>False)else False
theorem QF(S:P.follows .mixedOrders=Ta){G:List (Nat×Nat)}{id:Nat}{ops:Array Oper}{c:Bool}{K:aR->zc->Prop} (H:AD P n G id ops c K e h) (m:Nat) (B:World) (d:Nat) (E:Sat n e a) {Q:Exit->Act->World->Prop}
  (D:∀e' a' k h',Sat n e' a'->Same (j4 ops.toList) a a'->K e' h'->Q .normal a' (mk B k h')):(zc8 id ops c).wpIn (rf Td) m P Q a (mk B d h):=by
 unfold AD at H;split at H;exact wpIn_wide.2 (KJ S H B d E D);rename_i pre o b y;have p:=RN y;cases c with
 |true=>grind
 |false=>
  simp only[zI]at H;cases hnd:(pre.all yw&&b.all yw)with
  |false=>simp_all
  |true=>
   rw[hnd]at H;simp only[zH]at H;rw[zan]at hnd;split at H;rename_i J;cases hd:jf n [] o.dst with
   |false=>simp_all
   |true=>
    rw[hd]at H;simp only[zH]at H;refine wpIn_region_list ?_;have q:∀x∈j4 pre,x∈j4 ops.toList:=λx N=>by rw[p,Qh];simp_all
    have r:∀i,o.dst=Tc i->i∈j4 ops.toList:=λi hi=>by rw[p,Qh];exact za4 _ (by simp[j4,hi])
    have A:∀x∈j4 b,x∈j4 ops.toList:=λx N=>by rw[p,Qh];refine za4 _ ?_;unfold j4;grind
    rw[p];refine pJ (K:=λf w1=>∃l u h1,w1=mk B u h1/\Sat n l f/\Same (j4 ops.toList) a f/\vZ P o l h1 λv C=>wR P n ops K b (putO l o.dst [] v) C) pre (o::b) a _ hnd.1 (Xl B pre e h a d H E λe' a' k h' t z L=>⟨e',k,h',rfl,t,z.mono q,L⟩) ?_;rintro f w1 ⟨l,u,h1,rfl,s1,M,t⟩;unfold wpListIn;have s:za8 o (yielded ops f.tmps)=Ta:=by simp[za8,J]
    rw[zb s];refine Sd t s1 B u λv V C z=>?_;have s2:Sat n (putO l o.dst [] v) (f.put o.dst v):=s1.putO hd (λ_=>rfl) (λU=>absurd trivial U);rw[<-zbj b];refine pJ (K:=λa' w'=>Q .normal a' w') b [] _ _ hnd.2 (Xl B b _ _ _ _ z s2 λe' a' k h' I O F=>?_) λa w h=>h;exact D e' a' k h' I ((M.trans (Same.put f o.dst v r)).trans (O.mono A)) F
   simp_all
def WI(P:Program)(n:Nat)(pl:Plan):Code->Wp->aR->zc->Prop
 |.skip,Q,e,h=>Q .normal e h
 |.ret,Q,e,h=>Q .ret e h
 |.exit id,Q,e,h=>Q (.exit id) e h
 |.label _,Q,e,h=>Q .normal e h
 |.goto l,Q,e,h=>Q (.goto l) e h
 |.region id ops draw,Q,e,h=>AD P n pl.tails id ops draw (λe h=>Q .normal e h) e h
 |.seq x y,Q,e,h=>match sx pl.joins (jz y)with
  |none=>WI P n pl x (ma (λe h=>WI P n pl y Q e h) Q) e h
  |some J=>wY J (λe h=>WI P n pl y Q e h) (λK=>WI P n pl x (ma K Q) e h) (Jk (Zd x) e)
 |.cond c x y,Q,e,h=>match Wl e [] c with
  |some (.bool b)=>(b=Ta->WI P n pl x Q e h)/\(b=Tb->WI P n pl y Q e h)
  |_=>False
 |.block id x,Q,e,h=>WI P n pl x (mc id Q) e h
 |.loop x,Q,e,h=>match sx pl.loops (jz x)with
  |some J=>BW J (λf e h=>WI P n pl x (ma f Q) e h) (Jk (Zd x) e) e h
  |none=>False
 |_,_,_,_=>False
theorem QY(hm:P.follows .mixedOrders=Ta){pl:Plan}:∀(c:Code) (Q:Wp) (e:aR) (h:zc),WI P n pl c Q e h ->
  ∀(m:Nat) (B:World) (d:Nat) (a:Act),Sat n e a->c.wpIn (rf Td) m P (F2 n B (Zd c) a Q) a (mk B d h):=by
 intro c;induction c with
 |skip=>exact λQ e h H m B d a f=>wpIn_skip ⟨e,d,h,rfl,f,Same.refl _ _,H⟩
 |ret=>exact λQ e h H m B d a f=>wpIn_ret ⟨e,d,h,rfl,f,Same.refl _ _,H⟩
 |exit id=>exact λQ e h H m B d a f=>wpIn_exit ⟨e,d,h,rfl,f,Same.refl _ _,H⟩
 |label l=>exact λQ e h H m B d a f=>wpIn_label ⟨e,d,h,rfl,f,Same.refl _ _,H⟩
 |goto l=>exact λQ e h H m B d a f=>wpIn_goto ⟨e,d,h,rfl,f,Same.refl _ _,H⟩
 |region id ops ar=>exact λQ e h H m B d a f=>QF hm H m B d f λe' a' d' h' r t q3=>⟨e',d',h',rfl,r,t,q3⟩
 |seq x y E G=>
  intro Q e h H m B d a f;simp only[WI]at H;have N:∀i∈Zd x,i∈Zd (x.seq y):=λi hi=>zap _ hi;have V:∀i∈Zd y,i∈Zd (x.seq y):=λi hi=>za4 _ hi;split at H;refine wpIn_seq (wpIn_mono (E _ _ _ H m B d a f) ?_);rintro ex k w1 ⟨D,s,h1,rfl,s1,A,r⟩;cases ex with
  |normal=>refine wpIn_mono (G _ _ _ r m B s k s1) ?_;rintro ex a2 w2 ⟨u,w,z,rfl,s2,C,t⟩;exact⟨u,w,z,rfl,s2,(A.mono N).trans (C.mono V),t⟩
  |_=>exact⟨D,s,h1,rfl,s1,A.mono N,r⟩
  rename_i J hJ;have H':=H (nm (wb J) λvs=>λh=>WI P n pl y Q (Qs J vs++Jk (Zd x) e) h) (tT λvs h O=>O);refine wpIn_seq (wpIn_mono (E _ _ _ H' m B d a f) ?_);rintro ex k w1 ⟨D,s,h1,rfl,s1,A,r⟩;cases ex with
  |normal=>obtain⟨vs,q,U,O,hk⟩:=Xq r;have ae:=uR O;subst ae;have Y:Sat n (Qs J vs++Jk (Zd x) e) k:=Wo f s1.defers s1.size A (yr s1 U);refine wpIn_mono (G _ _ _ hk m B s k Y) ?_;rintro ex a2 w2 ⟨u,w,z,rfl,s2,C,t⟩;exact⟨u,w,z,rfl,s2,(A.mono N).trans (C.mono V),t⟩
  |_=>exact⟨D,s,h1,rfl,s1,A.mono N,r⟩
 |cond c x y E G=>intro Q e h H m B d a f;simp only[WI]at H;have N:∀i∈Zd x,i∈Zd (zeq c x y):=λi hi=>zap _ hi;have V:∀i∈Zd y,i∈Zd (zeq c x y):=λi hi=>za4 _ hi;split at H;rename_i b L;refine wpIn_cond_split (qz f (c:=[]) trivial L) (λZ=>?_) (λai=>?_);refine wpIn_mono (E _ _ _ (H.1 Z) m B d a f) ?_;rintro ex a2 w2 ⟨u,w,z,rfl,s2,C,t⟩;exact⟨u,w,z,rfl,s2,C.mono N,t⟩;refine wpIn_mono (G _ _ _ (H.2 ai) m B d a f) ?_;rintro ex a2 w2 ⟨u,w,z,rfl,s2,C,t⟩;exact⟨u,w,z,rfl,s2,C.mono V,t⟩;exact H.elim
 |block id x ih=>
  intro Q e h H m B d a f;refine wpIn_block (wpIn_mono (ih _ _ _ H m B d a f) ?_);rintro ex k w1 ⟨D,s,h1,rfl,s1,A,r⟩;cases ex with
  |exit i=>simp only[mc]at r;simp only[Exit.inBlock];by_cases L:Nat.beq i id=Ta;rw[zb (zak L)];simp only[L,zH]at r;exact⟨D,s,h1,rfl,s1,A,r⟩;rw[za (λhe=>L (by rw[he];simp))];simp only[L,zI]at r;exact⟨D,s,h1,rfl,s1,A,r⟩
  |_=>exact⟨D,s,h1,rfl,s1,A,r⟩
 |loop x ih=>
  intro Q e h H m B d a f;simp only[WI]at H;split at H;rename_i J hJ;obtain⟨I,μ,h0,M⟩:=H;obtain⟨ah,p0,an,ap,am⟩:=Xq h0;let F:=nB (wb J) I μ;let at_:Act->Option ((zc->Prop)×(zc->Nat)):=λk=>(iN (λi=>Tc (qa k i)) J).bind λvs=>iB (wb J) vs F;refine wpIn_loop (λk w1=>∃s h1 vs p,w1=mk B s h1/\k.defers=[]/\k.tmps.size=n/\Same (Zd x) a k/\iN (λi=>Tc (qa k i)) J=Tc vs/\iB (wb J) vs F=Tc p/\p.1 h1) (λk w1=>match at_ k with|some p=>p.2 w1.heap|none=>0) ⟨d,h,ah,p0,rfl,f.defers,f.size,Same.refl _ _,yr f an,ap,am⟩ ?_;rintro k w1 ⟨s,h1,vs,p,rfl,aa,ak,o,U,hp,hI⟩;have s1:Sat n (Qs J vs++Jk (Zd x) e) k:=Wo f aa ak o U;have L:=vO hp M h1 hI;refine wpIn_mono (ih _ _ _ L m B s k s1) ?_;rintro ex a2 w2 ⟨u,w,z,rfl,s2,C,t⟩;cases ex with
  |normal=>
   obtain⟨af,q,S,O,ab,aj⟩:=Xq t;refine⟨⟨w,z,af,q,rfl,s2.defers,s2.size,o.trans C,yr s2 S,O,ab⟩,?_⟩;have D:at_ k=Tc p:=by simp only[at_,U,zcy];exact hp
   have u:at_ a2=Tc q:=by simp only[at_,yr s2 S,zcy];exact O
   rw[D,u];exact aj
  |_=>exact⟨u,w,z,rfl,s2,o.trans C,t⟩
  exact H.elim
 |_=>exact λQ e h H=>H.elim
def kd(P:Program)(f:FuncId)(args:Array Value)(h:zc)(R:Value->zc->Prop):Prop:=
 ∀(m:Nat) (B:World) (d:Nat),CallsIn (rf Td) m P f args (mk B d h) λe w'=>∃v b h',e=.returned v/\w'=mk B b h'/\R v h'
theorem yY(t:P.follows .mixedOrders=Ta)(pl:Plan)(vs:List Value){fn:Func}{rs:List ResultVar}(q:P.funcs[f]?=Tc fn)(c:Y0 fn=Ta)(p:fn.results.toList=rs)(s:fn.ntmps=n)
  (hz:Nat.ble vs.length n=Ta) {R:Value->zc->Prop} (H:WI P n pl (codeOf fn) (vG P rs R) (jO 0 vs) h):kd P f vs.toArray h R:=by
 have l:fn.body=Tc (codeOf fn):=by unfold Y0 at c;unfold codeOf;split at c;omega;cases c
 intro m B d;subst s;refine callsIn_of_wp q l trivial ?_ rfl;have x:vs.length<=fn.ntmps:=zbz hz;have r:Sat fn.ntmps (jO 0 vs) { tmps:=vs.toArray++zbr (fn.ntmps-vs.toArray.size) undef,defers:=[] }:=by
  refine⟨rfl,by simp;omega,?_⟩;refine Wq vs.toArray _ vs 0 λj v u=>?_;have k:j<vs.length:=by rcases zbf j vs.length with h|h;exact h;simp_all
  simp only[za5,zbp];rw[zcu (by simpa using k)];simp[u]
 refine wpIn_mono (QY t (codeOf fn) _ _ _ H m B d _ r) ?_;rintro ex a w ⟨z,b,h1,rfl,s1,y,i⟩;cases ex with
 |normal=>obtain⟨v,o,e⟩:=Qi s1 p i;exact⟨s1.defers,v,e B b,v,b,h1,rfl,rfl,o⟩
 |ret=>obtain⟨v,o,e⟩:=Qi s1 p i;exact⟨s1.defers,v,e B b,v,b,h1,rfl,rfl,o⟩
 |_=>exact i.elim
end
end Go.X
end
section
namespace Go.X
section
variable {P:Program} {n m id:Nat} {ro:Option Nat} {e:aR} {h:zc} {a:Act}
theorem BS{P:Program}{ops:Array Oper}{D:List Deferred}{K:Act->World->Prop}:∀(l:List Oper) (a:Act) (w:World),wpList P ops (jC K) l a w->wpList P ops (jC λc w1=>∃a0,c=Q7 D a0/\K a0 w1) l (Q7 D a) w
 |[],a,w,h=>⟨a,rfl,h⟩
 |o::l,a,w,h=>by
  unfold wpList at h ⊢;have k:yielded ops (Q7 D a).tmps=yielded ops a.tmps:=rfl;rw[k];by_cases b:za8 o (yielded ops a.tmps)=Ta;rw[zb b]at h ⊢;rcases h with h|⟨_,h⟩;exact .inl (Oper.wp_mono (λc w1 ⟨a0,e,i⟩=>by rw[e];exact BS l a0 w1 i) (Kk h));exact(Jd h).elim;rw[za b]at h ⊢;have f:(Q7 D a).put o.dst undef=Q7 D (a.put o.dst undef):=by cases o.dst <;> rfl
  rw[f];exact BS l _ w h
def sG(P:Program)(n:Nat)(ops:Array Oper)(b:Bool)(K:aR->zc->Prop)(e:aR)(h:zc):Prop:=
 bif ops.toList.all yw then(bif b then oz P n 0 ops h (λe h=>K (clean e) h) e else wR P n ops K ops.toList e h)else False
theorem BJ(t:P.follows .mixedOrders=Ta){D:List Deferred}{ops:Array Oper}{c:Bool}{K:aR->zc->Prop}(H:sG P n ops c K e h)(B:World)(d:Nat)(q:Sat n e a){Q:Exit->Act->World->Prop}
  (s:∀e' a' b h',Sat n e' a'->Same (j4 ops.toList) a a'->K e' h'->Q .normal (Q7 D a') (mk B b h')):(zc8 id ops c).wpIn (rf ro) m P Q (Q7 D a) (mk B d h):=by
 unfold sG at H;cases hd:ops.toList.all yw with
 |false=>simp_all
 |true=>
  rw[hd,zH]at H;have fin:∀f w1,(∃a0,f=Q7 D a0/\∃e' b h',w1=mk B b h'/\Sat n e' a0/\Same (j4 ops.toList) a a0/\K e' h')->Q .normal f w1:=by rintro f w1 ⟨a0,rfl,e',b,h',rfl,k,p,l⟩;exact s e' a0 b h' k p l
  cases c with
  |false=>refine wpIn_region_list ?_;rw[<-zbj ops.toList];exact pJ _ [] _ _ hd (BS (K:=λa0 w1=>∃e' b h',w1=mk B b h'/\Sat n e' a0/\Same (j4 ops.toList) a a0/\K e' h') _ _ _ (Xl B _ _ _ _ _ H q λe' a' b h' k p l=>⟨e',b,h',rfl,k,p,l⟩)) fin
  |true=>
   rw[zH]at H;have h0:wpAny P .any ops (jC λa0 w1=>∃e' b h',w1=mk B b h'/\Sat n e' a0/\Same (j4 ops.toList) a a0/\K e' h') ops.size (zbr ops.size Tb) a (mk B (d+1) h):= Dn B rfl H q (λe' a' b h' k p l=>⟨clean e',b,h',rfl,k.clean,p,l⟩) (d+1);refine wpIn_mono (wpIn_region_any (Q:=jC λf w1=>∃a0,f=Q7 D a0/\∃e' b h',w1=mk B b h'/\Sat n e' a0/\Same (j4 ops.toList) a a0/\K e' h') t (te (λi o u=>?_) _ _ _ _ (rq _ _ _ _ h0))) λx a' w' r=>?_;grind;cases x with
   |normal=>exact fin _ _ r
   |_=>exact r.elim
def WG(P:Program)(n:Nat):Code->Wp->aR->zc->Prop
 |.skip,Q,e,h=>Q .normal e h
 |.ret,Q,e,h=>Q .ret e h
 |.exit id,Q,e,h=>Q (.exit id) e h
 |.region _ ops draw,Q,e,h=>sG P n ops draw (λe h=>Q .normal e h) e h
 |.seq x y,Q,e,h=>WG P n x (ma (λe h=>WG P n y Q e h) Q) e h
 |.cond c x y,Q,e,h=>match Wl e [] c with
  |some (.bool b)=>(b=Ta->WG P n x Q e h)/\(b=Tb->WG P n y Q e h)
  |_=>False
 |.block id x,Q,e,h=>WG P n x (mc id Q) e h
 |_,_,_,_=>False
def BC(n:Nat)(B:World)(D:List Deferred)(Q:Wp):Exit->Act->World->Prop:=
 λx a w=>∃e d h a0,a=Q7 D a0/\w=mk B d h/\Sat n e a0/\Q x e h
theorem SV{B:World}{D:List Deferred}{Q:Wp}:∀ex a w,BC n B D (mc id Q) ex a w->Exit.inBlock id (BC n B D Q) ex a w:=by
 rintro ex a1 w1 ⟨e,f,h1,a0,rfl,rfl,s1,b⟩;cases ex with
 |exit i=>simp only[mc]at b;simp only[Exit.inBlock];by_cases c:Nat.beq i id=Ta;rw[zb (zak c)];simp only[c,zH]at b;exact⟨e,f,h1,a0,rfl,rfl,s1,b⟩;rw[za (λh=>c (by rw[h];simp))];simp only[c,zI]at b;exact⟨e,f,h1,a0,rfl,rfl,s1,b⟩
 |_=>exact⟨e,f,h1,a0,rfl,rfl,s1,b⟩
theorem Ic(u:P.follows .mixedOrders=Ta){D:List Deferred}:∀(c:Code) (Q:Wp) (e:aR) (h:zc),WG P n c Q e h ->
  ∀(B:World) (d:Nat) (a:Act),Sat n e a->c.wpIn (rf ro) m P (BC n B D Q) (Q7 D a) (mk B d h):=by
 intro c;induction c with
 |skip=>exact λQ e h H B d a f=>wpIn_skip ⟨e,d,h,a,rfl,rfl,f,H⟩
 |ret=>exact λQ e h H B d a f=>wpIn_ret ⟨e,d,h,a,rfl,rfl,f,H⟩
 |exit id=>exact λQ e h H B d a f=>wpIn_exit ⟨e,d,h,a,rfl,rfl,f,H⟩
 |region id ops r=>exact λQ e h H B d a f=>BJ u H B d f λe' a' t h' l _ C=>⟨e',t,h',a',rfl,rfl,l,C⟩
 |seq x y k i=>
  intro Q e h H B d a f;refine wpIn_seq (wpIn_mono (k _ _ _ H B d a f) ?_);rintro ex a1 w1 ⟨w,q,h1,a0,rfl,rfl,s1,l⟩;cases ex with
  |normal=>exact i _ _ _ l B q a0 s1
  |_=>exact⟨w,q,h1,a0,rfl,rfl,s1,l⟩
 |cond c x y k i=>intro Q e h H B d a f;simp only[WG]at H;split at H;rename_i b s;have A:(Q7 D a).eval c=.bool b:=qz f (c:=[]) trivial s;exact wpIn_cond_split A (λp=>k _ _ _ (H.1 p) B d a f) (λo=>i _ _ _ (H.2 o) B d a f);exact H.elim
 |block id x z=>intro Q e h H B d a f;exact wpIn_block (wpIn_mono (z _ _ _ H B d a f) SV)
 |_=>exact λQ e h H=>H.elim
def WL(P:Program)(n:Nat)(pl:List (Nat×ic)):Code->Wp->aR->zc->Prop
 |.skip,Q,e,h=>Q .normal e h
 |.ret,Q,e,h=>Q .ret e h
 |.exit id,Q,e,h=>Q (.exit id) e h
 |.region _ ops draw,Q,e,h=>sG P n ops draw (λe h=>Q .normal e h) e h
 |.seq x y,Q,e,h=>WL P n pl x (ma (λe h=>WL P n pl y Q e h) Q) e h
 |.cond c x y,Q,e,h=>match Wl e [] c with
  |some (.bool b)=>(b=Ta->WL P n pl x Q e h)/\(b=Tb->WL P n pl y Q e h)
  |_=>False
 |.block id x,Q,e,h=>WL P n pl x (mc id Q) e h
 |.loop x,Q,e,h=>match sx pl (jz x)with
  |some J=>BW J (λf e h=>WL P n pl x (ma f Q) e h) (Jk (Zd x) e) e h
  |none=>False
 |_,_,_,_=>False
def Vz(n:Nat)(B:World)(D:List Deferred)(ms:List Nat)(b:Act)(Q:Wp):Exit->Act->World->Prop:=
 λx a w=>∃e d h a0,a=Q7 D a0/\w=mk B d h/\Sat n e a0/\Same ms b a0/\Q x e h
theorem SO(hm:P.follows .mixedOrders=Ta){D:List Deferred}{pl:List (Nat×ic)}:∀(c:Code) (Q:Wp) (e:aR) (h:zc),WL P n pl c Q e h ->
  ∀(B:World) (d:Nat) (a:Act),Sat n e a->c.wpIn (rf ro) m P (Vz n B D (Zd c) a Q) (Q7 D a) (mk B d h):=by
 intro c;induction c with
 |skip=>exact λQ e h H B d a f=>wpIn_skip ⟨e,d,h,a,rfl,rfl,f,Same.refl _ _,H⟩
 |ret=>exact λQ e h H B d a f=>wpIn_ret ⟨e,d,h,a,rfl,rfl,f,Same.refl _ _,H⟩
 |exit id=>exact λQ e h H B d a f=>wpIn_exit ⟨e,d,h,a,rfl,rfl,f,Same.refl _ _,H⟩
 |region id ops ak=>exact λQ e h H B d a f=>BJ hm H B d f λe' a' d' h' l r q3=>⟨e',d',h',a',rfl,rfl,l,r,q3⟩
 |seq x y G L=>
  intro Q e h H B d a f;have S:∀i∈Zd x,i∈Zd (.seq x y):=λi hi=>zaz.2 (.inl hi);have hy:∀i∈Zd y,i∈Zd (.seq x y):=λi hi=>zaz.2 (.inr hi);refine wpIn_seq (wpIn_mono (G _ _ _ H B d a f) ?_);rintro ex o w1 ⟨E,s,h1,a0,rfl,rfl,s1,N,l⟩;cases ex with
  |normal=>refine wpIn_mono (L _ _ _ l B s a0 s1) ?_;rintro ex a2 w2 ⟨t,w,z,u,rfl,rfl,s2,C,r⟩;exact⟨t,w,z,u,rfl,rfl,s2,(N.mono S).trans (C.mono hy),r⟩
  |_=>exact⟨E,s,h1,a0,rfl,rfl,s1,N.mono S,l⟩
 |cond c x y G L=>intro Q e h H B d a f;have S:∀i∈Zd x,i∈Zd (.cond c x y):=λi hi=>zaz.2 (.inl hi);have hy:∀i∈Zd y,i∈Zd (.cond c x y):=λi hi=>zaz.2 (.inr hi);simp only[WL]at H;split at H;rename_i b A;have hc:(Q7 D a).eval c=.bool b:=qz f (c:=[]) trivial A;exact wpIn_cond_split hc (λU=>wpIn_mono (G _ _ _ (H.1 U) B d a f) λex a2 w2 ⟨t,w,z,u,r1,r2,s2,C,r⟩=>⟨t,w,z,u,r1,r2,s2,C.mono S,r⟩) (λab=>wpIn_mono (L _ _ _ (H.2 ab) B d a f) λex a2 w2 ⟨t,w,z,u,r1,r2,s2,C,r⟩=>⟨t,w,z,u,r1,r2,s2,C.mono hy,r⟩);exact H.elim
 |block id x ih=>
  intro Q e h H B d a f;refine wpIn_block (wpIn_mono (ih _ _ _ H B d a f) ?_);rintro ex o w1 ⟨E,s,h1,a0,rfl,rfl,s1,N,l⟩;cases ex with
  |exit i=>simp only[mc]at l;simp only[Exit.inBlock];by_cases A:Nat.beq i id=Ta;rw[zb (zak A)];simp only[A,zH]at l;exact⟨E,s,h1,a0,rfl,rfl,s1,N,l⟩;rw[za (λhe=>A (by rw[he];simp))];simp only[A,zI]at l;exact⟨E,s,h1,a0,rfl,rfl,s1,N,l⟩
  |_=>exact⟨E,s,h1,a0,rfl,rfl,s1,N,l⟩
 |loop x ih=>
  intro Q e h H B d a f;simp only[WL]at H;split at H;rename_i J hJ;obtain⟨I,μ,h0,M⟩:=H;obtain⟨aa,p0,ai,aj,ah⟩:=Xq h0;let F:=nB (wb J) I μ;let at_:Act->Option ((zc->Prop)×(zc->Nat)):=λo=>(iN (λi=>Tc (qa o i)) J).bind λvs=>iB (wb J) vs F;refine wpIn_loop (λo w1=>∃s h1 vs p a0,o=Q7 D a0/\w1=mk B s h1/\a0.defers=[]/\a0.tmps.size=n/\Same (Zd x) a a0/\iN (λi=>Tc (qa a0 i)) J=Tc vs/\iB (wb J) vs F=Tc p/\p.1 h1) (λo w1=>match at_ o with|some p=>p.2 w1.heap|none=>0) ⟨d,h,aa,p0,a,rfl,rfl,f.defers,f.size,Same.refl _ _,yr f ai,aj,ah⟩ ?_;rintro o w1 ⟨s,h1,vs,p,a0,rfl,rfl,V,af,k,hv,hp,hI⟩;have s1:Sat n (Qs J vs++Jk (Zd x) e) a0:=Wo f V af k hv;have A:=vO hp M h1 hI;refine wpIn_mono (ih _ _ _ A B s a0 s1) ?_;rintro ex a2 w2 ⟨t,w,z,u,rfl,rfl,s2,C,r⟩;have va:∀(o:Act),(λi=>Tc (qa (Q7 D o) i))=λi=>Tc (qa o i):=λ_=>rfl;cases ex with
  |normal=>
   obtain⟨Z,q,O,hq,Y,ae⟩:=Xq r;refine⟨⟨w,z,Z,q,u,rfl,rfl,s2.defers,s2.size,k.trans C,yr s2 O,hq,Y⟩,?_⟩;have E:at_ (Q7 D a0)=Tc p:=by simp only[at_,va,hv,zcy];exact hp
   have t:at_ (Q7 D u)=Tc q:=by simp only[at_,va,yr s2 O,zcy];exact hq
   rw[E,t];exact ae
  |_=>exact⟨t,w,z,u,rfl,rfl,s2,k.trans C,r⟩
  exact H.elim
 |_=>exact λQ e h H=>H.elim
abbrev iI:=LoopState->Option Code->Loop
def Vl(rec:iI)(l:Nat)(K:Value->zc->Prop):Wp
 |.normal,_,h=>h[l]?=Tc (.loop (rec .busy Td))/\K (.bool Ta) (h.setIfInBounds l (.loop (rec .ready Td)))
 |.ret,_,h=>h[l]?=Tc (.loop (rec .busy Td))/\K (.bool Tb) (h.setIfInBounds l (.loop (rec .done (Tc .ret))))
 |_,_,_=>False
def lq(P:Program)(n:Nat)(b bd:Code)(rec:iI)(l:Nat)(K:Value->zc->Prop)(e:aR)(h:zc):Prop:=
 WG P n b (λx c h1=>match x with
  |.normal=>h1[l]?=Tc (.loop (rec .ready Td))/\WG P n bd (Vl rec l K) c (h1.setIfInBounds l (.loop (rec .busy Td)))
  |_=>False) e h
theorem KZ(a:Act):Q7 [] a=a:=by unfold Q7;simp
def xV:aR->List Nat->List Value->aR
 |e,p::ps,v::vs=>xV (putO e (Tc p) [] v) ps vs
 |e,_,_=>e
def p7:Array Value->List Nat->List Value->Array Value
 |t,p::ps,v::vs=>p7 (t.setIfInBounds p v) ps vs
 |t,_,_=>t
theorem GF:∀(ps:List Nat) (vs:List Value) (t:Array Value),(ps.zip vs).foldl (λ(t:Array Value) (x:Tmp×Value)=>t.setIfInBounds x.1 x.2) t=p7 t ps vs
 |[],_,_=>rfl
 |_::_,[],_=>rfl
 |p::ps,v::vs,t=>GF ps vs (t.setIfInBounds p v)
theorem DO{n:Nat}:∀(ps:List Nat) (vs:List Value) (e:aR) (a:Act),(∀p∈ps,jf n [] (Tc p)=Ta)->Sat n e a->Sat n (xV e ps vs) { tmps:=p7 a.tmps ps vs,defers:=[] }
 |[],vs,e,a,_,hs=>by have:=hs.defers;cases a;simp only at this;subst this;exact hs
 |p::ps,[],e,a,_,hs=>by have:=hs.defers;cases a;simp only at this;subst this;exact hs
 |p::ps,v::vs,e,a,h,hs=>DO ps vs _ (a.put (Tc p) v) (λq b=>h q (zal _ b)) (hs.putO (h p zaq) (λ_=>rfl) (λc=>absurd trivial c))
theorem Km(G:P.follows .mixedOrders=Ta){n l:Nat}{ps:List Nat}{f bd:Code}{fn:FuncId}{D:Nat}(z:∀p∈ps,jf n [] (Tc p)=Ta) {rec:iI} (b:rec=λst O=>{ state:=st,pending:=O,fn:=fn,tmps:=a.tmps,params:=ps.toArray,assign:=f,body:=bd,defers:=D }) {vs:List Value} (Z:ps.length=vs.length) (S:Sat n e a) (L:h[l]?=Tc (.loop (rec .ready Td))) {K:Value->zc->Prop}
  (H:lq P n f bd rec l K (xV e ps vs) h):YX P l vs.toArray h K:=by
 intro m B d;have y:(mk B d h).heap[l]?=Tc (.loop (rec .ready Td)):=L;have E:=run_yield (P:=P) (w:=mk B d h) (args:=vs.toArray) y (by simp_all);refine⟨_,_,_,_,E,?_⟩;rw[b]at E ⊢;have s2:=DO ps vs e a z S;have key:RoundIn (rf Td) m P l fn (p7 a.tmps ps vs) f bd (mk B d h) (λe w'=>∃v M h',e=.returned v/\w'=mk B M h'/\K v h'):=by
  refine roundIn_of_wpIn (F:=rf Td) trivial ?_;have Q:(rf Td).inRound l=rf (Tc l):=rfl;rw[Q,<-KZ { tmps:=p7 a.tmps ps vs,defers:=[] }];refine wpIn_mono (Ic G f _ _ _ H B d _ s2) ?_;rintro ex a1 w1 ⟨Y,C,h1,a0,rfl,rfl,s1,A⟩;cases ex with
  |normal=>
   obtain⟨J,N⟩:=A;have s:(mk B C h1).heap[l]?=Tc (.loop (rec .ready Td)):=J;have I:=run_beginRound (P:=P) s (by rw[b]);refine⟨_,I,?_⟩;have k:({ rec .ready Td with state:=.busy }:Loop)=rec .busy Td:=by rw[b]
   rw[k];refine wpIn_mono (Ic G bd _ _ _ N B C a0 s1) ?_;rintro ex a2 w2 ⟨U,q,r,a3,rfl,rfl,V,t⟩;cases ex with
   |normal=>
    obtain⟨x,u⟩:=t;have i:(mk B q r).heap[l]?=Tc (.loop (rec .busy Td)):=x;have c:=run_endRound (P:=P) Td i;refine⟨_,_,c,.bool Ta,q,r.setIfInBounds l (.loop (rec .ready Td)),rfl,?_,u⟩;have o:({ rec .busy Td with state:=if(Td:Option Code).isNone then .ready else .done,pending:=Td }:Loop)=rec .ready Td:=by rw[b];rfl
    rw[o];rfl
   |ret=>
    obtain⟨x,u⟩:=t;have i:(mk B q r).heap[l]?=Tc (.loop (rec .busy Td)):=x;have c:=run_endRound (P:=P) (Tc .ret) i;refine⟨_,_,c,.bool Tb,q,r.setIfInBounds l (.loop (rec .done (Tc .ret))),rfl,?_,u⟩;have o:({ rec .busy Td with state:=if(Tc Code.ret:Option Code).isNone then .ready else .done,pending:=Tc .ret }:Loop)=rec .done (Tc .ret):=by rw[b];rfl
    rw[o];rfl
   |_=>exact t.elim
  |_=>exact A.elim
 simp_all[GF]
def lc:Code->Code
 |.rangeFunc _ _ x _=>x
 |.seq x y=>match lc x with
  |.skip=>lc y
  |c=>c
 |.block _ x=>lc x
 |_=>.skip
def kO:Code->Code
 |.rangeFunc _ _ _ y=>y
 |.seq x y=>match kO x with
  |.skip=>kO y
  |c=>c
 |.block _ x=>kO x
 |_=>.skip
def marks(c:List Nat):List Deferred:=c.map λb=>{ target:=.collected b,args:=#[] }
abbrev kT:=Exit->List Nat->aR->zc->Prop
def Uj(K:List Nat->aR->zc->Prop)(Q:kT):kT
 |.normal,ds,e,h=>K ds e h
 |x,ds,e,h=>Q x ds e h
def KL(id:Nat)(Q:kT):kT
 |.exit i,ds,e,h=>bif Nat.beq i id then Q .normal ds e h else Q (.exit i) ds e h
 |x,ds,e,h=>Q x ds e h
def rK(rec:iI)(l:Nat)(N R:zc->Prop)(h:zc):Prop:=
 (h[l]?=Tc (.loop (rec .ready Td))/\N (h.setIfInBounds l (.loop (rec .exhausted Td))))\/(h[l]?=Tc (.loop (rec .done (Tc .ret)))/\R (h.setIfInBounds l (.loop (rec .exhausted (Tc .ret)))))
def KG(P:Program)(n:Nat)(i k:Nat)(f bd:Code)(v:Value)(Q:kT)(o:List Nat)(e:aR)(h:zc):Prop:=
 bif jf n [] (Tc i)&&jf n [] (Tc k)then(∃g lb,v=.func (.func g) #[] lb/\zo P g=Ta/\∀rec:iI,
  (∀{m l:Value} {b:zc} {K:Value->zc->Prop},b[h.size+1]?=Tc (.loop (rec .ready Td))->lq P n f bd rec (h.size+1) K (putO (putO e (Tc i) [] m) (Tc k) [] l) b->YX P (h.size+1) #[m,l] b K) ->
  kd P g (#[.func (.yield (h.size+1)) #[] #[]]++lb) ((h.push (.deferred (Tc []))).push (.loop (rec .ready Td))) λ_ p=>rK rec (h.size+1) (λc=>Q .normal (h.size::o) e c) (λc=>Q .ret (h.size::o) e c) p)else False
def Do(P:Program)(n:Nat)(i:Nat)(f bd:Code)(v:Value)(Q:kT)(l:List Nat)(e:aR)(h:zc):Prop:=
 bif jf n [] (Tc i)then(∃g lb,v=.func (.func g) #[] lb/\zo P g=Ta/\∀rec:iI,
  (∀{k:Value} {b:zc} {K:Value->zc->Prop},b[h.size+1]?=Tc (.loop (rec .ready Td))->lq P n f bd rec (h.size+1) K (putO e (Tc i) [] k) b->YX P (h.size+1) #[k] b K) ->
  kd P g (#[.func (.yield (h.size+1)) #[] #[]]++lb) ((h.push (.deferred (Tc []))).push (.loop (rec .ready Td))) λ_ m=>rK rec (h.size+1) (λc=>Q .normal (h.size::l) e c) (λc=>Q .ret (h.size::l) e c) m)else False
def ou(e:aR):Nat->Nat->aR
 |0,_=>[]
 |f+1,i=>match jt e i with
  |some v=>(i,[],v)::ou e f (i+1)
  |none=>ou e f (i+1)
theorem y4{e:aR}:∀{f i:Nat} {x:Nat×qk×Value},x∈ou e f i->x.2.1=[]/\jt e x.1=Tc x.2.2
 |0,_,_,h=>nomatch h
 |f+1,i,x,h=>by unfold ou at h;split at h;rename_i v b;rcases zah.1 h with rfl|h;simp_all;exact y4 h;exact y4 h
theorem uO(h:Sat n e a)(f i:Nat):Sat n (ou e f i) a:=⟨h.defers,h.size,λx l=>by obtain⟨k,c,v⟩:=x;obtain⟨h1,b⟩:=y4 l;have h1:c=[]:=h1;subst h1;exact⟨λ_=>jv h b,λm=>absurd trivial m⟩⟩
def WD(P:Program)(n:Nat)(pl:List (Nat×ic)):Code->kT->List Nat->aR->zc->Prop
 |.skip,Q,f,e,h=>Q .normal f e h
 |.ret,Q,f,e,h=>Q .ret f e h
 |.exit id,Q,f,e,h=>Q (.exit id) f e h
 |.region _ ops draw,Q,f,e,h=>sG P n ops draw (λe h=>Q .normal f e h) e h
 |.seq x y,Q,f,e,h=>WD P n pl x (Uj (λf e h=>WD P n pl y Q f e h) Q) f e h
 |.cond c x y,Q,f,e,h=>match Wl e [] c with
  |some (.bool b)=>(b=Ta->WD P n pl x Q f e h)/\(b=Tb->WD P n pl y Q f e h)
  |_=>False
 |.block id x,Q,f,e,h=>WD P n pl x (KL id Q) f e h
 |.rangeFunc g ps asg bd,Q,f,e,h=>match Wl e [] g,ps.toList with
  |some v,[p1,p2]=>KG P n p1 p2 asg bd v Q f (ou e n 0) h
  |some v,[p1]=>Do P n p1 asg bd v Q f (ou e n 0) h
  |_,_=>False
 |.loop x,Q,f,e,h=>WL P n pl (.loop x) (λex e h=>Q ex f e h) e h
 |_,_,_,_,_=>False
def Ip(n:Nat)(B:World)(Q:kT):Exit->Act->World->Prop:=
 λx a w=>∃b e d h a0,a=Q7 (marks b) a0/\w=mk B d h/\Sat n e a0/\Q x b e h
theorem EU(w:1<=m){ps:Array Nat}{i bd:Code}{o:FuncId}{lb:Array Value}(C:zo P o=Ta){g:Operand}{Q:kT}{k:List Nat}(y:Sat n e a)(H:(Q7 (marks k) a).eval g=.func (.func o) #[] lb) (D:∀fn (rec:iI),rec=(λst t=>{ state:=st,pending:=t,fn:=fn,tmps:=a.tmps,params:=ps,assign:=i,body:=bd,defers:=h.size }) -> kd P o (#[.func (.yield (h.size+1)) #[] #[]]++lb) ((h.push (.deferred (Tc []))).push (.loop (rec .ready Td))) λ_ r=>rK rec (h.size+1) (λz=>Q .normal (h.size::k) e z) (λz=>Q .ret (h.size::k) e z) r)
  (B:World) (d:Nat):(Code.rangeFunc g ps i bd).wpIn (rf Td) m P (Ip n B Q) (Q7 (marks k) a) (mk B d h):=by
 refine wpIn_rangeFunc λp _=>?_;obtain⟨rec,b⟩:∃rec:iI,rec=λst t=>{ state:=st,pending:=t,fn:=p,tmps:=a.tmps,params:=ps,assign:=i,body:=bd,defers:=h.size }:=⟨_,rfl⟩;have u:=D p rec b;refine⟨h.size+1,[{ target:=.collected h.size,args:=#[] }],mk B d ((h.push (.deferred (Tc []))).push (.loop (rec .ready Td))),{ target:=.fn (.func o) lb,args:=#[.func (.yield (h.size+1)) #[] #[]] },mk B d ((h.push (.deferred (Tc []))).push (.loop (rec .ready Td))),o,#[.func (.yield (h.size+1)) #[] #[]]++lb,mk B d ((h.push (.deferred (Tc []))).push (.loop (rec .ready Td))),?_,?_,λ_ _=>trivial,?_,λ_=>w,?_⟩;rw[b];exact run_enterLoop_outer _ _ _ _ _;simp only[resolve,H];simp[go_sem,zdt];simp only[invoke];exact Jw C _ _;have F:({ Q7 (marks k) a with defers:=[{ target:=.collected h.size,args:=#[] }]++(Q7 (marks k) a).defers }:Act)=Q7 (marks (h.size::k)) a:=by unfold Q7 marks;simp only[y.defers];rfl
 rw[F];refine CallsIn.mono (u (m-1) B d) ?_;rintro e' w' ⟨v,s,r,rfl,rfl,l⟩;rcases l with⟨f,G⟩|⟨f,E⟩;have c:(mk B s r).heap[h.size+1]?=Tc (.loop (rec .ready Td)):=f;have q:=run_endLoop (P:=P) c (by simp_all);have A:({ rec .ready Td with state:=.exhausted }:Loop)=rec .exhausted Td:=by rw[b]
 have x:(rec .ready Td).pending=Td:=by rw[b]
 rw[A,x]at q;exact⟨Td,_,q,_,e,s,_,a,rfl,rfl,y,G⟩;have c:(mk B s r).heap[h.size+1]?=Tc (.loop (rec .done (Tc .ret))):=f;have q:=run_endLoop (P:=P) c (by simp_all);have A:({ rec .done (Tc .ret)with state:=.exhausted }:Loop)=rec .exhausted (Tc .ret):=by rw[b]
 have x:(rec .done (Tc .ret)).pending=Tc .ret:=by rw[b]
 rw[A,x]at q;exact⟨Tc .ret,_,q,wpIn_ret ⟨_,e,s,_,a,rfl,rfl,y,E⟩⟩
theorem Ov(E:P.follows .mixedOrders=Ta)(D:1<=m){pl:List (Nat×ic)}:∀(c:Code) (Q:kT) (k:List Nat) (e:aR) (h:zc),WD P n pl c Q k e h ->
  ∀(B:World) (d:Nat) (a:Act),Sat n e a->c.wpIn (rf Td) m P (Ip n B Q) (Q7 (marks k) a) (mk B d h):=by
 intro c;induction c with
 |skip=>exact λQ k e h H B d a f=>wpIn_skip ⟨k,e,d,h,a,rfl,rfl,f,H⟩
 |ret=>exact λQ k e h H B d a f=>wpIn_ret ⟨k,e,d,h,a,rfl,rfl,f,H⟩
 |exit id=>exact λQ k e h H B d a f=>wpIn_exit ⟨k,e,d,h,a,rfl,rfl,f,H⟩
 |region id ops S=>exact λQ k e h H B d a f=>BJ E H B d f λe' a' d' h' l _ q2=>⟨k,e',d',h',a',rfl,rfl,l,q2⟩
 |seq x y A t=>
  intro Q k e h H B d a f;refine wpIn_seq (wpIn_mono (A _ _ _ _ H B d a f) ?_);rintro ex a1 w1 ⟨p,z,r,h1,a0,rfl,rfl,s1,l⟩;cases ex with
  |normal=>exact t _ _ _ _ l B r a0 s1
  |_=>exact⟨p,z,r,h1,a0,rfl,rfl,s1,l⟩
 |cond c x y A t=>intro Q k e h H B d a f;simp only[WD]at H;split at H;rename_i b C;have Z:(Q7 (marks k) a).eval c=.bool b:=qz f (c:=[]) trivial C;exact wpIn_cond_split Z (λL=>A _ _ _ _ (H.1 L) B d a f) (λF=>t _ _ _ _ (H.2 F) B d a f);exact H.elim
 |block id x ih=>
  intro Q k e h H B d a f;refine wpIn_block (wpIn_mono (ih _ _ _ _ H B d a f) ?_);rintro ex a1 w1 ⟨p,z,r,h1,a0,rfl,rfl,s1,l⟩;cases ex with
  |exit i=>simp only[KL]at l;simp only[Exit.inBlock];by_cases C:Nat.beq i id=Ta;rw[zb (zak C)];simp only[C,zH]at l;exact⟨p,z,r,h1,a0,rfl,rfl,s1,l⟩;rw[za (λhe=>C (by rw[he];simp))];simp only[C,zI]at l;exact⟨p,z,r,h1,a0,rfl,rfl,s1,l⟩
  |_=>exact⟨p,z,r,h1,a0,rfl,rfl,s1,l⟩
 |rangeFunc g ps V bd Y aa=>
  intro Q k e h H B d a f;simp only[WD]at H;split at H;rename_i v u G O w;have o:ps=#[u,G]:=by rw[<-Array.toList_inj];exact w
  subst o;unfold KG at H;cases hok:(jf n [] (Tc u)&&jf n [] (Tc G))with
  |false=>simp_all
  |true=>rw[hok]at H;rw[zan]at hok;obtain⟨gf,lb,rfl,I,M⟩:=H;exact EU D I (uO f n 0) (qz f (c:=[]) trivial O) (λfn rec q=>M rec (λ {J v2 U K} N s=>Km E (ps:=[u,G]) (vs:=[J,v2]) (by simp_all) q rfl (uO f n 0) N s)) B d
  rename_i v u O w;have o:ps=#[u]:=by rw[<-Array.toList_inj];exact w
  subst o;unfold Do at H;cases hok:jf n [] (Tc u)with
  |false=>simp_all
  |true=>rw[hok]at H;obtain⟨gf,lb,rfl,I,M⟩:=H;exact EU D I (uO f n 0) (qz f (c:=[]) trivial O) (λfn rec q=>M rec (λ {J U K} N s=>Km E (ps:=[u]) (vs:=[J]) (by simp_all) q rfl (uO f n 0) N s)) B d
  exact H.elim
 |loop x _=>intro Q k e h H B d a f;refine wpIn_mono (SO E (.loop x) _ _ _ H B d a f) ?_;rintro ex a1 w1 ⟨z,r,h1,a0,rfl,rfl,s1,_,l⟩;exact⟨k,z,r,h1,a0,rfl,rfl,s1,l⟩
 |_=>exact λQ k e h H=>H.elim
def takeD:List Nat->(zc->Prop)->zc->Prop
 |[],K,h=>K h
 |b::ds,K,h=>h[b]?=Tc (.deferred (Tc []))/\takeD ds K (h.setIfInBounds b (.deferred Td))
def ZD(P:Program)(rs:List ResultVar)(R:Value->zc->Prop):kT
 |.normal,ds,e,h=>takeD ds (λh'=>jV P h' e rs λvs=>R (jM vs) h') h
 |.ret,ds,e,h=>takeD ds (λh'=>jV P h' e rs λvs=>R (jM vs) h') h
 |_,_,_,_=>False
theorem Cp{P:Program}{fn:Func}{n:Nat}{rs:List ResultVar}(i:fn.results.toList=rs){e:aR}{a:Act}(k:Sat n e a){B:World}{R:Value->zc->Prop}{D:Nat}:∀(c:List Nat) (d:Nat) (h:zc),takeD c (λh'=>jV P h' e rs λvs=>R (jM vs) h') h ->
  LeavesInM Fence.wide D P fn a.tmps (λe w'=>∃v l h',e=.returned v/\w'=mk B l h'/\R v h') (marks c) .returning (mk B d h)
 |[],d,h,H=>by obtain⟨v,o,m⟩:=Qi k i H;exact⟨v,m B d,v,d,h,rfl,rfl,o⟩
 |b::c,d,h,⟨h1,H⟩=>by have f:(mk B d h).heap[b]?=Tc (.deferred (Tc [])):=h1;exact⟨by simp,.inl ⟨_,_,rfl,run_takeDeferred (P:=P) f,Cp i k c d _ H⟩⟩
theorem GQ(x:P.follows .mixedOrders=Ta)(vs:List Value){f:FuncId}{fn:Func}{rs:List ResultVar}(s:P.funcs[f]?=Tc fn)(c:Y0 fn=Ta)(q:fn.results.toList=rs)(u:fn.ntmps=n)(hz:Nat.ble vs.length n=Ta){R:Value->zc->Prop}{F:Prop}(H:F)(pl:List (Nat×ic):=[])(r:F=WD P n pl (codeOf fn) (ZD P rs R) [] (jO 0 vs) h):XC P f vs.toArray h R:=by
 have k:fn.body=Tc (codeOf fn):=by unfold Y0 at c;unfold codeOf;split at c;omega;cases c
 intro B d;refine callsIn_wide.1 (callsIn_of_wp_marks (F:=Fence.wide) (n:=1) s k trivial ?_ rfl);subst u;have z:vs.length<=fn.ntmps:=zbz hz;have t:Sat fn.ntmps (jO 0 vs) { tmps:=vs.toArray++zbr (fn.ntmps-vs.toArray.size) undef,defers:=[] }:=by
  refine⟨rfl,by simp;omega,?_⟩;refine Wq vs.toArray _ vs 0 λj v y=>?_;have i:j<vs.length:=by rcases zbf j vs.length with h|h;exact h;simp_all
  simp only[za5,zbp];rw[zcu (by simpa using i)];simp[y]
 have:=Ov x (m:=1) (by omega) (codeOf fn) _ [] _ _ (r ▸ H) B d _ t;rw[show marks []=[]from rfl,KZ]at this;refine wpIn_mono this ?_;rintro ex a w ⟨b,A,p,h1,a0,rfl,rfl,s1,e⟩;have l:(Q7 (marks b) a0).defers=marks b:=by unfold Q7;rw[s1.defers];rfl
 have o:(Q7 (marks b) a0).tmps=a0.tmps:=rfl;cases ex with
 |normal=>show LeavesInM _ _ _ _ _ _ _ _ _;rw[l,o];exact Cp q s1 b p h1 e
 |ret=>show LeavesInM _ _ _ _ _ _ _ _ _;rw[l,o];exact Cp q s1 b p h1 e
 |_=>exact e.elim
end
section
theorem XS(c:Nat)(F:Addr)(h:zc)(R:Value->zc->Prop) (H:∃x:Bt,zf h F=Tc (.string x)/\((decide ((((x).size:Int):Int)>65536))=Ta->YX Tp c #[.agg #[.int .i64 0,.int .i64 0,.int .i64 0],.int .i64 3] h (λI G=>∃z:Bool,I=.bool z/\R (.tuple #[]) G))/\((decide ((((x).size:Int):Int)>65536))=Tb->∃(A:Int->zc->Prop) (E:Int->zc->Nat),A 0 h/\∀e:Int,∀w:zc,A e w->(∃k:Bt,zf w F=Tc (.string k)/\((decide ((e:Int)<((k).size:Int)))=Ta->∃s:Bt,zf w F=Tc (.string s)/\XC Tp 274 #[.string s,.int .i64 e] w (λD l=>∃m:Int,∃t:Int,∃r:Int,∃b:Int,D=.tuple #[.agg #[.int .i64 m,.int .i64 t,.int .i64 r],.int .i64 b]/\let B:zc:=zb4 l (.cells #[.int .i64 0,.int .i64 0,.int .i64 0] 171);XRunU Tp (zag 171 (.pointer (Tc ⟨zax l,0,Td⟩)) (.agg #[.int .i64 m,.int .i64 t,.int .i64 r])) B (λy=>∃p:Int,∃o:Int,∃u:Int,zd y ⟨zax l,0,Td⟩ 0 [.int .i64 p,.int .i64 o,.int .i64 u]/\YX Tp c #[.agg #[.int .i64 p,.int .i64 o,.int .i64 u],.int .i64 b] y (λC q=>∃f:Bool,C=.bool f/\((bif (!f)then Ta else((b:Int) != 0))=Ta->R (.tuple #[]) q)/\((bif (!f)then Ta else((b:Int) != 0))=Tb->∃i:Int,zf q (zae (zae ⟨zax l,0,Td⟩ 1) 1)=Tc (.int .i64 i)/\(A i q/\E i q<E e w))))))/\((decide ((e:Int)<((k).size:Int)))=Tb->R (.tuple #[]) w)))):
  kd Tp 273 #[.func (.yield c) #[] #[],.pointer (Tc F)] h R:=
 yY Tryz.mixed ⟨[],[(3,[(3,.one (.int .i64))])],[]⟩ [.func (.yield c) #[] #[],.pointer (Tc F)] (rs:=[]) (n:=34) Tryz.func273 (by kernel_rfl) (by kernel_rfl) (by kernel_rfl) (by kernel_rfl) (Eq.mp (by kernel_rfl) H)
theorem Sx(C:Bt)(h:zc)(R:Value->zc->Prop) (H:let q:zc:=zb4 h (.cells #[.slice Td 0 0] 162);let p:zc:=zb4 q (.cells #[.int .i64 0] 3);let A:zc:=zb4 p (.cells #[.int .i64 0] 30);let G:zc:=zb4 A (.cells #[.slice Td 0 0] 162);XC Tp 209 #[.string C] G (λI c=>∃o:Value,I=o/\∃(r:FuncId) (m:Array Value),o=.func (.func r) #[] m/\zo Tp r=Ta/\∀k:iI,(∀{x u:Value} {B:zc} {y:Value->zc->Prop},B[(zax c+1)]?=Tc (.loop (k .ready Td))->lq Tp 25 (lc (codeOf Tryz.f145)) (kO (codeOf Tryz.f145)) k (zax c+1) y (putO (putO [(0,[],.string C),(2,[],.pointer (Tc ⟨zax h,0,Td⟩)),(3,[],.pointer (Tc ⟨zax q,0,Td⟩)),(4,[],.pointer (Tc ⟨zax p,0,Td⟩)),(5,[],.pointer (Tc ⟨zax A,0,Td⟩)),(8,[],.string C),(9,[],o)] (Tc 10) [] x) (Tc 11) [] u) B->YX Tp (zax c+1) #[x,u] B y)->kd Tp r (#[.func (.yield (zax c+1)) #[] #[]]++m) (zb4 (zb4 c (.deferred (Tc []))) (.loop (k .ready Td))) λ_ F=>rK k (zax c+1) (λe=>∃b:Sl,zf e ⟨zax A,0,Td⟩=Tc (.slice b.a b.len b.cap)/\XRunU Tp (zag 162 (.pointer (Tc ⟨zax h,0,Td⟩)) (.slice b.a b.len b.cap)) e (λD=>XRunU Tp (zag 3 (.pointer (Tc ⟨zax q,0,Td⟩)) (.int .i64 ((C).size:Int))) D (λE=>XRunU Tp (zag 30 (.pointer (Tc ⟨zax p,0,Td⟩)) (.int .i64 0)) E (λl=>(l)[zax c]?=Tc (.deferred (Tc []))/\∃i:Sl,zf (Array.setIfInBounds l (zax c) (.deferred Td)) ⟨zax h,0,Td⟩=Tc (.slice i.a i.len i.cap)/\∃z:Int,zf (Array.setIfInBounds l (zax c) (.deferred Td)) ⟨zax q,0,Td⟩=Tc (.int .i64 z)/\∃s:Int,zf (Array.setIfInBounds l (zax c) (.deferred Td)) ⟨zax p,0,Td⟩=Tc (.int .i64 s)/\R (.tuple #[.slice i.a i.len i.cap,.int .i64 z,.int .i64 s]) (Array.setIfInBounds l (zax c) (.deferred Td)))))) (λe=>(e)[zax c]?=Tc (.deferred (Tc []))/\∃f:Sl,zf (Array.setIfInBounds e (zax c) (.deferred Td)) ⟨zax h,0,Td⟩=Tc (.slice f.a f.len f.cap)/\∃w:Int,zf (Array.setIfInBounds e (zax c) (.deferred Td)) ⟨zax q,0,Td⟩=Tc (.int .i64 w)/\∃t:Int,zf (Array.setIfInBounds e (zax c) (.deferred Td)) ⟨zax p,0,Td⟩=Tc (.int .i64 t)/\R (.tuple #[.slice f.a f.len f.cap,.int .i64 w,.int .i64 t]) (Array.setIfInBounds e (zax c) (.deferred Td))) F)):
  XC Tp 145 #[.string C] h R:=
 GQ Tryz.mixed [.string C] (rs:=[.cell 2 162,.cell 3 3,.cell 4 30]) (n:=25) Tryz.func145 (by kernel_rfl) (by kernel_rfl) (by kernel_rfl) (by kernel_rfl) H (pl:=[]) (by kernel_rfl)
theorem Hn(x0:Value)(E:Addr)(D:Addr)(C:Addr)(B:Addr)(x8:Value)(x9:Value)(n:Int)(o:Int)(p:Int)(q:Int)(rec:iI)(l:Nat)(K:Value->zc->Prop)(h:zc) (H:let w:zc:=zb4 h (.cells #[.int .i64 0,.int .i64 0,.int .i64 0] 171);XRunU Tp (zag 171 (.pointer (Tc ⟨zax h,0,Td⟩)) (.agg #[.int .i64 n,.int .i64 o,.int .i64 p])) w (λr=>(r)[l]?=Tc (.loop (rec .ready Td))/\let e:zc:=Array.setIfInBounds r l (.loop (rec .busy Td));(((q:Int) != 0)=Ta->∃f:Int,zf e (zae (zae ⟨zax h,0,Td⟩ 1) 0)=Tc (.int .i64 f)/\XRunU Tp (zag 162 (.pointer (Tc E)) (.slice Td 0 0)) e (λt=>(t)[((zae (zae ⟨zax h,0,Td⟩ 1) 0):Addr).block]?=(e)[((zae (zae ⟨zax h,0,Td⟩ 1) 0):Addr).block]?/\XRunU Tp (zag 3 (.pointer (Tc D)) (.int .i64 f)) t (λA=>XRunU Tp (zag 30 (.pointer (Tc C)) (.int .i64 q)) A (λu=>(u)[l]?=Tc (.loop (rec .busy Td))/\K (.bool Tb) (Array.setIfInBounds u l (.loop (rec .done (Tc .ret))))))))/\(((q:Int) != 0)=Tb->∃c:Sl,zf e B=Tc (.slice c.a c.len c.cap)/\∃m:Int,∃k:Int,∃i:Int,zd e ⟨zax h,0,Td⟩ 0 [.int .i64 m,.int .i64 k,.int .i64 i]/\let y:zc:=zb4 e (.cells #[.int .i64 m,.int .i64 k,.int .i64 i] 171);Qa Tp (zav #[162,162] 162 #[.slice c.a c.len c.cap,.slice (Tc ⟨zax e,0,Td⟩) 1 1]) y (λx z=>∃b:Sl,x=.slice b.a b.len b.cap/\XRunU Tp (zag 162 (.pointer (Tc B)) (.slice b.a b.len b.cap)) z (λs=>(s)[l]?=Tc (.loop (rec .busy Td))/\K (.bool Ta) (Array.setIfInBounds s l (.loop (rec .ready Td)))))))):
  lq Tp 25 (lc (codeOf Tryz.f145)) (kO (codeOf Tryz.f145)) rec l K [(11,[],.int .i64 q),(10,[],.agg #[.int .i64 n,.int .i64 o,.int .i64 p]),(0,[],x0),(2,[],.pointer (Tc E)),(3,[],.pointer (Tc D)),(4,[],.pointer (Tc C)),(5,[],.pointer (Tc B)),(8,[],x8),(9,[],x9)] h:=
 Eq.mp (by kernel_rfl) H
end
end Go.X
end
section
namespace Go.X
open Go Go.X Go.Proofs Go.RowKit
section
variable {g:zc} {i:Nat} {k f t:Int} {x9 x8 x0:Value} {K:Value -> zc -> Prop}
abbrev lH:Ty:=.pair (.int .i64) (.pair (.int .i64) (.int .i64))
theorem EL:ElemT Tp 162 171 (.agg #[.int .i64 0,.int .i64 0,.int .i64 0]) (sz lH) 24:=⟨by kernel_rfl,⟨Tryz.t171,by kernel_rfl,by kernel_rfl,by kernel_rfl,by kernel_rfl⟩,rfl,by decide⟩
theorem yG:qo Tp 162=Ta:=by kernel_rfl
theorem y0:ya Tp 162=1:=by kernel_rfl
theorem Hd:qo Tp 3=Ta:=by kernel_rfl
theorem Dv:ya Tp 3=1:=by kernel_rfl
theorem Kc:qo Tp 30=Ta:=by kernel_rfl
theorem FX:ya Tp 30=1:=by kernel_rfl
theorem Dt{M:Fr}(k f t:Int):Rd M lH (k,(f,t)) (ly k f t):=⟨[.int .i64 k],[.int .i64 f,.int .i64 t],rfl,rfl,[.int .i64 f],[.int .i64 t],rfl,rfl,rfl⟩
structure TkS (h:zc) (M:Fr) (b2 b3 b4 b5 bc D l:Nat) (rec:iI) (s:Bs) (out:List Tk) (sl:Sl) (bs:List Nat) (g:zc):Prop where
 keep:Keep h.size h g
 c:Blk g bc #[.string (bl s)]
 d:g[D]?=Tc (.deferred (Tc []))
 rc:g[l]?=Tc (.loop (rec .ready Td))
 r2:Blk g b2 #[.slice Td 0 0]
 r3:Blk g b3 #[.int .i64 0]
 r4:Blk g b4 #[.int .i64 0]
 r5:Blk g b5 #[aK sl]
 o:ORow (l+1) g M lH out sl bs
structure Apart (h:zc) (b2 b3 b4 b5 bc D l:Nat):Prop where
 lo:h.size<=b2
 a3:b2<b3
 a4:b3<b4
 a5:b4<b5
 ac:b5<bc
 aD:bc<D
 al:l=D+1
theorem q9{i j:Nat}{o:Obj}(h:j≠i):(g.setIfInBounds i o)[j]?=g[j]?:=zcs (Ne.symm h)
theorem set_self{o:Obj}(h:i<g.size):(g.setIfInBounds i o)[i]?=Tc o:=Array.getElem?_setIfInBounds_self_of_lt h
theorem lt_of_some{o:Obj}(h:g[i]?=Tc o):i<g.size:=(zai.1 h).1
section
variable {h : zc} {M : Fr} {b2 b3 b4 b5 bc D l : Nat} {rec : iI} {s : Bs} {out : List Tk} {sl : Sl} {bs : List Nat} {g : zc}
set_option maxRecDepth 100000 in
set_option maxHeartbeats 1000000 in
theorem TkS.round(A:Apart h b2 b3 b4 b5 bc D l)(ag:AgM M h)(S:TkS h M b2 b3 b4 b5 bc D l rec s out sl bs g)(hn:out.length<=100000) (hK:∀g' ah E,TkS h M b2 b3 b4 b5 bc D l rec s (out++[(k,(f,t))]) ah E g'->g.size<=g'.size->(∀j,j<g.size->j≠b5->j≠l->j∉bs->g'[j]?=g[j]?)->K (.bool Ta) g'):
  lq Tp 25 (lc (codeOf Tryz.f145)) (kO (codeOf Tryz.f145)) rec l K [(11,[],.int .i64 0),(10,[],.agg #[.int .i64 k,.int .i64 f,.int .i64 t]),(0,[],x0),(2,[],.pointer (Tc ⟨b2,0,Td⟩)),(3,[],.pointer (Tc ⟨b3,0,Td⟩)),(4,[],.pointer (Tc ⟨b4,0,Td⟩)),(5,[],.pointer (Tc ⟨b5,0,Td⟩)),(8,[],x8),(9,[],x9)] g:=by
 apply Hn;intro N;obtain⟨ae,aj,Z⟩:=wq (g:=N) rfl;clear_value N;have ll:=lt_of_some S.rc;have:=A.lo;have:=A.a3;have:=A.a4;have:=A.a5;have:=A.ac;have:=A.aD;have:=A.al;refine nD Z λx q1 q2 q3=>?_;have C:∀j,j<g.size->x[j]?=g[j]?:=λj n=>by rw[q1 j (by omega)];exact ae.get j n
 refine⟨by rw[C l ll];exact S.rc,?_⟩;intro i;have z:∀j,j≠l->i[j]?=x[j]?:=λj n=>q9 n;have aa:i[l]?=Tc (.loop (rec .busy Td)):=set_self (by omega);have ak:i.size=x.size:=zbc;clear_value i;refine⟨λhx=>by simp at hx,λ_=>?_⟩;have B5:Blk i b5 #[aK sl]:=S.r5.keep (by rw[z b5 (by omega),C b5 (by omega)]);have Bt:Blk i g.size (ly k f t).toArray:=q3.keep (z g.size (by omega));refine⟨sl,B5.cell rfl,k,f,t,Bt.ld,?_⟩;intro p;obtain⟨y,am,ab⟩:=wq (g:=p) rfl;clear_value p;have G:∀j,j<g.size->j≠l->p[j]?=g[j]?:=λj n I=>by rw[y.get j (by omega),z j I,C j n]
 have L:AgM M p:=λb c e=>by obtain⟨T,m,e'⟩:=(ag.keep S.keep) b c e;have hb:=ag.lt e;exact⟨T,m,by rw[G b (by have:=S.keep.size;omega) (by omega)];exact e'⟩
 have af:ORow (l+1) p M lH out sl bs:=S.o.frame (λc r=>by have:=S.o.own c r;exact G c this.2.1 (by omega)) (Fr.le.refl _) (λc r=>(S.o.own c r).2.2);refine ORow.app EL (by omega) L af (by omega) ab (Dt k f t) (by omega) λs' U E w an ai u=>⟨s',rfl,?_⟩;have F:∀c∈bs,l+1<=c:=λc r=>(S.o.own c r).1;have Y:Blk U b5 #[aK sl]:=B5.keep (by rw[u b5 (by omega) (λq=>by have:=F _ q;omega)];exact y.get b5 (by omega));refine j5 yG y0 Y (by show 0<1;omega) rfl λB u1 u3 V=>?_;have J:∀j,j<g.size->j≠l->j≠b5->j∉bs->B[j]?=g[j]?:=λj n I P q=>by rw[V j P,u j (by omega) q,G j n I]
 have Q:B[l]?=Tc (.loop (rec .busy Td)):=by rw[V l (by omega),u l (by omega) (λq=>by have:=F _ q;omega),y.get l (by omega)];exact aa
 refine⟨Q,hK _ s' E ?_ ?_ ?_⟩;have O:=lt_of_some Q;have H:∀j,j<l->j≠b5->(B.setIfInBounds l (.loop (rec .ready Td)))[j]?=g[j]?:=λj n P=>by rw[q9 (by omega)];exact J j (by omega) (by omega) P (λq=>by have:=F _ q;omega)
 refine⟨S.keep.trans ⟨?_,λj n=>H j (by omega) (by omega)⟩ (zaf _),S.c.keep (H bc (by omega) (by omega)),(H D (by omega) (by omega)).trans S.d,set_self O,S.r2.keep (H b2 (by omega) (by omega)),S.r3.keep (H b3 (by omega) (by omega)),S.r4.keep (H b4 (by omega) (by omega)),?_,?_⟩;rw[zbc];have:=S.keep.size;omega;exact Blk.keep u1 (q9 (by omega));refine w.frame (λc r=>?_) (Fr.le.refl _) (λc r=>(w.own c r).2.2);have:=(w.own c r).1;rw[q9 (by omega),V c (by omega)];rw[zbc];omega;intro j n P I q;rw[q9 I];exact J j n I P q
set_option maxRecDepth 100000 in
set_option maxHeartbeats 1000000 in
theorem TkS.err(A:Apart h b2 b3 b4 b5 bc D l)(S:TkS h M b2 b3 b4 b5 bc D l rec s out sl bs g){k f t e:Int}(P:¬e=0) (G:∀g',Keep h.size h g'->g'[D]?=Tc (.deferred (Tc []))->g'[l]?=Tc (.loop (rec .done (Tc .ret)))->Blk g' b2 #[.slice Td 0 0]->Blk g' b3 #[.int .i64 f]->Blk g' b4 #[.int .i64 e]->K (.bool Tb) g'):
  lq Tp 25 (lc (codeOf Tryz.f145)) (kO (codeOf Tryz.f145)) rec l K [(11,[],.int .i64 e),(10,[],.agg #[.int .i64 k,.int .i64 f,.int .i64 t]),(0,[],x0),(2,[],.pointer (Tc ⟨b2,0,Td⟩)),(3,[],.pointer (Tc ⟨b3,0,Td⟩)),(4,[],.pointer (Tc ⟨b4,0,Td⟩)),(5,[],.pointer (Tc ⟨b5,0,Td⟩)),(8,[],x8),(9,[],x9)] g:=by
 apply Hn;intro o;obtain⟨z,B,w⟩:=wq (g:=o) rfl;clear_value o;have Q:=lt_of_some S.rc;have:=A.lo;have:=A.a3;have:=A.a4;have:=A.a5;have:=A.ac;have:=A.aD;have:=A.al;refine nD w λi E Z I=>?_;have u:∀j,j<g.size->i[j]?=g[j]?:=λj n=>by rw[E j (by omega)];exact z.get j n
 refine⟨by rw[u l Q];exact S.rc,?_⟩;intro c;have q:∀j,j≠l->c[j]?=i[j]?:=λj n=>q9 n;have y:c[l]?=Tc (.loop (rec .busy Td)):=set_self (by omega);have C:c.size=i.size:=zbc;clear_value c;refine⟨λ_=>?_,λN=>by simp[P]at N⟩;have Bt:Blk c g.size (ly k f t).toArray:=I.keep (q g.size (by omega));have b:∀j,j<g.size->j≠l->c[j]?=g[j]?:=λj n L=>(q j L).trans (u j n);refine⟨f,?_,?_⟩;rw[qy,qy];exact Bt.cell rfl;refine j5 yG y0 (S.r2.keep (b b2 (by omega) (by omega))) (by show 0<1;omega) rfl λO J Y m=>⟨?_,?_⟩;rw[qy,qy];exact m g.size (by omega);refine j5 Hd Dv (S.r3.keep ((m b3 (by omega)).trans (b b3 (by omega) (by omega)))) (by show 0<1;omega) rfl λH F U r=>?_;refine j5 Kc FX (S.r4.keep ((r b4 (by omega)).trans ((m b4 (by omega)).trans (b b4 (by omega) (by omega))))) (by show 0<1;omega) rfl λx w1 V w2=>?_;have p:x[l]?=Tc (.loop (rec .busy Td)):=by rw[w2 l (by omega),r l (by omega),m l (by omega)];exact y
 refine⟨p,G _ ?_ ?_ (set_self (lt_of_some p)) ?_ ?_ ?_⟩;refine S.keep.trans ⟨by rw[zbc];have:=S.keep.size;omega,λj n=>?_⟩ (zaf _);rw[q9 (by omega),w2 j (by omega),r j (by omega),m j (by omega)];exact b j (by have:=S.keep.size;omega) (by omega);rw[q9 (by omega),w2 D (by omega),r D (by omega),m D (by omega),b D (by omega) (by omega)];exact S.d;exact Blk.keep J (by rw[q9 (by omega),w2 b2 (by omega),r b2 (by omega)]);exact Blk.keep F (by rw[q9 (by omega),w2 b3 (by omega)]);exact Blk.keep w1 (q9 (by omega))
end
end
section
variable {M:Fr} {s:Bs} {g g':zc} {k a e lf:Int} {O:Nat -> Prop} {lo bp b c:Nat} {rs:Sl} {cs:Array Value}
theorem qlm{t:Ty}{x:El t}{xs:List (El t)}{s:Sl}(h:Rd M (.row t) (x::xs) [aK s]):Rd M (.row t) xs [aK ⟨iD s.a (sz t) 1 s.cap,s.len-1,s.cap-1⟩]:=by
 obtain⟨h1,f,l⟩:=rowLen h;rw[zbi]at h1 f l;refine⟨_,rfl,iD s.a (sz t) 1 s.cap,s.cap-1,?_,⟨by omega,by omega⟩,?_⟩;show aK _=_;unfold aK;rw[h1];rfl;by_cases p:xs=[];grind;have r:=zbo.2 p;obtain⟨b,o,cs,m,k,n⟩:∃b o cs,s.a=Tc ⟨b,o,Td⟩/\M b=Tc cs/\∀i (hi:i<(x::xs).length),Rd M t (x::xs)[i] (cut cs (o+i*sz t) (sz t)):=by obtain⟨w,e,a,c,q,y,u⟩:=h;simp only[zcg,and_true]at e;subst e;simp only[aK,zbg]at q;simp_all
 refine .inr ⟨b,o+sz t,cs,?_,k,λi hi=>?_⟩;unfold iD;rw[za (by omega),m,Option.map_some,qy,zev];have:=n (i+1) (by simp;omega);grind
theorem pv(ag:AgM M g){xs:List Tk}{s:Sl}(H:Rd M (.row lH) xs [aK s]){k:Nat}(m:k<xs.length):∃b o,s.a=Tc ⟨b,o,Td⟩/\zf g ⟨b,o+k*3,Td⟩=Tc (.int .i64 xs[k].1)/\zf g ⟨b,o+k*3+1,Td⟩=Tc (.int .i64 xs[k].2.1)/\zf g ⟨b,o+k*3+2,Td⟩=Tc (.int .i64 xs[k].2.2):=by obtain⟨b,o,cs,n,r,p⟩:=Go.X.rowAt H m;refine⟨b,o,n,?_⟩;obtain⟨t,c2,e,h1,l,q,h,c,f⟩:=p;have h1:t=[.int .i64 xs[k].1]:=h1;have c:l=[.int .i64 xs[k].2.1]:=c;have f:q=[.int .i64 xs[k].2.2]:=f;subst h1 c f h;have e:cut cs (o+k*3) 3=ly xs[k].1 xs[k].2.1 xs[k].2.2:=e;have L:=mS (vs:=ly xs[k].1 xs[k].2.1 xs[k].2.2) (o:=o+k*3) (i:=0) ag r (by omega);obtain⟨u,w,x,_⟩:=L;simp_all[qy]
def ux(s:Bs)(rs:Sl)(lf last:Int)(sl:Sl)(a e:Int):List Value:=[.string (bl s),aK rs,.int .i64 lf,.int .i64 last,aK sl,.int .i64 a,.int .i64 e]
def kc(bp:Nat)(na:NA)(sl:Sl)(b c:Nat):Prop:=c=bp\/iW na sl b c
structure PW (lo:Nat) (g:zc) (M:Fr) (bp:Nat) (s:Bs) (rest:List Tk) (last a e:Int) (rs:Sl) (lf:Int) (na:NA) (sl:Sl) (b:Nat) (cs:Array Value):Prop where
 blk:Blk g bp (ux s rs lf last sl a e).toArray
 rd:Rd M (.row lH) rest [aK rs]
 ns:NS lo g M na sl b cs
 ag:AgM M g
 bl:lo<=bp/\M bp=Td
 nb:¬iW na sl b bp
def PaS(lo:Nat)(g:zc)(M:Fr)(bp:Nat)(s:Bs)(st:PSt)(a e:Int)(O:Nat->Prop):Prop:=
 ∃(rs:Sl) (lf:Int) (na:NA) (sl:Sl) (b:Nat) (cs:Array Value),PW lo g M bp s st.rest st.last a e rs lf na sl b cs/\na.map (·.1)=st.nodes/\O=kc bp na sl b
structure Stp (g:zc) (O:Nat->Prop) (g':zc) (O':Nat->Prop):Prop where
 le:g.size<=g'.size
 sub:∀c,O' c->O c\/g.size<=c
 fr:∀j,j<g.size->¬O j->g'[j]?=g[j]?
theorem Stp.refl(g:zc)(O:Nat->Prop):Stp g O g O:=⟨zaf _,λc h=>.inl h,λj _ _=>rfl⟩
theorem Stp.trans{g g' f:zc}{O O' e:Nat->Prop}(a:Stp g O g' O')(b:Stp g' O' f e):Stp g O f e:=by have:=a.le;have:=b.le;refine⟨by omega,λc h=>?_,λj k i=>?_⟩;rcases b.sub c h with h|h;exact a.sub c h;omega;rw[b.fr j (by omega) (λh=>?_)];exact a.fr j k i;rcases a.sub j h with h|h;exact i h;omega
theorem Stp.keep(k:Keep g.size g g'):Stp g O g' O:=⟨k.size,λc h=>.inl h,λj b _=>k.get j b⟩
theorem PW.own{rest:List Tk}{last a e:Int}{na:NA}{sl:Sl}(H:PW lo g M bp s rest last a e rs lf na sl b cs)(h:kc bp na sl b c):lo<=c/\c<g.size/\M c=Td:=by rcases h with rfl|h;exact⟨H.bl.1,H.blk.lt,H.bl.2⟩;exact H.ns.own h
theorem PaS.own{st:PSt}(H:PaS lo g M bp s st a e O)(h:O c):lo<=c/\c<g.size/\M c=Td:=by obtain⟨rs,lf,na,sl,b,cs,W,_,rfl⟩:=H;exact W.own h
theorem rZ(ag:AgM M g)(f:∀j,j<g.size->M j≠Td->g'[j]?=g[j]?):AgM M g':=λb c e=>by obtain⟨T,m,e'⟩:=ag b c e;grind
theorem PaS.frame{st:PSt}(H:PaS lo g M bp s st a e O)(hz:g.size<=g'.size)(f:∀c,c<g.size->(O c\/M c≠Td)->g'[c]?=g[c]?):PaS lo g' M bp s st a e O:=by obtain⟨rs,lf,na,sl,b,cs,W,h1,rfl⟩:=H;refine⟨rs,lf,na,sl,b,cs,⟨W.blk.keep (f bp W.blk.lt (.inl (.inl rfl))),W.rd,W.ns.frame hz λc h=>f c (W.ns.own h).2.1 (.inl (.inr h)),rZ W.ag λj k i=>f j k (.inr i),W.bl,W.nb⟩,h1,rfl⟩
theorem PaS.keep{st:PSt}(H:PaS lo g M bp s st a e O)(k:Keep g.size g g'):PaS lo g' M bp s st a e O:=H.frame k.size λc b _=>k.get c b
theorem PaS.ag{st:PSt}(H:PaS lo g M bp s st a e O):AgM M g:=by obtain⟨rs,lf,na,sl,b,cs,W,_,_⟩:=H;exact W.ag
theorem PW.put{rest rest':List Tk}{last last' a a' e e':Int}{rs rs':Sl}{lf lf':Int}{na:NA}{sl:Sl}(H:PW lo g M bp s rest last a e rs lf na sl b cs)(B:Blk g' bp (ux s rs' lf' last' sl a' e').toArray)(r:Rd M (.row lH) rest' [aK rs'])(hz:g'.size=g.size)(f:∀j,j≠bp->g'[j]?=g[j]?):PW lo g' M bp s rest' last' a' e' rs' lf' na sl b cs:= ⟨B,r,H.ns.frame (by omega) λc k=>f c λh=>H.nb (h ▸ k),rZ H.ag λj _ i=>f j λh=>i (h ▸ H.bl.2),H.bl,H.nb⟩
section
variable {lo : Nat} {g : zc} {M : Fr} {bp : Nat} {s : Bs} {st : PSt} {a e : Int} {O : Nat -> Prop} {K : Value -> zc -> Prop}
theorem vz(H:PaS lo g M bp s st a e O)(f:K (.int .i64 st.kind) g):XC Tp 211 #[.pointer (Tc ⟨bp,0,Td⟩)] g K:=by
 obtain⟨rs,lf,na,sl,b,cs,W,h1,rfl⟩:=H;apply Ux;have l:=(rowLen W.rd).1;refine⟨_,rfl,rs,by rw[qy];exact W.blk.cell rfl,λc=>?_,λc=>⟨_,rfl,rs,by rw[qy];exact W.blk.cell rfl,?_⟩⟩;have c:rs.len=0:=by simpa using c
 have:st.rest=[]:=zbq.1 (by omega);unfold PSt.kind at f;simp_all;have c:rs.len≠0:=by simpa using c
 cases hr:st.rest with
 |nil=>simp_all
 |cons t r=>have rd:=W.rd;rw[hr]at rd;obtain⟨i,o,h,p,m,n⟩:=pv W.ag rd (k:=0) (by simp);refine⟨_,⟨h,by omega,by omega⟩,t.1,?_,?_⟩;grind [qy];unfold PSt.kind at f;simp_all
theorem IT(H:PaS lo g M bp s st a e O)(f:K (.int .i64 (st.here s.length)) g):XC Tp 217 #[.pointer (Tc ⟨bp,0,Td⟩)] g K:=by
 obtain⟨rs,lf,na,sl,b,cs,W,h1,rfl⟩:=H;apply NL;have l:=(rowLen W.rd).1;refine⟨_,rfl,rs,by rw[qy];exact W.blk.cell rfl,λc=>?_,λc=>⟨_,rfl,rs,by rw[qy];exact W.blk.cell rfl,?_⟩⟩;have c:rs.len=0:=by simpa using c
 have:st.rest=[]:=zbq.1 (by omega);unfold PSt.here at f;rw[this]at f;refine⟨_,rfl,bl s,by rw[qy];exact W.blk.cell rfl,?_⟩;rw[zu];exact f;have c:rs.len≠0:=by simpa using c
 cases hr:st.rest with
 |nil=>simp_all
 |cons t r=>have rd:=W.rd;rw[hr]at rd;obtain⟨i,o,h,p,m,n⟩:=pv W.ag rd (k:=0) (by simp);refine⟨_,⟨h,by omega,by omega⟩,t.2.1,?_,?_⟩;simp_all[qy];unfold PSt.here at f;simp_all
theorem JF:qo Tp 3=Ta:=by kernel_rfl
theorem FK:ya Tp 3=1:=by kernel_rfl
theorem VP:qo Tp 30=Ta:=by kernel_rfl
theorem qrv:ya Tp 30=1:=by kernel_rfl
theorem Gj:qo Tp 167=Ta:=by kernel_rfl
theorem Lr:ya Tp 167=2:=by kernel_rfl
theorem GZ:qo Tp 162=Ta:=by kernel_rfl
theorem FL:ya Tp 162=1:=by kernel_rfl
theorem Stp.same(hz:g'.size=g.size)(b:O bp)(f:∀j,j≠bp->g'[j]?=g[j]?):Stp g O g' O:=⟨by omega,λc h=>.inl h,λj k i=>f j λe=>i (e ▸ b)⟩
theorem mf(H:PaS lo g M bp s st a e O){x:Int}(l:∀g',PaS lo g' M bp s st (st.here s.length) x O->Stp g O g' O->K (.bool Tb) g'):XC Tp 147 #[.pointer (Tc ⟨bp,0,Td⟩),.int .i64 x] g K:=by apply zff;refine IT H ⟨_,rfl,_,rfl,?_⟩;obtain⟨rs,lf,na,sl,b,cs,W,h1,rfl⟩:=H;rw[qy];refine j5 JF FK W.blk (by show 5<7;omega) rfl λo n q k=>⟨_,rfl,?_⟩;rw[qy];refine j5 VP qrv n (by show 6<7;omega) rfl λc m p i=>?_;have f:∀j,j≠bp->c[j]?=g[j]?:=λj h=>(i j h).trans (k j h);exact l c ⟨rs,lf,na,sl,b,cs,W.put (rest':=st.rest) (last':=st.last) (a':=st.here s.length) (e':=x) (rs':=rs) (lf':=lf) m W.rd (by omega) f,h1,rfl⟩ (Stp.same (by omega) (.inl rfl) f)
theorem Bm(H:PaS lo g M bp s st a e O)(C:st.rest≠[])(w:∀g',PaS lo g' M bp s st.skip a e O->Stp g O g' O->K (.tuple #[]) g'):XC Tp 212 #[.pointer (Tc ⟨bp,0,Td⟩)] g K:=by
 apply Sj;obtain⟨rs,lf,na,sl,b,cs,W,h1,rfl⟩:=H;obtain⟨m,_,q⟩:=rowLen W.rd;obtain⟨t,r,l⟩:=zb3 C;have rd:=W.rd;rw[l]at rd m q;rw[zbi]at m q;obtain⟨J,o,z,F,E,A⟩:=pv W.ag rd (k:=0) (by simp);refine⟨_,rfl,rs,by rw[qy];exact W.blk.cell rfl,_,⟨z,by omega,by omega⟩,t.2.1,t.2.2,?_,_,rfl,rs,by rw[qy];exact W.blk.cell rfl,.inl rfl,⟨by omega,by omega,by omega,by omega⟩,_,rfl,?_⟩;rw[qy,qy];exact⟨by rw[qy];exact E,by rw[qy];exact A,trivial⟩;rw[qy];refine Qz (vs:=[.int .i64 t.2.1,.int .i64 t.2.2]) Gj W.blk rfl Lr (by show 2+2<=7;omega) (λu n=>?_) λL x I y=>⟨_,rfl,?_⟩;simp at n;rcases n with rfl|rfl <;> rfl;rw[qy];refine j5 GZ FL x (by rw[xW (by show 2+2<=7;omega)];show 1<7;omega) rfl λi c G B=>?_
 have f:∀j,j≠bp->i[j]?=g[j]?:=λj p=>(B j p).trans (y j p);have h:=qlm rd;rw[zao,zao]at c;have c:Blk i bp (ux s ⟨iD rs.a (sz lH) 1 rs.cap,rs.len-1,rs.cap-1⟩ t.2.1 t.2.2 sl a e).toArray:=c;have D:st.skip=⟨r,t.2.2,st.nodes⟩:=by unfold PSt.skip;rw[l]
 rw[D]at w;exact w i ⟨_,t.2.1,na,sl,b,cs,W.put c h (by omega) f,h1,rfl⟩ (Stp.same (by omega) (.inl rfl) f)
theorem PSt.ne_of_kind{st:PSt}(h:st.kind=k)(b:k≠0):st.rest≠[]:=λe=>by unfold PSt.kind at h;simp_all
theorem v7(H:PaS lo g M bp s st a e O)(f:k≠0)(h:st.kind=k->∀g',PaS lo g' M bp s st.skip a e O->Stp g O g' O->K (.bool Ta) g')(c:st.kind≠k->K (.bool Tb) g):XC Tp 275 #[.pointer (Tc ⟨bp,0,Td⟩),.int .i64 k] g K:=by
 apply QQ;refine vz H ⟨_,rfl,λb=>c (by simpa using b),λb=>?_⟩;have b:st.kind=k:=by simpa using b
 exact Bm H (PSt.ne_of_kind b f) λg' p q=>⟨rfl,h b g' p q⟩
end
end
section
variable {n bv cv:Nat} {t el ty:TypeId} {zv:Value} {ks:Sl} {K:Value -> zc -> Prop}
theorem NS.cell{lo:Nat}{g:zc}{M:Fr}{na:NA}{sl:Sl}{b:Nat}{cs:Array Value}(H:NS lo g M na sl b cs)(e:n<na.length):sl.a=Tc ⟨b,0,Td⟩/\Blk g b cs/\sl.cap≠0/\n*7+7<=cs.size/\∀(q:Nat) (v:Value),q<7->(jN na[n])[q]?=Tc v->zf g ⟨b,n*7+q,Td⟩=Tc v:=by
 have c:na.map jN≠[]:=λh=>by rw[List.map_eq_nil_iff]at h;rw[h]at e;simp at e
 obtain⟨h1,f⟩:=H.cr.blk c;obtain⟨m,l⟩:=H.cr.el n (jN na[n]) (by rw[zbu,zaj e];rfl);refine⟨h1,f,by have:=H.len;have:=H.cr.ro.le;omega,by omega,λq v i k=>f.cell ?_⟩;have:=vY l i;rw[k]at this;rw[<-this,zb7]
def mb(k:Int)(s':Sl)(b:List Nat)(p:Nd×Ax):Nd×Ax:=((p.1.1,p.1.2.1,p.1.2.2.1,p.1.2.2.2.1++[k],p.1.2.2.2.2),⟨s',b,p.2.ps,p.2.pb⟩)
def rW(k:Sp)(s':Sl)(b:List Nat)(p:Nd×Ax):Nd×Ax:=((p.1.1,p.1.2.1,p.1.2.2.1,p.1.2.2.2.1,p.1.2.2.2.2++[k]),⟨p.2.ks,p.2.kb,s',b⟩)
def AT(t:Int)(p:Nd×Ax):Nd×Ax:=(rM t p.1,p.2)
theorem Az{f:Nd×Ax->Nd×Ax}{f':Nd->Nd}(h:∀p,(f p).1=f' p.1)(na:NA)(n:Nat):(na.modify n f).map (·.1)=(na.map (·.1)).modify n f':=by
 apply zbt;intro i;rw[zbu,zck,zck,zbu];cases na[i]? with
 |none=>rfl
 |some p=>by_cases e:n=i <;> simp[e,h]
structure NSt (lo:Nat) (g:zc) (M:Fr) (na:NA) (sl:Sl) (b:Nat) (g':zc) (na':NA) (cs':Array Value):Prop where
 ns:NS lo g' M na' sl b cs'
 le:g.size<=g'.size
 sub:∀c,iW na' sl b c->iW na sl b c\/g.size<=c
 fr:∀j,j<g.size->¬iW na sl b j->g'[j]?=g[j]?
section
variable {lo : Nat} {g : zc} {M : Fr} {na : NA} {sl : Sl} {b : Nat} {cs : Array Value}
theorem NS.addK{bytes:Nat}(E:ElemT Tp t el zv (sz (.int .i64)) bytes)(D:bytes<=1000)(ag:AgM M g)(J:lo<=g.size)(H:NS lo g M na sl b cs)(F:n<na.length){k:Int}(Z:Blk g bv #[.int .i64 k])(Q:na[n].1.2.2.2.1.length<=1000000)(B:na[n].2.ks=ks) (V:∀(s':Sl) (o:zc) (l:List Nat),Blk o b cs->g.size<=o.size->(∀j,j<g.size->¬iW na sl b j->o[j]?=g[j]?)->(∀p:zc,Blk p b (cs.setIfInBounds (n*7+5) (aK s'))->p.size=o.size->(∀j,j≠b->p[j]?=o[j]?)->NSt lo g M na sl b p (na.modify n (mb k s' l)) (cs.setIfInBounds (n*7+5) (aK s')))->K (.slice s'.a s'.len s'.cap) o):
  Qa Tp (zav #[t,t] ty #[.slice ks.a ks.len ks.cap,.slice (Tc ⟨bv,0,Td⟩) 1 cv]) g K:=by
 subst B;obtain⟨h1,z,P,h4,h5⟩:=H.cell F;have w:=zay F;have I:=H.nd _ w;have A:=(H.lb P).2.1;refine ORow.app E D ag I.kk J Z rfl Q λs' o l L S C y=>?_;have u:b∉na[n].2.kb:=λh=>H.nb _ w (.inl h);have s:b∉l:=λh=>by rcases C b h with h|h;exact u h;omega
 refine V s' o l (z.keep (y b A u)) S (λj x m=>y j x λh=>m (.inr ⟨_,w,.inl h⟩)) λp B2 z2 G=>?_;have r:∀j,j<g.size->j≠b->¬iw na[n] j->p[j]?=g[j]?:=λj x h1 z=>by rw[G j h1,y j x λh=>z (.inl h)]
 have U:NdI lo p M (mb k s' l na[n]):=by refine⟨?_,?_,?_⟩;exact L.frame (λc i=>G c λe=>s (e ▸ i)) (Fr.le.refl _) λc i=>(L.own c i).2.2;exact I.pp.frame (λc i=>by have:=(I.pp.own c i).2.1;rw[G c λe=>H.nb _ w (.inr (e ▸ i))];exact y c this λh=>I.dd c h i) (Fr.le.refl _) λc i=>(I.pp.own c i).2.2;intro c i O;rcases C c i with h|h;exact I.dd c h O;have:=(I.pp.own c O).2.1;omega
 have q2:∀c,iw (mb k s' l na[n]) c->iw na[n] c\/g.size<=c:=by intro c i;rcases i with i|i;rcases C c i with h|h;exact .inl (.inl h);exact .inr h;exact .inl (.inr i)
 obtain⟨N,Y⟩:=H.upd F (f:=mb k s' l) (q:=5) (v:=aK s') (by omega) B2 (by omega) rfl U q2 r;exact⟨N,by omega,Y,λj x m=>r j x (λe=>m (.inl ⟨P,e⟩)) λh=>m (.inr ⟨_,w,h⟩)⟩
theorem NS.addP{bytes:Nat}(E:ElemT Tp t el zv (sz lA) bytes)(D:bytes<=1000)(ag:AgM M g)(J:lo<=g.size)(H:NS lo g M na sl b cs)(F:n<na.length){k:Sp}(Z:Blk g bv #[.int .i64 k.1,.int .i64 k.2])(Q:na[n].1.2.2.2.2.length<=1000000)(B:na[n].2.ps=ks) (V:∀(s':Sl) (o:zc) (l:List Nat),Blk o b cs->g.size<=o.size->(∀j,j<g.size->¬iW na sl b j->o[j]?=g[j]?)->(∀p:zc,Blk p b (cs.setIfInBounds (n*7+6) (aK s'))->p.size=o.size->(∀j,j≠b->p[j]?=o[j]?)->NSt lo g M na sl b p (na.modify n (rW k s' l)) (cs.setIfInBounds (n*7+6) (aK s')))->K (.slice s'.a s'.len s'.cap) o):
  Qa Tp (zav #[t,t] ty #[.slice ks.a ks.len ks.cap,.slice (Tc ⟨bv,0,Td⟩) 1 cv]) g K:=by
 subst B;obtain⟨h1,z,P,h4,h5⟩:=H.cell F;have w:=zay F;have I:=H.nd _ w;have A:=(H.lb P).2.1;refine ORow.app E D ag I.pp J Z ⟨_,_,rfl,rfl,rfl⟩ Q λs' o l L S C y=>?_;have u:b∉na[n].2.pb:=λh=>H.nb _ w (.inr h);have s:b∉l:=λh=>by rcases C b h with h|h;exact u h;omega
 refine V s' o l (z.keep (y b A u)) S (λj x m=>y j x λh=>m (.inr ⟨_,w,.inr h⟩)) λp B2 z2 G=>?_;have r:∀j,j<g.size->j≠b->¬iw na[n] j->p[j]?=g[j]?:=λj x h1 z=>by rw[G j h1,y j x λh=>z (.inr h)]
 have U:NdI lo p M (rW k s' l na[n]):=by refine⟨?_,?_,?_⟩;exact I.kk.frame (λc i=>by have:=(I.kk.own c i).2.1;rw[G c λe=>H.nb _ w (.inl (e ▸ i))];exact y c this λh=>I.dd c i h) (Fr.le.refl _) λc i=>(I.kk.own c i).2.2;exact L.frame (λc i=>G c λe=>s (e ▸ i)) (Fr.le.refl _) λc i=>(L.own c i).2.2;intro c O i;rcases C c i with h|h;exact I.dd c O h;have:=(I.kk.own c O).2.1;omega
 have q2:∀c,iw (rW k s' l na[n]) c->iw na[n] c\/g.size<=c:=by intro c i;rcases i with i|i;exact .inl (.inl i);rcases C c i with h|h;exact .inl (.inr h);exact .inr h
 obtain⟨N,Y⟩:=H.upd F (f:=rW k s' l) (q:=6) (v:=aK s') (by omega) B2 (by omega) rfl U q2 r;exact⟨N,by omega,Y,λj x m=>r j x (λe=>m (.inl ⟨P,e⟩)) λh=>m (.inr ⟨_,w,h⟩)⟩
theorem NS.toB(H:NS lo g M na sl b cs)(l:n<na.length){x:Int}{i:zc}(w:Blk i b (cs.setIfInBounds (n*7+2) (.int .i64 x)))(y:i.size=g.size)(k:∀j,j≠b->i[j]?=g[j]?):NSt lo g M na sl b i (na.modify n (AT x)) (cs.setIfInBounds (n*7+2) (.int .i64 x)):=by
 obtain⟨h1,p,r,z,A⟩:=H.cell l;have m:=zay l;have I:=H.nd _ m;have u:NdI lo i M (AT x na[n]):=by refine⟨?_,?_,I.dd⟩;exact I.kk.frame (λc h=>k c λe=>H.nb _ m (.inl (e ▸ h))) (Fr.le.refl _) λc h=>(I.kk.own c h).2.2;exact I.pp.frame (λc h=>k c λe=>H.nb _ m (.inr (e ▸ h))) (Fr.le.refl _) λc h=>(I.pp.own c h).2.2
 obtain⟨N,s⟩:=H.upd l (f:=AT x) (q:=2) (v:=.int .i64 x) (by omega) w (by omega) rfl u (λc h=>.inl h) λj t h1 p=>k j h1;exact⟨N,by omega,s,λj t o=>k j λe=>o (.inl ⟨r,e⟩)⟩
end
end
section
variable {J O O':Nat -> Prop} {g g':zc} {lo bp:Nat} {M:Fr} {s:Bs} {a e:Int}
structure StJ (J:Nat->Prop) (g:zc) (O:Nat->Prop) (g':zc) (O':Nat->Prop):Prop where
 le:g.size<=g'.size
 sub:∀c,O' c->O c\/g.size<=c
 fr:∀j,j<g.size->¬O j->¬J j->g'[j]?=g[j]?
theorem Stp.j{J:Nat->Prop}{g g':zc}{O O':Nat->Prop}(S:Stp g O g' O'):StJ J g O g' O':=⟨S.le,S.sub,λj h1 b _=>S.fr j h1 b⟩
theorem StJ.trans{g g' f:zc}{O O' e:Nat->Prop}(a:StJ J g O g' O')(b:StJ J g' O' f e):StJ J g O f e:=by have:=a.le;have:=b.le;refine⟨by omega,λc h=>?_,λj l k i=>?_⟩;rcases b.sub c h with h|h;exact a.sub c h;omega;rw[b.fr j (by omega) (λh=>?_) i];grind [fr];rcases a.sub j h with h|h;exact k h;omega
def Apt(J:Nat->Prop)(g:zc)(O:Nat->Prop):Prop:=∀j,J j->j<g.size/\¬O j
theorem Apt.step{J D:Nat->Prop}(h:Apt D g O)(S:StJ J g O g' O'):Apt D g' O':=λj c=>by obtain⟨h1,e⟩:=h j c;have:=S.le;refine⟨by omega,λb=>?_⟩;rcases S.sub j b with h|h;exact e h;omega
def Cy(r:PR PSt)(b:Bool)(st':PSt)(a e:Int):Prop:=match r with
 |.inl t=>b=Ta/\st'=t
 |.inr x=>b=Tb/\x=(a,e)
def Fy(r:PR (List Bs×PSt))(b:Bool)(σ:List Bs)(st':PSt)(a e:Int):Prop:=match r with
 |.inl t=>b=Ta/\t=(σ,st')
 |.inr x=>b=Tb/\x=(a,e)
def xR(g:zc)(bp:Nat):Nat:=match zf g ⟨bp,1,Td⟩with
 |some (.slice _ n _)=>n
 |_=>0
theorem PaS.restLen{st:PSt}(H:PaS lo g M bp s st a e O):xR g bp=st.rest.length:=by obtain⟨rs,lf,na,sl,b,cs,W,h1,rfl⟩:=H;unfold xR;rw[W.blk.cell (o:=1) (v:=aK rs) rfl];exact(rowLen W.rd).1
theorem PW.nst{rest:List Tk}{last a e:Int}{rs:Sl}{lf:Int}{na na':NA}{sl:Sl}{b:Nat}{cs cs':Array Value}(W:PW lo g M bp s rest last a e rs lf na sl b cs)(N:NSt lo g M na sl b g' na' cs'):PW lo g' M bp s rest last a e rs lf na' sl b cs'/\Stp g (kc bp na sl b) g' (kc bp na' sl b):=by refine⟨⟨W.blk.keep (N.fr bp W.blk.lt W.nb),W.rd,N.ns,rZ W.ag λj f k=>N.fr j f λh=>k (W.ns.own h).2.2,W.bl,λh=>?_⟩,N.le,λc h=>?_,λj f i=>N.fr j f λh=>i (.inr h)⟩;rcases N.sub bp h with h|h;exact W.nb h;have:=W.blk.lt;omega;rcases h with h|h;exact .inl (.inl h);rcases N.sub c h with h|h;exact .inl (.inr h);exact .inr h
theorem YV:ElemT Tp 80 3 (.int .i64 0) (sz (.int .i64)) 8:=⟨by kernel_rfl,⟨Tryz.t3,by kernel_rfl,by kernel_rfl,by kernel_rfl,by kernel_rfl⟩,rfl,by decide⟩
theorem SJ:ElemT Tp 174 167 (.agg #[.int .i64 0,.int .i64 0]) (sz lA) 16:=⟨by kernel_rfl,⟨Tryz.t167,by kernel_rfl,by kernel_rfl,by kernel_rfl,by kernel_rfl⟩,rfl,by decide⟩
theorem Us:qo Tp 80=Ta:=by kernel_rfl
theorem NV:ya Tp 80=1:=by kernel_rfl
theorem qto:qo Tp 174=Ta:=by kernel_rfl
theorem qtp:ya Tp 174=1:=by kernel_rfl
def Gi(lo:Nat)(M:Fr)(bp:Nat)(s:Bs)(F:FuncId)(A C:Array Value)(lv:Int)(kid:i0)(HI:List Bs->zc->Prop)(J D:Nat->Prop):Prop:=
 ∀(σ:List Bs) (g:zc) (st:PSt) (a e:Int) (O:Nat->Prop),PaS lo g M bp s st a e O->HI σ g->Apt D g O->st.nodes.length<=4096->st.T<=200000->(∀t∈st.rest,lU s t) ->
  ∀K:Value->zc->Prop,(∀b g' st' a' e' O' c,PaS lo g' M bp s st' a' e' O'->StJ J g O g' O'->st.nodes.length<=st'.nodes.length->(b=Ta->HI c g')->Fy (kid σ st) b c st' a' e'->K (.bool b) g')->XC Tp F (A++#[.int .i64 lv]++C) g K
section
variable {lo : Nat} {g : zc} {M : Fr} {bp : Nat} {s : Bs} {st : PSt} {a e : Int} {O J D : Nat -> Prop} {K : Value -> zc -> Prop} {HI : List Bs -> zc -> Prop} {kid : i0} {F : FuncId} {A C : Array Value}
set_option maxRecDepth 100000 in
set_option maxHeartbeats 4000000 in
theorem Hs(au:∀σ g g',HI σ g->(∀j,D j->g'[j]?=g[j]?)->HI σ g'){G lv:Int}(bg:zaa .i64 (G+1)=lv)(hk:Gi lo M bp s F A C lv kid HI J D)(aA:pd kid)(hF:zo Tp F=Ta) {closing:Int} (hc:closing≠0) (H:PaS lo g M bp s st a e O) (h0:HI [] g) (hJ:Apt D g O) (h4:st.nodes.length<=4096) (hT:st.T<=200000) (hw:∀t∈st.rest,lU s t) {n:Nat} (hn:n<st.nodes.length) (hK:∀b g' st' a' e' O',PaS lo g' M bp s st' a' e' O'->StJ J g O g' O'->st.nodes.length<=st'.nodes.length->Cy (kH s n closing kid st) b st' a' e'->K (.bool b) g'):
  XC Tp 213 #[.pointer (Tc ⟨bp,0,Td⟩),.int .i64 (n:Int),.int .i64 G,.int .i64 closing,.func (.func F) A C] g K:=by
 apply Vf;refine v7 H hc (λhy g1 P1 S1=>⟨Ta,rfl,λ_=>?_,λh=>(by cases h)⟩) (λaH=>⟨Tb,rfl,λh=>(by cases h),λ_=>?_⟩);refine hK Ta g1 st.skip a e O P1 S1.j (by rw[Zo];omega) ?_;unfold kH;rw[zb hy];exact⟨rfl,rfl⟩;refine⟨λg'=>∃(f:Nat) (σ:List Bs) (st':PSt) (a' e':Int) (O':Nat->Prop),PaS lo g' M bp s st' a' e' O'/\HI σ g'/\Apt D g' O'/\StJ J g O g' O'/\Okk st st' 0/\st'.rest.length<f/\kH s n closing kid st=jF s n closing kid f σ st',λg'=>xR g' bp,⟨st.rest.length+1,[],st,a,e,O,H,h0,hJ,(Stp.refl g O).j,Okk.refl st,by omega,by unfold kH;rw[za aH]⟩,?_⟩;rintro h6 ⟨f,σ,l,a1,e1,O1,P1,I1,J1,S1,q,hf,Q⟩;obtain⟨f,rfl⟩:∃f',f=f'+1:=⟨f-1,by omega⟩;have bi:n<l.nodes.length:=by have:=q.n;omega
 have be:l.nodes.length<=4096:=q.m h4;have a6:l.T<=200000:=by have:=q.t;omega
 have bm:=P1.restLen;have aC:=P1;obtain⟨bu,bz,br,ar,b1,bq,W1,a7,_⟩:=aC;have l1:ar.len=l.nodes.length:=by rw[W1.ns.len,<-a7,zaw]
 refine⟨_,rfl,l.last,by rw[qy,qy];exact W1.blk.cell rfl,_,rfl,ar,by rw[qy];exact W1.blk.cell rfl,hF,?_⟩;rw[bg,l1];refine hk σ h6 l a1 e1 O1 P1 I1 J1 be a6 (λt ht=>hw t (q.w t ht)) _ λb g2 o a2 e2 O2 σ2 P2 S2 n2 I2 A2=>⟨b,rfl,λhb=>?_,λhb=>?_⟩;have hb:b=Tb:=by simpa using hb
 subst hb;refine hK Tb g2 o a2 e2 O2 P2 (S1.trans S2) (by have:=q.n;omega) ?_;rw[Q,jF];cases hr:kid σ l with
 |inl t=>rw[hr]at A2;exact absurd A2.1 (by simp)
 |inr x=>rw[hr]at A2;exact⟨rfl,A2.2⟩
 have hb:b=Ta:=by simpa using hb
 subst hb;have hr:kid σ l=.inl (σ2,o):=by
  cases hr:kid σ l with
  |inl t=>rw[hr]at A2;rw[A2.2]
  |inr x=>rw[hr]at A2;exact absurd A2.1 (by simp)
 have ay:=aA _ _ _ _ hr;have I2:=I2 rfl;have J2:=J1.step S2;rw[jF,hr]at Q;dsimp only at Q;have aT:=P2;obtain⟨rs,lf,na,sl,b,cs,W,h1,rfl⟩:=aT;have bn:na.length=o.nodes.length:=by rw[<-h1,zaw]
 have aa:n<na.length:=by omega
 obtain⟨q1,q2,q3,q4,q5⟩:=W.ns.cell aa;have aZ:iO na[n].1<=200000:=by
  have h:na[n].1∈o.nodes:=by rw[<-h1];exact List.mem_map_of_mem (zay aa)
  have:=Cv h;have:=ay.t;omega
 unfold iO at aZ;refine⟨_,rfl,sl,by rw[qy];exact W.blk.cell rfl,⟨b,0,Td⟩,⟨q1,by omega,by have:=W.ns.len;omega⟩,⟨b,n*7,Td⟩,by rw[qy,zao,za5],na[n].2.ks,?_,?_⟩;rw[qy];exact q5 5 _ (by omega) rfl;intro N;obtain⟨Z,bj,aY⟩:=wq (g:=N) rfl;clear_value N;have aQ:NSt lo g2 M na sl b N na cs:=⟨W.ns.frame Z.size λc hc=>Z.get c (W.ns.own hc).2.1,Z.size,λc h=>.inl h,λj L _=>Z.get j L⟩;obtain⟨V,aV⟩:=W.nst aQ;have ax:lo<=N.size:=by have:=(V.own (.inl rfl));omega
 refine NS.addK YV (by omega) V.ag ax V.ns aa aY (by omega) rfl λs' bC y aN bo bh aJ=>⟨s',rfl,⟨b,n*7,Td⟩,by rw[qy,zao,za5],?_⟩;rw[qy];refine j5 Us NV aN (by omega) rfl λak u1 u2 u3=>?_;obtain⟨u,aP⟩:=V.nst (aJ ak u1 u2 u3);have ab:n<(na.modify n (mb (l.nodes.length:Int) s' y)).length:=by rw[List.length_modify];exact aa
 have an:(na.modify n (mb (l.nodes.length:Int) s' y))[n]=mb (l.nodes.length:Int) s' y na[n]:=by rw[List.getElem_modify,zb rfl]
 obtain⟨r1,r2,r3,r4,r5⟩:=u.ns.cell ab;rw[an]at r5;refine⟨⟨b,n*7,Td⟩,by rw[qy,zao,za5],na[n].2.ps,?_,?_⟩;rw[qy];exact r5 6 _ (by omega) rfl;have a8:PaS lo ak M bp s ⟨o.rest,o.last,(na.modify n (mb (l.nodes.length:Int) s' y)).map (·.1)⟩ a2 e2 _:=⟨_,_,_,_,_,_,u,rfl,rfl⟩;refine IT a8 ⟨_,rfl,rfl,rfl,?_⟩;intro Y;obtain⟨E,bA,aE⟩:=wq (g:=Y) rfl;clear_value Y;have aI:=(u.ns.own (.inl ⟨r3,rfl⟩)).2.1;refine⟨by rw[qy];exact E.get b aI,?_⟩;have aM:NSt lo ak M _ sl b Y _ _:=⟨u.ns.frame E.size λc hc=>E.get c (u.ns.own hc).2.1,E.size,λc h=>.inl h,λj L _=>E.get j L⟩;obtain⟨U,aG⟩:=u.nst aM;have ap:lo<=Y.size:=by have:=(U.own (.inl rfl));omega
 refine NS.addP SJ (by omega) U.ag ap U.ns ab (k:=(l.last,o.here s.length)) aE (by rw[an];show na[n].1.2.2.2.2.length<=_;omega) (by rw[an];rfl) λs2 bB aL aU bD bE az=>⟨s2,rfl,⟨b,n*7,Td⟩,by rw[qy,zao,za5],?_⟩;rw[qy];refine j5 qto qtp aU (by omega) rfl λB v1 v2 v3=>?_;obtain⟨aF,aO⟩:=U.nst (az B v1 v2 v3);have S:((na.modify n (mb (l.nodes.length:Int) s' y)).modify n (rW (l.last,o.here s.length) s2 aL)).map (·.1)=(o.addKid n (l.nodes.length:Int) (l.last,o.here s.length)).nodes:=by
  rw[Az (f':=λx=>(x.1,x.2.1,x.2.2.1,x.2.2.2.1,x.2.2.2.2++[(l.last,o.here s.length)])) (λp=>rfl),Az (f':=λx=>(x.1,x.2.1,x.2.2.1,x.2.2.2.1++[(l.nodes.length:Int)],x.2.2.2.2)) (λp=>rfl),h1];unfold PSt.addKid;apply zbt;intro i;rw[zck,zck,zck];cases o.nodes[i]? with
  |none=>rfl
  |some x=>by_cases e:n=i <;> simp[e,p8]
 have aj:PaS lo B M bp s (o.addKid n (l.nodes.length:Int) (l.last,o.here s.length)) a2 e2 _:=⟨_,_,_,_,_,_,aF,S,rfl⟩;have I:=((aV.trans aP).trans aG).trans aO;have aS:HI σ2 B:=au σ2 g2 B I2 λj L=>I.fr j (J2 j L).1 (J2 j L).2;have ai:=J2.step (I.j (J:=J));have aB:=EJ o n (l.nodes.length:Int) (l.last,o.here s.length);have P:(o.addKid n (l.nodes.length:Int) (l.last,o.here s.length)).kind=o.kind:=rfl;have ba:(o.addKid n (l.nodes.length:Int) (l.last,o.here s.length)).here s.length=o.here s.length:=rfl;have z:=(S1.trans S2).trans I.j;have af:st.nodes.length<=(o.addKid n (l.nodes.length:Int) (l.last,o.here s.length)).nodes.length:=by have:=q.n;have:=ay.n;omega
 refine v7 aj hc (λhy g' P' S'=>⟨Ta,rfl,λ_=>?_,λh=>(by cases h)⟩) (λae=>⟨Tb,rfl,λh=>(by cases h),λ_=>?_⟩);refine hK Ta g' _ _ _ _ P' (z.trans S'.j) (by rw[Zo];exact af) ?_;rw[P]at hy;rw[Q,zb hy];exact⟨rfl,rfl⟩;rw[P]at ae;rw[za ae]at Q;refine v7 aj (by omega) (λhy g' P' S'=>⟨Ta,rfl,λh=>(by simp at h),λ_=>?_⟩) (λah=>⟨Tb,rfl,λ_=>?_,λh=>(by simp at h)⟩);rw[P]at hy;rw[zb hy]at Q;have am:=Cm aA hr (n:=n) (k:=(l.nodes.length:Int)) (p:=(l.last,o.here s.length)) (PSt.ne_kind hy (by omega));refine⟨⟨f,σ2,_,_,_,_,P',au σ2 B g' aS (λj L=>S'.fr j (ai j L).1 (ai j L).2),ai.step (S'.j (J:=J)),z.trans S'.j,(q.trans am).le (by omega),?_,Q⟩,?_⟩;have:=am.r;omega;have e1:=P'.restLen;have:=am.r;grind;rw[P]at ah;rw[za ah]at Q;refine mf aj λg' P' S'=>⟨Tb,rfl,hK Tb g' _ _ _ _ P' (z.trans S'.j) af ?_⟩;rw[Q];exact⟨rfl,by rw[ba]⟩
end
end
end Go.X
end
