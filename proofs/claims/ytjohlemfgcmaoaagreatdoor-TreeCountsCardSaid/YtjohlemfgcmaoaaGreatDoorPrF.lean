/- A part of the proof: nothing is stated here for its own sake. -/
import Derived.Test.YtjohlemfgcmaoaaGreatDoorPrE
import Derived.Sort.OwnSortedInts
open _root_.Go.Addr renaming add->Ad
open _root_.Array renaming getElem?_eq_some_iff->An,getElem?_setIfInBounds_ne->AB,getElem?_toList->Cj,push->CH,size_push->Aj
open _root_.Bool renaming and_eq_false_iff->CJ,and_eq_true->Ap,and_true->Dt,eq_iff_iff->AM,not_eq_true'->DL,or_eq_true->BO,true_and->Cs
open _root_.Go.Builtin renaming append_->Au,len_->C5
open _root_.Classical renaming byContradiction->C0
open _root_.Go.Instr renaming entry->DO,findNow->CL,keyThatStays->Dk,lookup->Dw,mapUpdate->Cv,next->Di,range->D9,sameNow->D6,storeAt->Af
open _root_.Int renaming le_refl->Em,toNat_natCast->Ai
open _root_.Go.IntKind renaming wrap->Aa
open _root_.List renaming Pairwise->D8,all_append->DG,all_cons->DJ,all_eq_true->Av,all_map->Eh,append_assoc->AF,append_nil->AQ,cons_append->AD,drop_eq_getElem_cons->Bw,drop_eq_nil_of_le->Br,drop_zero->BZ,eq_nil_of_length_eq_zero->AN,ext_getElem?->Bu,filter_cons->Cr,getD_eq_getElem?_getD->A7,getElem?_append_right->BF,getElem?_eq_getElem->Al,getElem?_eq_none->BL,getElem?_eq_some_iff->AY,getElem?_map->Bn,getElem?_modify->BJ,getElem?_take->AJ,getElem_append_left->BS,getElem_append_right->Ce,getElem_map->C4,getElem_mem->AE,getElem_set_self->DK,length->Ct,length_append->Ag,length_cons->Aq,length_eq_zero_iff->Bi,length_map->Ao,length_nil->AR,length_range->Dp,length_replicate->CI,length_set->CY,length_singleton->CK,length_take->AK,map_append->Bf,map_congr_left->CX,map_cons->Ar,map_fst_zip->D4,map_id->Eu,map_map->A8,map_nil->Cp,mem_append->Ay,mem_append_left->As,mem_append_right->AC,mem_cons->Ah,mem_cons_of_mem->Ae,mem_cons_self->Am,mem_filter->CM,mem_flatMap->Cw,mem_iff_getElem->C9,mem_map->AL,mem_range->A1,mem_singleton->A4,nil_append->A5,nodup_append->CV,nodup_cons->Ba,nodup_nil->Dm,pairwise_cons->Be,pairwise_lt_range->Dx,range->Bl,range_succ->Do,replicate->BE,take_append_drop->Cb,take_length->A3,take_of_length_le->BG,take_succ_cons->Dd,take_succ_eq_append_getElem->Aw,take_take->Ec,take_zero->Dl,zip_cons_cons->B0
open _root_.List.Pairwise renaming nil->Ed
open _root_.List.cons renaming injEq->BV
open _root_.Nat renaming add_assoc->CP,add_zero->C7,eq_zero_or_pos->Dj,le_refl->Ab,le_trans->Ck,lt_or_ge->A6,min_eq_left->CE,mul_one->Ci,not_lt_zero->Dc,sub_self->D3,succ_mul->C6,zero_add->AI,zero_le->AX
open _root_.Option.some renaming inj->Az
open _root_.Prod.mk renaming injEq->Bh
open _root_.Go.Proofs.Tryz renaming isAgg0->CZ,isAgg3->Cx,isAgg4->CC,isAgg5->Cy,isAgg9->Cz,sizeOf0->CN,sizeOf3->Cm,sizeOf4->Cu,sizeOf5->Cn,sizeOf9->Co,underlying0->Cf,underlying3->BH,underlying4->BI,underlying5->Bz,underlying9->BC,zeroValue0->Cq,zeroValue3->BP,zeroValue4->BW,zeroValue5->BQ,zeroValue9->BR
open _root_.Go.Value renaming int->Bm,slice->Dv,string->AZ
open _root_.Go.Value.slice renaming injEq->AO
set_option linter.unusedVariables false
set_option maxRecDepth 100000
namespace Go.X
end Go.X
namespace Go.Proofs
end Go.Proofs
open Go Go.X Go.Proofs
open _root_.Bool renaming true->Ta,false->Tc
open _root_.Option renaming some->Td,none->Te
section
namespace Go.X
section
theorem zc5(h:zb)(R:Value->zb->Prop) (H:let b:=h.push (.cells #[.string (⟨#[98]⟩:Bt),.string (⟨#[97]⟩:Bt)] 9);XC Tp 58 #[.int .i64 1] b (λc d=>∃e f g i,c=.agg #[.int .i64 e,.string f,slV g,slV i]/\XC Tp 58 #[.int .i64 2] d (λj k=>∃l m n o,j=.agg #[.int .i64 l,.string m,slV n,slV o]/\let p:=k.push (.cells #[.int .i64 l,.string m,slV n,slV o] 26);XC Tp 29 #[.slice (Td ⟨k.size,0,Te⟩) 1 1] p (λq r=>∃s t u v,q=.agg #[.int .i64 s,.string t,slV u,slV v]/\let w:=r.push (.cells #[.int .i64 e,.string f,slV g,slV i,.int .i64 s,.string t,slV u,slV v] 26);XC Tp 99 #[.slice (Td ⟨h.size,0,Te⟩) 2 2,.slice (Td ⟨r.size,0,Te⟩) 2 2] w (λx y=>∃z A B C,x=.agg #[.int .i64 z,.string A,slV B,slV C]/\let D:=y.push (.cells #[.int .i64 0,.string (⟨#[]⟩:Bt),.slice Te 0 0,.slice Te 0 0] 26);XRunU Tp (Af 26 (.pointer (Td ⟨y.size,0,Te⟩)) (.agg #[.int .i64 z,.string A,slV B,slV C])) D (λE=>∃F G I J,zd E ⟨y.size,0,Te⟩ 0 [.int .i64 F,.string G,slV I,slV J]/\XC Tp 40 #[.agg #[.int .i64 F,.string G,slV I,slV J]] E (λL M=>∃N O P,L=.tuple #[.agg #[slV N,slV O],.int .i64 P]/\let Q:=M.push (.cells #[.slice Te 0 0,.slice Te 0 0] 71);XRunU Tp (Af 71 (.pointer (Td ⟨M.size,0,Te⟩)) (.agg #[slV N,slV O])) Q (λS=>let T:=S.push (.cells #[.string (⟨#[50]⟩:Bt),.string (⟨#[91]⟩:Bt),.string (⟨#[107,34,97,34]⟩:Bt),.string (⟨#[49]⟩:Bt),.string (⟨#[107,34,98,34]⟩:Bt),.string (⟨#[123]⟩:Bt)] 9);let U:=T.push (.cells #[.int .i64 0,.int .i64 0,.int .i64 0,.int .i64 3,.int .i64 3,.int .i64 0] 3);let V:=U.push (.cells #[.slice Te 0 0,.slice Te 0 0] 71);XRunU Tp (Af 71 (.pointer (Td ⟨U.size,0,Te⟩)) (.agg #[.slice (Td ⟨S.size,0,Te⟩) 6 6,.slice (Td ⟨T.size,0,Te⟩) 6 6])) V (λW=>∃X Y,zd W ⟨M.size,0,Te⟩ 0 [slV X,slV Y]/\XC Tp 44 #[.agg #[slV X,slV Y]] W (λZ aa=>∃ab ac ad ae af,Z=.tuple #[.agg #[.int .i64 ab,.string ac,slV ad,slV ae],.bool af]/\let ag:=aa.push (.cells #[.int .i64 0,.string (⟨#[]⟩:Bt),.slice Te 0 0,.slice Te 0 0] 26);XRunU Tp (Af 26 (.pointer (Td ⟨aa.size,0,Te⟩)) (.agg #[.int .i64 ab,.string ac,slV ad,slV ae])) ag (λah=>∃ai aj,((P==0)=Ta->zd ah ⟨M.size,0,Te⟩ 0 [slV ai,slV aj])/\∃ak al,((P==0)=Ta->zd ah ⟨U.size,0,Te⟩ 0 [slV ak,slV al])/\∃am:Value->zb->Prop,((P==0)=Ta->XC Tp 42 #[.agg #[slV ai,slV aj],.agg #[slV ak,slV al]] ah (λan ao=>∃ap,an=.bool ap/\am (.bool ap) ao))/\((P==0)=Tc->∃aq,am (.bool aq) ah)/\((P==0)=Ta->∀ar au,am ar au->∃av,ar=.bool av)/\∀aw:Bool,∀ax,am (.bool aw) ax->∃ay az aA aB,((bif (bif (P==0)then aw else Tc)then af else Tc)=Ta->zd ax ⟨y.size,0,Te⟩ 0 [.int .i64 ay,.string az,slV aA,slV aB])/\∃aC aD aE aF,((bif (bif (P==0)then aw else Tc)then af else Tc)=Ta->zd ax ⟨aa.size,0,Te⟩ 0 [.int .i64 aC,.string aD,slV aE,slV aF])/\∃aG:Value->zb->Prop,((bif (bif (P==0)then aw else Tc)then af else Tc)=Ta->XC Tp 55 #[.agg #[.int .i64 ay,.string az,slV aA,slV aB],.agg #[.int .i64 aC,.string aD,slV aE,slV aF]] ax (λaH aI=>∃aJ,aH=.bool aJ/\aG (.bool aJ) aI))/\((bif (bif (P==0)then aw else Tc)then af else Tc)=Tc->∃aL,aG (.bool aL) ax)/\((bif (bif (P==0)then aw else Tc)then af else Tc)=Ta->∀aM aN,aG aM aN->∃aO,aM=.bool aO)/\∀aP:Bool,∀aQ,aG (.bool aP) aQ->∃aS aT,((bif (bif (bif (P==0)then aw else Tc)then af else Tc)then aP else Tc)=Ta->zd aQ ⟨M.size,0,Te⟩ 0 [slV aS,slV aT])/\∃aU:Value->zb->Prop,((bif (bif (bif (P==0)then aw else Tc)then af else Tc)then aP else Tc)=Ta->XC Tp 53 #[.agg #[slV aS,slV aT]] aQ (λaV aW=>∃aX,aV=slV aX/\aU (slV aX) aW))/\((bif (bif (bif (P==0)then aw else Tc)then af else Tc)then aP else Tc)=Tc->∃aY,aU (slV aY) aQ)/\((bif (bif (bif (P==0)then aw else Tc)then af else Tc)then aP else Tc)=Ta->∀aZ a0,aU aZ a0->∃a1,aZ=slV a1)/\∀a2:Sl,∀a3,aU (slV a2) a3->∃a4:Value->zb->Prop,((bif (bif (bif (P==0)then aw else Tc)then af else Tc)then aP else Tc)=Ta->let a5:=a3.push (.cells #[.int .i64 4,.int .i64 5] 3);a4 (.slice (Td ⟨a3.size,0,Te⟩) 2 2) a5)/\((bif (bif (bif (P==0)then aw else Tc)then af else Tc)then aP else Tc)=Tc->∃a6,a4 (slV a6) a3)/\((bif (bif (bif (P==0)then aw else Tc)then af else Tc)then aP else Tc)=Ta->∀a7 a8,a4 a7 a8->∃a9,a7=slV a9)/\∀ba:Sl,∀bb,a4 (slV ba) bb->∃bc:Value->zb->Prop,((bif (bif (bif (P==0)then aw else Tc)then af else Tc)then aP else Tc)=Ta->XC Tp 48 #[slV a2,slV ba] bb (λbd be=>∃bf,bd=.bool bf/\bc (.bool bf) be))/\((bif (bif (bif (P==0)then aw else Tc)then af else Tc)then aP else Tc)=Tc->∃bg,bc (.bool bg) bb)/\((bif (bif (bif (P==0)then aw else Tc)then af else Tc)then aP else Tc)=Ta->∀bh bi,bc bh bi->∃bj,bh=.bool bj)/\∀bk:Bool,∀bl,bc (.bool bk) bl->∃bm bn,((bif (bif (bif (bif (P==0)then aw else Tc)then af else Tc)then aP else Tc)then bk else Tc)=Ta->zd bl ⟨M.size,0,Te⟩ 0 [slV bm,slV bn])/\∃bo:Value->zb->Prop,((bif (bif (bif (bif (P==0)then aw else Tc)then af else Tc)then aP else Tc)then bk else Tc)=Ta->XC Tp 49 #[.agg #[slV bm,slV bn]] bl (λbp bq=>∃br,bp=slV br/\bo (slV br) bq))/\((bif (bif (bif (bif (P==0)then aw else Tc)then af else Tc)then aP else Tc)then bk else Tc)=Tc->∃bs,bo (slV bs) bl)/\((bif (bif (bif (bif (P==0)then aw else Tc)then af else Tc)then aP else Tc)then bk else Tc)=Ta->∀bt bu,bo bt bu->∃bv,bt=slV bv)/\∀bw:Sl,∀bx,bo (slV bw) bx->∃bz:Value->zb->Prop,((bif (bif (bif (bif (P==0)then aw else Tc)then af else Tc)then aP else Tc)then bk else Tc)=Ta->let bA:=bx.push (.cells #[.int .i64 5] 3);bz (.slice (Td ⟨bx.size,0,Te⟩) 1 1) bA)/\((bif (bif (bif (bif (P==0)then aw else Tc)then af else Tc)then aP else Tc)then bk else Tc)=Tc->∃bB,bz (slV bB) bx)/\((bif (bif (bif (bif (P==0)then aw else Tc)then af else Tc)then aP else Tc)then bk else Tc)=Ta->∀bC bD,bz bC bD->∃bE,bC=slV bE)/\∀bF:Sl,∀bG,bz (slV bF) bG->∃bH:Value->zb->Prop,((bif (bif (bif (bif (P==0)then aw else Tc)then af else Tc)then aP else Tc)then bk else Tc)=Ta->XC Tp 48 #[slV bw,slV bF] bG (λbI bJ=>∃bL,bI=.bool bL/\bH (.bool bL) bJ))/\((bif (bif (bif (bif (P==0)then aw else Tc)then af else Tc)then aP else Tc)then bk else Tc)=Tc->∃bM,bH (.bool bM) bG)/\((bif (bif (bif (bif (P==0)then aw else Tc)then af else Tc)then aP else Tc)then bk else Tc)=Ta->∀bN bO,bH bN bO->∃bP,bN=.bool bP)/\∀bQ:Bool,∀bS,bH (.bool bQ) bS->R (.bool (bif (bif (bif (bif (bif (P==0)then aw else Tc)then af else Tc)then aP else Tc)then bk else Tc)then bQ else Tc)) bS))))))))))):
  XC Tp 38 #[] h R:=
 XF ⟨[],[],[]⟩ [.tmp 0] 54 Tryz.func38 H
theorem zs3(b:Int)(c:Bt)(d:Sl)(e:Sl)(h:zb)(R:Value->zb->Prop) (H:let f:=h.push (.cells #[.int .i64 b,.string c,slV d,slV e] 26);let g:=f.push (.cells #[.slice Te 0 0,.slice Te 0 0] 71);∃i j k l,zd g ⟨h.size,0,Te⟩ 0 [.int .i64 i,.string j,slV k,slV l]/\XC Tp 33 #[.agg #[.int .i64 i,.string j,slV k,slV l]] g (λm n=>∃o,m=.bool o/\((!o)=Ta->XRunU Tp (Af 71 (.pointer (Td ⟨f.size,0,Te⟩)) (.agg #[.slice Te 0 0,.slice Te 0 0])) n (λp=>∃q r,zd p ⟨f.size,0,Te⟩ 0 [slV q,slV r]/\R (.tuple #[.agg #[slV q,slV r],.int .i64 1]) p))/\((!o)=Tc->let s:=n.push (.cells #[.slice Te 0 0,.slice Te 0 0] 132);∃t u v w,zd s ⟨h.size,0,Te⟩ 0 [.int .i64 t,.string u,slV v,slV w]/\XC Tp 37 #[.agg #[.int .i64 t,.string u,slV v,slV w]] s (λx y=>∃z A B C,x=.agg #[.int .i64 z,.string A,slV B,slV C]/\XC Tp 100 #[.pointer (Td ⟨n.size,0,Te⟩),.agg #[.int .i64 z,.string A,slV B,slV C]] y (λD E=>D=.tuple #[]/\∃F,zc E (Ad (Ad ⟨n.size,0,Te⟩ 0) 0)=Td (slV F)/\(decide ((F.len:Int)>512)=Ta->XRunU Tp (Af 71 (.pointer (Td ⟨f.size,0,Te⟩)) (.agg #[.slice Te 0 0,.slice Te 0 0])) E (λG=>∃I J,zd G ⟨f.size,0,Te⟩ 0 [slV I,slV J]/\R (.tuple #[.agg #[slV I,slV J],.int .i64 6]) G))/\(decide ((F.len:Int)>512)=Tc->∃L M,zd E (Ad ⟨n.size,0,Te⟩ 0) 0 [slV L,slV M]/\XRunU Tp (Af 71 (.pointer (Td ⟨f.size,0,Te⟩)) (.agg #[slV L,slV M])) E (λN=>∃O P,zd N ⟨f.size,0,Te⟩ 0 [slV O,slV P]/\R (.tuple #[.agg #[slV O,slV P],.int .i64 0]) N))))))):
  XC Tp 40 #[.agg #[.int .i64 b,.string c,.slice d.a d.len d.cap,.slice e.a e.len e.cap]] h R:=
 XF ⟨[],[],[]⟩ [.cell 2 71,.tmp 3] 20 Tryz.func40 H
theorem zpb(b:Sl)(c:Sl)(h:zb)(R:Value->zb->Prop) (H:let d:=h.push (.cells #[slV b,slV c] 71);let e:=d.push (.cells #[.int .i64 0,.string (⟨#[]⟩:Bt),.slice Te 0 0,.slice Te 0 0] 26);∃f g,zd e ⟨h.size,0,Te⟩ 0 [slV f,slV g]/\XC Tp 104 #[.agg #[slV f,slV g]] e (λi j=>∃k l,i=.tuple #[slV k,.bool l]/\∃m,((!(bif (!l)then Ta else((k.len:Int)==0)))=Ta->zc j (Ad ⟨h.size,0,Te⟩ 1)=Td (slV m))/\∃n,((!(bif (!l)then Ta else((k.len:Int)==0)))=Ta->(m.a=Td n/\0<=(Aa .i64 ((k.len:Int)-1))/\(Aa .i64 ((k.len:Int)-1))<(m.len:Int)))/\∃o,((!(bif (!l)then Ta else((k.len:Int)==0)))=Ta->zc j (n.add ((Aa .i64 ((k.len:Int)-1)).toNat*1))=Td (.int .i64 o))/\((bif (bif (!l)then Ta else((k.len:Int)==0))then Ta else(o != 0))=Ta->XRunU Tp (Af 26 (.pointer (Td ⟨d.size,0,Te⟩)) (.agg #[.int .i64 0,.string (⟨#[]⟩:Bt),.slice Te 0 0,.slice Te 0 0])) j (λp=>∃q r s t,zd p ⟨d.size,0,Te⟩ 0 [.int .i64 q,.string r,slV s,slV t]/\R (.tuple #[.agg #[.int .i64 q,.string r,slV s,slV t],.bool Tc]) p))/\((bif (bif (!l)then Ta else((k.len:Int)==0))then Ta else(o != 0))=Tc->∃u v,zd j ⟨h.size,0,Te⟩ 0 [slV u,slV v]/\XRun Tp (Instr.makeSlice 137 (.int .i64 (k.len:Int)) (.int .i64 (k.len:Int))) j (λw x=>∃y,w=slV y/\(x)[(⟨h.size,0,Te⟩:Addr).block]?=(j)[(⟨h.size,0,Te⟩:Addr).block]?/\let z:=x.push (.cells #[slV u,slV v,slV y] 139);∃(A:Int->zb->Prop) (B:Int->zb->Nat),A 0 z/\∀C:Int,∀D:zb,A C D->((decide (C<k.len)=Ta->∃E,(k.a=Td E/\0<=C/\C<k.len)/\∃F,zc D (E.add (C.toNat*1))=Td (.int .i64 F)/\(decide (F>=0)=Ta->∃G:Addr,Td ⟨x.size,0,Te⟩=Td G/\∃I,zc D (Ad G 2)=Td (slV I)/\∃J:Addr,Td ⟨x.size,0,Te⟩=Td J/\∃L,zc D (Ad J 2)=Td (slV L)/\∃M,(L.a=Td M/\0<=F/\F<L.len)/\∃N,zc D (M.add (F.toNat*1))=Td (slV N)/\let O:=D.push (.cells #[.int .i64 C] 3);(O)[((M.add (F.toNat*1)):Addr).block]?=(D)[((M.add (F.toNat*1)):Addr).block]?/\(O)[((Ad J 2):Addr).block]?=(D)[((Ad J 2):Addr).block]?/\(O)[((Ad G 2):Addr).block]?=(D)[((Ad G 2):Addr).block]?/\XRun Tp (Au #[59,59] 59 #[slV N,.slice (Td ⟨D.size,0,Te⟩) 1 1]) O (λP Q=>∃S,P=slV S/\∃T,(I.a=Td T/\0<=F/\F<I.len)/\(Q)[((Ad G 2):Addr).block]?=(D)[((Ad G 2):Addr).block]?/\XRunU Tp (Af 59 (.pointer (Td (T.add (F.toNat*1)))) (slV S)) Q (λU=>(A (Aa .i64 (C+1)) U/\B (Aa .i64 (C+1)) U<B C D))))/\(decide (F>=0)=Tc->(A (Aa .i64 (C+1)) D/\B (Aa .i64 (C+1)) D<B C D)))/\(decide (C<k.len)=Tc->XC Tp 105 #[.pointer (Td ⟨x.size,0,Te⟩),.int .i64 (Aa .i64 ((k.len:Int)-1))] D (λV W=>∃X Y Z aa ab,V=.tuple #[.agg #[.int .i64 X,.string Y,slV Z,slV aa],.bool ab]/\let ac:=W.push (.cells #[.int .i64 0,.string (⟨#[]⟩:Bt),.slice Te 0 0,.slice Te 0 0] 26);XRunU Tp (Af 26 (.pointer (Td ⟨W.size,0,Te⟩)) (.agg #[.int .i64 X,.string Y,slV Z,slV aa])) ac (λad=>∃ae af ag ah,zd ad ⟨W.size,0,Te⟩ 0 [.int .i64 ae,.string af,slV ag,slV ah]/\XC Tp 40 #[.agg #[.int .i64 ae,.string af,slV ag,slV ah]] ad (λai aj=>∃ak al am,ai=.tuple #[.agg #[slV ak,slV al],.int .i64 am]/\let an:=aj.push (.cells #[.slice Te 0 0,.slice Te 0 0] 71);XRunU Tp (Af 71 (.pointer (Td ⟨aj.size,0,Te⟩)) (.agg #[slV ak,slV al])) an (λao=>∃ap aq,((!(bif (!ab)then Ta else(am != 0)))=Ta->zd ao ⟨aj.size,0,Te⟩ 0 [slV ap,slV aq])/\∃ar au,((!(bif (!ab)then Ta else(am != 0)))=Ta->zd ao ⟨h.size,0,Te⟩ 0 [slV ar,slV au])/\∃av:Value->zb->Prop,((!(bif (!ab)then Ta else(am != 0)))=Ta->XC Tp 106 #[.agg #[slV ap,slV aq],.agg #[slV ar,slV au]] ao (λaw ax=>∃ay,aw=.bool ay/\av (.bool ay) ax))/\((!(bif (!ab)then Ta else(am != 0)))=Tc->∃az,av (.bool az) ao)/\((!(bif (!ab)then Ta else(am != 0)))=Ta->∀aA aB,av aA aB->∃aC,aA=.bool aC)/\∀aD:Bool,∀aE,av (.bool aD) aE->((bif (bif (!ab)then Ta else(am != 0))then Ta else(!aD))=Ta->XRunU Tp (Af 26 (.pointer (Td ⟨d.size,0,Te⟩)) (.agg #[.int .i64 0,.string (⟨#[]⟩:Bt),.slice Te 0 0,.slice Te 0 0])) aE (λaF=>∃aG aH aI aJ,zd aF ⟨d.size,0,Te⟩ 0 [.int .i64 aG,.string aH,slV aI,slV aJ]/\R (.tuple #[.agg #[.int .i64 aG,.string aH,slV aI,slV aJ],.bool Tc]) aF))/\((bif (bif (!ab)then Ta else(am != 0))then Ta else(!aD))=Tc->∃aL aM aN aO,zd aE ⟨W.size,0,Te⟩ 0 [.int .i64 aL,.string aM,slV aN,slV aO]/\XRunU Tp (Af 26 (.pointer (Td ⟨d.size,0,Te⟩)) (.agg #[.int .i64 aL,.string aM,slV aN,slV aO])) aE (λaP=>∃aQ aS aT aU,zd aP ⟨d.size,0,Te⟩ 0 [.int .i64 aQ,.string aS,slV aT,slV aU]/\R (.tuple #[.agg #[.int .i64 aQ,.string aS,slV aT,slV aU],.bool Ta]) aP)))))))))))):
  XC Tp 44 #[.agg #[.slice b.a b.len b.cap,.slice c.a c.len c.cap]] h R:=
 XF ⟨[(5,8000),(10,8000)],[(7,[(44,.one (.int .i64))])],[]⟩ [.cell 2 26,.tmp 3] 94 Tryz.func44 H
theorem zhh(b:Sl)(c:Sl)(h:zb)(R:Value->zb->Prop) (H:let d:=h.push (.cells #[slV b,slV c] 71);∃e f,zd d ⟨h.size,0,Te⟩ 0 [slV e,slV f]/\XC Tp 46 #[.agg #[slV e,slV f]] d (λg i=>∃j,g=.bool j/\((!j)=Ta->R (.slice Te 0 0) i)/\((!j)=Tc->let k:=i.push (.map #[] 0);∃l,zc k (Ad ⟨h.size,0,Te⟩ 1)=Td (slV l)/\∃(m:Int->zb->Prop) (n:Int->zb->Nat),m 0 k/\∀o:Int,∀p:zb,m o p->((decide (o<l.len)=Ta->∃q,(l.a=Td q/\0<=o/\o<l.len)/\∃r,zc p (q.add (o.toNat*1))=Td (.int .i64 r)/\XRunU Tp (Cv 142 (.map (Td i.size)) (.int .i64 r) (.int .i64 o)) p (λs=>(m (Aa .i64 (o+1)) s/\n (Aa .i64 (o+1)) s<n o p)))/\(decide (o<l.len)=Tc->XRun Tp (D9 142 (.map (Td i.size))) p (λt u=>∃v:Option Addr,t=.pointer v/\∃(w:Sl->zb->Prop) (x:Sl->zb->Nat),w (⟨Te,0,0⟩:Sl) u/\∀y:Sl,∀z:zb,w y z->(XRun Tp (Di (.pointer v) Tc 0) z (λA B=>(A=.tuple #[.bool Tc]/\(Tc=Ta->XRun Tp (DO (.pointer v)) B (λC D=>∃E F:Value,C=.tuple #[E,F]/\bsR Tp 59 1 F D (λG I=>XRun Tp (Au #[59,59] 59 #[slV y,G]) I (λJ L=>∃M,J=slV M/\(w M L/\x M L<x y z)))))/\(Tc=Tc->XC Tp 108 #[slV y] B (λN O=>N=.tuple #[]/\R (slV y) O)))\/∃P Q:Value,A=.tuple #[.bool Ta,P,Q]/\(Ta=Ta->XRun Tp (DO (.pointer v)) B (λS T=>∃U V:Value,S=.tuple #[U,V]/\bsR Tp 59 1 V T (λW X=>XRun Tp (Au #[59,59] 59 #[slV y,W]) X (λY Z=>∃aa,Y=slV aa/\(w aa Z/\x aa Z<x y z)))))/\(Ta=Tc->XC Tp 108 #[slV y] B (λab ac=>ab=.tuple #[]/\R (slV y) ac)))))))))):
  XC Tp 53 #[.agg #[.slice b.a b.len b.cap,.slice c.a c.len c.cap]] h R:=
 XF ⟨[],[(5,[(16,.one (.int .i64))]),(11,[(6,.one (.sl))])],[]⟩ [.tmp 2] 38 Tryz.func53 H
theorem zar(b0:Option Addr)(b:Int)(c:Bt)(d:Sl)(e:Sl)(h:zb)(R:Value->zb->Prop) (H:let f:=h.push (.cells #[.pointer b0] 199);let g:=f.push (.cells #[.int .i64 b,.string c,slV d,slV e] 26);∃i,zc g (Ad ⟨f.size,0,Te⟩ 0)=Td (.int .i64 i)/\((i==5)=Ta->∃j:Option Addr,zc g ⟨h.size,0,Te⟩=Td (.pointer j)/\XC Tp 175 #[.pointer j,.string (⟨#[91]⟩:Bt),.func (.func 176) #[] #[.pointer (Td ⟨f.size,0,Te⟩),.pointer (Td ⟨h.size,0,Te⟩)]] g (λk l=>k=.tuple #[]/\R (.tuple #[]) l))/\((i==5)=Tc->((i==6)=Ta->∃m:Option Addr,zc g ⟨h.size,0,Te⟩=Td (.pointer m)/\XC Tp 175 #[.pointer m,.string (⟨#[123]⟩:Bt),.func (.func 177) #[] #[.pointer (Td ⟨f.size,0,Te⟩),.pointer (Td ⟨h.size,0,Te⟩)]] g (λn o=>n=.tuple #[]/\R (.tuple #[]) o))/\((i==6)=Tc->∃p:Option Addr,zc g ⟨h.size,0,Te⟩=Td (.pointer p)/\∃q r s t,zd g ⟨f.size,0,Te⟩ 0 [.int .i64 q,.string r,slV s,slV t]/\XC Tp 178 #[.agg #[.int .i64 q,.string r,slV s,slV t]] g (λu v=>∃w,u=.string w/\(v)[(⟨h.size,0,Te⟩:Addr).block]?=(g)[(⟨h.size,0,Te⟩:Addr).block]?/\XC Tp 175 #[.pointer p,.string w,.func (.func 180) #[] #[]] v (λx y=>x=.tuple #[]/\R (.tuple #[]) y))))):
  XC Tp 100 #[.pointer b0,.agg #[.int .i64 b,.string c,.slice d.a d.len d.cap,.slice e.a e.len e.cap]] h R:=
 XF ⟨[(2,8000)],[],[]⟩ [] 20 Tryz.func100 H
theorem zj7(b:Sl)(c:Sl)(h:zb)(R:Value->zb->Prop) (H:let d:=h.push (.cells #[slV b,slV c] 71);∃e,zc d (Ad ⟨h.size,0,Te⟩ 0)=Td (slV e)/\∃f,zc d (Ad ⟨h.size,0,Te⟩ 1)=Td (slV f)/\∃g,((!((e.len:Int) != (f.len:Int)))=Ta->zc d (Ad ⟨h.size,0,Te⟩ 0)=Td (slV g))/\((bif ((e.len:Int) != (f.len:Int))then Ta else(decide ((g.len:Int)>512)))=Ta->R (.tuple #[.slice Te 0 0,.bool Tc]) d)/\((bif ((e.len:Int) != (f.len:Int))then Ta else(decide ((g.len:Int)>512)))=Tc->∃i,zc d (Ad ⟨h.size,0,Te⟩ 1)=Td (slV i)/\XRun Tp (Instr.makeSlice 59 (.int .i64 (i.len:Int)) (.int .i64 (i.len:Int))) d (λj k=>∃l,j=slV l/\∃m,zc k (Ad ⟨h.size,0,Te⟩ 1)=Td (slV m)/\∃(n:Sl->Int->zb->Prop) (o:Sl->Int->zb->Nat),n (⟨Te,0,0⟩:Sl) 0 k/\∀p:Sl,∀q:Int,∀r:zb,n p q r->((decide (q<m.len)=Ta->∃s,(m.a=Td s/\0<=q/\q<m.len)/\∃t,zc r (s.add (q.toNat*1))=Td (.int .i64 t)/\((bif (decide (t<0))then Ta else(decide (t>q)))=Ta->R (.tuple #[.slice Te 0 0,.bool Tc]) r)/\((bif (decide (t<0))then Ta else(decide (t>q)))=Tc->∃(u:Sl->zb->Prop) (w:Sl->zb->Nat),u p r/\∀x:Sl,∀y:zb,u x y->(∃z,(decide ((x.len:Int)>0)=Ta->(x.a=Td z/\0<=(Aa .i64 ((x.len:Int)-1))/\(Aa .i64 ((x.len:Int)-1))<(x.len:Int)))/\∃A,(decide ((x.len:Int)>0)=Ta->zc y (z.add ((Aa .i64 ((x.len:Int)-1)).toNat*1))=Td (.int .i64 A))/\((bif (decide ((x.len:Int)>0))then(decide (A>=t))else Tc)=Ta->∃B,(x.a=Td B/\0<=(Aa .i64 ((x.len:Int)-1))/\(Aa .i64 ((x.len:Int)-1))<(x.len:Int))/\∃C,zc y (B.add ((Aa .i64 ((x.len:Int)-1)).toNat*1))=Td (.int .i64 C)/\∃D,zc y (Ad ⟨h.size,0,Te⟩ 1)=Td (slV D)/\∃E,(D.a=Td E/\0<=C/\C<D.len)/\∃F,zc y (E.add (C.toNat*1))=Td (.int .i64 F)/\(decide (F<t)=Ta->R (.tuple #[.slice Te 0 0,.bool Tc]) y)/\(decide (F<t)=Tc->∃G,(l.a=Td G/\0<=C/\C<l.len)/\let I:zb->Prop:=λ(J:zb)=>((u (⟨zfb x.a 1 ((0:Int).toNat) ((x.cap:Int).toNat),(Aa .i64 ((x.len:Int)-1)).toNat-(0:Int).toNat,(x.cap:Int).toNat-(0:Int).toNat⟩:Sl) J/\w (⟨zfb x.a 1 ((0:Int).toNat) ((x.cap:Int).toNat),(Aa .i64 ((x.len:Int)-1)).toNat-(0:Int).toNat,(x.cap:Int).toNat-(0:Int).toNat⟩:Sl) J<w x y));(((Te:Option Value)=Te\/∃v,(Td (.int .i64 (Aa .i64 ((x.len:Int)-1))):Option Value)=Td v)/\(0<=(0:Int)/\(0:Int)<=(Aa .i64 ((x.len:Int)-1))/\(Aa .i64 ((x.len:Int)-1))<=(x.cap:Int)/\(x.cap:Int)<=(x.cap:Int))/\XRunU Tp (Af 3 (.pointer (Td (G.add (C.toNat*1)))) (.int .i64 q)) y (λL=>I L))/\(XRunU Tp (Af 3 (.pointer (Td (G.add (C.toNat*1)))) (.int .i64 q)) y (λM=>((Te:Option Value)=Te\/∃v,(Td (.int .i64 (Aa .i64 ((x.len:Int)-1))):Option Value)=Td v)/\(0<=(0:Int)/\(0:Int)<=(Aa .i64 ((x.len:Int)-1))/\(Aa .i64 ((x.len:Int)-1))<=(x.cap:Int)/\(x.cap:Int)<=(x.cap:Int))/\I M))))/\((bif (decide ((x.len:Int)>0))then(decide (A>=t))else Tc)=Tc->∃N,(l.a=Td N/\0<=q/\q<l.len)/\XRunU Tp (Af 3 (.pointer (Td (N.add (q.toNat*1)))) (.int .i64 (-1))) y (λO=>let P:=O.push (.cells #[.int .i64 q] 3);XRun Tp (Au #[59,59] 59 #[slV x,.slice (Td ⟨O.size,0,Te⟩) 1 1]) P (λQ S=>∃T,Q=slV T/\(n T (Aa .i64 (q+1)) S/\o T (Aa .i64 (q+1)) S<o p q r)))))))/\(decide (q<m.len)=Tc->R (.tuple #[slV l,.bool Ta]) r))))):
  XC Tp 104 #[.agg #[.slice b.a b.len b.cap,.slice c.a c.len c.cap]] h R:=
 XF ⟨[(14,8000)],[(6,[(5,.one (.sl)),(29,.one (.int .i64))]),(10,[(5,.one (.sl))])],[]⟩ [.tmp 2,.tmp 3] 85 Tryz.func104 H
theorem zbn(r0:Option Addr)(n1:Int)(h:zb)(R:Value->zb->Prop) (H:let b:=h.push (.cells #[.int .i64 0,.string (⟨#[]⟩:Bt),.slice Te 0 0,.slice Te 0 0] 26);∃c,r0=Td c/\∃d,zc b (Ad (Ad c 0) 0)=Td (slV d)/\∃e,(d.a=Td e/\0<=n1/\n1<d.len)/\∃f,zc b (e.add (n1.toNat*1))=Td (.string f)/\((f.toList==(⟨#[91]⟩:Bt).toList)=Ta->XRunU Tp (Af 3 (.pointer (Td (Ad ⟨h.size,0,Te⟩ 0))) (.int .i64 5)) b (λg=>∃i,r0=Td i/\∃j,zc g (Ad i 2)=Td (slV j)/\∃k,(j.a=Td k/\0<=n1/\n1<j.len)/\∃l,zc g (k.add (n1.toNat*1))=Td (slV l)/\∃(m:Int->zb->Prop) (n:Int->zb->Nat),m 0 g/\∀o:Int,∀p:zb,m o p->((decide (o<l.len)=Ta->∃q,(l.a=Td q/\0<=o/\o<l.len)/\∃r,zc p (q.add (o.toNat*1))=Td (.int .i64 r)/\XC Tp 105 #[.pointer r0,.int .i64 r] p (λs t=>∃u v w x y,s=.tuple #[.agg #[.int .i64 u,.string v,slV w,slV x],.bool y]/\let z:=t.push (.cells #[.int .i64 0,.string (⟨#[]⟩:Bt),.slice Te 0 0,.slice Te 0 0] 26);XRunU Tp (Af 26 (.pointer (Td ⟨t.size,0,Te⟩)) (.agg #[.int .i64 u,.string v,slV w,slV x])) z (λA=>((!y)=Ta->XRunU Tp (Af 26 (.pointer (Td ⟨h.size,0,Te⟩)) (.agg #[.int .i64 0,.string (⟨#[]⟩:Bt),.slice Te 0 0,.slice Te 0 0])) A (λB=>∃C D E F,zd B ⟨h.size,0,Te⟩ 0 [.int .i64 C,.string D,slV E,slV F]/\R (.tuple #[.agg #[.int .i64 C,.string D,slV E,slV F],.bool Tc]) B))/\((!y)=Tc->∃G,zc A (Ad ⟨h.size,0,Te⟩ 3)=Td (slV G)/\∃I J L M,zd A ⟨t.size,0,Te⟩ 0 [.int .i64 I,.string J,slV L,slV M]/\let N:=A.push (.cells #[.int .i64 I,.string J,slV L,slV M] 26);XRun Tp (Au #[24,24] 24 #[slV G,.slice (Td ⟨A.size,0,Te⟩) 1 1]) N (λO P=>∃Q,O=slV Q/\XRunU Tp (Af 24 (.pointer (Td (Ad ⟨h.size,0,Te⟩ 3))) (slV Q)) P (λS=>(m (Aa .i64 (o+1)) S/\n (Aa .i64 (o+1)) S<n o p)))))))/\(decide (o<l.len)=Tc->∃T U V W,zd p ⟨h.size,0,Te⟩ 0 [.int .i64 T,.string U,slV V,slV W]/\XRunU Tp (Af 26 (.pointer (Td ⟨h.size,0,Te⟩)) (.agg #[.int .i64 T,.string U,slV V,slV W])) p (λX=>∃Y Z aa ab,zd X ⟨h.size,0,Te⟩ 0 [.int .i64 Y,.string Z,slV aa,slV ab]/\R (.tuple #[.agg #[.int .i64 Y,.string Z,slV aa,slV ab],.bool Ta]) X)))))/\((f.toList==(⟨#[91]⟩:Bt).toList)=Tc->((f.toList==(⟨#[123]⟩:Bt).toList)=Ta->XRunU Tp (Af 3 (.pointer (Td (Ad ⟨h.size,0,Te⟩ 0))) (.int .i64 6)) b (λac=>∃ad,r0=Td ad/\∃ae,zc ac (Ad ad 2)=Td (slV ae)/\∃af,(ae.a=Td af/\0<=n1/\n1<ae.len)/\∃ag,zc ac (af.add (n1.toNat*1))=Td (slV ag)/\∃(ah:Int->zb->Prop) (ai:Int->zb->Nat),ah 0 ac/\∀aj:Int,∀ak:zb,ah aj ak->((decide (aj<ag.len)=Ta->∃al,(ag.a=Td al/\0<=aj/\aj<ag.len)/\∃am,zc ak (al.add (aj.toNat*1))=Td (.int .i64 am)/\XC Tp 188 #[.pointer r0,.int .i64 am] ak (λan ao=>∃ap aq ar au av aw,an=.tuple #[.string ap,.agg #[.int .i64 aq,.string ar,slV au,slV av],.bool aw]/\let ax:=ao.push (.cells #[.int .i64 0,.string (⟨#[]⟩:Bt),.slice Te 0 0,.slice Te 0 0] 26);XRunU Tp (Af 26 (.pointer (Td ⟨ao.size,0,Te⟩)) (.agg #[.int .i64 aq,.string ar,slV au,slV av])) ax (λay=>((!aw)=Ta->XRunU Tp (Af 26 (.pointer (Td ⟨h.size,0,Te⟩)) (.agg #[.int .i64 0,.string (⟨#[]⟩:Bt),.slice Te 0 0,.slice Te 0 0])) ay (λaz=>∃aA aB aC aD,zd az ⟨h.size,0,Te⟩ 0 [.int .i64 aA,.string aB,slV aC,slV aD]/\R (.tuple #[.agg #[.int .i64 aA,.string aB,slV aC,slV aD],.bool Tc]) az))/\((!aw)=Tc->∃aE,zc ay (Ad ⟨h.size,0,Te⟩ 2)=Td (slV aE)/\∃aF,zc ay (Ad ⟨h.size,0,Te⟩ 3)=Td (slV aF)/\∃aG aH aI aJ,zd ay ⟨ao.size,0,Te⟩ 0 [.int .i64 aG,.string aH,slV aI,slV aJ]/\let aL:Sl->Sl->zb->Prop:=λ(aM:Sl) (aN:Sl) (aO:zb)=>(XRun Tp (Au #[24,24] 24 #[slV aF,slV aM]) aO (λaP aQ=>∃aS,aP=slV aS/\XRunU Tp (Af 23 (.pointer (Td (Ad ⟨h.size,0,Te⟩ 2))) (slV aN)) aQ (λaT=>XRunU Tp (Af 24 (.pointer (Td (Ad ⟨h.size,0,Te⟩ 3))) (slV aS)) aT (λaU=>(ah (Aa .i64 (aj+1)) aU/\ai (Aa .i64 (aj+1)) aU<ai aj ak)))));let aV:Sl->Sl->zb->Prop:=λ(aW:Sl) (aX:Sl) (aY:zb)=>(XRun Tp (Au #[23,23] 23 #[slV aE,slV aX]) aY (λaZ a0=>∃a1,aZ=slV a1/\(a0)[((Ad ⟨h.size,0,Te⟩ 3):Addr).block]?=(ay)[((Ad ⟨h.size,0,Te⟩ 3):Addr).block]?/\aL aW a1 a0));(let a2:=ay.push (.cells #[.string ap] 9);(a2)[(⟨ao.size,0,Te⟩:Addr).block]?=(ay)[(⟨ao.size,0,Te⟩:Addr).block]?/\(a2)[((Ad ⟨h.size,0,Te⟩ 3):Addr).block]?=(ay)[((Ad ⟨h.size,0,Te⟩ 3):Addr).block]?/\(a2)[((Ad ⟨h.size,0,Te⟩ 2):Addr).block]?=(ay)[((Ad ⟨h.size,0,Te⟩ 2):Addr).block]?/\(XRun Tp (Au #[23,23] 23 #[slV aE,.slice (Td ⟨ay.size,0,Te⟩) 1 1]) a2 (λa3 a4=>∃a5,a3=slV a5/\(a4)[(⟨ao.size,0,Te⟩:Addr).block]?=(ay)[(⟨ao.size,0,Te⟩:Addr).block]?/\(a4)[((Ad ⟨h.size,0,Te⟩ 3):Addr).block]?=(ay)[((Ad ⟨h.size,0,Te⟩ 3):Addr).block]?/\let a6:=a4.push (.cells #[.int .i64 aG,.string aH,slV aI,slV aJ] 26);(a6)[((Ad ⟨h.size,0,Te⟩ 3):Addr).block]?=(ay)[((Ad ⟨h.size,0,Te⟩ 3):Addr).block]?/\aL (⟨Td ⟨a4.size,0,Te⟩,1,1⟩:Sl) a5 a6))/\(let a7:=a2.push (.cells #[.int .i64 aG,.string aH,slV aI,slV aJ] 26);(a7)[((Ad ⟨h.size,0,Te⟩ 3):Addr).block]?=(ay)[((Ad ⟨h.size,0,Te⟩ 3):Addr).block]?/\(a7)[((Ad ⟨h.size,0,Te⟩ 2):Addr).block]?=(ay)[((Ad ⟨h.size,0,Te⟩ 2):Addr).block]?/\aV (⟨Td ⟨a2.size,0,Te⟩,1,1⟩:Sl) (⟨Td ⟨ay.size,0,Te⟩,1,1⟩:Sl) a7))/\(let a8:=ay.push (.cells #[.int .i64 aG,.string aH,slV aI,slV aJ] 26);(a8)[((Ad ⟨h.size,0,Te⟩ 3):Addr).block]?=(ay)[((Ad ⟨h.size,0,Te⟩ 3):Addr).block]?/\(a8)[((Ad ⟨h.size,0,Te⟩ 2):Addr).block]?=(ay)[((Ad ⟨h.size,0,Te⟩ 2):Addr).block]?/\let a9:=a8.push (.cells #[.string ap] 9);(a9)[((Ad ⟨h.size,0,Te⟩ 3):Addr).block]?=(ay)[((Ad ⟨h.size,0,Te⟩ 3):Addr).block]?/\(a9)[((Ad ⟨h.size,0,Te⟩ 2):Addr).block]?=(ay)[((Ad ⟨h.size,0,Te⟩ 2):Addr).block]?/\aV (⟨Td ⟨ay.size,0,Te⟩,1,1⟩:Sl) (⟨Td ⟨a8.size,0,Te⟩,1,1⟩:Sl) a9)))))/\(decide (aj<ag.len)=Tc->∃ba bb bc bd,zd ak ⟨h.size,0,Te⟩ 0 [.int .i64 ba,.string bb,slV bc,slV bd]/\XRunU Tp (Af 26 (.pointer (Td ⟨h.size,0,Te⟩)) (.agg #[.int .i64 ba,.string bb,slV bc,slV bd])) ak (λbe=>∃bf bg bh bi,zd be ⟨h.size,0,Te⟩ 0 [.int .i64 bf,.string bg,slV bh,slV bi]/\R (.tuple #[.agg #[.int .i64 bf,.string bg,slV bh,slV bi],.bool Ta]) be)))))/\((f.toList==(⟨#[123]⟩:Bt).toList)=Tc->∃bj,r0=Td bj/\∃bk,zc b (Ad (Ad bj 0) 0)=Td (slV bk)/\∃bl,(bk.a=Td bl/\0<=n1/\n1<bk.len)/\∃bm,zc b (bl.add (n1.toNat*1))=Td (.string bm)/\XC Tp 189 #[.string bm] b (λbn bo=>∃bp bq br bs bt,bn=.tuple #[.agg #[.int .i64 bp,.string bq,slV br,slV bs],.bool bt]/\XRunU Tp (Af 26 (.pointer (Td ⟨h.size,0,Te⟩)) (.agg #[.int .i64 bp,.string bq,slV br,slV bs])) bo (λbu=>∃bv bw bx bz,zd bu ⟨h.size,0,Te⟩ 0 [.int .i64 bv,.string bw,slV bx,slV bz]/\let bA:Bool->zb->Prop:=λbB (bC:zb)=>(∃bD bE bF bG,zd bC ⟨h.size,0,Te⟩ 0 [.int .i64 bD,.string bE,slV bF,slV bG]/\R (.tuple #[.agg #[.int .i64 bD,.string bE,slV bF,slV bG],.bool bB]) bC);let bH:Bool->zb->Prop:=λbI (bJ:zb)=>(bA (bif bt then bI else Tc) bJ);let bL:Int->zb->Prop:=λbM (bN:zb)=>(bH (bM==0) bN);let bO:Sl->zb->Prop:=λ(bP:Sl) (bQ:zb)=>(bL (bP.len:Int) bQ);let bS:Addr->zb->Prop:=λ(bT:Addr) (bU:zb)=>(∃bV,(bt=Ta->zc bU bT=Td (slV bV))/\bO bV bU);let bW:Sl->zb->Prop:=λ(bX:Sl) (bY:zb)=>(∃bZ,(bt=Ta->(bX.a=Td bZ/\0<=n1/\n1<bX.len))/\bS (bZ.add (n1.toNat*1)) bY);let b0:Sl->zb->Prop:=λ(b1:Sl) (b2:zb)=>((∃b3,(bt=Ta->(b1.a=Td b3/\0<=n1/\n1<b1.len))/\(b2)[(⟨h.size,0,Te⟩:Addr).block]?=(bu)[(⟨h.size,0,Te⟩:Addr).block]?/\(∃b4,(bt=Ta->zc b2 (b3.add (n1.toNat*1))=Td (slV b4))/\(b2)[(⟨h.size,0,Te⟩:Addr).block]?=(bu)[(⟨h.size,0,Te⟩:Addr).block]?/\((b2)[(⟨h.size,0,Te⟩:Addr).block]?=(bu)[(⟨h.size,0,Te⟩:Addr).block]?/\((b2)[(⟨h.size,0,Te⟩:Addr).block]?=(bu)[(⟨h.size,0,Te⟩:Addr).block]?/\((b2)[(⟨h.size,0,Te⟩:Addr).block]?=(bu)[(⟨h.size,0,Te⟩:Addr).block]?/\XRunU Tp (Af 26 (.pointer (Td ⟨h.size,0,Te⟩)) (.agg #[.int .i64 bv,.string bw,slV bx,slV bz])) b2 (λb5=>bA (bif bt then((b4.len:Int)==0)else Tc) b5))/\(XRunU Tp (Af 26 (.pointer (Td ⟨h.size,0,Te⟩)) (.agg #[.int .i64 bv,.string bw,slV bx,slV bz])) b2 (λb6=>bH ((b4.len:Int)==0) b6)))/\(XRunU Tp (Af 26 (.pointer (Td ⟨h.size,0,Te⟩)) (.agg #[.int .i64 bv,.string bw,slV bx,slV bz])) b2 (λb7=>bL (b4.len:Int) b7)))/\(XRunU Tp (Af 26 (.pointer (Td ⟨h.size,0,Te⟩)) (.agg #[.int .i64 bv,.string bw,slV bx,slV bz])) b2 (λb8=>bO b4 b8)))/\(XRunU Tp (Af 26 (.pointer (Td ⟨h.size,0,Te⟩)) (.agg #[.int .i64 bv,.string bw,slV bx,slV bz])) b2 (λb9=>bS (b3.add (n1.toNat*1)) b9)))/\(XRunU Tp (Af 26 (.pointer (Td ⟨h.size,0,Te⟩)) (.agg #[.int .i64 bv,.string bw,slV bx,slV bz])) b2 (λca=>bW b1 ca)));let cb:Sl->zb->Prop:=λ(cc:Sl) (cd:zb)=>(bW cc cd);let ce:Addr->zb->Prop:=λ(cf:Addr) (cg:zb)=>(∃ch,(bt=Ta->zc cg cf=Td (slV ch))/\bW ch cg);let ci:Addr->zb->Prop:=λ(cj:Addr) (ck:zb)=>((∃cl,(bt=Ta->zc ck cj=Td (slV cl))/\(ck)[(⟨h.size,0,Te⟩:Addr).block]?=(bu)[(⟨h.size,0,Te⟩:Addr).block]?/\b0 cl ck)/\(XRunU Tp (Af 26 (.pointer (Td ⟨h.size,0,Te⟩)) (.agg #[.int .i64 bv,.string bw,slV bx,slV bz])) ck (λcm=>ce cj cm)));let cn:Addr->zb->Prop:=λ(co:Addr) (cp:zb)=>((∃cq,(bt=Ta->zc cp co=Td (slV cq))/\cb cq cp)/\(ce co cp));let cr:Addr->zb->Prop:=λ(cs:Addr) (ct:zb)=>(ce (Ad cs 2) ct);let cu:Addr->zb->Prop:=λ(cv:Addr) (cw:zb)=>(((cw)[(⟨h.size,0,Te⟩:Addr).block]?=(bu)[(⟨h.size,0,Te⟩:Addr).block]?/\ci (Ad cv 2) cw)/\(XRunU Tp (Af 26 (.pointer (Td ⟨h.size,0,Te⟩)) (.agg #[.int .i64 bv,.string bw,slV bx,slV bz])) cw (λcx=>cr cv cx)));let cy:Addr->zb->Prop:=λ(cz:Addr) (cA:zb)=>((cn (Ad cz 2) cA)/\(cr cz cA));let cB:zb->Prop:=λ(cC:zb)=>(∃cD,(bt=Ta->r0=Td cD)/\cr cD cC);let cE:zb->Prop:=λ(cF:zb)=>((∃cG,(bt=Ta->r0=Td cG)/\(cF)[(⟨h.size,0,Te⟩:Addr).block]?=(bu)[(⟨h.size,0,Te⟩:Addr).block]?/\cu cG cF)/\(XRunU Tp (Af 26 (.pointer (Td ⟨h.size,0,Te⟩)) (.agg #[.int .i64 bv,.string bw,slV bx,slV bz])) cF (λcH=>cB cH)));let cI:zb->Prop:=λ(cJ:zb)=>((∃cL,(bt=Ta->r0=Td cL)/\cy cL cJ)/\(cB cJ));let cM:zb->Prop:=λ(cN:zb)=>(cB cN);((bu)[(⟨h.size,0,Te⟩:Addr).block]?=(bu)[(⟨h.size,0,Te⟩:Addr).block]?/\(∃cO,(bt=Ta->r0=Td cO)/\(bu)[(⟨h.size,0,Te⟩:Addr).block]?=(bu)[(⟨h.size,0,Te⟩:Addr).block]?/\((bu)[(⟨h.size,0,Te⟩:Addr).block]?=(bu)[(⟨h.size,0,Te⟩:Addr).block]?/\(∃cP,(bt=Ta->zc bu (Ad cO 2)=Td (slV cP))/\(bu)[(⟨h.size,0,Te⟩:Addr).block]?=(bu)[(⟨h.size,0,Te⟩:Addr).block]?/\((bu)[(⟨h.size,0,Te⟩:Addr).block]?=(bu)[(⟨h.size,0,Te⟩:Addr).block]?/\b0 cP bu)/\(XRunU Tp (Af 26 (.pointer (Td ⟨h.size,0,Te⟩)) (.agg #[.int .i64 bv,.string bw,slV bx,slV bz])) bu (λcQ=>cb cP cQ)))/\((bu)[(⟨h.size,0,Te⟩:Addr).block]?=(bu)[(⟨h.size,0,Te⟩:Addr).block]?/\ci (Ad cO 2) bu)/\(XRunU Tp (Af 26 (.pointer (Td ⟨h.size,0,Te⟩)) (.agg #[.int .i64 bv,.string bw,slV bx,slV bz])) bu (λcS=>cn (Ad cO 2) cS)))/\((bu)[(⟨h.size,0,Te⟩:Addr).block]?=(bu)[(⟨h.size,0,Te⟩:Addr).block]?/\cu cO bu)/\(XRunU Tp (Af 26 (.pointer (Td ⟨h.size,0,Te⟩)) (.agg #[.int .i64 bv,.string bw,slV bx,slV bz])) bu (λcT=>cy cO cT)))/\((bu)[(⟨h.size,0,Te⟩:Addr).block]?=(bu)[(⟨h.size,0,Te⟩:Addr).block]?/\cE bu)/\(XRunU Tp (Af 26 (.pointer (Td ⟨h.size,0,Te⟩)) (.agg #[.int .i64 bv,.string bw,slV bx,slV bz])) bu (λcU=>cI cU)))/\((bu)[(⟨h.size,0,Te⟩:Addr).block]?=(bu)[(⟨h.size,0,Te⟩:Addr).block]?/\((bu)[(⟨h.size,0,Te⟩:Addr).block]?=(bu)[(⟨h.size,0,Te⟩:Addr).block]?/\cE bu)/\(XRunU Tp (Af 26 (.pointer (Td ⟨h.size,0,Te⟩)) (.agg #[.int .i64 bv,.string bw,slV bx,slV bz])) bu (λcV=>cM cV)))/\(XRunU Tp (Af 26 (.pointer (Td ⟨h.size,0,Te⟩)) (.agg #[.int .i64 bv,.string bw,slV bx,slV bz])) bu (λcW=>(cI cW)/\(cM cW)))))))):
  XC Tp 105 #[.pointer r0,.int .i64 n1] h R:=
 XF ⟨[(21,8000),(25,8000)],[(5,[(34,.one (.int .i64))]),(16,[(66,.one (.int .i64))])],[]⟩ [.cell 4 26,.tmp 5] 119 Tryz.func105 H
theorem zpc(b:Int)(c:Bt)(d:Sl)(e:Sl)(f:Int)(g:Bt)(i:Sl)(j:Sl)(h:zb)(R:Value->zb->Prop) (H:let k:=h.push (.cells #[.int .i64 b,.string c,slV d,slV e] 26);let l:=k.push (.cells #[.int .i64 f,.string g,slV i,slV j] 26);∀m:Bool->zb->Prop,(∀n:Bool,∀o:zb,((n=Ta->R (.bool Tc) o)/\(n=Tc->∃p,zc o (Ad ⟨h.size,0,Te⟩ 0)=Td (.int .i64 p)/\((p != 6)=Ta->∃q,zc o (Ad ⟨h.size,0,Te⟩ 3)=Td (slV q)/\∃r,zc o (Ad ⟨k.size,0,Te⟩ 3)=Td (slV r)/\XC Tp 194 #[slV q,slV r,.func (.func 109) #[] #[]] o (λs t=>∃u,s=.bool u/\R (.bool u) t))/\((p != 6)=Tc->∃v w x y,zd o ⟨h.size,0,Te⟩ 0 [.int .i64 v,.string w,slV x,slV y]/\∃z A B C,zd o ⟨k.size,0,Te⟩ 0 [.int .i64 z,.string A,slV B,slV C]/\XC Tp 172 #[.agg #[.int .i64 v,.string w,slV x,slV y]] o (λD E=>∃F:Option Nat,D=.map F/\(E)[(⟨k.size,0,Te⟩:Addr).block]?=(o)[(⟨k.size,0,Te⟩:Addr).block]?/\XC Tp 172 #[.agg #[.int .i64 z,.string A,slV B,slV C]] E (λG I=>∃J:Option Nat,G=.map J/\XC Tp 195 #[.map F,.map J,.func (.func 109) #[] #[]] I (λL M=>∃N,L=.bool N/\R (.bool N) M))))))->m n o)->∃O,zc l (Ad ⟨h.size,0,Te⟩ 0)=Td (.int .i64 O)/\∃P,zc l (Ad ⟨k.size,0,Te⟩ 0)=Td (.int .i64 P)/\((O != P)=Ta->m (O != P) l)/\((O != P)=Tc->∃Q,zc l (Ad ⟨h.size,0,Te⟩ 1)=Td (.string Q)/\∃S,zc l (Ad ⟨k.size,0,Te⟩ 1)=Td (.string S)/\((!(Q.toList==S.toList))=Ta->m (!(Q.toList==S.toList)) l)/\((!(Q.toList==S.toList))=Tc->∃T,zc l (Ad ⟨h.size,0,Te⟩ 3)=Td (slV T)/\∃U,zc l (Ad ⟨k.size,0,Te⟩ 3)=Td (slV U)/\m ((T.len:Int) != (U.len:Int)) l))):
  XC Tp 109 #[.agg #[.int .i64 b,.string c,.slice d.a d.len d.cap,.slice e.a e.len e.cap],.agg #[.int .i64 f,.string g,.slice i.a i.len i.cap,.slice j.a j.len j.cap]] h R:=
 XF ⟨[(7,8000)],[],[(4,[(5,.one (.bool))])]⟩ [.tmp 4] 37 Tryz.func109 H
theorem zc6(b0:Option Addr)(O:Bt)(P:FuncId)(Q:Array Value)(S:Array Value)(h:zb)(R:Value->zb->Prop) (H:∃b,b0=Td b/\∃c,zc h (Ad (Ad b 0) 0)=Td (slV c)/\zh Tp P=Ta/\XC Tp P (Q++#[]++S) h (λd e=>d=.tuple #[]/\∃f,b0=Td f/\∃g,zc e (Ad (Ad f 0) 0)=Td (slV g)/\(decide ((g.len:Int)<=512)=Ta->∃i,b0=Td i/\∃j,zc e (Ad (Ad i 0) 0)=Td (slV j)/\∃k,b0=Td k/\∃l,zc e (Ad (Ad k 0) 1)=Td (slV l)/\let m:Sl->Sl->zb->Prop:=λ(n:Sl) (o:Sl) (p:zb)=>(XRun Tp (Au #[59,59] 59 #[slV l,slV n]) p (λq r=>∃s,q=slV s/\∃t,b0=Td t/\XRunU Tp (Af 23 (.pointer (Td (Ad (Ad t 0) 0))) (slV o)) r (λu=>∃v,b0=Td v/\XRunU Tp (Af 59 (.pointer (Td (Ad (Ad v 0) 1))) (slV s)) u (λw=>R (.tuple #[]) w))));let x:Sl->Sl->zb->Prop:=λ(y:Sl) (z:Sl) (A:zb)=>(XRun Tp (Au #[23,23] 23 #[slV j,slV z]) A (λB C=>∃D,B=slV D/\(C)[((Ad (Ad k 0) 1):Addr).block]?=(e)[((Ad (Ad k 0) 1):Addr).block]?/\m y D C));(let E:=e.push (.cells #[.string O] 9);(E)[((Ad (Ad k 0) 1):Addr).block]?=(e)[((Ad (Ad k 0) 1):Addr).block]?/\(E)[((Ad (Ad i 0) 0):Addr).block]?=(e)[((Ad (Ad i 0) 0):Addr).block]?/\(XRun Tp (Au #[23,23] 23 #[slV j,.slice (Td ⟨e.size,0,Te⟩) 1 1]) E (λF G=>∃I,F=slV I/\(G)[((Ad (Ad k 0) 1):Addr).block]?=(e)[((Ad (Ad k 0) 1):Addr).block]?/\let J:=G.push (.cells #[.int .i64 (c.len:Int)] 3);(J)[((Ad (Ad k 0) 1):Addr).block]?=(e)[((Ad (Ad k 0) 1):Addr).block]?/\m (⟨Td ⟨G.size,0,Te⟩,1,1⟩:Sl) I J))/\(let L:=E.push (.cells #[.int .i64 (c.len:Int)] 3);(L)[((Ad (Ad k 0) 1):Addr).block]?=(e)[((Ad (Ad k 0) 1):Addr).block]?/\(L)[((Ad (Ad i 0) 0):Addr).block]?=(e)[((Ad (Ad i 0) 0):Addr).block]?/\x (⟨Td ⟨E.size,0,Te⟩,1,1⟩:Sl) (⟨Td ⟨e.size,0,Te⟩,1,1⟩:Sl) L))/\(let M:=e.push (.cells #[.int .i64 (c.len:Int)] 3);(M)[((Ad (Ad k 0) 1):Addr).block]?=(e)[((Ad (Ad k 0) 1):Addr).block]?/\(M)[((Ad (Ad i 0) 0):Addr).block]?=(e)[((Ad (Ad i 0) 0):Addr).block]?/\let N:=M.push (.cells #[.string O] 9);(N)[((Ad (Ad k 0) 1):Addr).block]?=(e)[((Ad (Ad k 0) 1):Addr).block]?/\(N)[((Ad (Ad i 0) 0):Addr).block]?=(e)[((Ad (Ad i 0) 0):Addr).block]?/\x (⟨Td ⟨e.size,0,Te⟩,1,1⟩:Sl) (⟨Td ⟨M.size,0,Te⟩,1,1⟩:Sl) N))/\(decide ((g.len:Int)<=512)=Tc->R (.tuple #[]) e))):
  XC Tp 175 #[.pointer b0,.string O,.func (.func P) Q S] h R:=
 XF ⟨[(3,8000)],[],[]⟩ [] 46 Tryz.func175 H
theorem W5(c0:Addr)(c1:Addr)(h:zb)(R:Value->zb->Prop) (H:∃b,zc h (Ad c0 3)=Td (slV b)/\∃(c:Int->zb->Prop) (d:Int->zb->Nat),c 0 h/\∀e:Int,∀f:zb,c e f->((decide (e<b.len)=Ta->∃g,(b.a=Td g/\0<=e/\e<b.len)/\∃i j k l,zd f (g.add (e.toNat*4)) 0 [.int .i64 i,.string j,slV k,slV l]/\let m:=f.push (.cells #[.int .i64 0,.string (⟨#[]⟩:Bt),.slice Te 0 0,.slice Te 0 0] 26);XRunU Tp (Af 26 (.pointer (Td ⟨f.size,0,Te⟩)) (.agg #[.int .i64 i,.string j,slV k,slV l])) m (λn=>∃o:Option Addr,zc n c1=Td (.pointer o)/\∃p q r s,zd n ⟨f.size,0,Te⟩ 0 [.int .i64 p,.string q,slV r,slV s]/\XC Tp 100 #[.pointer o,.agg #[.int .i64 p,.string q,slV r,slV s]] n (λt u=>t=.tuple #[]/\(c (Aa .i64 (e+1)) u/\d (Aa .i64 (e+1)) u<d e f))))/\(decide (e<b.len)=Tc->R (.tuple #[]) f))):
  XC Tp 176 #[.pointer (Td c0),.pointer (Td c1)] h R:=
 XF ⟨[],[(1,[(7,.one (.int .i64))])],[]⟩ [] 15 Tryz.func176 H
theorem W6(c0:Addr)(c1:Addr)(h:zb)(R:Value->zb->Prop) (H:∃b,zc h (Ad c0 3)=Td (slV b)/\∃(c:Int->zb->Prop) (d:Int->zb->Nat),c 0 h/\∀e:Int,∀f:zb,c e f->((decide (e<b.len)=Ta->∃g,(b.a=Td g/\0<=e/\e<b.len)/\∃i j k l,zd f (g.add (e.toNat*4)) 0 [.int .i64 i,.string j,slV k,slV l]/\let m:=f.push (.cells #[.int .i64 0,.string (⟨#[]⟩:Bt),.slice Te 0 0,.slice Te 0 0] 26);XRunU Tp (Af 26 (.pointer (Td ⟨f.size,0,Te⟩)) (.agg #[.int .i64 i,.string j,slV k,slV l])) m (λn=>∃o:Option Addr,zc n c1=Td (.pointer o)/\∃p,zc n (Ad c0 2)=Td (slV p)/\∃q,(p.a=Td q/\0<=e/\e<p.len)/\∃r,zc n (q.add (e.toNat*1))=Td (.string r)/\let s:Bt->zb->Prop:=λt (u:zb)=>(XC Tp 175 #[.pointer o,.string t,.func (.func 179) #[] #[.pointer (Td c1),.pointer (Td ⟨f.size,0,Te⟩)]] u (λv w=>v=.tuple #[]/\(c (Aa .i64 (e+1)) w/\d (Aa .i64 (e+1)) w<d e f)));let x:Int->Bt->Sl->Sl->zb->Prop:=λy z (A:Sl) (B:Sl) (C:zb)=>(XC Tp 178 #[.agg #[.int .i64 y,.string z,slV A,slV B]] C (λD E=>∃F,D=.string F/\wl (((⟨#[107]⟩:Bt)).size+F.size)/\(E)[(c1:Addr).block]?=(n)[(c1:Addr).block]?/\s ((⟨#[107]⟩:Bt)++F) E));(XC Tp 28 #[.string r] n (λG I=>∃J L M N,G=.agg #[.int .i64 J,.string L,slV M,slV N]/\(I)[(c1:Addr).block]?=(n)[(c1:Addr).block]?/\(XC Tp 178 #[.agg #[.int .i64 J,.string L,slV M,slV N]] I (λO P=>∃Q,O=.string Q/\wl (((⟨#[107]⟩:Bt)).size+Q.size)/\(P)[(c1:Addr).block]?=(n)[(c1:Addr).block]?/\(P)[(c1:Addr).block]?=(n)[(c1:Addr).block]?/\s ((⟨#[107]⟩:Bt)++Q) P))/\((I)[(c1:Addr).block]?=(n)[(c1:Addr).block]?/\x J L M N I)))/\((n)[((q.add (e.toNat*1)):Addr).block]?=(n)[((q.add (e.toNat*1)):Addr).block]?/\(n)[((Ad c0 2):Addr).block]?=(n)[((Ad c0 2):Addr).block]?/\(n)[(c1:Addr).block]?=(n)[(c1:Addr).block]?/\XC Tp 28 #[.string r] n (λS T=>∃U V W X,S=.agg #[.int .i64 U,.string V,slV W,slV X]/\(T)[(c1:Addr).block]?=(n)[(c1:Addr).block]?/\x U V W X T))))/\(decide (e<b.len)=Tc->R (.tuple #[]) f))):
  XC Tp 177 #[.pointer (Td c0),.pointer (Td c1)] h R:=
 XF ⟨[(3,8000)],[(1,[(7,.one (.int .i64))])],[]⟩ [] 24 Tryz.func177 H
theorem Y0(c0:Addr)(c1:Addr)(h:zb)(R:Value->zb->Prop) (H:∃b:Option Addr,zc h c0=Td (.pointer b)/\∃c d e f,zd h c1 0 [.int .i64 c,.string d,slV e,slV f]/\XC Tp 100 #[.pointer b,.agg #[.int .i64 c,.string d,slV e,slV f]] h (λg i=>g=.tuple #[]/\R (.tuple #[]) i)):
  XC Tp 179 #[.pointer (Td c0),.pointer (Td c1)] h R:=
 XF ⟨[],[],[]⟩ [] 5 Tryz.func179 H
theorem zas(r0:Option Addr)(n1:Int)(h:zb)(R:Value->zb->Prop) (H:let b:=h.push (.cells #[.int .i64 0,.string (⟨#[]⟩:Bt),.slice Te 0 0,.slice Te 0 0] 26);∃c,r0=Td c/\∃d,zc b (Ad (Ad c 0) 0)=Td (slV d)/\∃e,(d.a=Td e/\0<=n1/\n1<d.len)/\∃f,zc b (e.add (n1.toNat*1))=Td (.string f)/\((!((f.size:Int)==0))=Ta->(0<=(0:Int)/\(0:Int)<=1/\(1:Int)<=(f.size:Int)))/\∃g,((!(bif ((f.size:Int)==0)then Ta else(!((f.extract (0:Int).toNat (1:Int).toNat:Bt).toList==(⟨#[107]⟩:Bt).toList))))=Ta->r0=Td g)/\∃i,((!(bif ((f.size:Int)==0)then Ta else(!((f.extract (0:Int).toNat (1:Int).toNat:Bt).toList==(⟨#[107]⟩:Bt).toList))))=Ta->zc b (Ad g 2)=Td (slV i))/\∃j,((!(bif ((f.size:Int)==0)then Ta else(!((f.extract (0:Int).toNat (1:Int).toNat:Bt).toList==(⟨#[107]⟩:Bt).toList))))=Ta->(i.a=Td j/\0<=n1/\n1<i.len))/\∃k,((!(bif ((f.size:Int)==0)then Ta else(!((f.extract (0:Int).toNat (1:Int).toNat:Bt).toList==(⟨#[107]⟩:Bt).toList))))=Ta->zc b (j.add (n1.toNat*1))=Td (slV k))/\((bif (bif ((f.size:Int)==0)then Ta else(!((f.extract (0:Int).toNat (1:Int).toNat:Bt).toList==(⟨#[107]⟩:Bt).toList)))then Ta else((k.len:Int) != 1))=Ta->XRunU Tp (Af 26 (.pointer (Td ⟨h.size,0,Te⟩)) (.agg #[.int .i64 0,.string (⟨#[]⟩:Bt),.slice Te 0 0,.slice Te 0 0])) b (λl=>∃m n o p,zd l ⟨h.size,0,Te⟩ 0 [.int .i64 m,.string n,slV o,slV p]/\R (.tuple #[.string (⟨#[]⟩:Bt),.agg #[.int .i64 m,.string n,slV o,slV p],.bool Tc]) l))/\((bif (bif ((f.size:Int)==0)then Ta else(!((f.extract (0:Int).toNat (1:Int).toNat:Bt).toList==(⟨#[107]⟩:Bt).toList)))then Ta else((k.len:Int) != 1))=Tc->(0<=(1:Int)/\(1:Int)<=(f.size:Int)/\(f.size:Int)<=(f.size:Int))/\XC Tp 189 #[.string (f.extract (1:Int).toNat (f.size:Int).toNat)] b (λq r=>∃s t u v w,q=.tuple #[.agg #[.int .i64 s,.string t,slV u,slV v],.bool w]/\let x:=r.push (.cells #[.int .i64 0,.string (⟨#[]⟩:Bt),.slice Te 0 0,.slice Te 0 0] 26);XRunU Tp (Af 26 (.pointer (Td ⟨r.size,0,Te⟩)) (.agg #[.int .i64 s,.string t,slV u,slV v])) x (λy=>∃z,r0=Td z/\∃A,zc y (Ad z 2)=Td (slV A)/\∃B,(A.a=Td B/\0<=n1/\n1<A.len)/\∃C,zc y (B.add (n1.toNat*1))=Td (slV C)/\∃D,(C.a=Td D/\0<=(0:Int)/\(0:Int)<(C.len:Int))/\∃E,zc y (D.add ((0:Int).toNat*1))=Td (.int .i64 E)/\XC Tp 105 #[.pointer r0,.int .i64 E] y (λF G=>∃I J L M N,F=.tuple #[.agg #[.int .i64 I,.string J,slV L,slV M],.bool N]/\let O:=G.push (.cells #[.int .i64 0,.string (⟨#[]⟩:Bt),.slice Te 0 0,.slice Te 0 0] 26);XRunU Tp (Af 26 (.pointer (Td ⟨G.size,0,Te⟩)) (.agg #[.int .i64 I,.string J,slV L,slV M])) O (λP=>∃Q,zc P (Ad ⟨r.size,0,Te⟩ 1)=Td (.string Q)/\∃S T U V,zd P ⟨G.size,0,Te⟩ 0 [.int .i64 S,.string T,slV U,slV V]/\let W:Bool->zb->Prop:=λX (Y:zb)=>(∃Z aa ab ac,zd Y ⟨h.size,0,Te⟩ 0 [.int .i64 Z,.string aa,slV ab,slV ac]/\R (.tuple #[.string Q,.agg #[.int .i64 Z,.string aa,slV ab,slV ac],.bool X]) Y);let ad:Bool->zb->Prop:=λae (af:zb)=>(XRunU Tp (Af 26 (.pointer (Td ⟨h.size,0,Te⟩)) (.agg #[.int .i64 S,.string T,slV U,slV V])) af (λag=>W ae ag));let ah:Bool->zb->Prop:=λai (aj:zb)=>(W (bif (bif w then N else Tc)then ai else Tc) aj);let ak:Bool->zb->Prop:=λal (am:zb)=>(((am)[(⟨G.size,0,Te⟩:Addr).block]?=(P)[(⟨G.size,0,Te⟩:Addr).block]?/\ad (bif (bif w then N else Tc)then al else Tc) am)/\(XRunU Tp (Af 26 (.pointer (Td ⟨h.size,0,Te⟩)) (.agg #[.int .i64 S,.string T,slV U,slV V])) am (λan=>ah al an)));let ao:Int->zb->Prop:=λap (aq:zb)=>(ah (ap==4) aq);let ar:Int->zb->Prop:=λau (av:zb)=>(((av)[(⟨G.size,0,Te⟩:Addr).block]?=(P)[(⟨G.size,0,Te⟩:Addr).block]?/\ak (au==4) av)/\(XRunU Tp (Af 26 (.pointer (Td ⟨h.size,0,Te⟩)) (.agg #[.int .i64 S,.string T,slV U,slV V])) av (λaw=>ao au aw)));let ax:zb->Prop:=λ(ay:zb)=>(∃az,((bif w then N else Tc)=Ta->zc ay (Ad ⟨r.size,0,Te⟩ 0)=Td (.int .i64 az))/\ao az ay);let aA:zb->Prop:=λ(aB:zb)=>((∃aC,((bif w then N else Tc)=Ta->zc aB (Ad ⟨r.size,0,Te⟩ 0)=Td (.int .i64 aC))/\(aB)[(⟨G.size,0,Te⟩:Addr).block]?=(P)[(⟨G.size,0,Te⟩:Addr).block]?/\ar aC aB)/\(XRunU Tp (Af 26 (.pointer (Td ⟨h.size,0,Te⟩)) (.agg #[.int .i64 S,.string T,slV U,slV V])) aB (λaD=>ax aD)));(P)[(⟨G.size,0,Te⟩:Addr).block]?=(P)[(⟨G.size,0,Te⟩:Addr).block]?/\(P)[((Ad ⟨r.size,0,Te⟩ 1):Addr).block]?=(P)[((Ad ⟨r.size,0,Te⟩ 1):Addr).block]?/\(P)[(⟨G.size,0,Te⟩:Addr).block]?=(P)[(⟨G.size,0,Te⟩:Addr).block]?/\(P)[((Ad ⟨r.size,0,Te⟩ 1):Addr).block]?=(P)[((Ad ⟨r.size,0,Te⟩ 1):Addr).block]?/\((P)[(⟨G.size,0,Te⟩:Addr).block]?=(P)[(⟨G.size,0,Te⟩:Addr).block]?/\(P)[((Ad ⟨r.size,0,Te⟩ 1):Addr).block]?=(P)[((Ad ⟨r.size,0,Te⟩ 1):Addr).block]?/\(∃aE,((bif w then N else Tc)=Ta->zc P (Ad ⟨r.size,0,Te⟩ 0)=Td (.int .i64 aE))/\(P)[(⟨G.size,0,Te⟩:Addr).block]?=(P)[(⟨G.size,0,Te⟩:Addr).block]?/\(P)[((Ad ⟨r.size,0,Te⟩ 1):Addr).block]?=(P)[((Ad ⟨r.size,0,Te⟩ 1):Addr).block]?/\((P)[(⟨G.size,0,Te⟩:Addr).block]?=(P)[(⟨G.size,0,Te⟩:Addr).block]?/\(P)[((Ad ⟨r.size,0,Te⟩ 1):Addr).block]?=(P)[((Ad ⟨r.size,0,Te⟩ 1):Addr).block]?/\((P)[(⟨G.size,0,Te⟩:Addr).block]?=(P)[(⟨G.size,0,Te⟩:Addr).block]?/\(P)[((Ad ⟨r.size,0,Te⟩ 1):Addr).block]?=(P)[((Ad ⟨r.size,0,Te⟩ 1):Addr).block]?/\(P)[(⟨G.size,0,Te⟩:Addr).block]?=(P)[(⟨G.size,0,Te⟩:Addr).block]?/\ad (bif (bif w then N else Tc)then(aE==4)else Tc) P)/\((P)[(⟨G.size,0,Te⟩:Addr).block]?=(P)[(⟨G.size,0,Te⟩:Addr).block]?/\ak (aE==4) P))/\((P)[(⟨G.size,0,Te⟩:Addr).block]?=(P)[(⟨G.size,0,Te⟩:Addr).block]?/\ar aE P))/\((P)[(⟨G.size,0,Te⟩:Addr).block]?=(P)[(⟨G.size,0,Te⟩:Addr).block]?/\aA P))/\((P)[(⟨G.size,0,Te⟩:Addr).block]?=(P)[(⟨G.size,0,Te⟩:Addr).block]?/\((P)[(⟨G.size,0,Te⟩:Addr).block]?=(P)[(⟨G.size,0,Te⟩:Addr).block]?/\aA P)/\(XRunU Tp (Af 26 (.pointer (Td ⟨h.size,0,Te⟩)) (.agg #[.int .i64 S,.string T,slV U,slV V])) P (λaF=>ax aF))))))))):
  XC Tp 188 #[.pointer r0,.int .i64 n1] h R:=
 XF ⟨[(6,8000)],[],[]⟩ [.tmp 4,.cell 5 26,.tmp 6] 72 Tryz.func188 H
theorem W8(h:zb)(R:Value->zb->Prop) (H:R (.tuple #[]) h):
  XC Tp 180 #[] h R:=
 XF ⟨[],[],[]⟩ [] 0 Tryz.func180 H
theorem qj(F:Sl)(G:Sl)(I:FuncId)(L:Array Value)(J:Array Value)(h:zb)(R:Value->zb->Prop) (H:(((F.len:Int) != (G.len:Int))=Ta->R (.bool Tc) h)/\(((F.len:Int) != (G.len:Int))=Tc->∃(b:Int->zb->Prop) (c:Int->zb->Nat),b 0 h/\∀d:Int,∀e:zb,b d e->((decide (d<F.len)=Ta->∃f,(F.a=Td f/\0<=d/\d<F.len)/\∃g i j k,zd e (f.add (d.toNat*4)) 0 [.int .i64 g,.string i,slV j,slV k]/\let l:=e.push (.cells #[.int .i64 0,.string (⟨#[]⟩:Bt),.slice Te 0 0,.slice Te 0 0] 26);XRunU Tp (Af 26 (.pointer (Td ⟨e.size,0,Te⟩)) (.agg #[.int .i64 g,.string i,slV j,slV k])) l (λm=>∃n,(G.a=Td n/\0<=d/\d<G.len)/\∃o p q r,zd m (n.add (d.toNat*4)) 0 [.int .i64 o,.string p,slV q,slV r]/\let s:=m.push (.cells #[.int .i64 0,.string (⟨#[]⟩:Bt),.slice Te 0 0,.slice Te 0 0] 26);XRunU Tp (Af 26 (.pointer (Td ⟨m.size,0,Te⟩)) (.agg #[.int .i64 o,.string p,slV q,slV r])) s (λt=>∃u v w x,zd t ⟨e.size,0,Te⟩ 0 [.int .i64 u,.string v,slV w,slV x]/\∃y z A B,zd t ⟨m.size,0,Te⟩ 0 [.int .i64 y,.string z,slV A,slV B]/\zh Tp I=Ta/\XC Tp I (L++#[.agg #[.int .i64 u,.string v,slV w,slV x],.agg #[.int .i64 y,.string z,slV A,slV B]]++J) t (λC D=>∃E,C=.bool E/\((!E)=Ta->R (.bool Tc) D)/\((!E)=Tc->(b (Aa .i64 (d+1)) D/\c (Aa .i64 (d+1)) D<c d e))))))/\(decide (d<F.len)=Tc->R (.bool Ta) e)))):
  XC Tp 194 #[.slice F.a F.len F.cap,.slice G.a G.len G.cap,.func (.func I) L J] h R:=
 XF ⟨[],[(4,[(17,.one (.int .i64))])],[]⟩ [.tmp 6] 32 Tryz.func194 H
theorem zq(aI:Option Nat)(aH:Option Nat)(aE:FuncId)(aF:Array Value)(aG:Array Value)(h:zb)(R:Value->zb->Prop) (H:∃b,QExec Tp (C5 #[193] 3 #[.map aI]) h (.int .i64 b)/\∃c,QExec Tp (C5 #[193] 3 #[.map aH]) h (.int .i64 c)/\((b != c)=Ta->R (.bool Tc) h)/\((b != c)=Tc->XRun Tp (D9 193 (.map aI)) h (λd e=>∃f:Option Addr,d=.pointer f/\∃(g:zb->Prop) (i:zb->Nat),g e/\∀j:zb,g j->(XRun Tp (Di (.pointer f) Tc 0) j (λk l=>(k=.tuple #[.bool Tc]/\(Tc=Ta->XRun Tp (DO (.pointer f)) l (λm n=>∃o p:Value,m=.tuple #[o,p]/\let q:=n.push (.cells #[.int .i64 0,.string (⟨#[]⟩:Bt),.slice Te 0 0,.slice Te 0 0] 26);XRunU Tp (Af 26 (.pointer (Td ⟨n.size,0,Te⟩)) p) q (λr=>∃s t u v w,QExec Tp (Dw 193 (.map aH) o Ta) r (.tuple #[.agg #[.int .i64 s,.string t,slV u,slV v],.bool w])/\let x:=r.push (.cells #[.int .i64 0,.string (⟨#[]⟩:Bt),.slice Te 0 0,.slice Te 0 0] 26);XRunU Tp (Af 26 (.pointer (Td ⟨r.size,0,Te⟩)) (.agg #[.int .i64 s,.string t,slV u,slV v])) x (λy=>∃z A B C,((!(!w))=Ta->zd y ⟨n.size,0,Te⟩ 0 [.int .i64 z,.string A,slV B,slV C])/\∃D E F G,((!(!w))=Ta->zd y ⟨r.size,0,Te⟩ 0 [.int .i64 D,.string E,slV F,slV G])/\∃I:Value->zb->Prop,((!(!w))=Ta->zh Tp aE=Ta/\XC Tp aE (aF++#[.agg #[.int .i64 z,.string A,slV B,slV C],.agg #[.int .i64 D,.string E,slV F,slV G]]++aG) y (λJ L=>∃M,J=.bool M/\I (.bool M) L))/\((!(!w))=Tc->∃N,I (.bool N) y)/\((!(!w))=Ta->∀O P,I O P->∃Q,O=.bool Q)/\∀S:Bool,∀T,I (.bool S) T->((bif (!w)then Ta else(!S))=Ta->R (.bool Tc) T)/\((bif (!w)then Ta else(!S))=Tc->(g T/\i T<i j))))))/\(Tc=Tc->R (.bool Ta) l))\/∃U V:Value,k=.tuple #[.bool Ta,U,V]/\(Ta=Ta->XRun Tp (DO (.pointer f)) l (λW X=>∃Y Z:Value,W=.tuple #[Y,Z]/\let aa:=X.push (.cells #[.int .i64 0,.string (⟨#[]⟩:Bt),.slice Te 0 0,.slice Te 0 0] 26);XRunU Tp (Af 26 (.pointer (Td ⟨X.size,0,Te⟩)) Z) aa (λab=>∃ac ad ae af ag,QExec Tp (Dw 193 (.map aH) Y Ta) ab (.tuple #[.agg #[.int .i64 ac,.string ad,slV ae,slV af],.bool ag])/\let ah:=ab.push (.cells #[.int .i64 0,.string (⟨#[]⟩:Bt),.slice Te 0 0,.slice Te 0 0] 26);XRunU Tp (Af 26 (.pointer (Td ⟨ab.size,0,Te⟩)) (.agg #[.int .i64 ac,.string ad,slV ae,slV af])) ah (λai=>∃aj ak al am,((!(!ag))=Ta->zd ai ⟨X.size,0,Te⟩ 0 [.int .i64 aj,.string ak,slV al,slV am])/\∃an ao ap aq,((!(!ag))=Ta->zd ai ⟨ab.size,0,Te⟩ 0 [.int .i64 an,.string ao,slV ap,slV aq])/\∃ar:Value->zb->Prop,((!(!ag))=Ta->zh Tp aE=Ta/\XC Tp aE (aF++#[.agg #[.int .i64 aj,.string ak,slV al,slV am],.agg #[.int .i64 an,.string ao,slV ap,slV aq]]++aG) ai (λau av=>∃aw,au=.bool aw/\ar (.bool aw) av))/\((!(!ag))=Tc->∃ax,ar (.bool ax) ai)/\((!(!ag))=Ta->∀ay az,ar ay az->∃aA,ay=.bool aA)/\∀aB:Bool,∀aC,ar (.bool aB) aC->((bif (!ag)then Ta else(!aB))=Ta->R (.bool Tc) aC)/\((bif (!ag)then Ta else(!aB))=Tc->(g aC/\i aC<i j))))))/\(Ta=Tc->R (.bool Ta) l)))))):
  XC Tp 195 #[.map aI,.map aH,.func (.func aE) aF aG] h R:=
 XF ⟨[],[(4,[])],[]⟩ [.tmp 6] 38 Tryz.func195 H
end
end Go.X
end
section
namespace Go.X
open Go Go.X Go.Proofs Go.RowKit
section
variable {h h' h'':zb} {M M' M'':Fr} {bs bs' b1 b2:List Nat} {b lo bv:Nat} {K:Value -> zb -> Prop}
theorem Later.own{h g:zb}(L:Later h M g M')(f:∀c∈bs,h.size<=c):Later h M g (MxL M' g bs):=by
 refine⟨L.keep,L.le.trans (zej L.ag bs),λc b=>?_,MxL.ag L.ag bs⟩;have e:c∉bs:=λi=>by have:=f c i;omega
 rw[<-L.old c b];unfold MxL;rw[if_neg e]
structure Grw (h:zb) (M:Fr) (b:Nat) (bs:List Nat) (h':zb) (M':Fr) (bs':List Nat):Prop where
 grow:h.size<=h'.size
 le:Fr.le M M'
 old:∀c,c<h.size->M' c=M c
 ag:AgM M' h'
 fr:∀j,j<h.size->j≠b->j∉bs->h'[j]?=h[j]?
 nw:∀c∈bs',c∈bs\/h.size<=c
theorem Grw.refl(ag:AgM M h):Grw h M b bs h M bs:=⟨Ab _,Fr.le.refl _,λ_ _=>rfl,ag,λ_ _ _ _=>rfl,λ_ c=>.inl c⟩
theorem Grw.trans{bs bs' e:List Nat}(A:Grw h M b bs h' M' bs')(B:Grw h' M' b bs' h'' M'' e):Grw h M b bs h'' M'' e:=by have m:=A.grow;refine⟨Ck A.grow B.grow,A.le.trans B.le,λc f=>(B.old c (by omega)).trans (A.old c f),B.ag,λj l h0 i=>(B.fr j (by omega) h0 λk=>?_).trans (A.fr j l h0 i),λc f=>?_⟩;rcases A.nw j k with h|h;exact i h;omega;rcases B.nw c f with h|h;exact A.nw c h;exact .inr (by omega)
theorem Grw.ofCall(L:Later h M h' M')(A:Grw h' M' b bs h'' M'' bs')(l:∀c∈bs,c<h.size):Grw h M b bs h'' M'' bs':=by have k:=L.keep.size;refine⟨Ck k A.grow,L.le.trans A.le,λc e=>(A.old c (by omega)).trans (L.old c e),A.ag,λj i h0 f=>(A.fr j (by omega) h0 f).trans (L.keep.get j i),λc e=>?_⟩;rcases A.nw c e with h|h;exact .inl h;exact .inr (by omega)
structure TbS (lo:Nat) (h:zb) (M:Fr) (b:Nat) (S:List (Bt×Int)) (sl sf:Sl) (b1 b2:List Nat):Prop where
 box:Blk h b #[slV sl,slV sf]
 r1:ORow lo h M .str (S.map (·.1)) sl b1
 r2:ORow lo h M (.int .i64) (S.map (·.2)) sf b2
 dj:∀c∈b1,c∉b2
 n1:b∉b1
 n2:b∉b2
 nM:M b=Te
 lb:lo<=b
def Tb(lo:Nat)(h:zb)(M:Fr)(b:Nat)(S:List (Bt×Int))(bs:List Nat):Prop:=∃sl sf b1 b2,bs=b1++b2/\TbS lo h M b S sl sf b1 b2
theorem TbS.call{S:List (Bt×Int)}{sl sf:Sl}(B:TbS lo h M b S sl sf b1 b2)(L:Later h M h' M'):TbS lo h' M' b S sl sf b1 b2:= ⟨B.box.keep (L.keep.get b B.box.lt),B.r1.call L,B.r2.call L,B.dj,B.n1,B.n2,(L.old b B.box.lt).trans B.nM,B.lb⟩
theorem Tb.call{S:List (Bt×Int)}(B:Tb lo h M b S bs)(L:Later h M h' M'):Tb lo h' M' b S bs:=by obtain⟨sl,sf,b1,b2,e,B⟩:=B;exact⟨sl,sf,b1,b2,e,B.call L⟩
theorem Tb.lt{S:List (Bt×Int)}(B:Tb lo h M b S bs):∀c∈bs,c<h.size:=by obtain⟨sl,sf,b1,b2,rfl,B⟩:=B;intro c e;rcases Ay.1 e with h|h;exact(B.r1.own c h).2.1;exact(B.r2.own c h).2.1
theorem Tb.ltb{S:List (Bt×Int)}(B:Tb lo h M b S bs):b<h.size:=by obtain⟨sl,sf,b1,b2,rfl,B⟩:=B;exact B.box.lt
structure AdM (lo:Nat) (h:zb) (M:Fr) (b:Nat) (sl sf:Sl) (b0:List Nat) (g:zb) (X:List Bt) (s1:Sl) (c1:List Nat) (Y:List Int) (s2:Sl) (c2:List Nat):Prop where
 box:Blk g b #[slV sl,slV sf]
 r1:ORow lo g M .str X s1 c1
 r2:ORow lo g M (.int .i64) Y s2 c2
 dj:∀c∈c1,c∉c2
 n1:b∉c1
 n2:b∉c2
 gr:h.size<=g.size
 bh:b<h.size
 fr:∀j,j<h.size->j≠b->j∉b0->g[j]?=h[j]?
 w1:∀c∈c1,c∈b0\/h.size<=c
 w2:∀c∈c2,c∈b0\/h.size<=c
 ag:AgM M g
 nM:M b=Te
 lb:lo<=b
section
variable {lo : Nat} {h g : zb} {M : Fr} {b : Nat} {sl sf : Sl} {b0 : List Nat} {X : List Bt} {s1 : Sl} {c1 : List Nat} {Y : List Int} {s2 : Sl} {c2 : List Nat}
theorem AdM.start{S:List (Bt×Int)}(B:TbS lo h M b S sl sf b1 b2)(ag:AgM M h):AdM lo h M b sl sf (b1++b2) h (S.map (·.1)) sl b1 (S.map (·.2)) sf b2:= ⟨B.box,B.r1,B.r2,B.dj,B.n1,B.n2,Ab _,B.box.lt,λ_ _ _ _=>rfl,λc e=>.inl (As _ e),λc e=>.inl (AC _ e),ag,B.nM,B.lb⟩
theorem AdM.push(D:AdM lo h M b sl sf b0 g X s1 c1 Y s2 c2)(o:Obj):AdM lo h M b sl sf b0 (g.push o) X s1 c1 Y s2 c2:=by have k:Keep g.size g (g.push o):=Keep.push _ _ (Ab _);have m:=D.gr;have l:(g.push o).size=g.size+1:=Aj _;refine⟨D.box.ofKeep k,D.r1.frame (λc e=>k.get c (D.r1.own c e).2.1) (Fr.le.refl _) λc e=>(D.r1.own c e).2.2,D.r2.frame (λc e=>k.get c (D.r2.own c e).2.1) (Fr.le.refl _) λc e=>(D.r2.own c e).2.2,D.dj,D.n1,D.n2,by omega,D.bh,λj i h0 f=>(k.get j (by omega)).trans (D.fr j i h0 f),D.w1,D.w2,D.ag.keep k,D.nM,D.lb⟩
theorem AdM.lab(D:AdM lo h M b sl sf b0 g X s1 c1 Y s2 c2)(p:lo<=h.size)(l:X.length<=1000000){x:Bt}(s:Blk g bv #[.string x]) (o:∀(m:Sl) (g':zb) (n:List Nat),AdM lo h M b sl sf b0 g' (X++[x]) m n Y s2 c2->g.size<=g'.size->(∀j,j<g.size->j∉c1->g'[j]?=g[j]?)->K (slV m) g'):
  XRun Tp (Au #[23,23] 23 #[slV s1,.slice (Td ⟨bv,0,Te⟩) 1 1]) g K:=by
 have t:=D.gr;refine ORow.app qi5 (by omega) D.ag D.r1 (by omega) (vs:=[.string x]) s rfl l λm g' n r z w f=>o m g' n ⟨D.box.keep (f b D.box.lt D.n1),r,D.r2.frame (λc k=>f c (D.r2.own c k).2.1 λi=>D.dj c i k) (Fr.le.refl _) λc k=>(D.r2.own c k).2.2,λc k i=>?_,λi=>?_,D.n2,by omega,D.bh,λj q h0 l=>(f j (by omega) λi=>?_).trans (D.fr j q h0 l),λc k=>?_,D.w2,λc cs e=>?_,D.nM,D.lb⟩ z f;rcases w c k with h|h;exact D.dj c h i;have:=(D.r2.own c i).2.1;omega;rcases w b i with h|h;exact D.n1 h;have:=D.bh;omega;rcases D.w1 j i with h|h;exact l h;omega;rcases w c k with h|h;exact D.w1 c h;exact .inr (by omega);have k:=D.ag.lt e;rw[f c k λi=>by have:=(D.r1.own c i).2.2;rw[this]at e;cases e];exact D.ag c cs e
theorem AdM.lef(D:AdM lo h M b sl sf b0 g X s1 c1 Y s2 c2)(p:lo<=h.size)(l:Y.length<=1000000){x:Int}(s:Blk g bv #[.int .i64 x]) (o:∀(m:Sl) (g':zb) (n:List Nat),AdM lo h M b sl sf b0 g' X s1 c1 (Y++[x]) m n->g.size<=g'.size->(∀j,j<g.size->j∉c2->g'[j]?=g[j]?)->K (slV m) g'):
  XRun Tp (Au #[59,59] 59 #[slV s2,.slice (Td ⟨bv,0,Te⟩) 1 1]) g K:=by
 have t:=D.gr;refine ORow.app z0n (by omega) D.ag D.r2 (by omega) (vs:=[.int .i64 x]) s rfl l λm g' n r z w f=>o m g' n ⟨D.box.keep (f b D.box.lt D.n2),D.r1.frame (λc i=>f c (D.r1.own c i).2.1 λk=>D.dj c i k) (Fr.le.refl _) λc i=>(D.r1.own c i).2.2,r,λc i k=>?_,D.n1,λk=>?_,by omega,D.bh,λj q h0 l=>(f j (by omega) λk=>?_).trans (D.fr j q h0 l),D.w1,λc i=>?_,λc cs e=>?_,D.nM,D.lb⟩ z f;rcases w c k with h|h;exact D.dj c i h;have:=(D.r1.own c i).2.1;omega;rcases w b k with h|h;exact D.n2 h;have:=D.bh;omega;rcases D.w2 j k with h|h;exact l h;omega;rcases w c i with h|h;exact D.w2 c h;exact .inr (by omega);have i:=D.ag.lt e;rw[f c i λk=>by have:=(D.r2.own c k).2.2;rw[this]at e;cases e];exact D.ag c cs e
theorem okF:qb Tp 59=Ta:=by kernel_rfl
theorem szF:qi Tp 59=1:=by kernel_rfl
theorem AdM.fin(D:AdM lo h M b sl sf b0 g X s1 c1 Y s2 c2){S:List (Bt×Int)}(n:X=S.map (·.1))(s:Y=S.map (·.2)){K:zb->Prop}(r:∀g' bs',Grw h M b b0 g' M bs'->Tb lo g' M b S bs'->K g'):
  XRunU Tp (Af 23 (.pointer (Td (Ad (Ad ⟨b,0,Te⟩ 0) 0))) (slV s1)) g λm=>XRunU Tp (Af 59 (.pointer (Td (Ad (Ad ⟨b,0,Te⟩ 0) 1))) (slV s2)) m K:=by
 subst n;subst s;have x:=D.gr;rw[add0,add0,zi];refine yf qj2 qj3 D.box (by show 0<2;omega) rfl λm o w t=>?_;refine yf okF szF o (by show 1<2;omega) rfl λl q z2 u=>?_;have f:∀j,j≠b->l[j]?=g[j]?:=λj k=>(u j k).trans (t j k);refine r l (c1++c2) ⟨by omega,Fr.le.refl _,λ_ _=>rfl,λc cs e=>?_,λj k h0 p=>(f j h0).trans (D.fr j k h0 p),λc i=>?_⟩ ⟨s1,s2,c1,c2,rfl,q,D.r1.frame (λc i=>f c λe=>D.n1 (e ▸ i)) (Fr.le.refl _) λc i=>(D.r1.own c i).2.2,D.r2.frame (λc i=>f c λe=>D.n2 (e ▸ i)) (Fr.le.refl _) λc i=>(D.r2.own c i).2.2,D.dj,D.n1,D.n2,D.nM,D.lb⟩;rw[f c λh=>by subst h;rw[D.nM]at e;cases e];exact D.ag c cs e;rcases Ay.1 i with h|h;exact D.w1 c h;exact D.w2 c h
end
end
end Go.X
end
section
namespace Go.X
section
theorem Jt(gl:Fr)(h:Tr)(R:Bool->Prop) (H:PC Tp gl 38 [] [.bool] (λa:Bool=>PC Tp gl 32 [Arg.mk .tree (Tr.mk h.kind h.text h.keys h.items),Arg.mk (.int .i64) 900] [.bool] (λb:Bool=>((!b)=Ta->R a)/\((!b)=Tc->PC Tp gl 40 [Arg.mk .tree (Tr.mk h.kind h.text h.keys h.items)] [.pair (.row .str) (.row (.int .i64)),.int .i64] (λc:((List Bt)×List Int)×Int=>PC Tp gl 56 [Arg.mk .tree (Tr.mk h.kind h.text h.keys h.items)] [.int .i64] (λd:Int=>PC Tp gl 57 [Arg.mk .tree (Tr.mk h.kind h.text h.keys h.items)] [.int .i64] (λe:Int=>((c.2 != 0)=Ta->∃f:Bool->Prop,((bif a then((c.1.1.length:Int)==0)else Tc)=Ta->PC Tp gl 33 [Arg.mk .tree (Tr.mk h.kind h.text h.keys h.items)] [.bool] f)/\∀g:Bool,((bif a then((c.1.1.length:Int)==0)else Tc)=Ta->f g)->R (bif (bif (bif a then((c.1.1.length:Int)==0)else Tc)then((c.2==1)==(!g))else Tc)then(bif (c.2 != 6)then Ta else(decide ((Aa .i64 (d+e))>512)))else Tc))/\((c.2 != 0)=Tc->R (bif (bif (bif a then((c.1.1.length:Int)==(Aa .i64 (d+e)))else Tc)then((c.1.2.length:Int)==(Aa .i64 (d+e)))else Tc)then(decide ((Aa .i64 (d+e))<=512))else Tc))))))))):
  PC Tp gl 12 [Arg.mk .tree h] [.bool] R:=
 PF ⟨[],[(6,3,[],[0,2,1],[])],[],[]⟩ [.tmp 2] 68 Tryz.func12 H
theorem zey(gl:Fr)(a0:(List Bt)×List Int)(b1:(List Bt)×List Int)(R:Bool->Prop) (H:((bif ((a0.1.length:Int) != (b1.1.length:Int))then Ta else((a0.2.length:Int) != (b1.2.length:Int)))=Ta->R Tc)/\((bif ((a0.1.length:Int) != (b1.1.length:Int))then Ta else((a0.2.length:Int) != (b1.2.length:Int)))=Tc->∃(a:Int->Prop) (b:Int->Nat),a 0/\∀c:Int,a c->((decide (c<a0.1.length)=Ta->∃d,(0<=c/\a0.1[c.toNat]?=Td d)/\∃e,(0<=c/\b1.1[c.toNat]?=Td e)/\((!(d.toList==e.toList))=Ta->R Tc)/\((!(d.toList==e.toList))=Tc->(a (Aa .i64 (c+1))/\b (Aa .i64 (c+1))<b c)))/\(decide (c<a0.1.length)=Tc->∃(f:Int->Prop) (g:Int->Nat),f 0/\∀i:Int,f i->((decide (i<a0.2.length)=Ta->∃j,(0<=i/\a0.2[i.toNat]?=Td j)/\∃k,(0<=i/\b1.2[i.toNat]?=Td k)/\((j != k)=Ta->R Tc)/\((j != k)=Tc->(f (Aa .i64 (i+1))/\g (Aa .i64 (i+1))<g i)))/\(decide (i<a0.2.length)=Tc->R Ta)))))):
  PC Tp gl 42 [Arg.mk (.pair (.row .str) (.row (.int .i64))) a0,Arg.mk (.pair (.row .str) (.row (.int .i64))) b1] [.bool] R:=
 PF ⟨[],[],[(4,⟨[(5,.one (.dat (.int .i64)))],[],[2,3],[100320]⟩),(9,⟨[(6,.one (.dat (.int .i64)))],[],[2,3],[100384]⟩)],[]⟩ [.tmp 4] 59 Tryz.func42 H
theorem zpd(gl:Fr)(b:(List Bt)×List Int)(R:Bool->Prop) (H:PC Tp gl 104 [Arg.mk (.pair (.row .str) (.row (.int .i64))) (b.1,b.2)] [.row (.int .i64),.bool] (λa:(List Int)×Bool=>R a.2)):
  PC Tp gl 46 [Arg.mk (.pair (.row .str) (.row (.int .i64))) b] [.bool] R:=
 PF ⟨[],[],[],[]⟩ [.tmp 2] 11 Tryz.func46 H
theorem zez(gl:Fr)(a0:List Int)(b1:List Int)(R:Bool->Prop) (H:(((a0.length:Int) != (b1.length:Int))=Ta->R Tc)/\(((a0.length:Int) != (b1.length:Int))=Tc->∃(a:Int->Prop) (b:Int->Nat),a 0/\∀c:Int,a c->((decide (c<a0.length)=Ta->∃d,(0<=c/\a0[c.toNat]?=Td d)/\∃e,(0<=c/\b1[c.toNat]?=Td e)/\((d != e)=Ta->R Tc)/\((d != e)=Tc->(a (Aa .i64 (c+1))/\b (Aa .i64 (c+1))<b c)))/\(decide (c<a0.length)=Tc->R Ta)))):
  PC Tp gl 48 [Arg.mk (.row (.int .i64)) a0,Arg.mk (.row (.int .i64)) b1] [.bool] R:=
 PF ⟨[],[],[(4,⟨[(5,.one (.dat (.int .i64)))],[],[],[100320]⟩)],[]⟩ [.tmp 4] 26 Tryz.func48 H
theorem zpe(gl:Fr)(h:(List Bt)×List Int)(R:(List Int)->Prop) (H:PC Tp gl 51 [Arg.mk (.pair (.row .str) (.row (.int .i64))) (h.1,h.2)] [.row (.int .i64)] (λa:List Int=>∃(b:(List Int)->Int->Prop) (c:(List Int)->Int->Nat),b [] 0/\∀d:List Int,∀e:Int,b d e->((decide (e<a.length)=Ta->∃f,(0<=e/\a[e.toNat]?=Td f)/\(decide (f<0)=Ta->((d.length+Ct ([e]:List Int))*8<=140737488355328/\(b (d++[e]) (Aa .i64 (e+1))/\c (d++[e]) (Aa .i64 (e+1))<c d e)))/\(decide (f<0)=Tc->(b d (Aa .i64 (e+1))/\c d (Aa .i64 (e+1))<c d e)))/\(decide (e<a.length)=Tc->R d)))):
  PC Tp gl 49 [Arg.mk (.pair (.row .str) (.row (.int .i64))) h] [.row (.int .i64)] R:=
 PF ⟨[],[],[(3,⟨[(3,.one (.own 3 (.int .i64))),(9,.one (.dat (.int .i64)))],[],[],[100192,100576]⟩)],[]⟩ [.tmp 2] 22 Tryz.func49 H
theorem zj8(gl:Fr)(b:(List Bt)×List Int)(R:(List Int)->Prop) (H:PC Tp gl 104 [Arg.mk (.pair (.row .str) (.row (.int .i64))) (b.1,b.2)] [.row (.int .i64),.bool] (λa:(List Int)×Bool=>((!a.2)=Ta->R [])/\((!a.2)=Tc->R a.1))):
  PC Tp gl 51 [Arg.mk (.pair (.row .str) (.row (.int .i64))) b] [.row (.int .i64)] R:=
 PF ⟨[],[],[],[]⟩ [.tmp 2] 13 Tryz.func51 H
theorem zpf(gl:Fr)(a0:Tr)(b1:Tr)(R:Bool->Prop) (H:PC Tp gl 88 [Arg.mk .tree (Tr.mk a0.kind a0.text a0.keys a0.items)] [.bool] (λa:Bool=>∃b:Bool->Prop,(a=Ta->PC Tp gl 88 [Arg.mk .tree (Tr.mk b1.kind b1.text b1.keys b1.items)] [.bool] b)/\∀c:Bool,(a=Ta->b c)->∃d:Bool->Prop,((bif a then c else Tc)=Ta->PC Tp gl 109 [Arg.mk .tree (Tr.mk a0.kind a0.text a0.keys a0.items),Arg.mk .tree (Tr.mk b1.kind b1.text b1.keys b1.items)] [.bool] d)/\∀e:Bool,((bif a then c else Tc)=Ta->d e)->R (bif (bif a then c else Tc)then e else Tc))):
  PC Tp gl 55 [Arg.mk .tree a0,Arg.mk .tree b1] [.bool] R:=
 PF ⟨[],[],[],[]⟩ [.tmp 4] 16 Tryz.func55 H
theorem zat(gl:Fr)(h:Tr)(R:Int->Prop) (H:∃(a:Int->Int->Prop) (b:Int->Int->Nat),a (h.keys.length:Int) 0/\∀c d:Int,a c d->((decide (d<h.items.length)=Ta->∃e,(0<=d/\h.items[d.toNat]?=Td e)/\PC Tp gl 57 [Arg.mk .tree (Tr.mk e.kind e.text e.keys e.items)] [.int .i64] (λf:Int=>(a (Aa .i64 (c+f)) (Aa .i64 (d+1))/\b (Aa .i64 (c+f)) (Aa .i64 (d+1))<b c d)))/\(decide (d<h.items.length)=Tc->R c))):
  PC Tp gl 57 [Arg.mk .tree h] [.int .i64] R:=
 PF ⟨[],[],[(3,⟨[(3,.one (.dat (.int .i64))),(4,.one (.dat (.int .i64)))],[],[1],[100192,100256]⟩)],[]⟩ [.tmp 2] 24 Tryz.func57 H
theorem zs4(gl:Fr)(a0:(List Bt)×List Int)(b1:(List Bt)×List Int)(R:Bool->Prop) (H:PC Tp gl 190 [Arg.mk (.row .str) a0.1,Arg.mk (.row .str) b1.1] [.bool] (λa:Bool=>∃b:Bool->Prop,(a=Ta->PC Tp gl 191 [Arg.mk (.row (.int .i64)) a0.2,Arg.mk (.row (.int .i64)) b1.2] [.bool] b)/\∀c:Bool,(a=Ta->b c)->R (bif a then c else Tc))):
  PC Tp gl 106 [Arg.mk (.pair (.row .str) (.row (.int .i64))) a0,Arg.mk (.pair (.row .str) (.row (.int .i64))) b1] [.bool] R:=
 PF ⟨[],[],[],[]⟩ [.tmp 4] 17 Tryz.func106 H

theorem zj9(gl:Fr)(b:Tr)(R:Bt->Prop) (H:PC Tp gl 34 [Arg.mk .tree (Tr.mk b.kind b.text b.keys b.items)] [.str,.int .i64] (λa:Bt×Int=>R a.1)):
  PC Tp gl 178 [Arg.mk .tree b] [.str] R:=
 PF ⟨[],[],[],[]⟩ [.tmp 2] 11 Tryz.func178 H
theorem zs5(gl:Fr)(e:Bt)(R:(Tr×Bool)->Prop) (H:PC Tp gl 15 [Arg.mk .str e] [.tree,.int .i64,.int .i64] (λa:Tr×Int×Int=>∃b:Bt->Prop,((bif (bif (a.2.2==0)then((a.1.items.length:Int)==0)else Tc)then(decide (a.1.kind<5))else Tc)=Ta->PC Tp gl 178 [Arg.mk .tree (Tr.mk a.1.kind a.1.text a.1.keys a.1.items)] [.str] b)/\∀c:Bt,((bif (bif (a.2.2==0)then((a.1.items.length:Int)==0)else Tc)then(decide (a.1.kind<5))else Tc)=Ta->b c)->R (Tr.mk a.1.kind a.1.text a.1.keys a.1.items,bif (bif (bif (a.2.2==0)then((a.1.items.length:Int)==0)else Tc)then(decide (a.1.kind<5))else Tc)then(c.toList==e.toList)else Tc))):
  PC Tp gl 189 [Arg.mk .str e] [.tree,.bool] R:=
 PF ⟨[],[(2,20,[],[0,1,2,3,4,5,6,7,8,9,10,11,12,13,14,15,17,16,18,19],[17,18,19])],[],[]⟩ [.cell 2 26,.tmp 3] 33 Tryz.func189 H
theorem Z8(gl:Fr)(f:List Bt)(h:List Bt)(R:Bool->Prop) (H:(((f.length:Int) != (h.length:Int))=Ta->R Tc)/\(((f.length:Int) != (h.length:Int))=Tc->∃(a:Int->Prop) (b:Int->Nat),a 0/\∀c:Int,a c->((decide (c<f.length)=Ta->∃d,(0<=c/\f[c.toNat]?=Td d)/\∃e,(0<=c/\h[c.toNat]?=Td e)/\((!(d.toList==e.toList))=Ta->R Tc)/\((!(d.toList==e.toList))=Tc->(a (Aa .i64 (c+1))/\b (Aa .i64 (c+1))<b c)))/\(decide (c<f.length)=Tc->R Ta)))):
  PC Tp gl 190 [Arg.mk (.row .str) f,Arg.mk (.row .str) h] [.bool] R:=
 PF ⟨[],[],[(4,⟨[(13,.one (.dat (.int .i64)))],[],[],[100832]⟩)],[]⟩ [.tmp 4] 26 Tryz.func190 H
theorem W9(gl:Fr)(f:List Int)(h:List Int)(R:Bool->Prop) (H:(((f.length:Int) != (h.length:Int))=Ta->R Tc)/\(((f.length:Int) != (h.length:Int))=Tc->∃(a:Int->Prop) (b:Int->Nat),a 0/\∀c:Int,a c->((decide (c<f.length)=Ta->∃d,(0<=c/\f[c.toNat]?=Td d)/\∃e,(0<=c/\h[c.toNat]?=Td e)/\((d != e)=Ta->R Tc)/\((d != e)=Tc->(a (Aa .i64 (c+1))/\b (Aa .i64 (c+1))<b c)))/\(decide (c<f.length)=Tc->R Ta)))):
  PC Tp gl 191 [Arg.mk (.row (.int .i64)) f,Arg.mk (.row (.int .i64)) h] [.bool] R:=
 PF ⟨[],[],[(4,⟨[(13,.one (.dat (.int .i64)))],[],[],[100832]⟩)],[]⟩ [.tmp 4] 26 Tryz.func191 H
end
end Go.X
end
section
namespace Go.X
open Go Go.X Go.Proofs Go.RowKit
section
variable {v:Tr} {k:Bt}
set_option maxRecDepth 100000 in
theorem qjc{lo:Nat}{h:zb}{M:Fr}{b:Nat}{S y:List (Bt×Int)}{bs:List Nat}{lab:Bt}{F:FuncId}{A C:Array Value}(hF:zh Tp F=Ta)(H:Tb lo h M b S bs)(ay:lo<=h.size)(P:y.length<=513) (hk:XC Tp F (A++#[]++C) h λv h1=>v=.tuple #[]/\∃n I,Grw h M b bs h1 n I/\Tb lo h1 n b y I) {K:Value->zb->Prop} (hK:∀h' M' bs',Grw h M b bs h' M' bs'->Tb lo h' M' b (zge (y++[(lab,(S.length:Int))])) bs'->K (.tuple #[]) h'):
  XC Tp 175 #[.pointer (Td ⟨b,0,Te⟩),.string lab,.func (.func F) A C] h K:=by
 obtain⟨sl,sf,b1,b2,rfl,B⟩:=H;have l0:=B.r1.len;rw[Ao]at l0;apply zc6 (Td ⟨b,0,Te⟩) lab F A C;refine⟨⟨b,0,Te⟩,rfl,sl,by rw[add0];exact B.box.cellAdd (o:=0) (k:=0) rfl,hF,XC.mono hk ?_⟩;rintro v h4 ⟨rfl,n,I,T,f,i,t,d2,rfl,q⟩;have l1:=q.r1.len;have l2:=q.r2.len;rw[Ao]at l1 l2;have au:=T.grow;refine⟨rfl,⟨b,0,Te⟩,rfl,f,by rw[add0];exact q.box.cellAdd (o:=0) (k:=0) rfl,λz=>?_,λz=>?_⟩
 ·have z:y.length<=512:=by have:=of_decide_eq_true z;omega
  have D:=AdM.start q T.ag;have N:=q.box.lt;have fin:∀{g:zb} {s1:Sl} {c1:List Nat} {s2:Sl} {c2:List Nat},AdM lo h4 n b f i (t++d2) g (y.map (·.1)++[lab]) s1 c1 (y.map (·.2)++[(sl.len:Int)]) s2 c2->∃x:Addr,Td (⟨b,0,Te⟩:Addr)=Td x /\
    XRunU Tp (Af 23 (.pointer (Td (Ad (Ad x 0) 0))) (slV s1)) g (λg1=>∃w:Addr,Td (⟨b,0,Te⟩:Addr)=Td w/\XRunU Tp (Af 59 (.pointer (Td (Ad (Ad w 0) 1))) (slV s2)) g1 (λL=>K (.tuple #[]) L)):=by
   intro g s1 c1 s2 c2 u;refine⟨_,rfl,?_⟩;have:=u.fin (S:=y++[(lab,(sl.len:Int))]) (by simp) (by simp) (K:=λL=>K (.tuple #[]) L) λg' bs' T' B'=>hK g' n bs' (T.trans T') (by rw[<-zyg P,if_pos z,<-l0];exact B');exact XRunU.mono this λg1 h1=>⟨_,rfl,h1⟩
  refine⟨⟨b,0,Te⟩,rfl,f,by rw[add0];exact q.box.cellAdd (o:=0) (k:=0) rfl,⟨b,0,Te⟩,rfl,i,by rw[add0];exact q.box.cellAdd (o:=0) (k:=1) rfl,?_,?_⟩;intro c;have ae:Keep h4.size h4 c:=Keep.push _ _ (Ab _);have ap:c.size=h4.size+1:=Aj _;have Z:Blk c h4.size #[.string lab]:=Blk.new _ _ _;have r:AdM lo h4 n b f i (t++d2) c _ _ _ _ _ _:=D.push _;clear_value c;have p:c[b]?=h4[b]?:=ae.get b N;refine⟨p,p,?_,?_⟩;refine r.lab (by omega) (by rw[Ao];omega) Z λs' g' c' u z' f'=>⟨s',rfl,?_,?_⟩;exact(f' b (by omega) r.n1).trans p;intro s;have ak:Keep g'.size g' s:=Keep.push _ _ (Ab _);have ab:Blk s g'.size #[.int .i64 (sl.len:Int)]:=Blk.new _ _ _;have ai:AdM lo h4 n b f i (t++d2) s _ _ _ _ _ _:=u.push _;clear_value s;refine⟨(ak.get b u.box.lt).trans ((f' b (by omega) r.n1).trans p),?_⟩;exact ai.lef (by omega) (by rw[Ao];omega) ab λs2 L c2 Y _ _=>⟨s2,rfl,fin Y⟩;intro l;have U:Keep c.size c l:=Keep.push _ _ (Ab _);have af:Blk l c.size #[.int .i64 (sl.len:Int)]:=Blk.new _ _ _;have Q:AdM lo h4 n b f i (t++d2) l _ _ _ _ _ _:=r.push _;have an:l.size=c.size+1:=Aj _;clear_value l;have J:l[b]?=h4[b]?:=(U.get b (by omega)).trans p;refine⟨J,J,?_⟩;refine Q.lab (by omega) (by rw[Ao];omega) (Z.ofKeep U) λs' g' c' u z' f'=>⟨s',rfl,(f' b (by omega) Q.n1).trans J,?_⟩;have hn:c.size∉t:=λhm=>by have:=(q.r1.own _ hm).2.1;omega
  exact u.lef (by omega) (by rw[Ao];omega) (af.keep (f' _ (by omega) hn)) λs2 L c2 Y _ _=>⟨s2,rfl,fin Y⟩;intro e;have ah:Keep h4.size h4 e:=Keep.push _ _ (Ab _);have ax:e.size=h4.size+1:=Aj _;have aa:Blk e h4.size #[.int .i64 (sl.len:Int)]:=Blk.new _ _ _;have aj:AdM lo h4 n b f i (t++d2) e _ _ _ _ _ _:=D.push _;clear_value e;have G:e[b]?=h4[b]?:=ah.get b N;refine⟨G,G,?_⟩;intro m;have V:Keep e.size e m:=Keep.push _ _ (Ab _);have ar:m.size=e.size+1:=Aj _;have am:Blk m e.size #[.string lab]:=Blk.new _ _ _;have O:AdM lo h4 n b f i (t++d2) m _ _ _ _ _ _:=aj.push _;clear_value m;have E:m[b]?=h4[b]?:=(V.get b (by omega)).trans G;refine⟨E,E,?_⟩;refine O.lab (by omega) (by rw[Ao];omega) am λs' g' c' u z' f'=>⟨s',rfl,(f' b (by omega) O.n1).trans E,?_⟩;have hn:h4.size∉t:=λhm=>by have:=(q.r1.own _ hm).2.1;omega
  exact u.lef (by omega) (by rw[Ao];omega) ((aa.ofKeep V).keep (f' _ (by omega) hn)) λs2 L c2 Y _ _=>⟨s2,rfl,fin Y⟩
 have z:¬y.length<=512:=by have:=of_decide_eq_false z;omega
 refine hK h4 n _ T ?_;rw[<-zyg P,if_neg z];exact⟨f,i,t,d2,rfl,q⟩
theorem zgg{gl:Fr}(b:GL gl)(f:Brn gl)(e:Sm v){R:Bt->Prop}(c:R (zbk v).1):PC Tp gl 178 [Arg.mk .tree v] [.str] R:=by apply zj9;simp only[Xg];exact z0q b f e c
theorem zmu(h:okV v=Ta)(i:v.kind≠5)(k:v.kind≠6):v.items=[]/\qa v=Ta:=by
 have hi:v.items=[]:=by unfold okV zn at h;simp only[i,k,if_false]at h;by_cases h1:v.kind=1;simp[h1]at h;exact h.2;by_cases f:v.kind=2;simp[f]at h;exact h.2;by_cases c:v.kind=3;simp[c]at h;exact h.2;by_cases b:v.kind=4;simp[b]at h;exact h.2;by_cases e:v.kind=7;simp[e]at h;simp[h1,f,c,b,e]at h
 refine⟨hi,?_⟩;unfold qa Zf;rw[yh,zji,y0,hi];simp only[Ap,decide_eq_true_eq];refine⟨⟨by rw[w9];omega,by rw[Xj];omega⟩,?_,by rfl⟩;unfold okV at h;simpa using h
theorem qgc(h:Z4 (lb k)=Ta):okV (.mk 4 k [] [])=Ta:=by unfold okV zn;simpa[Tr.kind,Tr.text,Tr.keys,Tr.items]using h
theorem zs6(h:Z4 (lb k)=Ta):qa (.mk 4 k [] [])=Ta:= (zmu (qgc h) (show¬(4:Int)=5 by decide) (show¬(4:Int)=6 by decide)).2
theorem z7r(h:okV v=Ta)(c:v.kind≠5)(b:v.kind≠6):(zbk v).1=zs2 v:=by unfold zbk zs2;rw[if_pos (zmu h c b).2,if_neg c,if_neg b]
theorem qbt(h:Z4 (lb k)=Ta):(⟨#[107]⟩:Bt)++(zbk (.mk 4 k [] [])).1=zyb k:=by unfold zbk zyb;rw[if_pos (zs6 h),Yy];show bl [107]++bl (zmh (lb k)).1=_;rw[wq];rfl
end
section
theorem xz{g:zb}{M:Fr}(ag:AgM M g){k:Int}{s:Bt}{sk si:Sl}{K:zb->Prop}(c:∀g',Later g M g' M->g'.size=g.size+1->Blk g' g.size #[.int .i64 k,.string s,slV sk,slV si]->K g'):
  XRunU Tp (Af 26 (.pointer (Td ⟨g.size,0,Te⟩)) (.agg #[.int .i64 k,.string s,slV sk,slV si])) (CH g (.cells #[.int .i64 0,.string ⟨#[]⟩,.slice Te 0 0,.slice Te 0 0] 26)) K:=by
 have h:Keep g.size g (CH g (.cells #[.int .i64 0,.string ⟨#[]⟩,.slice Te 0 0,.slice Te 0 0] 26)):=Keep.push _ _ (Ab _);have i:(CH g (.cells #[.int .i64 0,.string ⟨#[]⟩,.slice Te 0 0,.slice Te 0 0] 26)).size=g.size+1:=Aj _;have b:Blk (CH g (.cells #[.int .i64 0,.string ⟨#[]⟩,.slice Te 0 0,.slice Te 0 0] 26)) g.size #[.int .i64 0,.string ⟨#[]⟩,.slice Te 0 0,.slice Te 0 0]:=Blk.new _ _ _;refine jw b λg' f z B=>c g' (Later.same ag ⟨by omega,λj e=>by rw[f j (by omega)];exact h.get j e⟩) (by omega) B
set_option maxRecDepth 100000 in
set_option maxHeartbeats 2000000 in
theorem zs7{gl:Fr}(hg:GL gl)(hb:Brn gl){lo:Nat}:∀(n:Nat) (v:Tr),n<=1000000->tsz v<=n->Q8 okV v=Ta->Sm v->∀(h:zb) (M:Fr) (b:Nat) (S:List (Bt×Int)) (bs:List Nat) (u:Value),AgM M h->Fr.le gl M->Tb lo h M b S bs->lo<=h.size->S.length<=513->RdV M .tree v u ->
  XC Tp 100 #[.pointer (Td ⟨b,0,Te⟩),u] h λr h'=>r=.tuple #[]/\∃M' bs',Grw h M b bs h' M' bs'/\Tb lo h' M' b (zge (S++Qc v S.length)) bs'
 |0,v,_,hz,_,_=>by have:=Q2 v;omega
 |n+1,v,hn,hz,hok,hsm=>by
  intro h M b S bs u ag hM HB aS hS hu;obtain⟨sk,si,rfl,rk,ri⟩:=yz hu;have E:=hok;rw[y0,Ap]at E;have aP:v.items.length<=1000000:=by have:=Qd v.items;rw[yh]at hz;omega
  have ih:∀(i:Nat) (hi:i<v.items.length) (h:zb) (M:Fr) (S:List (Bt×Int)) (bs:List Nat) (u:Value),AgM M h->Fr.le gl M->Tb lo h M b S bs->lo<=h.size->S.length<=513->RdV M .tree v.items[i] u ->
    XC Tp 100 #[.pointer (Td ⟨b,0,Te⟩),u] h λr h'=>r=.tuple #[]/\∃M' bs',Grw h M b bs h' M' bs'/\Tb lo h' M' b (zge (S++Qc v.items[i] S.length)) bs':=λi hi h M S bs u=>by
   have hm:=AE hi;have hs:=yd hm;have am:Q8 okV v.items[i]=Ta:=by rw[jk,Av]at E;exact E.2 _ hm
   exact zs7 hg hb n v.items[i] (by omega) (by omega) am (hsm.item hm) h M b S bs u
  obtain⟨li,_,_⟩:=rowLen ri;obtain⟨lk,_,_⟩:=rowLen rk;have aN:=HB.ltb;have ae:=HB.lt;apply zar (Td ⟨b,0,Te⟩) v.kind v.text sk si;intro h1;have k1:Keep h.size h h1:=Keep.push _ _ (Ab _);have z1:h1.size=h.size+1:=Aj _;have P1:Blk h1 h.size #[.pointer (Td ⟨b,0,Te⟩)]:=Blk.new _ _ _;clear_value h1;intro h2;have k2:Keep h1.size h1 h2:=Keep.push _ _ (Ab _);have z2:h2.size=h1.size+1:=Aj _;have T2:Blk h2 h1.size #[.int .i64 v.kind,.string v.text,slV sk,slV si]:=Blk.new _ _ _;clear_value h2;have P2:=P1.ofKeep k2;have az:Keep h.size h h2:=k1.trans k2 (by omega);have L2:Later h M h2 M:=Later.same ag az;have af:=HB.call L2;have row:Qc v S.length=(if v.kind=6 then Js v.items v.keys S.length else if v.kind=5 then zbt v.items S.length else [])++[(zs2 v,(S.length:Int))]:=zo9 v _;have fin:∀(A:List (Bt×Int)) (lab:Bt) (F:FuncId) (C:Array Value),Qc v S.length=A++[(lab,(S.length:Int))]->zh Tp F=Ta -> (∀(h':zb) (M':Fr),Later h2 M h' M'->XC Tp F (#[]++#[]++C) h' λw h1=>w=.tuple #[]/\∃N z,Grw h' M' b bs h1 N z/\Tb lo h1 N b (zge (S++A)) z) ->
    ∀(h':zb) (M':Fr),Later h2 M h' M'->XC Tp 175 #[.pointer (Td ⟨b,0,Te⟩),.string lab,.func (.func F) #[] C] h' λr h3=>r=.tuple #[]/\Value.tuple #[]=Value.tuple #[]/\∃M' bs',Grw h M b bs h3 M' bs'/\Tb lo h3 M' b (zge (S++Qc v S.length)) bs':=by
   intro A lab F C ar hF hk h' M' J;have aT:=J.keep.size;refine qjc hF (af.call J) (by omega) (zpa (S++A)) (hk h' M' J) λh3 M3 ai T3 B3=>⟨rfl,rfl,M3,ai,Grw.ofCall (L2.trans J) T3 ae,?_⟩;have:=zex (S++A) λ_=>[(lab,(S.length:Int))];rw[this,AF,<-ar]at B3;exact B3
  refine⟨v.kind,T2.cellAdd (o:=0) (k:=0) rfl,λh5=>?_,λh5=>⟨λh6=>?_,λh6=>?_⟩⟩;have h5:v.kind=5:=by simpa using h5
  refine⟨Td ⟨b,0,Te⟩,P2.cell (o:=0) rfl,?_⟩;refine fin (zbt v.items S.length) ⟨#[91]⟩ _ _ (by rw[row,if_neg (by omega),if_pos h5];unfold zs2;rw[if_pos h5]) (by kernel_rfl) (λh' M' J=>?_) h2 M (Later.refl L2.ag);show XC _ _ #[.pointer (Td ⟨h1.size,0,Te⟩),.pointer (Td ⟨h.size,0,Te⟩)] _ _;have z':=J.keep.size;have T':Blk h' h1.size #[.int .i64 v.kind,.string v.text,slV sk,slV si]:=T2.keep (J.keep.get _ (by omega));have P':Blk h' h.size #[.pointer (Td ⟨b,0,Te⟩)]:=P2.keep (J.keep.get _ (by omega));have ak:=af.call J;apply W5 ⟨h1.size,0,Te⟩ ⟨h.size,0,Te⟩;refine⟨si,T'.cellAdd (o:=0) (k:=3) rfl,λi g=>∃(m:Nat) (N:Fr) (z:List Nat),i=(m:Int)/\m<=v.items.length/\Grw h' M' b bs g N z/\Tb lo g N b (zge (S++zbt (v.items.take m) S.length)) z,λi _=>v.items.length-i.toNat,⟨0,M',bs,rfl,AX _,Grw.refl J.ag,by rw[Dl,zbt,AQ,zgf hS];exact ak⟩,?_⟩;rintro i g ⟨m,N,z,rfl,hm,T,B⟩;have gz:=T.grow;refine⟨λY=>?_,λY=>?_⟩;have y:m<v.items.length:=by have:=of_decide_eq_true Y;omega
  obtain⟨a,ck,ci,ea,ah,t1,t2⟩:=zd8 T.ag (ri.mono (J.le.trans T.le)) y;refine⟨a,⟨ea,by omega,by omega⟩,v.items[m].kind,v.items[m].text,ck,ci,by rw[Ai];exact ah,?_⟩;intro aA;refine xz T.ag λG I ay aj=>?_;have Pg:Blk G h.size #[.pointer (Td ⟨b,0,Te⟩)]:=P'.keep ((I.keep.get h.size (by omega)).trans (T.fr h.size (by omega) (by omega) λhm=>by have:=ae _ hm;omega));refine⟨Td ⟨b,0,Te⟩,Pg.cell (o:=0) rfl,v.items[m].kind,v.items[m].text,ck,ci,aj.ld (cs:=[_,_,slV ck,slV ci]),?_⟩;refine XC.mono (ih m y G N _ z _ I.ag (hM.trans (J.le.trans T.le)) (B.call I) (by omega) (zpa _) (qf t1 t2)) ?_;rintro r h19 ⟨rfl,M2,aB,aJ,ap⟩;refine⟨rfl,⟨m+1,M2,aB,by rw[ju y (by omega)],y,T.trans (Grw.ofCall I aJ λc Y=>B.lt c Y),?_⟩,?_⟩;have:=zex (S++zbt (v.items.take m) S.length) λk=>Qc v.items[m] k;rw[this,AF,Ag,<-z7p y]at ap;exact ap;show v.items.length-(Aa .i64 ((m:Int)+1)).toNat<v.items.length-(m:Int).toNat;rw[ju y (by omega)];omega;have y:m=v.items.length:=by have:=of_decide_eq_false Y;omega
  subst y;rw[A3]at B;exact⟨rfl,N,z,T,B⟩
  ·have h6:v.kind=6:=by simpa using h6
   have aO:v.keys.length=v.items.length:=by have:=E.1;unfold okV zn at this;simp[h6]at this;exact this.1.2
   have aE:∀k∈v.keys,Z4 (lb k)=Ta:=by have:=E.1;unfold okV zn wh at this;simp[h6]at this;exact this.1.1.1
   refine⟨Td ⟨b,0,Te⟩,P2.cell (o:=0) rfl,?_⟩;refine fin (Js v.items v.keys S.length) ⟨#[123]⟩ _ _ (by rw[row,if_pos h6];unfold zs2;rw[if_neg (by omega),if_pos h6]) (by kernel_rfl) (λh' M' J=>?_) h2 M (Later.refl L2.ag);show XC _ _ #[.pointer (Td ⟨h1.size,0,Te⟩),.pointer (Td ⟨h.size,0,Te⟩)] _ _;have z':=J.keep.size;have T':Blk h' h1.size #[.int .i64 v.kind,.string v.text,slV sk,slV si]:=T2.keep (J.keep.get _ (by omega));have P':Blk h' h.size #[.pointer (Td ⟨b,0,Te⟩)]:=P2.keep (J.keep.get _ (by omega));have ak:=af.call J;apply W6 ⟨h1.size,0,Te⟩ ⟨h.size,0,Te⟩;refine⟨si,T'.cellAdd (o:=0) (k:=3) rfl,λi g=>∃(m:Nat) (N:Fr) (z:List Nat),i=(m:Int)/\m<=v.items.length/\Grw h' M' b bs g N z/\Tb lo g N b (zge (S++Js (v.items.take m) v.keys S.length)) z,λi _=>v.items.length-i.toNat,⟨0,M',bs,rfl,AX _,Grw.refl J.ag,by rw[Dl,Js,AQ,zgf hS];exact ak⟩,?_⟩;rintro i g ⟨m,N,z,rfl,hm,T,B⟩;have gz:=T.grow;refine⟨λY=>?_,λY=>?_⟩
   ·have y:m<v.items.length:=by have:=of_decide_eq_true Y;omega
    have Z:m<v.keys.length:=by omega
    have ab:=J.le.trans T.le;obtain⟨a,ck,ci,ea,ah,t1,t2⟩:=zd8 T.ag (ri.mono ab) y;refine⟨a,⟨ea,by omega,by omega⟩,v.items[m].kind,v.items[m].text,ck,ci,by rw[Ai];exact ah,?_⟩;intro aA;refine xz T.ag λG I ay aj=>?_;have Pg:Blk G h.size #[.pointer (Td ⟨b,0,Te⟩)]:=P'.keep ((I.keep.get h.size (by omega)).trans (T.fr h.size (by omega) (by omega) λhm=>by have:=ae _ hm;omega));have Tg:Blk G h1.size #[.int .i64 v.kind,.string v.text,slV sk,slV si]:=T'.keep ((I.keep.get h1.size (by omega)).trans (T.fr h1.size (by omega) (by omega) λhm=>by have:=ae _ hm;omega));obtain⟨a2,aI,x,aL,aF⟩:=zzv I.ag (rk.mono ab) Z (i:=(m:Int)) rfl (L:=sk.len) rfl (Q:=λx=>x=v.keys[m]) rfl;subst aF;refine⟨Td ⟨b,0,Te⟩,Pg.cell (o:=0) rfl,sk,Tg.cellAdd (o:=0) (k:=2) rfl,a2,aI,v.keys[m],aL,?_⟩;have au:=aE _ (AE Z);have aH:Sm (.mk 4 v.keys[m] [] []):=⟨by rw[yh];simp[w9],by rw[txB];refine⟨⟨?_,AX _,λk hk=>by cases hk⟩,trivial⟩;have:=hsm.key (AE Z);rw[zi6]at this;exact this⟩;have BB:=B.call I;have tail:∀(f:zb) (l:Fr) (kt:Bt),Later G N f l->kt=(zbk (.mk 4 v.keys[m] [] [])).1->XC Tp 175 #[.pointer (Td ⟨b,0,Te⟩),.string ((⟨#[107]⟩:Bt)++kt),.func (.func 179) #[] #[.pointer (Td ⟨h.size,0,Te⟩),.pointer (Td ⟨g.size,0,Te⟩)]] f λw an=>w=.tuple #[] /\
      (∃(q:Nat) (N:Fr) (z:List Nat),Aa .i64 ((m:Int)+1)=(q:Int)/\q<=v.items.length/\Grw h' M' b bs an N z/\Tb lo an N b (zge (S++Js (v.items.take q) v.keys S.length)) z)/\v.items.length-(Aa .i64 ((m:Int)+1)).toNat<v.items.length-(m:Int).toNat:=by
     rintro f l kt p rfl;rw[qbt au];have aQ:=p.keep.size;have U:=I.trans p;refine qjc (by kernel_rfl) (B.call U) (by omega) (zpa (zge (S++Js (v.items.take m) v.keys S.length)++Qc v.items[m] (zge (S++Js (v.items.take m) v.keys S.length)).length)) ?_ λh3 M3 ai T3 B3=>⟨rfl,⟨m+1,M3,ai,by rw[ju y (by omega)],y,T.trans (Grw.ofCall U T3 λc Y=>B.lt c Y),?_⟩,?_⟩;show XC _ _ #[.pointer (Td ⟨h.size,0,Te⟩),.pointer (Td ⟨g.size,0,Te⟩)] _ _;apply Y0 ⟨h.size,0,Te⟩ ⟨g.size,0,Te⟩;refine⟨Td ⟨b,0,Te⟩,(Pg.keep (p.keep.get _ (by omega))).cell (o:=0) rfl,v.items[m].kind,v.items[m].text,ck,ci,(aj.keep (p.keep.get _ (by omega))).ld (cs:=[_,_,slV ck,slV ci]),?_⟩;exact XC.mono (ih m y f l _ z _ p.ag (hM.trans (ab.trans p.le)) (B.call U) (by omega) (zpa _) (qf (t1.mono p.le) (t2.mono p.le))) λr h' O=>⟨O.1,rfl,O.2⟩;have e1:=zex (S++Js (v.items.take m) v.keys S.length) λk=>Qc v.items[m] k++[(zyb v.keys[m],(k:Int))];have e2:=zex (zge (S++Js (v.items.take m) v.keys S.length)++Qc v.items[m] (zge (S++Js (v.items.take m) v.keys S.length)).length) λ_=>[(zyb v.keys[m],((zge (S++Js (v.items.take m) v.keys S.length)).length:Int))];rw[e2,AF,e1,AF,Ag,<-z7q y Z]at B3;exact B3;rw[ju y (by omega)];omega
    have aa:∀(t:zb) (s:Fr) (xk xi:Sl),Later G N t s->RdV s .tree (.mk 4 v.keys[m] [] []) (.agg #[.int .i64 4,.string v.keys[m],slV xk,slV xi])->∀{K:Value->zb->Prop},(∀f l,Later G N f l->Later t s f l->K (.string (zbk (.mk 4 v.keys[m] [] [])).1) f) ->
      XC Tp 178 #[.agg #[.int .i64 4,.string v.keys[m],slV xk,slV xi]] t K:=λt s xk xi D O K hK=>by
     refine(zgg hg hb aH (R:=λr=>r=(zbk (.mk 4 v.keys[m] [] [])).1) rfl).go (vs:=[.agg #[.int .i64 4,.string v.keys[m],slV xk,slV xi]]) (hM.trans (ab.trans D.le)) D.ag (qc O qt) λw f l r p P O=>?_;subst O;rw[qhq P];exact hK f l (D.trans p) p
    have off:∀{K:Value->zb->Prop},(∀t s xk xi,Later G N t s->RdV s .tree (.mk 4 v.keys[m] [] []) (.agg #[.int .i64 4,.string v.keys[m],slV xk,slV xi])->K (.agg #[.int .i64 4,.string v.keys[m],slV xk,slV xi]) t)->XC Tp 28 #[.string v.keys[m]] G K:=λ {K} hK=>by refine(show PC Tp gl 28 [Arg.mk .str v.keys[m]] [.tree] (λr=>r=.mk 4 v.keys[m] [] [])from by apply zvk;rfl).go (hM.trans ab) I.ag (qc (a:=Arg.mk .str _) (rdStr _) qt) λw t s r D P O=>?_;subst O;have O:=Xe.1 P;obtain⟨xk,xi,e,_,_⟩:=yz O;subst e;exact hK t s xk xi D O
    have V:wl ((⟨#[107]⟩:Bt).size+(zbk (.mk 4 v.keys[m] [] [])).1.size):=by have h1:=hsm.key (AE Z);unfold zbk;rw[if_pos (zs6 au),Yy];show wl ((bl [107]).size+(bl (zmh (lb v.keys[m])).1).size);have:=zoy (lb v.keys[m]);exact zz1 (by simp only[CK];omega)
    have aM:b<G.size:=by have:=B.ltb;omega
    have H:∀(f:zb) (l:Fr),Later G N f l->f[h.size]?=G[h.size]?:=λf l L=>L.keep.get _ (by omega);refine⟨off λt s xk xi D O=>⟨_,_,xk,xi,rfl,H t s D,?_,H t s D,?_⟩,rfl,rfl,rfl,off λt s xk xi D O=>⟨_,_,xk,xi,rfl,H t s D,?_⟩⟩;exact aa t s xk xi D O λf l p _=>⟨_,rfl,V,H f l p,H f l p,tail f l _ p rfl⟩;exact aa t s xk xi D O λf l p _=>⟨_,rfl,V,H f l p,tail f l _ p rfl⟩;exact aa t s xk xi D O λf l p _=>⟨_,rfl,V,H f l p,tail f l _ p rfl⟩
   have y:m=v.items.length:=by have:=of_decide_eq_false Y;omega
   subst y;rw[A3]at B;exact⟨rfl,N,z,T,B⟩
  have h5:v.kind≠5:=by simpa using h5
  have h6:v.kind≠6:=by simpa using h6
  refine⟨Td ⟨b,0,Te⟩,P2.cell (o:=0) rfl,v.kind,v.text,sk,si,T2.ld (cs:=[_,_,slV sk,slV si]),?_⟩;refine(zgg hg hb hsm (R:=λr=>r=(zbk v).1) rfl).go (vs:=[.agg #[.int .i64 v.kind,.string v.text,slV sk,slV si]]) hM L2.ag (qc hu qt) λw aG aC r ax P O=>?_;subst O;rw[qhq P,z7r E.1 h5 h6];refine⟨_,rfl,ax.keep.get h.size (by omega),?_⟩;refine fin [] (zs2 v) _ _ (by rw[row,if_neg h6,if_neg h5]) (by kernel_rfl) (λh' M' J=>?_) aG aC ax;show XC _ _ #[] _ _;apply W8;exact⟨rfl,M',bs,Grw.refl J.ag,by rw[AQ,zgf hS];exact af.call J⟩
end
end Go.X
end
section
namespace Go.X
open Go Go.Lib
section
variable {n i:Nat}
def lfN(L:List Int)(i:Nat):Int:=L.getD i 0
def z9h(L:List Int)(j:Nat):Bool:=decide (0<=lfN L j)&&decide (lfN L j<=j)&&(Bl j).all λi=>!(decide (lfN L j<=(i:Int))&&decide (lfN L i<lfN L j))
def zyh(L:List Int)(j:Nat):Bool:=(Bl j).all (z9h L)
def yl(t:List Bt×List Int):Bool:=decide (t.1.length=t.2.length)&&decide (t.1.length<=512)&&zyh t.2 t.2.length
def zdf(L:List Int)(n i:Nat):Int:=match (Bl n).find? λj=>decide (i<j)&&decide (lfN L j<=(i:Int))with
 |some j=>(j:Int)
 |none=>-1
def zc7(L:List Int):List Int:=(Bl L.length).map (zdf L L.length)
def Yt(L:List Int)(j:Nat):List Nat:=(Bl j).filter λi=>decide (zdf L j i<0)
theorem x7{L:List Int}{j:Nat}:z9h L j=Ta↔0<=lfN L j/\lfN L j<=j/\∀i,i<j->lfN L j<=(i:Int)->lfN L j<=lfN L i:=by unfold z9h;simp only[Ap,decide_eq_true_eq,Av,A1,DL,CJ,decide_eq_false_iff_not];constructor;rintro⟨⟨h1,e⟩,b⟩;exact⟨h1,e,λi hi c=>by rcases b i hi with h|h <;> omega⟩;rintro⟨h1,e,b⟩;refine⟨⟨h1,e⟩,λi hi=>?_⟩;by_cases c:lfN L j<=(i:Int);exact .inr (by have:=b i hi c;omega);exact .inl c
theorem Xa{L:List Int}{j:Nat}:zyh L j=Ta↔∀i,i<j->z9h L i=Ta:=by unfold zyh;simp only[Av,A1]
theorem z7s{L:List Int}{j:Nat}(h:zyh L j=Ta)(c:z9h L j=Ta):zyh L (j+1)=Ta:=by rw[Xa]at h ⊢;intro i hi;rcases A6 i j with b|b;exact h i b;rw[show i=j from by omega];exact c
theorem z0s{p:Nat->Bool}:∀{n j:Nat},(Bl n).find? p=Td j->j<n/\p j=Ta/\∀i,i<j->p i=Tc:=by
 intro n;induction n with
 |zero=>intro j h;simp at h
 |succ n c=>
  intro j h;rw[Do,List.find?_append]at h;cases e:(Bl n).find? p with
  |some k=>rw[e]at h;simp at h;subst h;obtain⟨h1,l,b⟩:=c e;exact⟨by omega,l,b⟩
  |none=>rw[e]at h;rw[List.find?_eq_none]at e;simp[List.find?]at h;split at h;rename_i f;simp at h;subst h;exact⟨by omega,f,λi hi=>by simpa using e i (A1.2 hi)⟩;simp at h
theorem js(L:List Int)(n i:Nat):(zdf L n i=-1/\∀j,i<j->j<n->(i:Int)<lfN L j)\/∃p:Nat,zdf L n i=(p:Int)/\i<p/\p<n/\lfN L p<=(i:Int)/\∀j,i<j->j<p->(i:Int)<lfN L j:=by
 unfold zdf;cases e:(Bl n).find? λj=>decide (i<j)&&decide (lfN L j<=(i:Int))with
 |none=>refine .inl ⟨rfl,λj h1 c=>?_⟩;rw[List.find?_eq_none]at e;have:=e j (A1.2 c);simp[h1]at this;omega
 |some p=>obtain⟨h1,c,f⟩:=z0s e;simp only[Ap,decide_eq_true_eq]at c;refine .inr ⟨p,rfl,c.1,h1,c.2,λj a b=>?_⟩;have:=f j b;simp[a]at this;omega
theorem zvs{L:List Int}{n i p:Nat}(h1:i<p)(k:p<n)(l:lfN L p<=(i:Int))(f:∀j,i<j->j<p->(i:Int)<lfN L j):zdf L n i=(p:Int):=by rcases js L n i with⟨_,e⟩|⟨q,e,a,b,c,d⟩;have:=e p h1 k;omega;rw[e];rcases Nat.lt_trichotomy p q with h|h|h;have:=d p h1 h;omega;rw[h];have:=f q a h;omega
theorem zs8{L:List Int}(h:∀j,i<j->j<n->(i:Int)<lfN L j):zdf L n i=-1:=by rcases js L n i with⟨e,_⟩|⟨q,e,a,b,c,d⟩;exact e;have:=h q a b;omega
theorem zs9(L:List Int)(n i:Nat)(hi:i<n):zdf L (n+1) i=if zdf L n i<0/\lfN L n<=(i:Int)then(n:Int)else zdf L n i:=by
 rcases js L n i with⟨e,h⟩|⟨p,e,a,b,c,d⟩;by_cases f:lfN L n<=(i:Int);rw[if_pos ⟨by omega,f⟩];exact zvs hi (by omega) f λj h1 l=>h j h1 l
 rw[if_neg (λq=>f q.2),e];refine zs8 λj h1 l=>?_;rcases A6 j n with k|k;exact h j h1 k;rw[show j=n from by omega];omega;rw[if_neg (λq=>by omega),e];exact zvs a (by omega) c d
theorem zta(L:List Int)(n:Nat):zdf L (n+1) n=-1:=zs8 λj h1 b=>by omega
theorem z7t{L:List Int}{j:Nat}(h:zyh L j=Ta):∀(k i:Nat),j-i<=k->i<j->∃r,r<j/\zdf L j r=-1/\i<=r/\lfN L r<=lfN L i
 |0,i,hk,hi=>by omega
 |k+1,i,hk,hi=>by rcases js L j i with⟨e,_⟩|⟨p,e,a,b,c,_⟩;exact⟨i,hi,e,Ab _,Em _⟩;obtain⟨r,f,l,n,m⟩:=z7t h k p (by omega) b;rw[Xa]at h;have:=(x7.1 (h p b)).2.2 i a c;exact⟨r,f,l,by omega,by omega⟩
theorem zpg{L:List Int}{j i:Nat}:i∈Yt L j↔i<j/\zdf L j i=-1:=by unfold Yt;rw[CM,A1,decide_eq_true_eq];constructor;rintro⟨a,b⟩;rcases js L j i with⟨e,_⟩|⟨p,e,_⟩;exact⟨a,e⟩;omega;rintro⟨a,b⟩;exact⟨a,by omega⟩
theorem z7u{L:List Int}{j:Nat}(h:zyh L j=Ta)(h0:0<=lfN L j)(h1:lfN L j<=j)(e:∀r∈Yt L j,lfN L j<=(r:Int)->lfN L j<=lfN L r):z9h L j=Ta:=by refine x7.2 ⟨h0,h1,λi hi k=>?_⟩;obtain⟨r,c,b,f,l⟩:=z7t h (j-i) i (Ab _) hi;have:=e r (zpg.2 ⟨c,b⟩) (by omega);omega
theorem z7v(L:List Int)(j:Nat):Yt L (j+1)=(Yt L j).filter (λi:Nat=>decide ((i:Int)<lfN L j))++[j]:=by unfold Yt;rw[Do,List.filter_append,List.filter_filter];congr 1;refine List.filter_congr λi hi=>?_;rw[A1]at hi;rw[zs9 L j i hi,AM,Ap,decide_eq_true_eq,decide_eq_true_eq,decide_eq_true_eq];by_cases c:zdf L j i<0;by_cases b:lfN L j<=(i:Int);rw[if_pos ⟨c,b⟩];omega;rw[if_neg (λq=>b q.2)];omega;rw[if_neg (λq=>c q.1)];omega;rw[Cr,if_pos (by rw[zta];decide)];rfl
theorem zvt(L:List Int)(j:Nat):(Yt L j).Pairwise (· < ·):=by unfold Yt;exact D8.sublist List.filter_sublist Dx
theorem zbu:∀{l:List Nat},l.Pairwise (· < ·)->∀{x:Int} {m:Nat},m<=l.length->(∀i (h:i<l.length),i<m->(l[i]:Int)<x)->(∀i (h:i<l.length),m<=i->x<=(l[i]:Int))->l.filter (λi:Nat=>decide ((i:Int)<x))=l.take m
 |[],_,x,m,_,_,_=>by simp
 |a::l,hp,x,m,hm,h1,h2=>by
  cases m with
  |zero=>rw[Dl,List.filter_eq_nil_iff];intro b c;obtain⟨i,hi,rfl⟩:=C9.1 c;have:=h2 i hi (AX _);simp;exact this
  |succ m=>rw[Cr,if_pos (by have:=h1 0 (by simp) (by omega);simpa using this),Dd];congr 1;exact zbu (Be.1 hp).2 (by simpa using hm) (λi h hi=>by have:=h1 (i+1) (by simpa using h) (by omega);simpa using this) (λi h hi=>by have:=h2 (i+1) (by simpa using h) (by omega);simpa using this)
theorem qde{L:List Int}(h:i<L.length):L[i]?=Td (lfN L i):=by unfold lfN;rw[A7,Al h];rfl
theorem zph{L:List Int}(h:i<L.length):(zc7 L)[i]?=Td (zdf L L.length i):=by unfold zc7;rw[Bn,List.getElem?_range h];rfl
theorem Za(L:List Int):(zc7 L).length=L.length:=by unfold zc7;rw[Ao,Dp]
end
end Go.X
end
section
namespace Go.X
open Go Go.X Go.Proofs Go.RowKit
section
variable {M:Fr} {a b:Ty} {h g:zb} {n q bo bt i:Nat} {ts:Sl} {ct:Array Value}
theorem qj6{x:El (.row a)×El (.row b)}{u:Value}(h:RdV M (.pair (.row a) (.row b)) x u):∃s1 s2:Sl,u=.agg #[slV s1,slV s2]/\Rd M (.row a) x.1 [slV s1]/\Rd M (.row b) x.2 [slV s2]:=by unfold RdV at h;simp only[zhn,if_true]at h;obtain⟨cs,rfl,c1,c2,rfl,h1,l⟩:=h;obtain⟨k,rfl,m⟩:=h1;obtain⟨e,rfl,c⟩:=l;obtain⟨s1,rfl,f⟩:=z3l (M:=M) (t:=a) (xs:=x.1) ((zfw rfl).2 ⟨k,rfl,m⟩);obtain⟨s2,rfl,i⟩:=z3l (M:=M) (t:=b) (xs:=x.2) ((zfw rfl).2 ⟨e,rfl,c⟩);exact⟨s1,s2,rfl,f,i⟩
theorem Y1{x:El (.row a)×El (.row b)}{s1 s2:Sl}(h1:Rd M (.row a) x.1 [slV s1])(c:Rd M (.row b) x.2 [slV s2]):RdV M (.pair (.row a) (.row b)) x (.agg #[slV s1,slV s2]):=by unfold RdV;simp only[zhn,if_true];exact⟨[_,_],rfl,[_],[_],rfl,h1,c⟩
theorem qgd(z:Value)(n:Nat):madeCells #[z] n=(BE n z).toArray:=by apply Array.ext;simp[madeCells];intro i h1 b;simp[madeCells,Nat.mod_one]
theorem mkZ{t e:TypeId}{z:Value}{bytes:Nat}(E:ElemT Tp t e z 1 bytes)(f:z.cells=#[z])(l:bytes<=1000)(p:n<=1000000){K:Value->zb->Prop}(k:K (slV ⟨Td ⟨h.size,0,Te⟩,n,n⟩) (h.push (.cells (BE n z).toArray e))):
  XRun Tp (Instr.makeSlice t (.int .i64 (n:Int)) (.int .i64 (n:Int))) h K:=by
 intro B d;obtain⟨i,hi,b,m,o⟩:=E.info;have q:(bytes:Int)*(n:Int)<=1000*1000000:=Int.mul_le_mul (by omega) (by omega) (by omega) (by omega);have c:=run_make (P:=Tp) (mk B d h) t e i z E.slice hi b .i64 .i64 (n:Int) (n:Int) (by omega) (Em _) (by rw[o];omega) (by omega);rw[Ai,m,Ci,f,qgd]at c;exact⟨_,_,_,c,k⟩
theorem CR.pop{els:List (List Value)}{sl:Sl}{b:Nat}{cs:Array Value}(H:CR g 1 els sl b cs)(c:q<=els.length):CR g 1 (els.take q) ⟨sl.a,q,sl.cap⟩ b cs:=by have k:=H.ln;have f:=H.ro.le;refine⟨⟨by show q<=sl.cap;omega,?_⟩,by rw[AK,CE c],λi e hi=>?_⟩;rcases H.ro.at_ with⟨h1,h⟩|h1;exact .inl ⟨by show q=0;omega,h⟩;exact .inr h1;rw[AJ]at hi;split at hi;exact H.el i e hi;cases hi
structure ParI (h:zb) (n bo:Nat) (T:List Nat) (outs:List Int) (ts:Sl) (bt:Nat) (ct:Array Value) (g:zb):Prop where
 k:Keep bo h g
 out:Blk g bo (outs.map (Bm .i64)).toArray
 ln:outs.length=n
 top:CR g 1 (T.map λi:Nat=>[Bm .i64 (i:Int)]) ts bt ct
 hb:bo<bt
theorem ParI.len{T:List Nat}{outs:List Int}(S:ParI h n bo T outs ts bt ct g):ts.len=T.length:=by rw[S.top.ln,Ao]
theorem ParI.cell{T:List Nat}{outs:List Int}(S:ParI h n bo T outs ts bt ct g)(hi:i<T.length):ts.a=Td ⟨bt,0,Te⟩/\zc g ⟨bt,0+i,Te⟩=Td (.int .i64 ((T[i]:Nat):Int)):=by
 have b:(T.map λi:Nat=>[Bm .i64 (i:Int)])≠[]:=λe=>by rw[List.map_eq_nil_iff]at e;rw[e]at hi;exact absurd hi (Dc _)
 obtain⟨c,B⟩:=S.top.blk b;obtain⟨_,f⟩:=S.top.el i [.int .i64 ((T[i]:Nat):Int)] (by rw[Bn,Al hi];rfl);refine⟨c,B.cell ?_⟩;have:=zsa f (q:=0) (by omega);rw[Ci,C7]at this;rw[AI,<-Cj,this];rfl
theorem ParI.set{T:List Nat}{outs:List Int}(S:ParI h n bo T outs ts bt ct g)(hi:i<n){x:Int}{K:zb->Prop}(f:∀g',ParI h n bo T (outs.set i x) ts bt ct g'->g'.size=g.size->K g'):
  XRunU Tp (Af 3 (.pointer (Td ((⟨bo,0,Te⟩:Addr).add (i*1)))) (.int .i64 x)) g K:=by
 have b:=S.ln;have m:=S.hb;rw[zi,AI,Ci];refine yf zsh (by kernel_rfl) S.out (by simp;omega) rfl λg' c o f'=>f g' ⟨⟨by have:=S.k.size;omega,λj l=>(f' j (by omega)).trans (S.k.get j l)⟩,?_,by rw[CY];exact b,S.top.frame λ_=>f' bt (by omega),m⟩ o;have e:(outs.map (Bm .i64)).toArray.setIfInBounds i (.int .i64 x)=((outs.set i x).map (Bm .i64)).toArray:=by rw[List.map_set];simp
 rw[e]at c;exact c
theorem qm3{s:Sl}{i:Int}(h1:i=(q:Int)):(⟨zfb s.a 1 (0:Int).toNat ((s.cap:Nat):Int).toNat,i.toNat-(0:Int).toNat,((s.cap:Nat):Int).toNat-(0:Int).toNat⟩:Sl)=⟨s.a,q,s.cap⟩:=by have:zfb s.a 1 (0:Int).toNat ((s.cap:Nat):Int).toNat=s.a:=z1u _ _ _;rw[this];congr 1;omega
set_option maxRecDepth 100000 in
set_option maxHeartbeats 2000000 in
theorem zgh{gl:Fr}{t:List Bt×List Int}{R:List Int×Bool->Prop}(hR:R (if yl t=Ta then(zc7 t.2,Ta)else([],Tc))):PC Tp gl 104 [Arg.mk (.pair (.row .str) (.row (.int .i64))) t] [.row (.int .i64),.bool] R:=by
 intro h M vs hM ag ha
 match vs,ha with
 |[u],⟨hu,_⟩=>
  obtain⟨s1,s2,rfl,r1,r2⟩:=qj6 (show RdV M (.pair (.row .str) (.row (.int .i64))) t u from hu);apply PX.of;obtain⟨l1,_,_⟩:=rowLen r1;obtain⟨l2,b2,_⟩:=rowLen r2;apply zj7 s1 s2;intro h1;have k1:Keep h.size h h1:=Keep.push _ _ (Ab _);have z1:h1.size=h.size+1:=Aj _;have P:Blk h1 h.size #[slV s1,slV s2]:=Blk.new _ _ _;clear_value h1;have bad:∀g:zb,yl t=Tc->Keep h.size h g->∃M' r,Later h M g M'/\Yv M' [.row (.int .i64),.bool] r (.tuple #[.slice Te 0 0,.bool Tc])/\R r:=λg e k=>⟨M,([],Tc),Later.same ag k,⟨[_,_],⟨_,_,rfl,(zfw rfl).2 zga,_,rfl,rdBool _⟩,rfl⟩,by rw[e]at hR;exact hR⟩;refine⟨s1,P.cellAdd (o:=0) (k:=0) rfl,s2,P.cellAdd (o:=0) (k:=1) rfl,s1,λ_=>P.cellAdd (o:=0) (k:=0) rfl,λc=>?_,λc=>?_⟩;refine bad _ ?_ k1;cases s:yl t with
  |false=>rfl
  |true=>
   unfold yl at s;simp only[Ap,decide_eq_true_eq]at s;have e1:((s1.len:Int) != (s2.len:Int))=Tc:=by simp;omega
   rw[e1]at c;have:=of_decide_eq_true c;omega
  have l:s1.len=s2.len:=by
   by_cases e:s1.len=s2.len;exact e;exfalso;have:((s1.len:Int) != (s2.len:Int))=Ta:=by simp;omega
   simp[this]at c
  have aC:s1.len<=512:=by
   have:((s1.len:Int) != (s2.len:Int))=Tc:=by simp;omega
   rw[this]at c;have:=of_decide_eq_false c;omega
  refine⟨s2,P.cellAdd (o:=0) (k:=1) rfl,?_⟩;refine mkZ (E:=(z0n:ElemT _ _ _ _ 1 8)) rfl (by omega) (by omega) ⟨⟨Td ⟨h1.size,0,Te⟩,s2.len,s2.len⟩,rfl,s2,?_,?_⟩;exact(P.keepN (n:=h1.size) (Keep.push _ _ (Ab _)) (by omega)).cellAdd (o:=0) (k:=1) rfl;obtain⟨L,B⟩:∃L,L=t.2:=⟨_,rfl⟩;have hn:L.length=s2.len:=by rw[B,l2]
  have nr:∀m,m<L.length->z9h L m=Tc->yl t=Tc:=λm hm e=>by
   cases s:yl t with
   |false=>rfl
   |true=>unfold yl at s;simp only[Ap,decide_eq_true_eq]at s;rw[B]at hm e;have:=Xa.1 s.2 m hm;rw[e]at this;cases this
  refine⟨λts j g=>∃(m:Nat) (outs:List Int) (bt:Nat) (ct:Array Value),j=(m:Int)/\m<=L.length/\zyh L m=Ta/\ParI h1 L.length h1.size (Yt L m) outs ts bt ct g/\∀i,i<m->outs[i]?=Td (zdf L m i),λ_ j _=>L.length-j.toNat,?_,?_⟩;refine⟨0,BE L.length 0,h1.size+1,#[],rfl,AX _,rfl,⟨Keep.push _ _ (Ab _),?_,CI,⟨⟨AX _,.inl ⟨rfl,rfl⟩⟩,rfl,λi e hi=>by simp[Yt]at hi⟩,by omega⟩,λi hi=>by omega⟩;rw[List.map_replicate,hn];exact Blk.new _ _ _;rintro ts j g ⟨m,outs,bt,ct,rfl,hm,N,S,hv⟩;refine⟨λc=>?_,λc=>?_⟩;have l:m<L.length:=by have:=of_decide_eq_true c;omega
  have kg:Keep h.size h g:=k1.trans S.k (by omega);have ah:AgM M g:=ag.keep kg;obtain⟨b,o,e1,x⟩:=zox ah r2 (k:=m) (by rw[<-B];exact l);have J:t.2[m]'(by rw[<-B];exact l)=lfN L m:=by subst B;unfold lfN;rw[A7,Al l];rfl
  rw[J]at x;refine⟨⟨b,o,Te⟩,⟨e1,by omega,by omega⟩,lfN L m,by rw[qd,Ai];exact x,λH=>?_,λH=>?_⟩;refine bad _ (nr m l ?_) kg;cases e:z9h L m with
  |false=>rfl
  |true=>
   obtain⟨a1,a2,_⟩:=x7.1 e;have Z:decide (lfN L m<0)=Tc:=by simp;omega
   rw[Z]at H;have:=of_decide_eq_true H;omega
  have a0:0<=lfN L m:=by by_cases e:lfN L m<0;rw[decide_eq_true e]at H;cases H;omega
  have a1:lfN L m<=m:=by rw[decide_eq_false (show¬lfN L m<0 by omega)]at H;have:=of_decide_eq_false H;omega
  generalize f:lfN L m=lf at *;have hT:∀k,(D:k<(Yt L m).length)->(Yt L m)[k]<m:=λk D=>(zpg.1 (AE D)).1;refine⟨λts g=>∃(q:Nat) (outs:List Int) (ct:Array Value),q<=(Yt L m).length/\ParI h1 L.length h1.size ((Yt L m).take q) outs ts bt ct g/\(∀i,i<m->outs[i]?=Td (if i∈(Yt L m).drop q then(m:Int)else zdf L m i))/\∀r∈(Yt L m).drop q,lf<=(r:Int)/\lf<=lfN L r,λts _=>ts.len,?_,?_⟩;exact⟨(Yt L m).length,outs,ct,Ab _,by rw[BG (Ab _)];exact S,λi hi=>by rw[Br (Ab _),if_neg (by simp)];exact hv i hi,λr s=>by rw[Br (Ab _)]at s;cases s⟩;rintro ts' g' ⟨q,I,O,hq,C,aa,hp⟩;have aE:ts'.len=q:=by rw[C.len,AK,CE hq]
  have U:Keep h.size h g':=k1.trans C.k (by omega);have az:=C.top.ro.le;have aA:m<=512:=by omega
  have aB:q<=512:=by
   have:(Yt L m).length<=m:=by unfold Yt;exact Ck (List.length_filter_le _ _) (by simp)
   omega
  obtain⟨k,D⟩:∃k,k=(Yt L m).getD (q-1) 0:=⟨_,rfl⟩;obtain⟨a,p1⟩:∃a:Addr,0<q->ts'.a=Td a/\zc g' (a.add ((q-1)*1))=Td (.int .i64 (k:Int)):=by by_cases h0:0<q;obtain⟨Z,e4⟩:=C.cell (i:=q-1) (by rw[AK];omega);refine⟨_,λ_=>⟨Z,?_⟩⟩;rw[zi,Ci,e4,List.getElem_take,D,A7,Al (by omega)];rfl;exact⟨⟨0,0,Te⟩,λh=>absurd h h0⟩
  have A:0<q->Aa .i64 (((ts'.len:Nat):Int)-1)=((q-1:Nat):Int):=λh0=>by rw[wrap64 (by omega) (by omega)];omega
  have ay:0<q->k<m/\k∈Yt L m/\(Yt L m).drop (q-1)=k::(Yt L m).drop q:=λh0=>by
   have e:(Yt L m).getD (q-1) 0=(Yt L m)[q-1]'(by omega):=by rw[A7,Al (by omega)];rfl
   rw[e]at D;refine⟨by rw[D];exact hT _ _,by rw[D];exact AE _,?_⟩;rw[Bw (by omega:q-1<(Yt L m).length),<-D,show q-1+1=q by omega]
  refine⟨a,λc=>?_,(k:Int),λc=>?_,λc=>?_,λc=>?_⟩;have h0:0<q:=by have:=of_decide_eq_true c;omega
  exact⟨(p1 h0).1,by rw[A h0];omega,by rw[A h0];omega⟩;have h0:0<q:=by have:=of_decide_eq_true c;omega
  rw[A h0,Ai];exact(p1 h0).2;have h0:0<q:=by by_cases e:0<q;exact e;rw[decide_eq_false (show¬((ts'.len:Nat):Int)>0 by omega)]at c;cases c
  rw[decide_eq_true (show((ts'.len:Nat):Int)>0 by omega)]at c;have af:lf<=(k:Int):=by have:=of_decide_eq_true c;omega
  obtain⟨ap,aF,ai⟩:=ay h0;have A:=A h0;obtain⟨b3,o3,Z,e4⟩:=zox (ag.keep U) r2 (k:=k) (by rw[<-B];omega);have ak:t.2[k]'(by rw[<-B];omega)=lfN L k:=by subst B;unfold lfN;rw[A7,Al (by omega)];rfl
  rw[ak]at e4;refine⟨a,⟨(p1 h0).1,by rw[A];omega,by rw[A];omega⟩,(k:Int),by rw[A,Ai];exact(p1 h0).2,s2,(P.keepN C.k (by omega)).cellAdd (o:=0) (k:=1) rfl,⟨b3,o3,Te⟩,⟨Z,by omega,by omega⟩,lfN L k,by rw[qd,Ai];exact e4,λh4=>?_,λh4=>?_⟩;refine bad _ (nr m l ?_) U;cases e:z9h L m with
  |false=>rfl
  |true=>have:=(x7.1 e).2.2 k ap (by rw[f];exact af);rw[f]at this;have:=of_decide_eq_true h4;omega
  have h5:lf<=lfN L k:=by have:=of_decide_eq_false h4;omega
  have am:q<=ts'.cap:=by omega
  have Y:(0:Int)<=0/\0<=Aa .i64 (((ts'.len:Nat):Int)-1)/\Aa .i64 (((ts'.len:Nat):Int)-1)<=((ts'.cap:Nat):Int)/\((ts'.cap:Nat):Int)<=((ts'.cap:Nat):Int):=by rw[A];omega
  have Q:∀y,ParI h1 L.length h1.size ((Yt L m).take q) (I.set k (m:Int)) ts' bt O y->(∃(q2:Nat) (outs:List Int) (ct:Array Value),q2<=(Yt L m).length/\ParI h1 L.length h1.size ((Yt L m).take q2) outs ⟨zfb ts'.a 1 (0:Int).toNat ((ts'.cap:Nat):Int).toNat,(Aa .i64 (((ts'.len:Nat):Int)-1)).toNat-(0:Int).toNat,((ts'.cap:Nat):Int).toNat-(0:Int).toNat⟩ bt ct y/\(∀i,i<m->outs[i]?=Td (if i∈(Yt L m).drop q2 then(m:Int)else zdf L m i))/\∀r∈(Yt L m).drop q2,lf<=(r:Int)/\lf<=lfN L r)/\(Aa .i64 (((ts'.len:Nat):Int)-1)).toNat-(0:Int).toNat<ts'.len:=λy w=>by rw[qm3 A];refine⟨⟨q-1,_,O,by omega,⟨w.k,w.out,w.ln,?_,w.hb⟩,λi hi=>?_,λr s=>?_⟩,by rw[A];omega⟩;have:=w.top.pop (q:=q-1) (by rw[Ao,AK];omega);rw[<-List.map_take,Ec,CE (by omega)]at this;exact this;rw[List.getElem?_set,ai];by_cases e:k=i;subst e;rw[if_pos rfl,if_pos (by rw[C.ln];omega),if_pos (by simp)];rw[if_neg e,aa i hi];congr 1;by_cases x:i∈(Yt L m).drop q;rw[if_pos x,if_pos (Ae _ x)];rw[if_neg x,if_neg (λh=>by rcases Ah.1 h with h|h;exact e h.symm;exact x h)];rw[ai]at s;rcases Ah.1 s with rfl|s;exact⟨af,h5⟩;exact hp r s
  refine⟨⟨h1.size,0,Te⟩,⟨rfl,by omega,by show(k:Int)<(s2.len:Int);omega⟩,⟨.inl rfl,Y,?_⟩,?_⟩;rw[Ai];exact C.set (by omega) λy w _=>Q y w;rw[Ai];exact C.set (by omega) λy w _=>⟨.inl rfl,Y,Q y w⟩;have ab:0<q->(k:Int)<lf:=λh0=>by rw[decide_eq_true (show((ts'.len:Nat):Int)>0 by omega)]at c;have:=of_decide_eq_false c;omega
  have G:=zvt L m;have z:(Yt L m).filter (λi:Nat=>decide ((i:Int)<lfN L m))=(Yt L m).take q:=by
   rw[f];refine zbu G hq (λi hi ax=>?_) λi hi ax=>?_;have h0:0<q:=by omega
   have h1:=ab h0;have e:k=(Yt L m)[q-1]'(by omega):=by rw[D,A7,Al (by omega)];rfl
   rcases A6 i (q-1)with h2|h2;have:=List.pairwise_iff_getElem.1 G i (q-1) hi (by omega) h2;omega;have:i=q-1:=by omega
   subst this;omega;exact(hp _ (by rw[List.mem_drop_iff_getElem];exact⟨i-q,by omega,by congr 1;omega⟩)).1
  have ae:z9h L m=Ta:=z7u N (by rw[f];exact a0) (by rw[f];exact a1) λr s au=>by
   rw[f]at au ⊢;have ar:r∉(Yt L m).take q:=λh=>by rw[<-z,CM,decide_eq_true_eq,f]at h;omega
   rw[<-Cb q (Yt L m)]at s;rcases Ay.1 s with h|h;exact absurd h ar;exact(hp r h).2
  refine⟨⟨h1.size,0,Te⟩,⟨rfl,by omega,by show(m:Int)<(s2.len:Int);omega⟩,?_⟩;rw[Ai];refine C.set (by omega) λy w z2=>?_;intro V;have k3:Keep y.size y V:=Keep.push _ _ (Ab _);have B3:Blk V y.size [Bm .i64 (m:Int)].toArray:=Blk.new _ _ _;have z3:V.size=y.size+1:=Aj _;clear_value V;have aH:=w.k.size;have aI:=w.out.lt;have aG:=w.hb;have T3:CR V 1 (((Yt L m).take q).map λi:Nat=>[Bm .i64 (i:Int)]) ts' bt O:=w.top.frame λJ=>k3.get bt (by rcases w.top.ro.at_ with⟨e5,e6⟩|⟨_,e6,_⟩;rcases J with J|J;exfalso;have:=w.top.ln;rw[e5]at this;exact J (Bi.1 this.symm);exact absurd e6 J;exact e6.lt);refine CR.app (E:=(z0n:ElemT _ _ _ _ 1 8)) (by omega) T3 B3 rfl (by intro u hu;simp at hu;rw[hu];rfl) (by rw[Ao,AK];omega) λs' g4 b' c4 T4 z4 w4 l4 f4=>⟨s',rfl,⟨m+1,_,b',c4,by rw[wrap64 (by omega) (by omega)];omega,l,z7s N ae,⟨⟨by omega,λj hj=>?_⟩,?_,w.ln,?_,?_⟩,λi hi=>?_⟩,?_⟩;rw[f4 j (by omega) (by rcases w4 with⟨e,_⟩|e <;> omega),k3.get j (by omega)];exact w.k.get j hj;refine w.out.keep ?_;rw[f4 h1.size (by omega) (by rcases w4 with⟨e,_⟩|e <;> omega),k3.get _ (by omega)];rw[z7v,z,Bf];exact T4;rcases w4 with⟨e,_⟩|e <;> omega;rw[List.getElem?_set];by_cases e:m=i;subst e;rw[if_pos rfl,if_pos (by rw[C.ln];exact l),zta];rw[if_neg e,aa i (by omega),zs9 L m i (by omega),f];congr 1;have F:i∈Yt L m↔zdf L m i<0:=by rw[zpg];rcases js L m i with⟨e7,_⟩|⟨p,e7,_⟩;exact⟨λ_=>by omega,λ_=>⟨by omega,e7⟩⟩;exact⟨λh=>by omega,λh=>by omega⟩
  by_cases x:i∈(Yt L m).drop q;rw[if_pos x,if_pos ⟨F.1 (List.mem_of_mem_drop x),(hp i x).1⟩];rw[if_neg x,if_neg];rintro⟨h6,h7⟩;have h8:=F.2 h6;rw[<-Cb q (Yt L m)]at h8;rcases Ay.1 h8 with h|h;rw[<-z,CM,decide_eq_true_eq,f]at h;omega;exact x h;show L.length-(Aa .i64 ((m:Int)+1)).toNat<L.length-((m:Nat):Int).toNat;rw[ju l (by omega)];simp only[Ai];omega;have an:m=L.length:=by have:=of_decide_eq_false c;omega
  subst an;have s:yl t=Ta:=by unfold yl;simp only[Ap,decide_eq_true_eq];exact⟨⟨by omega,by omega⟩,by rw[<-B];exact N⟩
  rw[s]at hR;have kg:Keep h.size h g:=k1.trans S.k (by omega);have ah:AgM M g:=ag.keep kg;have ho:outs=zc7 t.2:=by rw[<-B];apply Bu;intro i;by_cases hi:i<L.length;rw[hv i hi,zph hi];rw[BL (by rw[S.ln];omega),BL (by rw[Za];omega)]
  refine⟨MxL M g [h1.size],(outs,Ta),MxL.later ag kg (by intro b hb;simp at hb;omega),⟨[_,_],⟨_,_,rfl,(zfw rfl).2 ⟨_,rfl,Td ⟨h1.size,0,Te⟩,s2.len,?_,⟨?_,?_⟩,.inr ⟨h1.size,0,_,rfl,MxL.at (by simp) S.out,λi hi=>?_⟩⟩,_,rfl,rdBool _⟩,rfl⟩,by rw[ho];exact hR⟩;show Dv _ _ _=Dv _ _ _;rw[S.ln,hn];show outs.length<=_;rw[S.ln];omega;show outs.length<=_;rw[S.ln];omega;show cut (outs.map (Bm .i64)).toArray (0+i*1) 1=[Bm .i64 outs[i]];refine zan rfl λq hq=>?_;have aj:q=0:=by omega
  subst aj;have hi:i<outs.length:=hi;simp[hi]
end
end Go.X
end
section
namespace Go.X
open Go Go.ChangeMaps
section
variable {P:Program} {kt:TypeId}
def ztb(l:List (Int×Value))(k:Int):Option Value:=match l with
 |[]=>Te
 |p::l=>if p.1=k then Td p.2 else ztb l k
def qbu(l:List (Int×Value))(k:Int)(v:Value):List (Int×Value):=match l with
 |[]=>[(k,v)]
 |p::l=>if p.1=k then(k,v)::l else p::qbu l k v
def z7w(l:List (Int×Value)):List (Value×Value):=l.map λp=>(Bm .i64 p.1,p.2)
structure MapTI (P:Program) (t kt et:TypeId):Prop where
 map:P.underlying t=Td (.map kt et)
 key:P.underlying kt=Td (.int .i64)
theorem zka(k:Int):∀(f:List MapEntry) (l:List (Int×Value)) (i:Nat),f.map (λe=>(e.key,e.val))=l.map (λp=>(Bm .i64 p.1,p.2)) ->
  (ztb l k=Te/\CL (.int .i64) (.int .i64 k) f i=Td Te)\/(∃j v e,ztb l k=Td v/\f[j]?=Td e/\e.key=.int .i64 k/\e.val=v/\CL (.int .i64) (.int .i64 k) f i=Td (Td (i+j,v)) /\ ∀w,(f.modify j λe=>{ e with key:=.int .i64 k,val:=w }).map (λe=>(e.key,e.val))=(qbu l k w).map λp=>(Bm .i64 p.1,p.2))
 |[],l,i,h=>by
  have:l=[]:=by cases l <;> simp_all
  subst this;exact .inl ⟨rfl,rfl⟩
 |e::f,l,i,h=>by
  cases l with
  |nil=>simp at h
  |cons p l=>
   simp only[Ar,BV,Bh]at h;obtain⟨⟨h1,m⟩,q⟩:=h;by_cases c:p.1=k;refine .inr ⟨0,p.2,e,by simp[ztb,c],rfl,by rw[h1,c],m,?_,λw=>?_⟩;have b:(k==p.1)=Ta:=by simpa using c.symm
   simp[CL,D6,h1,m,b];simp[qbu,c,q];have b:(k==p.1)=Tc:=by simpa using λe=>c e.symm
   rcases zka k f l (i+1) q with⟨n,o⟩|⟨j,v,e',n,o,t,u,s,r⟩;refine .inl ⟨by simp[ztb,c,n],?_⟩;simp[CL,D6,h1,b,o];refine .inr ⟨j+1,v,e',by simp[ztb,c,n],by simpa using o,t,u,?_,λw=>?_⟩;simp[CL,D6,h1,b,s];omega;simp[qbu,c,h1,m,r w]
theorem ztc(c:P.underlying kt=Td (.int .i64))(b:Bool)(k:Int)(h:zb):QExec P (Instr.checkKey b 10000 kt (.int .i64 k)) h ():=by intro B d;have e:=QExec.underlying (h:=h) c B d;unfold Instr.checkKey;rw[Sem.run_bind,e];rfl
theorem zkb(f:P.underlying kt=Td (.int .i64))(k:Int)(b:List MapEntry)(r:Option (Nat×Value))(h:zb)(e:CL (.int .i64) (.int .i64 k) b 0=Td r):
  QExec P (Instr.findKey kt (.int .i64 k) b) h r:=by
 intro B d;have c:=QExec.underlying (h:=h) f B d;unfold Instr.findKey;rw[Sem.run_bind,c];simp only[Result.andThen_ok,e];rfl
theorem zvu{l:List (Int×Value)}{k:Int}{v:Value}(g:ztb l k=Te):qbu l k v=l++[(k,v)]:=by
 induction l with
 |nil=>rfl
 |cons p l c=>simp only[ztb]at g;split at g;cases g;rename_i b;simp[qbu,b,c g]
theorem qbv{t kt et:TypeId}(T:MapTI P t kt et){h:zb}{m:Nat}{l:List (Int×Value)}(H:MapW h m (z7w l))(k:Int)(v:Value){K:zb->Prop}
  (D:∀h':zb,MapW h' m (z7w (qbu l k v))->h'.size=h.size->(∀i,i≠m->h'[i]?=h[i]?)->K h'):XRunU P (Cv t (.map (Td m)) (.int .i64 k) v) h K:=by
 have q:=H.lt;obtain⟨f,c,h1,z,A,G⟩:=H;intro B d;have L:=QExec.underlying (h:=h) T.map B d;have F:=Qm (P:=P) h1 B d;have E:=ztc T.key Tc k h B d;have b:∀o:Obj,(setObj m o).run P (mk B d h)=.ok () (mk B d (h.setIfInBounds m o)):=by intro o;have:(mk B d h).heap[m]?=Td (.map f c):=h1;simp[setObj,Sem.run,this];rfl
 unfold Cv;rcases zka k f.toList l 0 z with⟨J,w⟩|⟨j,v0,e,J,w,N,Z,Y,O⟩;refine⟨d,h.setIfInBounds m (.map (f.push { key:=.int .i64 k,val:=v,born:=c }) (c+1)),?_,D _ ⟨f.push { key:=.int .i64 k,val:=v,born:=c },c+1,by simp[q],?_,?_,?_⟩ (by simp) (λi hi=>by rw[AB (Ne.symm hi)])⟩;rw[Sem.run_bind,L];simp only[Result.andThen_ok,Sem.run_bind,F,E];rw[zkb T.key k f.toList Te h w B d];simp only[Result.andThen_ok];exact b _;rw[zvu J];unfold z7w at z ⊢;simp[z];intro e u;simp at u;rcases u with u|rfl;have:=A e (by simpa using u);omega;simp;simp only[Array.toList_push,Bf,Ar,Cp];rw[CV];refine⟨G,by simp,λx Q y V e=>?_⟩;simp at V;obtain⟨e',p,rfl⟩:=AL.1 Q;have:=A e' p;omega;have I:j<f.size:=by have:=(AY.1 w).1;simpa using this
 have n:((f.modify j λe=>{ e with key:=.int .i64 k,val:=v }).toList.map (·.born))=f.toList.map (·.born):=by apply Bu;intro i;simp only[Array.toList_modify,Bn,BJ];by_cases r:j=i;subst r;cases f.toList[j]? <;> simp;cases f.toList[i]? <;> simp[r]
 refine⟨d,_,?_,D (h.setIfInBounds m (.map (f.modify j λe=>{ e with key:=.int .i64 k,val:=v }) c)) ⟨f.modify j λe=>{ e with key:=.int .i64 k,val:=v },c,by simp[q],?_,?_,?_⟩ (by simp) (λi hi=>by rw[AB (Ne.symm hi)])⟩;rw[Sem.run_bind,L];simp only[Result.andThen_ok,Sem.run_bind,F,E];rw[zkb T.key k f.toList _ h Y B d];simp only[Result.andThen_ok,AI];have s:((f[j]?).map (·.key)).getD (.int .i64 k)=.int .i64 k:=by
  have:f[j]?=Td e:=by simpa using w
  rw[this];exact N
 rw[s];have M:Dk (.int .i64 k) (.int .i64 k)=pure (.int .i64 k):=by unfold Dk;rw[if_pos (by show((IntKind.i64==IntKind.i64)&&(k==k))=Ta;simp)]
 rw[M];exact b _;have:=O v;unfold z7w;simpa using this;intro e' p;have:e'.born∈((f.modify j λe=>{ e with key:=.int .i64 k,val:=v }).toList.map (·.born)):=AL.2 ⟨e',p,rfl⟩;rw[n]at this;obtain⟨U,C,S⟩:=AL.1 this;rw[<-S];exact A U C;rw[n];exact G
end
end Go.X
end
section
namespace Go.X
open Go Go.Lib
section
variable {i n:Nat}
def qbw(L:List Int):List Nat:=(Bl L.length).filter λi=>(Bl L.length).all λj=>decide (j<=i)||decide (lfN L j≠lfN L i)
theorem qbx{L:List Int}:i∈qbw L↔i<L.length/\∀j,i<j->j<L.length->lfN L j≠lfN L i:=by unfold qbw;rw[CM,A1,Av];refine and_congr_right λ_=>⟨λh j h1 e=>?_,λh j b=>?_⟩;have:=h j (A1.2 e);simp only[BO,decide_eq_true_eq]at this;rcases this with h|h;omega;exact h;simp only[BO,decide_eq_true_eq];by_cases c:j<=i;exact .inl c;exact .inr (h j (by omega) (A1.1 b))
theorem zkc(L:List Int):(qbw L).Pairwise (· < ·):=by unfold qbw;exact D8.sublist List.filter_sublist Dx
def z9i(L:List Int)(m:Nat):List Nat->List Nat
 |[]=>[m]
 |p::P=>if lfN L p=lfN L m then m::P else p::z9i L m P
def zgi(L:List Int):Nat->List Nat
 |0=>[]
 |m+1=>z9i L m (zgi L m)
def ztd(L:List Int)(i:Nat):Int×Value:=(lfN L i,.int .i64 (i:Int))
theorem zte(L:List Int)(m:Nat):∀P:List Nat,qbu (P.map (ztd L)) (lfN L m) (.int .i64 (m:Int))=(z9i L m P).map (ztd L)
 |[]=>rfl
 |p::P=>by rw[Ar,qbu,z9i];by_cases h:lfN L p=lfN L m;rw[if_pos h,if_pos (show(ztd L p).1=lfN L m from h),Ar];rfl;rw[if_neg h,if_neg (show¬(ztd L p).1=lfN L m from h),Ar,zte L m P]
theorem zpi{L:List Int}{m:Nat}:∀{P:List Nat},(P.map (lfN L)).Nodup->∀i,i∈z9i L m P↔i=m\/(i∈P/\lfN L i≠lfN L m)
 |[],_,i=>by simp[z9i]
 |p::P,hn,i=>by rw[Ar,Ba]at hn;rw[z9i];by_cases h:lfN L p=lfN L m;rw[if_pos h,Ah,Ah];refine or_congr_right ⟨λhi=>⟨.inr hi,λe=>hn.1 ?_⟩,λhi=>?_⟩;rw[h,<-e];exact List.mem_map_of_mem hi;rcases hi.1 with rfl|b;exact absurd h hi.2;exact b;rw[if_neg h,Ah,Ah,zpi hn.2 i];constructor;rintro(rfl|rfl|b);exact .inr ⟨.inl rfl,h⟩;exact .inl rfl;exact .inr ⟨.inr b.1,b.2⟩;rintro(rfl|⟨rfl|b,c⟩);exact .inr (.inl rfl);exact .inl rfl;exact .inr (.inr ⟨b,c⟩)
theorem zmv{L:List Int}{m:Nat}:∀{P:List Nat},(P.map (lfN L)).Nodup->((z9i L m P).map (lfN L)).Nodup
 |[],_=>by simp[z9i]
 |p::P,hn=>by have c:=hn;rw[Ar,Ba]at hn;rw[z9i];by_cases h:lfN L p=lfN L m;rw[if_pos h,Ar,Ba,<-h];exact hn;rw[if_neg h,Ar,Ba];refine⟨λf=>?_,zmv hn.2⟩;obtain⟨q,b,e⟩:=AL.1 f;rcases(zpi hn.2 q).1 b with rfl|⟨i,_⟩;exact h e.symm;exact hn.1 (e ▸ List.mem_map_of_mem i)
theorem zc8(L:List Int):∀m,((zgi L m).map (lfN L)).Nodup/\∀i,i∈zgi L m↔i<m/\∀j,i<j->j<m->lfN L j≠lfN L i
 |0=>⟨Dm,λi=>by simp[zgi]⟩
 |m+1=>by
  obtain⟨h1,l⟩:=zc8 L m;refine⟨zmv h1,λi=>?_⟩;rw[zgi,zpi h1,l];constructor;rintro(rfl|⟨⟨a,b⟩,c⟩);exact⟨by omega,λj _ _=>by omega⟩;refine⟨by omega,λj h k=>?_⟩;rcases A6 j m with f|f;exact b j h f;rw[show j=m from by omega];exact λe=>c e.symm
  rintro⟨a,b⟩;rcases A6 i m with f|f;exact .inr ⟨⟨f,λj h k=>b j h (by omega)⟩,λe=>b m f (by omega) e.symm⟩;exact .inl (by omega)
theorem zgw{α β:Type}{f:α->β}{l:List α}(h:(l.map f).Nodup):l.Nodup:=by
 induction l with
 |nil=>exact Dm
 |cons x l b=>rw[Ar,Ba]at h;exact Ba.2 ⟨λc=>h.1 (List.mem_map_of_mem c),b h.2⟩
theorem z0t(L:List Int):(zgi L L.length).Perm (qbw L):=by obtain⟨h1,b⟩:=zc8 L L.length;refine(List.perm_ext_iff_of_nodup (zgw h1) ((zkc L).imp λh=>Nat.ne_of_lt h)).2 λi=>?_;rw[b,qbx]
def zl(L:List Int)(n:Nat):List Nat:=(Bl L.length).filter λi=>decide (zdf L L.length i=(n:Int))
theorem Ju{L:List Int}:i∈zl L n↔i<L.length/\zdf L L.length i=(n:Int):=by unfold zl;rw[CM,A1,decide_eq_true_eq]
theorem zau{L:List Int}(h:zyh L L.length=Ta)(hi:i<L.length)(f:zdf L L.length i=(n:Int)):i<n/\n<L.length/\lfN L n<=(i:Int)/\lfN L n<=lfN L i/\∀j,i<j->j<n->(i:Int)<lfN L j:=by
 rcases js L L.length i with⟨e,_⟩|⟨p,e,a,b,c,d⟩;omega;have:p=n:=by omega
 subst this;rw[Xa]at h;exact⟨a,b,c,(x7.1 (h p b)).2.2 i a c,d⟩
end
section
variable {n:Nat}
def OkX(n:Nat)(X:List (Bt×Int)):Prop:=∀j (h:j<X.length),(n:Int)<=X[j].2/\X[j].2<=((n+j:Nat):Int)/\∀i (hi:i<X.length),i<j->X[j].2<=((n+i:Nat):Int)->X[j].2<=X[i].2
theorem OkX.nil(n:Nat):OkX n []:=λj h=>absurd h (Dc j)
theorem OkX.app{X Y:List (Bt×Int)}(h:OkX n X)(k:OkX (n+X.length) Y):OkX n (X++Y):=by intro j l;rw[Ag]at l;by_cases h1:j<X.length;rw[BS h1];obtain⟨a,b,c⟩:=h j h1;refine⟨a,b,λi hi e f=>?_⟩;rw[BS (by omega)];exact c i (by omega) e f;rw[Ce (by omega)];obtain⟨a,b,c⟩:=k (j-X.length) (by omega);refine⟨by omega,by omega,λi hi e f=>?_⟩;by_cases m:i<X.length;omega;rw[Ce (by omega)];exact c (i-X.length) (by omega) (by omega) (by omega)
theorem OkX.root{X:List (Bt×Int)}(h:OkX n X)(s:Bt):OkX n (X++[(s,(n:Int))]):=by
 intro j k;rw[Ag,CK]at k;by_cases h1:j<X.length;rw[BS h1];obtain⟨a,b,c⟩:=h j h1;refine⟨a,b,λi hi e f=>?_⟩;rw[BS (by omega)];exact c i (by omega) e f;have:j=X.length:=by omega
 subst this;rw[Ce (Ab _)];refine⟨by simp,by simp;omega,λi hi e f=>?_⟩;rw[BS (by omega)];have:=(h i (by omega)).1;simp;exact this
mutual
theorem zpj:∀(v:Tr) (n:Nat),OkX n (Qc v n)
 |.mk k s ks xs,n=>by rw[Qc];refine OkX.root ?_ _;split;exact z7y xs ks n;split;exact z7x xs n;exact OkX.nil n
theorem z7x:∀(l:List Tr) (n:Nat),OkX n (zbt l n)
 |[],n=>by rw[zbt];exact OkX.nil n
 |x::l,n=>by rw[zbt];exact(zpj x n).app (z7x l _)
theorem z7y:∀(l:List Tr) (ks:List Bt) (n:Nat),OkX n (Js l ks n)
 |[],_,n=>by rw[Js];exact OkX.nil n
 |x::l,ks,n=>by rw[Js];have h1:=(zpj x n).root (zyb ks.head!);have b:=h1.app (Y:=Js l ks.tail (n+(Qc x n).length+1)) (by rw[Ag,CK,<-CP];exact z7y l _ _);rw[AF]at b;exact b
end
def unz(X:List (Bt×Int)):List Bt×List Int:=(X.map (·.1),X.map (·.2))
theorem z7z{w:Tr}(h:jg w<=512):yl (unz (Qc w 0))=Ta:=by
 have l:=xy w 0;unfold yl unz;simp only[Ap,decide_eq_true_eq,Ao];refine⟨⟨by simp,by omega⟩,Xa.2 λj f=>x7.2 ?_⟩;have e:∀i (hi:i<(Qc w 0).length),lfN ((Qc w 0).map (·.2)) i=(Qc w 0)[i].2:=λi hi=>by unfold lfN;rw[A7,Bn,Al hi];rfl
 obtain⟨a,b,c⟩:=zpj w 0 j f;rw[e j f];refine⟨by omega,by omega,λi hi k=>?_⟩;rw[e i (by omega)];exact c i (by omega) hi (by omega)
def BlkS(L:List Int):Nat->List Nat->Nat->Prop
 |a,[],r=>a=r
 |a,e::es,r=>a<e/\lfN L (e-1)=(a:Int)/\(∀i,a<=i->i<e->(a:Int)<=lfN L i)/\BlkS L e es r
theorem BlkS.le{L:List Int}:∀{c:List Nat} {a r:Nat},BlkS L a c r->a<=r/\(∀e∈c,a<e/\e<=r)/\c.Pairwise (· < ·)/\∀i,a<=i->i<r->(a:Int)<=lfN L i
 |[],a,r,h=>by have h:a=r:=h;exact⟨Nat.le_of_eq h,by simp,Ed,λi _ _=>by omega⟩
 |e::c,a,r,⟨h1,h2,h3,h4⟩=>by obtain⟨l,f,m,n⟩:=h4.le;refine⟨by omega,λx b=>?_,Be.2 ⟨λx b=>(f x b).1,m⟩,λi hi k=>?_⟩;rcases Ah.1 b with rfl|b;exact⟨h1,l⟩;have:=f x b;omega;by_cases h:i<e;exact h3 i hi h;have:=n i (by omega) k;omega
theorem BlkS.par{L:List Int}{r:Nat}(k:r<L.length):∀{f:List Nat} {a:Nat},BlkS L a f r->lfN L r<=(a:Int)->∀i,a<=i->i<r->(zdf L L.length i=(r:Int)↔i+1∈f)
 |[],a,h,_,i,h1,h2=>by have h:a=r:=h;omega
 |e::f,a,⟨h1,h2,h3,h4⟩,hl,i,hi,hir=>by
  obtain⟨z,n,x,o⟩:=h4.le;by_cases c:i<e;by_cases c2:i+1=e;refine⟨λ_=>by rw[c2];exact Am,λ_=>?_⟩;refine zvs hir k (by omega) λj l b=>?_;have:=o j (by omega) b;omega;refine⟨λy=>?_,λm=>?_⟩;exfalso;rcases js L L.length i with⟨q,_⟩|⟨p,q,u,w,t,s⟩;omega;have:¬(e-1<p):=λh=>by have:=s (e-1) (by omega) h;omega
  omega;rcases Ah.1 m with h|h;exact absurd h c2;have:=(n _ h).1;omega;rw[BlkS.par k h4 (by omega) i (by omega) hir,Ah];exact⟨λh=>.inr h,λh=>by rcases h with h|h;omega;exact h⟩
theorem zmw:∀{a b:List Nat},a.Pairwise (· < ·)->b.Pairwise (· < ·)->(∀i,i∈a↔i∈b)->a=b
 |[],[],_,_,_=>rfl
 |[],y::b,_,_,h=>absurd ((h y).2 Am) (by simp)
 |x::a,[],_,_,h=>absurd ((h x).1 Am) (by simp)
 |x::a,y::b,ha,hb,h=>by
  rw[Be]at ha hb;have f:x=y:=by have h1:=(h x).1 Am;have k:=(h y).2 Am;rcases Ah.1 h1 with e|e;exact e;rcases Ah.1 k with c|c;exact c.symm;have:=ha.1 y c;have:=hb.1 x e;omega
  subst f;rw[zmw ha.2 hb.2 λi=>?_];have h1:=h i;rw[Ah,Ah]at h1;constructor;intro hi;have:=ha.1 i hi;rcases h1.1 (.inr hi)with e|e;omega;exact e;intro hi;have:=hb.1 i hi;rcases h1.2 (.inr hi)with e|e;omega;exact e
theorem zgx(L:List Int)(n:Nat):(zl L n).Pairwise (· < ·):=D8.sublist List.filter_sublist Dx
theorem BlkS.kids{L:List Int}{r a:Nat}{l:List Nat}(c:r<L.length)(H:BlkS L a l r)(u:lfN L r=(a:Int)):zl L r=l.map λe=>e-1:=by
 obtain⟨C,f,o,A⟩:=H.le;refine zmw (zgx L r) (List.pairwise_map.2 ?_) λi=>?_;exact D8.imp_of_mem (λ {x y} m s h=>by have:=(f x m).1;omega) o;rw[Ju,AL];constructor;rintro⟨h1,n⟩;have b:i<r/\a<=i:=by
  rcases js L L.length i with⟨q,_⟩|⟨p,q,w,z,t,B⟩;omega;have:p=r:=by omega
  subst this;omega
 exact⟨i+1,(H.par c (by omega) i b.2 b.1).1 n,by omega⟩;rintro⟨e,k,rfl⟩;have:=f e k;exact⟨by omega,(H.par c (by omega) (e-1) (by omega) (by omega)).2 (by rw[show e-1+1=e by omega];exact k)⟩
end
end Go.X
end
section
namespace Go.X
open Go Go.X Go.Proofs Go.RowKit
section
variable {g:zb} {b:Nat} {v:Tr}
theorem qm4:qb Tp 71=Ta:=by kernel_rfl
theorem qm5:qi Tp 71=2:=by kernel_rfl
theorem zpk{x y:Value}(B:Blk g b #[x,y]){s1 s2:Sl}{K:zb->Prop}(h:∀g',(∀j,j≠b->g'[j]?=g[j]?)->g'.size=g.size->Blk g' b #[slV s1,slV s2]->K g'):
  XRunU Tp (Af 71 (.pointer (Td ⟨b,0,Te⟩)) (.agg #[slV s1,slV s2])) g K:=by
 refine zei (vs:=[slV s1,slV s2]) qm4 B rfl qm5 (Ab _) (λu c=>?_) λg' f i e=>h g' e i f;simp at c;rcases c with rfl|rfl <;> rfl
theorem Later.stay{h g g':zb}{M M':Fr}(L:Later h M g M')(l:h.size<=b)(i:M' b=Te)(f:∀j,j≠b->g'[j]?=g[j]?)(z:g'.size=g.size):Later h M g' M':= ⟨⟨by have:=L.keep.size;omega,λj k=>by rw[f j (by omega)];exact L.keep.get j k⟩,L.le,L.old,λc cs e=>by rw[f c (λh=>by subst h;rw[i]at e;cases e)];exact L.ag c cs e⟩
def ze0(v:Tr):(List Bt×List Int)×Int:=if qa v=Ta then(if 512<jg (ze v)then(([],[]),6)else(unz (Qc (ze v) 0),0))else(([],[]),1)
theorem zmx(h:qa v=Ta):Zo v=ze v:=by unfold Zo;rw[if_pos (Jr h)]
set_option maxRecDepth 100000 in
set_option maxHeartbeats 1000000 in
theorem zvv{gl:Fr}(hg:GL gl)(hb:Brn gl)(V:Sm v){R:(List Bt×List Int)×Int->Prop}(A:R (ze0 v)):PC Tp gl 40 [Arg.mk .tree v] [.pair (.row .str) (.row (.int .i64)),.int .i64] R:=by
 intro h M vs S ag ha
 match vs,ha with
 |[u],⟨P,_⟩=>
  have P:RdV M .tree v u:=P;have E:=P;obtain⟨sk,si,rfl,rk,ri⟩:=yz P;apply PX.of;apply zs3 v.kind v.text sk si;intro h1;have k1:Keep h.size h h1:=Keep.push _ _ (Ab _);have z1:h1.size=h.size+1:=Aj _;have B1:Blk h1 h.size #[.int .i64 v.kind,.string v.text,slV sk,slV si]:=Blk.new _ _ _;clear_value h1;intro p;have k2:Keep h1.size h1 p:=Keep.push _ _ (Ab _);have z2:p.size=h1.size+1:=Aj _;have R2:Blk p h1.size #[.slice Te 0 0,.slice Te 0 0]:=Blk.new _ _ _;clear_value p;have B2:=B1.ofKeep k2;have Z:Keep h.size h p:=k1.trans k2 (by omega);have L2:Later h M p M:=Later.same ag Z;have done:∀(g:zb) (M':Fr) (t:List Bt×List Int) (e:Int) (s1 s2:Sl),Later p M g M'->Rd M' (.row .str) t.1 [slV s1]->Rd M' (.row (.int .i64)) t.2 [slV s2]->R (t,e) ->
    XRunU Tp (Af 71 (.pointer (Td ⟨h1.size,0,Te⟩)) (.agg #[slV s1,slV s2])) g λg'=>∃O Q:Sl,zd g' ⟨h1.size,0,Te⟩ 0 [slV O,slV Q]/\∃M2 q,Later h M g' M2/\Yv M2 [.pair (.row .str) (.row (.int .i64)),.int .i64] q (.tuple #[.agg #[slV O,slV Q],.int .i64 e])/\R q:=by
   intro g M' t e s1 s2 L O Q F;have nR:M' h1.size=Te:=by rw[L.old _ (by omega)];exact ag.none (by omega)
   refine zpk (R2.keep (L.keep.get _ (by omega))) λg' f z B=>⟨s1,s2,B.ld (cs:=[slV s1,slV s2]),M',(t,e),Later.stay (L2.trans L) (by omega) nR f z,⟨[_,_],⟨_,_,rfl,Y1 O Q,_,rfl,Jf _ _⟩,rfl⟩,F⟩
  refine⟨v.kind,v.text,sk,si,B2.ld (cs:=[_,_,slV sk,slV si]),?_⟩;refine(zet hg V (R:=λr=>r=qa v) rfl).go (vs:=[.agg #[.int .i64 v.kind,.string v.text,slV sk,slV si]]) S L2.ag (qc E qt) λw y M8 r N s F=>?_;subst F;refine⟨_,zhq s,λx=>?_,λx=>?_⟩
  ·have x:qa v=Tc:=by simpa using x
   unfold ze0 at A;rw[if_neg (by rw[x];simp)]at A;exact done y M8 ([],[]) 1 ⟨Te,0,0⟩ ⟨Te,0,0⟩ N zga zga A
  have x:qa v=Ta:=by simpa using x
  unfold ze0 at A;rw[if_pos x]at A;have z8:=N.keep.size;intro m;have U:Keep y.size y m:=Keep.push _ _ (Ab _);have ah:m.size=y.size+1:=Aj _;have aa:Blk m y.size #[.slice Te 0 0,.slice Te 0 0]:=Blk.new _ _ _;clear_value m;have i:Later p M m M8:=N.trans (Later.same N.ag U);refine⟨v.kind,v.text,sk,si,(B2.keep (i.keep.get _ (by omega))).ld (cs:=[_,_,slV sk,slV si]),?_⟩;refine(z7o hg V (R:=λr=>r=Zo v) rfl).go (vs:=[.agg #[.int .i64 v.kind,.string v.text,slV sk,slV si]]) (S.trans i.le) i.ag (qc (E.mono i.le) qt) λw H D r l s F=>?_;subst F;have I:=Xe.1 s;obtain⟨xk,xi,rfl,y1,y2⟩:=yz I;refine⟨_,_,xk,xi,rfl,?_⟩;have hs:=zmx x;have ab:qa (Zo v)=Ta:=by rw[zs1];exact x
  obtain⟨q1,q2,q3,q4⟩:=zc4 ab;have af:=l.keep.size;have nB:D y.size=Te:=by rw[l.old _ (by omega)];exact N.ag.none (by omega)
  have HB:Tb y.size H D y.size [] []:=⟨⟨Te,0,0⟩,⟨Te,0,0⟩,[],[],rfl,aa.keep (l.keep.get _ (by omega)),ORow.nil,ORow.nil,λc b=>(by cases b),λb=>(by cases b),λb=>(by cases b),nB,Ab _⟩;refine XC.mono (zs7 hg hb (tsz (Zo v)) (Zo v) (by omega) (Ab _) q3 (zs0 V) H D y.size [] [] _ l.ag (S.trans (i.le.trans l.le)) HB (by omega) (AX _) I) ?_;rintro w h25 ⟨rfl,C,bs,T,s1,s2,b1,b2,rfl,B⟩;rw[A5,AR,hs]at B;have ai:=T.grow;have J:Later p M h25 C:=by have hk:=i.keep;refine⟨⟨by omega,λj hj=>?_⟩,i.le.trans (l.le.trans T.le),λc b=>?_,T.ag⟩;rw[T.fr j (by omega) (by omega) (by simp),l.keep.get j (by omega)];exact hk.get j hj;rw[T.old c (by omega),l.old c (by omega)];exact i.old c b
  have n:=B.r1.len;rw[Ao]at n;have ae:=xy (ze v) 0;refine⟨rfl,s1,by rw[add0];exact B.box.cellAdd (o:=0) (k:=0) rfl,λb=>?_,λb=>?_⟩
  ·have b:=of_decide_eq_true b;have:512<jg (ze v):=by unfold zge at n;rw[AK]at n;omega
   rw[if_pos this]at A;exact done h25 C ([],[]) 6 ⟨Te,0,0⟩ ⟨Te,0,0⟩ J zga zga A
  ·have b:=of_decide_eq_false b;have:¬512<jg (ze v):=by unfold zge at n;rw[AK]at n;omega
   rw[if_neg this]at A;have G:=zgf (X:=Qc (ze v) 0) (by omega);rw[G]at B;refine⟨s1,s2,by rw[add0];exact B.box.ld (cs:=[slV s1,slV s2]),?_⟩;have own:∀c∈b1++b2,p.size<=c:=λc b=>by rcases Ay.1 b with h|h;have:=(B.r1.own c h).1;omega;have:=(B.r2.own c h).1;omega
   have Y:Later p M h25 (MxL C h25 (b1++b2)):=Later.own J own;exact done h25 _ (unz (Qc (ze v) 0)) 0 s1 s2 Y (B.r1.rd T.ag (λc b=>As _ b) (by rw[Ao];omega)) (B.r2.rd T.ag (λc b=>AC _ b) (by rw[Ao];omega)) A
end
section
variable {x y:Bool} {a b:Int} {gl:Fr} {R:Bool -> Prop}
theorem ze1(a b:Bt):(a.toList==b.toList)=decide (a=b):=by rw[zea,zea,AM,beq_iff_eq,decide_eq_true_eq,zwy]
theorem qme:(bif x then Ta else y)=Ta↔x=Ta\/y=Ta:=by cases x <;> simp
theorem qj7:(bif x then Ta else y)=Tc↔x=Tc/\y=Tc:=by cases x <;> simp
theorem qm6:(bif x then y else Tc)=Ta↔x=Ta/\y=Ta:=by cases x <;> simp
theorem ltT(h:decide (a<b)=Ta):a<b:=of_decide_eq_true h
theorem ltF(h:decide (a<b)=Tc):¬a<b:=of_decide_eq_false h
theorem qm7{L:List Int}{m:Nat}(h:m<L.length):(0:Int)<=(m:Int)/\L[((m:Nat):Int).toNat]?=Td (lfN L m):=⟨by omega,by rw[Ai];exact qde h⟩
theorem zkd{t:List Bt×List Int}(h:yl t=Ta):t.1.length=t.2.length/\t.2.length<=512/\zyh t.2 t.2.length=Ta:=by unfold yl at h;simp only[Ap,decide_eq_true_eq]at h;exact⟨h.1.1,by omega,h.2⟩
theorem z0u{t:List Bt×List Int}(b:R (yl t)):PC Tp gl 46 [Arg.mk (.pair (.row .str) (.row (.int .i64))) t] [.bool] R:=by
 apply zpd;refine zgh (t:=t) (R:=λr=>R r.2) ?_;cases h:yl t with
 |false=>rw[h]at b;exact b
 |true=>rw[h]at b;exact b
theorem z0v{t:List Bt×List Int}{R:List Int->Prop}(b:R (if yl t=Ta then zc7 t.2 else [])):PC Tp gl 51 [Arg.mk (.pair (.row .str) (.row (.int .i64))) t] [.row (.int .i64)] R:=by
 apply zj8;refine zgh (t:=t) (R:=λr=>((!r.2)=Ta->R ([]:List Int))/\((!r.2)=Tc->R r.1)) ?_;cases h:yl t with
 |false=>rw[h]at b;exact⟨λ_=>b,λh=>(by cases h)⟩
 |true=>rw[h]at b;exact⟨λh=>(by cases h),λ_=>b⟩
def zgy(P:List Int)(m:Nat):List Nat:=(Bl m).filter λi=>decide (lfN P i<0)
theorem zyi{P:List Int}(l:P.length<=1000000){R:List Int->Prop}(f:R ((zgy P P.length).map λi:Nat=>(i:Int))):
  ∃(I:(List Int)->Int->Prop) (μ:(List Int)->Int->Nat),I ([]:List Int) 0/\∀out:List Int,∀x:Int,I out x->(((decide ((x:Int)<((Ct P:Nat):Int)))=Ta->∃y:Int,(0<=(x:Int)/\P[(x:Int).toNat]?=Td y)/\((decide ((y:Int)<0))=Ta->((Ct out+Ct ([x]:List Int))*8<=140737488355328/\(I (out++([x]:List Int)) (Aa .i64 (x+1))/\μ (out++([x]:List Int)) (Aa .i64 (x+1))<μ out x)))/\((decide ((y:Int)<0))=Tc->(I out (Aa .i64 (x+1))/\μ out (Aa .i64 (x+1))<μ out x)))/\((decide ((x:Int)<((Ct P:Nat):Int)))=Tc->R out)):=by
 refine⟨λo i=>∃m:Nat,i=m/\m<=P.length/\o=(zgy P m).map λi:Nat=>(i:Int),λ_ i=>P.length-i.toNat,⟨0,rfl,AX _,rfl⟩,?_⟩;rintro o i ⟨m,rfl,n,rfl⟩;refine⟨λe=>?_,λe=>?_⟩;have b:m<P.length:=by have:=ltT e;omega
 rw[ju b (by omega)];have k:(zgy P m).length<=m:=by unfold zgy;exact Ck (List.length_filter_le _ _) (by simp)
 refine⟨lfN P m,qm7 b,λh=>⟨by rw[Ao,CK];omega,⟨m+1,rfl,b,?_⟩,by simp only[Ai];omega⟩,λh=>⟨⟨m+1,rfl,b,?_⟩,by simp only[Ai];omega⟩⟩;unfold zgy;rw[Do,List.filter_append,Cr,if_pos h,Bf];rfl;unfold zgy;rw[Do,List.filter_append,Cr,if_neg (by rw[h];simp),List.filter_nil,AQ];have c:m=P.length:=by have:=ltF e;omega
 rw[c];exact f
theorem z8a{t:List Bt×List Int}(h:yl t=Ta):zgy (zc7 t.2) (zc7 t.2).length=Yt t.2 t.2.length:=by unfold zgy Yt;rw[Za];refine List.filter_congr λi hi=>?_;have:=qde (L:=zc7 t.2) (i:=i) (by rw[Za];exact A1.1 hi);rw[zph (A1.1 hi)]at this;rw[<-Az this]
theorem qby{t:List Bt×List Int}{R:List Int->Prop}(b:R (if yl t=Ta then(Yt t.2 t.2.length).map (λi:Nat=>(i:Int))else [])):PC Tp gl 49 [Arg.mk (.pair (.row .str) (.row (.int .i64))) t] [.row (.int .i64)] R:=by
 apply zpe;refine z0v (t:=t) ?_;cases h:yl t with
 |false=>rw[h]at b;exact zyi (P:=[]) (by simp) b
 |true=>obtain⟨_,c,_⟩:=zkd h;rw[h]at b;refine zyi (P:=zc7 t.2) (by rw[Za];omega) ?_;rw[z8a h];exact b
theorem ztf{α:Type}{a b:List α}(e:a.length=b.length){k:Nat}(f:a.length<=k)(h:∀i (h1:i<a.length) (c:i<b.length),i<k->a[i]=b[i]):a=b:=List.ext_getElem e λi h1 c=>h i h1 c (by omega)
theorem z8b{a b:List Int}(s:a.length<=1000000)(n:∀r,(r=Ta↔a=b)->R r):PC Tp gl 48 [Arg.mk (.row (.int .i64)) a,Arg.mk (.row (.int .i64)) b] [.bool] R:=by
 apply zez;refine⟨λl=>n _ ⟨λh=>(by cases h),λh=>by subst h;simp at l⟩,λl=>?_⟩;have l:(a.length:Int)=b.length:=by simpa using l
 have f:a.length=b.length:=by omega
 refine⟨λi=>∃k:Nat,i=k/\k<=a.length/\∀i (h1:i<a.length) (o:i<b.length),i<k->a[i]=b[i],λi=>a.length-i.toNat,⟨0,rfl,AX _,λi _ _ h=>by omega⟩,?_⟩;rintro i ⟨k,rfl,q,p⟩;refine⟨λc=>?_,λc=>?_⟩;have c:k<a.length:=by have:=ltT c;omega
 rw[ju c (by omega)];refine⟨a[k],⟨by omega,by rw[Ai,Al c]⟩,b[k],⟨by omega,by rw[Ai,Al (by omega)]⟩,λm=>n _ ⟨λh=>(by cases h),λh=>?_⟩,λm=>⟨⟨k+1,rfl,c,λi h1 o t=>?_⟩,by simp only[Ai];omega⟩⟩;subst h;simp at m;by_cases e:i=k;subst e;simpa using m;exact p i h1 o (by omega);have c:k=a.length:=by have:=ltF c;omega
 exact n _ ⟨λ_=>ztf f (Nat.le_of_eq c.symm) p,λ_=>rfl⟩
theorem z8c{a b:List Bt×List Int}(h1:a.1.length<=1000000)(l:a.2.length<=1000000)(n:∀r,(r=Ta↔a=b)->R r):PC Tp gl 42 [Arg.mk (.pair (.row .str) (.row (.int .i64))) a,Arg.mk (.pair (.row .str) (.row (.int .i64))) b] [.bool] R:=by
 apply zey;refine⟨λo=>n _ ⟨λh=>(by cases h),λh=>by subst h;rcases qme.1 o with h|h <;> simp at h⟩,λo=>?_⟩;obtain⟨c1,c2⟩:=qj7.1 o;have c1:(a.1.length:Int)=b.1.length:=by simpa using c1
 have c2:(a.2.length:Int)=b.2.length:=by simpa using c2
 have t:a.1.length=b.1.length:=by omega
 have p:a.2.length=b.2.length:=by omega
 refine⟨λi=>∃k:Nat,i=k/\k<=a.1.length/\∀i (h1:i<a.1.length) (l:i<b.1.length),i<k->a.1[i]=b.1[i],λi=>a.1.length-i.toNat,⟨0,rfl,AX _,λi _ _ h=>by omega⟩,?_⟩;rintro i ⟨k,rfl,s,m⟩;refine⟨λc=>?_,λc=>?_⟩;have c:k<a.1.length:=by have:=ltT c;omega
 rw[ju c (by omega)];refine⟨a.1[k],⟨by omega,by rw[Ai,Al c]⟩,b.1[k],⟨by omega,by rw[Ai,Al (by omega)]⟩,λf=>n _ ⟨λh=>(by cases h),λh=>?_⟩,λf=>⟨⟨k+1,rfl,c,λi h1 l u=>?_⟩,by simp only[Ai];omega⟩⟩;subst h;simp at f;by_cases e:i=k;subst e;rw[ze1]at f;simpa using f;exact m i h1 l (by omega);have c:k=a.1.length:=by have:=ltF c;omega
 have w:a.1=b.1:=ztf t (Nat.le_of_eq c.symm) m;refine⟨λi=>∃k:Nat,i=k/\k<=a.2.length/\∀i (h1:i<a.2.length) (l:i<b.2.length),i<k->a.2[i]=b.2[i],λi=>a.2.length-i.toNat,⟨0,rfl,AX _,λi _ _ h=>by omega⟩,?_⟩;rintro i ⟨k,rfl,s,m⟩;refine⟨λc=>?_,λc=>?_⟩;have c:k<a.2.length:=by have:=ltT c;omega
 rw[ju c (by omega)];refine⟨a.2[k],⟨by omega,by rw[Ai,Al c]⟩,b.2[k],⟨by omega,by rw[Ai,Al (by omega)]⟩,λf=>n _ ⟨λh=>(by cases h),λh=>?_⟩,λf=>⟨⟨k+1,rfl,c,λi h1 l u=>?_⟩,by simp only[Ai];omega⟩⟩;subst h;simp at f;by_cases e:i=k;subst e;simpa using f;exact m i h1 l (by omega);have c:k=a.2.length:=by have:=ltF c;omega
 have q:a.2=b.2:=ztf p (Nat.le_of_eq c.symm) m;exact n _ ⟨λ_=>Prod.ext w q,λ_=>rfl⟩
end
end Go.X
end
section
namespace Go.X
open Go Go.Lib
section
variable {Ls:List Bt} {b:Nat} {w x:Tr} {K:List Nat} {s:Bt}
def z0w(v:Tr):Bt:=if qa v=Ta then bl (jv Tc 0 v 0)else⟨#[]⟩
def noT:Tr:=.mk 0 ⟨#[]⟩ [] []
def Zg(Ls:List Bt)(i:Nat):Bt:=Ls.getD i ⟨#[]⟩
def ya(s:Bt):Tr×Bool:=((yu (lb s)).1,decide ((yu (lb s)).2.2=0)&&(decide ((yu (lb s)).1.items.length=0)&&(decide ((yu (lb s)).1.kind<5)&&decide (z0w (yu (lb s)).1=s))))
def rdM(Ls:List Bt)(L:List Int)(rd:Nat->Tr×Bool)(k:Nat):Bt×Tr×Bool:=
 match zl L k with
 |[j]=>if(lb (Zg Ls k)).head?=Td 107 then((ya (bl (lb (Zg Ls k)).tail)).1.text,(rd j).1,(ya (bl (lb (Zg Ls k)).tail)).2&&((rd j).2&&decide ((ya (bl (lb (Zg Ls k)).tail)).1.kind=4)))else(⟨#[]⟩,noT,Tc)
 |_=>(⟨#[]⟩,noT,Tc)
def rdN(Ls:List Bt)(L:List Int):Nat->Nat->Tr×Bool
 |0,_=>(noT,Tc)
 |f+1,n=>
  if Zg Ls n=bl [91]then(if(zl L n).all (λk=>(rdN Ls L f k).2)=Ta then(.mk 5 ⟨#[]⟩ [] ((zl L n).map λk=>(rdN Ls L f k).1),Ta)else(noT,Tc))
  else if Zg Ls n=bl [123]then(if(zl L n).all (λk=>(rdM Ls L (rdN Ls L f) k).2.2)=Ta then(.mk 6 ⟨#[]⟩ ((zl L n).map λk=>(rdM Ls L (rdN Ls L f) k).1) ((zl L n).map λk=>(rdM Ls L (rdN Ls L f) k).2.1),Ta)else(noT,Tc))
  else((ya (Zg Ls n)).1,(ya (Zg Ls n)).2&&decide (zl L n=[]))
def rfK(Ls:List Bt)(L:List Int)(rd:Nat->Tr×Bool)(i:Nat):Bt×Tr×Bool:=
 if(lb (Zg Ls i)).head?=Td 107/\(yu (lb (Zg Ls i)).tail).2.2=0/\(yu (lb (Zg Ls i)).tail).1.kind=4/\lfN L i<(i:Int)/\lfN L (i-1)=lfN L i then((yu (lb (Zg Ls i)).tail).1.text,rd (i-1))else(⟨#[]⟩,noT,Tc)
def rfN(Ls:List Bt)(L:List Int):Nat->Nat->Tr×Bool
 |0,_=>(noT,Tc)
 |f+1,n=>
  if Zg Ls n=bl [91]then(if(zl L n).all (λk=>(rfN Ls L f k).2)=Ta then(.mk 5 ⟨#[]⟩ [] ((zl L n).map λk=>(rfN Ls L f k).1),Ta)else(noT,Tc))
  else if Zg Ls n=bl [123]then(if(zl L n).all (λk=>(rfK Ls L (rfN Ls L f) k).2.2)=Ta then(.mk 6 ⟨#[]⟩ ((zl L n).map λk=>(rfK Ls L (rfN Ls L f) k).1) ((zl L n).map λk=>(rfK Ls L (rfN Ls L f) k).2.1),Ta)else(noT,Tc))
  else((ya (Zg Ls n)).1,(ya (Zg Ls n)).2&&decide (lfN L n=(n:Int)))
structure SegT (Ls:List Bt) (L:List Int) (b:Nat) (X:List (Bt×Int)):Prop where
 le:b+X.length<=L.length
 at_:∀i (h:i<X.length),Zg Ls (b+i)=X[i].1/\lfN L (b+i)=X[i].2
theorem SegT.left{L:List Int}{X Y:List (Bt×Int)}(S:SegT Ls L b (X++Y)):SegT Ls L b X:=by have:=S.le;rw[Ag]at this;refine⟨by omega,λi h=>?_⟩;have:=S.at_ i (by rw[Ag];omega);rwa[BS h]at this
theorem SegT.right{L:List Int}{X Y:List (Bt×Int)}(S:SegT Ls L b (X++Y)):SegT Ls L (b+X.length) Y:=by have:=S.le;rw[Ag]at this;refine⟨by omega,λi h=>?_⟩;have:=S.at_ (X.length+i) (by rw[Ag];omega);rw[Ce (by omega)]at this;simpa[CP]using this
theorem qge{X:List (Bt×Int)}:SegT (unz X).1 (unz X).2 0 X:=by refine⟨by simp[unz],λi h=>?_⟩;unfold Zg lfN unz;rw[AI,A7,A7,Bn,Bn,Al h];exact⟨rfl,rfl⟩
theorem Xb(w:Tr):0<jg w:=by rw[zvr];omega
theorem zbd{L:List Int}(S:SegT Ls L b (Qc w b)):b+jg w<=L.length/\Zg Ls (b+jg w-1)=zs2 w/\lfN L (b+jg w-1)=(b:Int)/\∀i,b<=i->i<b+jg w->(b:Int)<=lfN L i:=by
 have l:=xy w b;have o:=Xb w;have m:=S.le;have c:∀(h:jg w-1<(Qc w b).length),(Qc w b)[jg w-1]=(zs2 w,(b:Int)):=λh=>by
  have e:=zo9 w b;have k:((if w.kind=6 then Js w.items w.keys b else if w.kind=5 then zbt w.items b else [])).length=jg w-1:=by have:=congrArg Ct e;rw[Ag,CK,l]at this;omega
  have:(Qc w b)[jg w-1]?=Td (zs2 w,(b:Int)):=by rw[e,BF (by omega),k,D3];rfl
  rw[Al h]at this;exact Az this
 obtain⟨f,a2⟩:=S.at_ (jg w-1) (by omega);rw[c (by omega),show b+(jg w-1)=b+jg w-1 by omega]at f a2;refine⟨by omega,f,a2,λi h1 n=>?_⟩;obtain⟨_,c2⟩:=S.at_ (i-b) (by omega);rw[show b+(i-b)=i by omega]at c2;rw[c2];exact(zpj w b (i-b) (by omega)).1
def z0x(d:Nat):List Tr->Nat->List Nat
 |[],_=>[]
 |x::l,n=>(n+jg x+d)::z0x d l (n+jg x+d)
theorem zyj{Ls:List Bt}{L:List Int}:∀(l:List Tr) (b:Nat),SegT Ls L b (zbt l b)->BlkS L b (z0x 0 l b) (b+zaq 0 l)
 |[],b,_=>by rw[z0x,zaq];exact rfl
 |x::l,b,S=>by rw[zbt]at S;obtain⟨n,h,e,f⟩:=zbd S.left;have k:=Xb x;have c:=S.right;rw[xy]at c;rw[z0x,zaq];refine⟨by omega,e,λi h1 m=>f i h1 (by omega),?_⟩;have:=zyj l (b+jg x) c;rw[show b+(jg x+0+zaq 0 l)=b+jg x+zaq 0 l by omega];exact this
theorem z8d{L:List Int}{l:List Tr}{ks:List Bt}(S:SegT Ls L b (Js (x::l) ks b)):
  SegT Ls L b (Qc x b)/\Zg Ls (b+jg x)=zyb ks.head!/\lfN L (b+jg x)=(b:Int)/\b+jg x<L.length/\SegT Ls L (b+jg x+1) (Js l ks.tail (b+jg x+1)):=by
 rw[Js]at S;have c:=S.right;rw[xy]at c;have h0:=c.at_ 0 (by simp);have h1:=c.le;rw[Aq]at h1;have e:=SegT.right (X:=[(zyb ks.head!,(b:Int))]) c;exact⟨S.left,h0.1,h0.2,by omega,e⟩
theorem zyk{Ls:List Bt}{L:List Int}:∀(l:List Tr) (ks:List Bt) (b:Nat),SegT Ls L b (Js l ks b)->BlkS L b (z0x 1 l b) (b+zaq 1 l)
 |[],_,b,_=>by rw[z0x,zaq];exact rfl
 |x::l,ks,b,S=>by obtain⟨e,n,k2,m,h⟩:=z8d S;obtain⟨q,k,o,f⟩:=zbd e;rw[z0x,zaq];refine⟨by omega,k2,λi h1 p=>?_,?_⟩;by_cases c:i<b+jg x;exact f i h1 c;rw[show i=b+jg x by omega,k2];exact Em _;have:=zyk l ks.tail (b+jg x+1) h;rw[show b+(jg x+1+zaq 1 l)=b+jg x+1+zaq 1 l by omega];exact this
theorem qgf{L:List Int}(S:SegT Ls L b (Qc x b))(h1:b+jg x<L.length)(e:lfN L (b+jg x)=(b:Int)):zl L (b+jg x)=[b+jg x-1]:=by obtain⟨m,k,f,h⟩:=zbd S;have l:=Xb x;have B:BlkS L b [b+jg x] (b+jg x):=⟨by omega,f,λi a c=>h i a c,rfl⟩;rw[B.kids h1 e];rfl
theorem ztg(b:qa w=Ta)(c:w.kind<5)(hi:w.items=[])(f:(jv Tc 0 w 0).length<=65536):ya (bl (jv Tc 0 w 0))=(w,Ta):=by obtain⟨n,e⟩:=zo7 (ln:=Tc) (N:=0) b f;unfold ya z0w;rw[yg,e];dsimp only;rw[if_pos b,hi];simp[c]
theorem zyl(i:qa w=Ta){c:UInt8}(f:c=91\/c=123):jv Tc 0 w 0≠[c]:=λe=>by
 obtain⟨n,h⟩:=zo7 (ln:=Tc) (N:=0) i (by rw[e];simp);rw[e]at h;have h:=congrArg (·.2.2) h;have k:decide ((yu [91]).2.2=0)=Tc:=by kernel_rfl
 have b:decide ((yu [123]).2.2=0)=Tc:=by kernel_rfl
 rcases f with rfl|rfl;exact of_decide_eq_false k h;exact of_decide_eq_false b h
theorem zke(h:okV w=Ta)(hi:w.items=[]):qa w=Ta:=by unfold qa Zf;rw[y0,yh,zji,hi];simp only[w9,Xj,zeh,Dt];exact h
theorem z8e{rd:Nat->Tr×Bool}{xs:List Tr}(h:K.map rd=xs.map λx=>(x,Ta)):K.all (λk=>(rd k).2)=Ta/\K.map (λk=>(rd k).1)=xs:=by
 have c:K.all (λk=>(rd k).2)=(K.map rd).all (·.2):=by rw[Eh];rfl
 have b:K.map (λk=>(rd k).1)=(K.map rd).map (·.1):=by rw[A8];rfl
 rw[c,b,h,Eh,A8];exact⟨Av.2 λ_ _=>rfl,by rw[show((·.1) ∘ λx:Tr=>(x,Ta))=id from rfl,Eu]⟩
theorem z8f{rd:Nat->Bt×Tr×Bool}{b:List (Bt×Tr)}(h:K.map rd=b.map λp=>(p.1,p.2,Ta)):K.all (λk=>(rd k).2.2)=Ta/\K.map (λk=>(rd k).1)=b.map (·.1)/\K.map (λk=>(rd k).2.1)=b.map (·.2):=by
 have e:K.all (λk=>(rd k).2.2)=(K.map rd).all (·.2.2):=by rw[Eh];rfl
 have c:K.map (λk=>(rd k).1)=(K.map rd).map (·.1):=by rw[A8];rfl
 have f:K.map (λk=>(rd k).2.1)=(K.map rd).map (·.2.1):=by rw[A8];rfl
 rw[e,c,f,h,Eh,A8,A8];exact⟨Av.2 λ_ _=>rfl,rfl,rfl⟩
theorem zpl{Ls:List Bt}{L:List Int}{rd:Nat->Tr×Bool}{e:Nat}:∀(l:List Tr) (b:Nat),SegT Ls L b (zbt l b)->b+zaq 0 l<=e->(∀x∈l,∀c,SegT Ls L c (Qc x c)->c+jg x<=e->rd (c+jg x-1)=(x,Ta)) ->
  ((z0x 0 l b).map λe=>e-1).map rd=l.map λx=>(x,Ta)
 |[],_,_,_,_=>rfl
 |x::l,b,S,he,H=>by rw[zbt]at S;rw[zaq]at he;have f:=S.right;rw[xy]at f;rw[z0x,Ar,Ar,Ar,C7,H x Am b S.left (by omega),zpl l _ f (by omega) λy h=>H y (Ae _ h)]
theorem zpm{Ls:List Bt}{L:List Int}{rd:Nat->Bt×Tr×Bool}{e:Nat}:∀(l:List Tr) (ks:List Bt) (b:Nat),ks.length=l.length->SegT Ls L b (Js l ks b)->b+zaq 1 l<=e -> (∀p∈ks.zip l,∀c,SegT Ls L c (Qc p.2 c)->Zg Ls (c+jg p.2)=zyb p.1->lfN L (c+jg p.2)=(c:Int)->c+jg p.2<L.length->c+jg p.2<e->rd (c+jg p.2)=(p.1,p.2,Ta)) ->
  ((z0x 1 l b).map λe=>e-1).map rd=(ks.zip l).map λp=>(p.1,p.2,Ta)
 |[],_,_,h,_,_,_=>by rw[List.zip_nil_right];rfl
 |x::l,[],_,h,_,_,_=>by simp at h
 |x::l,k::ks,b,h,S,he,H=>by obtain⟨f,n,k2,i,o⟩:=z8d S;rw[zaq]at he;rw[z0x,Ar,Ar,B0,Ar,Nat.add_sub_cancel,H (k,x) Am b f n k2 i (by show b+jg x<e;omega),zpm l ks _ (by simpa using h) o (by omega) λy m=>H y (Ae _ m)]
theorem qdf(h:lb s=[]):s=⟨#[]⟩:=by rw[<-Yw s,h]
theorem zth{s k:Bt}(f:s=zyb k)(i:Z4 (lb k)=Ta)(l:s.size<=65536):(lb s).head?=Td 107/\ya (bl (lb s).tail)=(.mk 4 k [] [],Ta)/\(yu (lb s).tail).2.2=0/\(yu (lb s).tail).1=.mk 4 k [] []:=by
 subst f;have e:lb (zyb k)=107::jv Tc 0 (.mk 4 k [] []) 0:=by unfold zyb;rw[yg,Yy];rfl
 have c:qa (.mk 4 k [] [])=Ta:=zke (by unfold okV zn;simpa[Tr.kind,Tr.text,Tr.keys,Tr.items]using i) rfl;have b:(jv Tc 0 (.mk 4 k [] []) 0).length<=65536:=by have:=zi6 (zyb k);rw[e,Aq]at this;omega
 rw[e];obtain⟨n,h⟩:=zo7 (ln:=Tc) (N:=0) c b;refine⟨rfl,ztg c (show(4:Int)<5 by decide) rfl b,?_,?_⟩;rw[List.tail_cons,h];rw[List.tail_cons,h]
theorem qdg{Ls:List Bt}{L:List Int}(M:∀i,i<L.length->(Zg Ls i).size<=65536):∀(m:Nat) (w:Tr) (b:Nat),tsz w<=m->Q8 okV w=Ta->SegT Ls L b (Qc w b)->∀f,b+jg w<=f ->
  rdN Ls L f (b+jg w-1)=(w,Ta)/\rfN Ls L f (b+jg w-1)=(w,Ta)
 |0,w,b,h,_,_,_,_=>by rw[yh]at h;omega
 |m+1,w,b,hm,ok,S,f,hf=>by
  obtain⟨g1,z,N,g4⟩:=zbd S;have C:=Xb w;obtain⟨f,rfl⟩:∃f',f=f'+1:=⟨f-1,by omega⟩;have H:b+jg w-1<L.length:=by omega
  have o:=zeq ok;have D:=zvr w;have E:=M _ H;have O:∀x∈w.items,∀c,SegT Ls L c (Qc x c)->c+jg x<=f->rdN Ls L f (c+jg x-1)=(x,Ta)/\rfN Ls L f (c+jg x-1)=(x,Ta):=λx A c r n=>qdg M m x c (by have:=yd A;omega) (Jo ok A) r f n;have l:w.kind<5->w.items=[]->rdN Ls L (f+1) (b+jg w-1)=(w,Ta)/\rfN Ls L (f+1) (b+jg w-1)=(w,Ta):=λhk hi=>by
   have h1:jg w=1:=by rw[D,if_neg (by omega),if_neg (by omega)]
   have s:=zke o hi;have G:zs2 w=bl (jv Tc 0 w 0):=by unfold zs2;rw[if_neg (by omega),if_neg (by omega)]
   rw[G]at z;have hl:(jv Tc 0 w 0).length<=65536:=by rw[z,<-zi6,yg]at E;exact E
   have F:¬bl (jv Tc 0 w 0)=bl [91]:=λe=>zyl s (.inl rfl) (zrd.1 e);have n2:¬bl (jv Tc 0 w 0)=bl [123]:=λe=>zyl s (.inr rfl) (zrd.1 e);have n3:zl L (b+jg w-1)=[]:=by
    have B:BlkS L b [] (b+jg w-1):=by show b=b+jg w-1;omega
    rw[B.kids H N];rfl
   rw[rdN,rfN,z,if_neg F,if_neg n2,if_neg F,if_neg n2,ztg s hk hi hl,n3,N,h1];exact⟨rfl,by rw[show b+1-1=b by omega];simp⟩
  rcases zew o with⟨k,_,_,i⟩|⟨k,_,_,i⟩|⟨k,_,_,i⟩|⟨k,_,_,i⟩|⟨k,t,ks⟩|⟨k,kk,kl,t⟩;exact l (by omega) i;exact l (by omega) i;exact l (by omega) i;exact l (by omega) i;rw[k]at D;simp only[if_neg (show¬(5:Int)=6 by decide),if_true]at D;have u:SegT Ls L b (zbt w.items b):=by rw[zo9,k]at S;simp only[if_neg (show¬(5:Int)=6 by decide),if_true]at S;exact S.left
  have G:zs2 w=bl [91]:=by unfold zs2;rw[if_pos k]
  rw[G]at z;have y:zl L (b+jg w-1)=(z0x 0 w.items b).map λe=>e-1:=by refine BlkS.kids H ?_ N;have:=zyj w.items b u;rw[show b+jg w-1=b+zaq 0 w.items by omega];exact this
  obtain⟨Y,a2⟩:=z8e (zpl (rd:=rdN Ls L f) (e:=f) w.items b u (by omega) λx A c r n=>(O x A c r n).1);obtain⟨I,P⟩:=z8e (zpl (rd:=rfN Ls L f) (e:=f) w.items b u (by omega) λx A c r n=>(O x A c r n).2);have s:Tr.mk 5 ⟨#[]⟩ [] w.items=w:=by cases w;simp only[Tr.kind,Tr.text,Tr.keys,Tr.items]at k t ks ⊢;rw[k,ks,qdf t]
  rw[rdN,rfN,z,if_pos rfl,if_pos rfl,y,if_pos Y,if_pos I,a2,P,s];exact⟨rfl,rfl⟩;rw[k]at D;simp only[if_true]at D;have u:SegT Ls L b (Js w.items w.keys b):=by rw[zo9,k]at S;simp only[if_true]at S;exact S.left
  have G:zs2 w=bl [123]:=by unfold zs2;rw[if_neg (by omega),if_pos k]
  rw[G]at z;have y:zl L (b+jg w-1)=(z0x 1 w.items b).map λe=>e-1:=by refine BlkS.kids H ?_ N;have:=zyk w.items w.keys b u;rw[show b+jg w-1=b+zaq 1 w.items by omega];exact this
  have ku:∀q∈w.keys,Z4 (lb q)=Ta:=by unfold wh at kk;rw[Ap,Av]at kk;exact kk.1
  obtain⟨Y,a2,I⟩:=z8f (zpm (rd:=rdM Ls L (rdN Ls L f)) (e:=f) w.items w.keys b kl u (by omega) λp C c r Z q2 J q4=>by obtain⟨Q,V,_⟩:=zth Z (ku _ (List.of_mem_zip C).1) (M _ J);have U:=Xb p.2;unfold rdM;rw[qgf r J q2];dsimp only;rw[if_pos Q,V,(O p.2 (List.of_mem_zip C).2 c r (by omega)).1];rfl);obtain⟨P,a5,a6⟩:=z8f (zpm (rd:=rfK Ls L (rfN Ls L f)) (e:=f) w.items w.keys b kl u (by omega) λp C c r Z q2 J q4=>by obtain⟨Q,_,V,r3⟩:=zth Z (ku _ (List.of_mem_zip C).1) (M _ J);have U:=Xb p.2;obtain⟨_,_,s3,_⟩:=zbd r;unfold rfK;rw[if_pos ⟨Q,V,by rw[r3],by omega,by rw[s3,q2]⟩,r3,(O p.2 (List.of_mem_zip C).2 c r (by omega)).2]);have s:Tr.mk 6 ⟨#[]⟩ w.keys w.items=w:=by cases w;simp only[Tr.kind,Tr.text,Tr.keys,Tr.items]at k t ⊢;rw[k,qdf t]
  have z1:(w.keys.zip w.items).map (·.1)=w.keys:=by rw[D4 (by omega)]
  have z2:(w.keys.zip w.items).map (·.2)=w.items:=by rw[List.map_snd_zip (by omega)]
  rw[z1]at a2 a5;rw[z2]at I a6;have F:¬bl [123]=bl [91]:=λe=>by have:=zrd.1 e;cases this
  rw[rdN,rfN,z,if_neg F,if_pos rfl,if_neg F,if_pos rfl,y,if_pos Y,if_pos P,a2,I,a5,a6,s];exact⟨rfl,rfl⟩
end
section
theorem zvw(s:Bs):((yu s).2.2=0->qa (yu s).1=Ta)/\Sm (yu s).1:=by
 by_cases c:(Ya s).2.2=0;obtain⟨i,_,e⟩:=z5x c;have b:(yu s).1=Q5 s (Ya s).1.2 33 0:=by unfold yu;rw[if_pos c]
 rw[b];exact⟨λ_=>i,e⟩;have b:(yu s).1=.mk 0 (bl []) [] []:=by unfold yu;rw[if_neg c]
 refine⟨λh=>?_,?_⟩;unfold yu at h;rw[if_neg c]at h;exact absurd h c;rw[b];refine⟨by rw[yh];simp[Tr.items,w9],?_⟩;rw[txB];exact⟨⟨AX _,AX _,λk f=>by cases f⟩,trivial⟩
theorem zmy:Sm noT:=by refine⟨by rw[yh];simp[noT,Tr.items,w9],?_⟩;unfold noT;rw[txB];exact⟨⟨AX _,AX _,λk b=>by cases b⟩,trivial⟩
theorem zvx(s:Bt):Sm (ya s).1/\((ya s).2=Ta->tsz (ya s).1=1):=by refine⟨(zvw (lb s)).2,λh=>?_⟩;unfold ya at h ⊢;simp only[Ap,decide_eq_true_eq]at h;have hi:=Bi.1 h.2.1;rw[yh,hi];rfl
theorem zym{L:List Int}{n:Nat}:∀(K:List Nat) (a:Nat),K.Pairwise (λi j:Nat=>(i:Int)<lfN L j)->(∀k∈K,(a:Int)<=lfN L k/\lfN L k<=k/\k<n)->a<=n->(K.map λk=>k+1-(lfN L k).toNat).sum<=n-a
 |[],a,_,_,_=>by simp
 |k::K,a,hp,hk,han=>by rw[Be]at hp;obtain⟨h1,e,c⟩:=hk k Am;have:=zym K (k+1) hp.2 (λj b=>⟨by have:=hp.1 j b;omega,(hk j (Ae _ b)).2⟩) (by omega);rw[Ar,List.sum_cons];omega
theorem z0y{L:List Int}(h:zyh L L.length=Ta)(n:Nat):(zl L n).Pairwise (λi j:Nat=>(i:Int)<lfN L j):=by refine D8.imp_of_mem (λ {i j} hi k b=>?_) (zgx L n);obtain⟨h1,f⟩:=Ju.1 hi;obtain⟨e,c⟩:=Ju.1 k;exact(zau h h1 f).2.2.2.2 j b (zau h e c).1
theorem z8g{f:Nat->Tr}{g:Nat->Nat}:∀{K:List Nat},(∀k∈K,tsz (f k)<=g k)->w9 (K.map f)<=(K.map g).sum
 |[],_=>by simp[w9]
 |k::K,h=>by rw[Ar,Ar,List.sum_cons,w9];have h1:=h k Am;have c:=z8g (K:=K) λj b=>h j (Ae _ b);omega
theorem zyn{m:Nat}{f:Nat->Tr}:∀{K:List Nat},(∀k∈K,txB m (f k))->zn6 m (K.map f)
 |[],_=>by rw[Cp,zn6];trivial
 |k::K,h=>by rw[Ar,zn6];exact⟨h k Am,zyn λj b=>h j (Ae _ b)⟩
theorem zpn{L:List Int}(c:zyh L L.length=Ta)(t:L.length<=512){n:Nat}(l:n<L.length){kd:Int}{ks:List Bt}{f:Nat->Tr}(e:∀k∈zl L n,tsz (f k)<=k+1-(lfN L k).toNat/\txB 1048576 (f k))(b:ks.length<=1048576/\∀k∈ks,k.size<=1048576):
  Sm (.mk kd ⟨#[]⟩ ks ((zl L n).map f))/\tsz (.mk kd ⟨#[]⟩ ks ((zl L n).map f))<=n+1-(lfN L n).toNat:=by
 have i:=Xa.1 c;obtain⟨u,a2,_⟩:=x7.1 (i n l);have h1:=z8g (K:=zl L n) λk b=>(e k b).1;have h:=zym (n:=n) (zl L n) (lfN L n).toNat (z0y c n) (λk b=>by obtain⟨h1,h⟩:=Ju.1 b;obtain⟨o,q,r,s,p⟩:=zau c h1 h;exact⟨by omega,(x7.1 (i k h1)).2.1,o⟩) (by omega);have m:tsz (.mk kd ⟨#[]⟩ ks ((zl L n).map f))<=n+1-(lfN L n).toNat:=by rw[yh];show 1+w9 ((zl L n).map f)<=_;omega
 refine⟨⟨by omega,?_⟩,m⟩;rw[txB];exact⟨⟨AX _,b.1,b.2⟩,zyn λk b=>(e k b).2⟩
theorem z8h{v:Tr}(h:Sm v):v.text.size<=1048576:=by have:=h.tx;cases v;rw[txB]at this;exact this.1.1
theorem z8i{Ls:List Bt}{L:List Int}(c:zyh L L.length=Ta)(o:L.length<=512):∀(f n:Nat),n<L.length ->
  (Sm (rdN Ls L f n).1/\((rdN Ls L f n).2=Ta->tsz (rdN Ls L f n).1<=n+1-(lfN L n).toNat))/\(Sm (rfN Ls L f n).1/\((rfN Ls L f n).2=Ta->tsz (rfN Ls L f n).1<=n+1-(lfN L n).toNat))
 |0,n,_=>⟨⟨zmy,λh=>by cases h⟩,⟨zmy,λh=>by cases h⟩⟩
 |f+1,n,hn=>by
  have u:=Xa.1 c;obtain⟨H,a2,_⟩:=x7.1 (u n hn);have z:(zl L n).length<=512:=by unfold zl;exact Ck (List.length_filter_le _ _) (by simp;omega)
  have low:∀{i k:Nat},i∈zl L k->i<L.length/\i<k/\lfN L k<=lfN L i:=λ {i k} hi=>by obtain⟨h1,e⟩:=Ju.1 hi;obtain⟨m,p,D,C,G⟩:=zau c h1 e;exact⟨h1,m,C⟩
  have l:([]:List Bt).length<=1048576/\∀k∈([]:List Bt),k.size<=1048576:=⟨AX _,λk b=>by cases b⟩;have lf:Sm (ya (Zg Ls n)).1/\((ya (Zg Ls n)).2=Ta->tsz (ya (Zg Ls n)).1<=n+1-(lfN L n).toNat):=⟨(zvx _).1,λh=>by rw[(zvx _).2 h];omega⟩;constructor;rw[rdN];split;split;rename_i h;rw[Av]at h;obtain⟨m,p⟩:=zpn (kd:=5) (ks:=[]) c o hn (f:=λk=>(rdN Ls L f k).1) (λk b=>by obtain⟨⟨q,r⟩,_⟩:=z8i (Ls:=Ls) c o f k (low b).1;exact⟨r (h k b),q.tx⟩) l;exact⟨m,λ_=>p⟩;exact⟨zmy,λh=>by cases h⟩;split;split;rename_i h;rw[Av]at h;have key:∀k∈zl L n,(tsz (rdM Ls L (rdN Ls L f) k).2.1<=k+1-(lfN L k).toNat/\txB 1048576 (rdM Ls L (rdN Ls L f) k).2.1)/\(rdM Ls L (rdN Ls L f) k).1.size<=1048576:=λk b=>by
   have e:=h k b;revert e;unfold rdM;split;rename_i j A;split;intro e;simp only[Ap]at e;have w:j∈zl L k:=by rw[A];simp
   obtain⟨B,E,F⟩:=low w;obtain⟨⟨q,r⟩,_⟩:=z8i (Ls:=Ls) c o f j B;have y:=r e.2.1;obtain⟨b1,b2,_⟩:=x7.1 (u k (low b).1);exact⟨⟨by dsimp only;omega,q.tx⟩,z8h (zvx _).1⟩;intro e;cases e;intro e;cases e
  obtain⟨m,p⟩:=zpn (kd:=6) (ks:=(zl L n).map λk=>(rdM Ls L (rdN Ls L f) k).1) c o hn (f:=λk=>(rdM Ls L (rdN Ls L f) k).2.1) (λk b=>(key k b).1) ⟨by rw[Ao];omega,λs t=>by obtain⟨k,b,rfl⟩:=AL.1 t;exact(key k b).2⟩;exact⟨m,λ_=>p⟩;exact⟨zmy,λh=>by cases h⟩;exact⟨lf.1,λh=>lf.2 (by rw[Ap]at h;exact h.1)⟩;rw[rfN];split;split;rename_i h;rw[Av]at h;obtain⟨m,p⟩:=zpn (kd:=5) (ks:=[]) c o hn (f:=λk=>(rfN Ls L f k).1) (λk b=>by obtain⟨_,⟨q,r⟩⟩:=z8i (Ls:=Ls) c o f k (low b).1;exact⟨r (h k b),q.tx⟩) l;exact⟨m,λ_=>p⟩;exact⟨zmy,λh=>by cases h⟩;split;split;rename_i h;rw[Av]at h;have key:∀k∈zl L n,(tsz (rfK Ls L (rfN Ls L f) k).2.1<=k+1-(lfN L k).toNat/\txB 1048576 (rfK Ls L (rfN Ls L f) k).2.1)/\(rfK Ls L (rfN Ls L f) k).1.size<=1048576:=λk b=>by have e:=h k b;revert e;unfold rfK;split;rename_i x;intro e;have e:(rfN Ls L f (k-1)).2=Ta:=e;obtain⟨_,⟨q,r⟩⟩:=z8i (Ls:=Ls) c o f (k-1) (by have:=(low b).1;omega);have y:=r e;obtain⟨b1,b2,_⟩:=x7.1 (u k (low b).1);have c1:=x.2.2.2.1;have c2:=x.2.2.2.2;exact⟨⟨by show tsz (rfN Ls L f (k-1)).1<=_;rw[c2]at y;omega,q.tx⟩,z8h (zvw _).2⟩;intro e;cases e
  obtain⟨m,p⟩:=zpn (kd:=6) (ks:=(zl L n).map λk=>(rfK Ls L (rfN Ls L f) k).1) c o hn (f:=λk=>(rfK Ls L (rfN Ls L f) k).2.1) (λk b=>(key k b).1) ⟨by rw[Ao];omega,λs t=>by obtain⟨k,b,rfl⟩:=AL.1 t;exact(key k b).2⟩;exact⟨m,λ_=>p⟩;exact⟨zmy,λh=>by cases h⟩;exact⟨lf.1,λh=>lf.2 (by rw[Ap]at h;exact h.1)⟩
def zbv(w:Tr)(t:List Bt×List Int):Prop:=qa w=Ta/\ze w=w/\jg w<=512/\t=unz (Qc w 0)
theorem Zp{w:Tr}{t:List Bt×List Int}(h:zbv w t)(k:∀s∈t.1,s.size<=65536):yl t=Ta/\0<t.2.length/\lfN t.2 (t.2.length-1)=0/\rdN t.1 t.2 t.2.length (t.2.length-1)=(w,Ta)/\rfN t.1 t.2 t.2.length (t.2.length-1)=(w,Ta):=by
 obtain⟨h1,o,f,rfl⟩:=h;have c:=xy w 0;have m:=Xb w;have S:=qge (X:=Qc w 0);have l:(unz (Qc w 0)).2.length=jg w:=by unfold unz;rw[Ao,c]
 have n:(unz (Qc w 0)).1.length=jg w:=by unfold unz;rw[Ao,c]
 obtain⟨r,p,e,q⟩:=zbd S;have ok:Q8 okV w=Ta:=by unfold qa at h1;rw[Ap]at h1;exact h1.2
 have b:=qdg (Ls:=(unz (Qc w 0)).1) (L:=(unz (Qc w 0)).2) (λi hi=>by unfold Zg;rw[A7,Al (by omega)];exact k _ (AE _)) (tsz w) w 0 (Ab _) ok S (jg w) (by omega);rw[AI]at e b;rw[l];exact⟨z7z f,m,e,b.1,b.2⟩
end
end Go.X
end
section
namespace Go.X
open Go Go.X Go.Proofs Go.RowKit
section
variable {g' g:zb} {M' M:Fr} {bv rb n:Nat} {x:Tr} {K:Value -> zb -> Prop} {xk xi s1 s2 s3:Sl} {Ls:List Bt}
theorem qgg(v:Tr):(zbk v).1=z0w v:=by unfold zbk z0w;split <;> rfl
theorem z8j{gl:Fr}(i:GL gl)(m:Brn gl){s:Bt}{R:Tr×Bool->Prop}(l:R (ya s)):PC Tp gl 189 [Arg.mk .str s] [.tree,.bool] R:=by
 apply zs5;have b:=qf6 (gl:=gl) i (s:=lb s) (R:=λr=>r=yu (lb s)) rfl;rw[Yw]at b;refine b.mono λr k=>?_;subst k;simp only[Xg];refine⟨λx=>x=z0w (yu (lb s)).1,λ_=>(zgg i m (zvw (lb s)).2 (R:=λx=>x=z0w (yu (lb s)).1) (qgg _)),λx f=>?_⟩;have e:(bif (bif (bif ((yu (lb s)).2.2==0)then(((Ct (yu (lb s)).1.items:Nat):Int)==0)else Tc)then(decide ((yu (lb s)).1.kind<5))else Tc)then(x.toList==s.toList)else Tc)=(ya s).2:=by unfold ya;by_cases h1:(yu (lb s)).2.2=0;by_cases h:(yu (lb s)).1.items.length=0;by_cases c:(yu (lb s)).1.kind<5;have f:=f (by simp[h1,h,c]);subst f;rw[ze1];simp[h1,h,c];simp[c];simp[h];simp[h1]
 rw[e];exact l
structure VbM (lo:Nat) (h0:zb) (M0:Fr) (b:Nat) (k:Int) (z2 z3:Sl) (g:zb) (M:Fr) (ks:List Bt) (xs:List Tr) (sk si:Sl) (bk bi:List Nat):Prop where
 L:Later h0 M0 g M
 box:Blk g b #[.int .i64 k,.string ⟨#[]⟩,slV z2,slV z3]
 keys:ORow lo g M .str ks sk bk
 items:ORow lo g M .tree xs si bi
 dj:∀c∈bk,c∉bi
 hb:h0.size<=b
 bl:b<lo
 lg:lo<=g.size
 nB:M b=Te
section
variable {lo : Nat} {h0 : zb} {M0 : Fr} {b : Nat} {k : Int} {z2 z3 : Sl} {g : zb} {M : Fr} {ks : List Bt} {xs : List Tr} {sk si : Sl} {bk bi : List Nat}
theorem VbM.call(V:VbM lo h0 M0 b k z2 z3 g M ks xs sk si bk bi)(L:Later g M g' M'):VbM lo h0 M0 b k z2 z3 g' M' ks xs sk si bk bi:= ⟨V.L.trans L,V.box.keep (L.keep.get b V.box.lt),V.keys.call L,V.items.call L,V.dj,V.hb,V.bl,by have:=V.lg;have:=L.keep.size;omega,by rw[L.old b V.box.lt];exact V.nB⟩
theorem VbM.push(V:VbM lo h0 M0 b k z2 z3 g M ks xs sk si bk bi)(o:Obj):VbM lo h0 M0 b k z2 z3 (g.push o) M ks xs sk si bk bi:=V.call (Later.push V.L.ag o)
theorem VbM.key(V:VbM lo h0 M0 b k z2 z3 g M ks xs sk si bk bi)(t:ks.length<=1000000){x:Bt}(u:Blk g bv #[.string x]) (o:∀m g' n,VbM lo h0 M0 b k z2 z3 g' M (ks++[x]) xs m si n bi->g.size<=g'.size->(∀j,j<g.size->j∉bk->g'[j]?=g[j]?)->K (slV m) g'):
  XRun Tp (Au #[23,23] 23 #[slV sk,.slice (Td ⟨bv,0,Te⟩) 1 1]) g K:=by
 have A:=V.bl;have p:=V.lg;have y:=V.hb;refine ORow.app qi5 (by omega) V.L.ag V.keys V.lg (vs:=[.string x]) u rfl t λm g' s r z w f=>o m g' s ⟨⟨⟨by have:=V.L.keep.size;omega,λj q=>?_⟩,V.L.le,V.L.old,λc cs e=>?_⟩,V.box.keep (f b V.box.lt λi=>?_),r,V.items.frame (λc l=>f c (V.items.own c l).2.1 λi=>V.dj c i l) (Fr.le.refl _) (λc l=>(V.items.own c l).2.2),λc l i=>?_,V.hb,V.bl,by omega,V.nB⟩ z f;rw[f j (by omega) λi=>by have:=(V.keys.own j i).1;omega];exact V.L.keep.get j q;rw[f c (V.L.ag.lt e) λi=>by have:=(V.keys.own c i).2.2;rw[this]at e;cases e];exact V.L.ag c cs e;have:=(V.keys.own b i).1;omega;rcases w c l with h|h;exact V.dj c h i;have:=(V.items.own c i).2.1;omega
theorem qm8(b:RdV M .tree x (.agg #[.int .i64 x.kind,.string x.text,slV xk,slV xi])):Rd M .tree x [.int .i64 x.kind,.string x.text,slV xk,slV xi]:=by
 unfold RdV at b;simp only[zhn,if_true]at b;obtain⟨cs,e,c⟩:=b;injection e with e;have:cs=[.int .i64 x.kind,.string x.text,slV xk,slV xi]:=by have:=congrArg Array.toList e;simpa using this.symm
 rw[<-this];exact c
theorem VbM.item(V:VbM lo h0 M0 b k z2 z3 g M ks xs sk si bk bi)(t:xs.length<=1000000)(y:Blk g bv #[.int .i64 x.kind,.string x.text,slV xk,slV xi])(u:RdV M .tree x (.agg #[.int .i64 x.kind,.string x.text,slV xk,slV xi])) (o:∀m g' n,VbM lo h0 M0 b k z2 z3 g' M ks (xs++[x]) sk m bk n->g.size<=g'.size->(∀j,j<g.size->j∉bi->g'[j]?=g[j]?)->K (slV m) g'):
  XRun Tp (Au #[24,24] 24 #[slV si,.slice (Td ⟨bv,0,Te⟩) 1 1]) g K:=by
 have B:=V.bl;have p:=V.lg;have A:=V.hb;refine ORow.app zoc (by omega) V.L.ag V.items V.lg (vs:=[.int .i64 x.kind,.string x.text,slV xk,slV xi]) y (qm8 u) t λm g' s r z w f=>o m g' s ⟨⟨⟨by have:=V.L.keep.size;omega,λj q=>?_⟩,V.L.le,V.L.old,λc cs e=>?_⟩,V.box.keep (f b V.box.lt λi=>?_),V.keys.frame (λc l=>f c (V.keys.own c l).2.1 λi=>V.dj c l i) (Fr.le.refl _) (λc l=>(V.keys.own c l).2.2),r,λc l i=>?_,V.hb,V.bl,by omega,V.nB⟩ z f;rw[f j (by omega) λi=>by have:=(V.items.own j i).1;omega];exact V.L.keep.get j q;rw[f c (V.L.ag.lt e) λi=>by have:=(V.items.own c i).2.2;rw[this]at e;cases e];exact V.L.ag c cs e;have:=(V.items.own b i).1;omega;rcases w c i with h|h;exact V.dj c l h;have:=(V.keys.own c l).2.1;omega
theorem VbM.turn(V:VbM lo h0 M0 b k z2 z3 g M ks xs sk si bk bi){i:Int}{h l:Sl}(B:Blk g' b #[.int .i64 i,.string ⟨#[]⟩,slV h,slV l])(z:g'.size=g.size)(f:∀j,j≠b->g'[j]?=g[j]?):VbM lo h0 M0 b i h l g' M ks xs sk si bk bi:=by have m:=V.bl;exact⟨Later.stay V.L V.hb V.nB f z,B,V.keys.frame (λc e=>f c (by have:=(V.keys.own c e).1;omega)) (Fr.le.refl _) (λc e=>(V.keys.own c e).2.2),V.items.frame (λc e=>f c (by have:=(V.items.own c e).1;omega)) (Fr.le.refl _) (λc e=>(V.items.own c e).2.2),V.dj,V.hb,V.bl,by rw[z];exact V.lg,V.nB⟩
theorem VbM.st2(V:VbM lo h0 M0 b k z2 z3 g M ks xs sk si bk bi){K:zb->Prop}(c:∀g',VbM lo h0 M0 b k sk z3 g' M ks xs sk si bk bi->g'.size=g.size->(∀j,j≠b->g'[j]?=g[j]?)->K g'):
  XRunU Tp (Af 23 (.pointer (Td (Ad ⟨b,0,Te⟩ 2))) (slV sk)) g K:=by
 rw[zi];exact yf qj2 qj3 V.box (by show 2<4;omega) rfl λg' B z f=>c g' (V.turn B z f) z f
theorem VbM.st3(V:VbM lo h0 M0 b k z2 z3 g M ks xs sk si bk bi){K:zb->Prop}(c:∀g',VbM lo h0 M0 b k z2 si g' M ks xs sk si bk bi->g'.size=g.size->(∀j,j≠b->g'[j]?=g[j]?)->K g'):
  XRunU Tp (Af 24 (.pointer (Td (Ad ⟨b,0,Te⟩ 3))) (slV si)) g K:=by
 rw[zi];exact yf qlg qlh V.box (by show 3<4;omega) rfl λg' B z f=>c g' (V.turn B z f) z f
theorem VbM.fin(V:VbM lo h0 M0 b k z2 z3 g M ks xs sk si bk bi)(f:ks.length<=1000000/\xs.length<=1000000):Later h0 M0 g (MxL M g (bk++bi))/\RdV (MxL M g (bk++bi)) .tree (.mk k ⟨#[]⟩ ks xs) (.agg #[.int .i64 k,.string ⟨#[]⟩,slV sk,slV si]):=by have l:=V.bl;have i:=V.hb;refine⟨Later.own V.L λc e=>?_,qf (v:=.mk k ⟨#[]⟩ ks xs) (V.keys.rd V.L.ag (λc e=>As _ e) f.1) (V.items.rd V.L.ag (λc e=>AC _ e) f.2)⟩;rcases Ay.1 e with h|h;have:=(V.keys.own c h).1;omega;have:=(V.items.own c h).1;omega
end
def z0z(L:List Int):List (List Int):=(Bl L.length).map λk=>(zl L k).map λi:Nat=>(i:Int)
structure RdrS (M:Fr) (rb:Nat) (Ls:List Bt) (L:List Int) (s1 s2 s3:Sl):Prop where
 at_:M rb=Td #[slV s1,slV s2,slV s3]
 r1:Rd M (.row .str) Ls [slV s1]
 r3:Rd M (.row (.row (.int .i64))) (z0z L) [slV s3]
theorem RdrS.mono{L:List Int}(H:RdrS M rb Ls L s1 s2 s3)(le:Fr.le M M'):RdrS M' rb Ls L s1 s2 s3:=⟨le _ _ H.at_,H.r1.mono le,H.r3.mono le⟩
theorem qjd{xs:List (List Int)}{s:Sl}(H:Rd M (.row (.row (.int .i64))) xs [slV s]){k:Nat}(m:k<xs.length):∃(a:Addr) (f:Sl),s.a=Td a/\(∀g,AgM M g->zc g (a.add (k*1))=Td (slV f))/\Rd M (.row (.int .i64)) xs[k] [slV f]:=by
 obtain⟨b,o,cs,n,l,h⟩:=Go.X.rowAt H m;obtain⟨f,i⟩:∃f:Sl,cut cs (o+k*sz (.row (.int .i64))) (sz (.row (.int .i64)))=[slV f]:=by obtain⟨w,e,a,c,q,_⟩:=h;exact⟨⟨a,_,c⟩,by rw[e,q];rfl⟩
 rw[i]at h;exact⟨_,f,n,λg ag=>by rw[qd];exact zi2 ag l i,h⟩
theorem zkf(L:List Int):(z0z L).length=L.length:=by unfold z0z;rw[Ao,Dp]
theorem RdrS.kids{L:List Int}(H:RdrS M rb Ls L s1 s2 s3)(b:n<L.length):∃(a:Addr) (sk:Sl),(s3.a=Td a/\(0:Int)<=(n:Int)/\(n:Int)<(s3.len:Int))/\(∀g,AgM M g->zc g (a.add (((n:Nat):Int).toNat*1))=Td (slV sk))/\Rd M (.row (.int .i64)) ((zl L n).map λi:Nat=>(i:Int)) [slV sk]:=by
 obtain⟨a,l,f,e,c⟩:=qjd H.r3 (k:=n) (by rw[zkf];exact b);have h:=(rowLen H.r3).1;rw[zkf]at h;refine⟨a,l,⟨f,by omega,by omega⟩,λg ag=>by rw[Ai];exact e g ag,?_⟩;have:(z0z L)[n]'(by rw[zkf];exact b)=(zl L n).map λi:Nat=>(i:Int):=by unfold z0z;rw[C4,List.getElem_range]
 rw[this]at c;exact c
theorem RdrS.lab{L:List Int}(H:RdrS M rb Ls L s1 s2 s3)(ag:AgM M g)(b:n<Ls.length):∃a:Addr,(s1.a=Td a/\(0:Int)<=(n:Int)/\(n:Int)<(s1.len:Int))/\zc g (a.add (((n:Nat):Int).toNat*1))=Td (.string (Zg Ls n)):=by obtain⟨a,h1,x,e,c⟩:=zzv ag H.r1 b (i:=(n:Int)) rfl (L:=s1.len) rfl (Q:=λx=>x=Zg Ls n) (by unfold Zg;rw[A7,Al b];rfl);subst c;exact⟨a,h1,e⟩
theorem RdrS.c0{L:List Int}(H:RdrS M rb Ls L s1 s2 s3)(ag:AgM M g):zc g (Ad (Ad ⟨rb,0,Te⟩ 0) 0)=Td (slV s1):=by rw[zi,zi];exact zi2 ag H.at_ rfl
theorem RdrS.c2{L:List Int}(H:RdrS M rb Ls L s1 s2 s3)(ag:AgM M g):zc g (Ad ⟨rb,0,Te⟩ 2)=Td (slV s3):=by rw[zi];exact zi2 ag H.at_ rfl
end
section
variable {M:Fr} {w u:Value} {x:Tr} {b:Bool} {Ls:List Bt} {k:Nat}
theorem z00{r:Tr×Bool}(h:Yv M [.tree,.bool] r w):∃sk si:Sl,w=.tuple #[.agg #[.int .i64 r.1.kind,.string r.1.text,slV sk,slV si],.bool r.2]/\RdV M .tree r.1 (.agg #[.int .i64 r.1.kind,.string r.1.text,slV sk,slV si]):=by
 obtain⟨vs,⟨f,rest,rfl,c,e,rfl,b⟩,rfl⟩:=h;obtain⟨sk,si,rfl,_,_⟩:=yz c;have b:e=.bool r.2:=by have:=(zfw rfl).1 b;simpa[Rd]using this
 subst b;exact⟨sk,si,rfl,c⟩
theorem qje{r:Bt×Tr×Bool}(h:Yv M [.str,.tree,.bool] r w):∃sk si:Sl,w=.tuple #[.string r.1,.agg #[.int .i64 r.2.1.kind,.string r.2.1.text,slV sk,slV si],.bool r.2.2]/\RdV M .tree r.2.1 (.agg #[.int .i64 r.2.1.kind,.string r.2.1.text,slV sk,slV si]):=by
 obtain⟨vs,⟨k,e,rfl,b,l,rest,rfl,f,i,rfl,c⟩,rfl⟩:=h;obtain⟨sk,si,rfl,_,_⟩:=yz f;have c:i=.bool r.2.2:=by have:=(zfw rfl).1 c;simpa[Rd]using this
 have b:k=.string r.1:=by have:=(zfw rfl).1 b;simpa[Rd]using this
 subst c;subst b;exact⟨sk,si,rfl,f⟩
theorem qj8(h:RdV M .tree x u):Yv M [.tree,.bool] (x,b) (.tuple #[u,.bool b]):=⟨[_,_],⟨_,_,rfl,h,_,rfl,rdBool _⟩,rfl⟩
theorem qjf{s:Bt}(h:RdV M .tree x u):Yv M [.str,.tree,.bool] (s,x,b) (.tuple #[.string s,u,.bool b]):=⟨[_,_,_],⟨_,_,rfl,rdStr _,_,_,rfl,h,_,rfl,rdBool _⟩,rfl⟩
theorem zyo:RdV M .tree noT (.agg #[.int .i64 0,.string ⟨#[]⟩,slV ⟨Te,0,0⟩,slV ⟨Te,0,0⟩]):=qf (v:=noT) zga zga
theorem qdh{l:Bs}:(bif ((((bl l).size:Nat):Int)==0)then Ta else(!(((bl l).extract (0:Int).toNat (1:Int).toNat:Bt).toList==(⟨#[107]⟩:Bt).toList)))=!decide (l.head?=Td 107):=by
 rw[show(0:Int).toNat=0 from rfl,show(1:Int).toNat=1 from rfl,wb,zf,ze1];cases l with
 |nil=>rfl
 |cons c t=>
  have e:((((c::t).length:Nat):Int)==0)=Tc:=by rw[beq_eq_false_iff_ne,Aq];omega
  have b:(bl (((c::t).drop 0).take (1-0))=(⟨#[107]⟩:Bt))↔(c=107):=by rw[BZ,show 1-0=0+1 from rfl,Dd,Dl];constructor;intro h;have:=congrArg lb h;rw[yg]at this;have f:lb (⟨#[107]⟩:Bt)=[107]:=rfl;rw[f]at this;injection this;rintro rfl;rfl
  rw[e,cond_false];congr 1;rw[AM,decide_eq_true_eq,decide_eq_true_eq,b];simp
theorem qgh{L:List Int}{rd:Nat->Tr×Bool}(h:(lb (Zg Ls k)).head?≠Td 107\/(zl L k).length≠1):rdM Ls L rd k=(⟨#[]⟩,noT,Tc):=by unfold rdM;split;rename_i j b;rw[b]at h;rw[if_neg];rcases h with h|h;exact h;exact absurd rfl h;rfl
theorem qjg{L:List Int}{rd:Nat->Tr×Bool}{k j:Nat}(h:(lb (Zg Ls k)).head?=Td 107)(b:zl L k=[j]):rdM Ls L rd k=((ya (bl (lb (Zg Ls k)).tail)).1.text,(rd j).1,(ya (bl (lb (Zg Ls k)).tail)).2&&((rd j).2&&decide ((ya (bl (lb (Zg Ls k)).tail)).1.kind=4))):=by unfold rdM;rw[b];dsimp only;rw[if_pos h]
set_option maxRecDepth 100000 in
set_option maxHeartbeats 1000000 in
theorem z01{gl:Fr}(hg:GL gl)(hb:Brn gl){rb:Nat}{L:List Int}{s1 s2 s3:Sl}(aG:Ls.length=L.length){rd:Nat->Tr×Bool}{n:Nat}(hn:n<L.length) (H:∀j∈zl L n,∀(h:zb) (M:Fr),Fr.le gl M->AgM M h->RdrS M rb Ls L s1 s2 s3->PX Tp 105 #[.pointer (Td ⟨rb,0,Te⟩),.int .i64 (j:Int)] h M [.tree,.bool] (λr=>r=rd j))
  {h:zb} (hM:Fr.le gl M) (ag:AgM M h) (S:RdrS M rb Ls L s1 s2 s3):PX Tp 188 #[.pointer (Td ⟨rb,0,Te⟩),.int .i64 (n:Int)] h M [.str,.tree,.bool] (λr=>r=rdM Ls L rd n):=by
 apply PX.of;apply zas (Td ⟨rb,0,Te⟩) (n:Int);intro h1;have y:Later h M h1 M:=Later.push ag _;have z1:h1.size=h.size+1:=Aj _;have B1:Blk h1 h.size #[.int .i64 0,.string ⟨#[]⟩,.slice Te 0 0,.slice Te 0 0]:=Blk.new _ _ _;clear_value h1;obtain⟨a,am,Y⟩:=S.lab y.ag (n:=n) (by omega);obtain⟨c,sk,az,ax,V⟩:=S.kids hn;have O:=(rowLen V).1;rw[Ao]at O;obtain⟨l,hl⟩:∃l,Zg Ls n=bl l:=⟨lb (Zg Ls n),(Yw _).symm⟩;rw[hl]at Y;have N:lb (Zg Ls n)=l:=by rw[hl,yg]
 refine⟨⟨rb,0,Te⟩,rfl,s1,S.c0 y.ag,a,am,bl l,Y,λq=>?_,⟨rb,0,Te⟩,λ_=>rfl,s3,λ_=>S.c2 y.ag,c,λ_=>az,sk,λ_=>ax _ y.ag,λq=>?_,λq=>?_⟩;have:((bl l).size:Int)≠0:=λe=>by rw[e]at q;simp at q
 refine⟨by omega,by omega,by omega⟩;rw[qdh,qme]at q;have U:rdM Ls L rd n=(⟨#[]⟩,noT,Tc):=qgh (by
  rw[N];rcases q with h|h;exact .inl (by simpa using h);refine .inr λe=>?_
  rw[O,e]at h;simp at h)
 refine jw (k:=0) (s:=⟨#[]⟩) (sk:=⟨Te,0,0⟩) (si:=⟨Te,0,0⟩) B1 λg f z B=>⟨_,_,_,_,B.ld (cs:=[.int .i64 0,.string ⟨#[]⟩,slV ⟨Te,0,0⟩,slV ⟨Te,0,0⟩]),M,_,Later.stay y (Ab _) (ag.none (Ab _)) f z,qjf zyo,U.symm⟩
 ·rw[qdh,qj7]at q;have hh:l.head?=Td 107:=by simpa using q.1
  have ay:(zl L n).length=1:=by
   have:=q.2;rw[O]at this;have:((zl L n).length:Int)=1:=by simpa using this
   omega
  obtain⟨j,hj⟩:=List.length_eq_one_iff.1 ay;rw[hj]at V;have aI:1<=(bl l).size:=by
   rw[zf];cases l with
   |nil=>simp at hh
   |cons c t=>simp
  refine⟨⟨by omega,by omega,by omega⟩,?_⟩;have ex:(bl l).extract (1:Int).toNat (((bl l).size:Nat):Int).toNat=bl l.tail:=by rw[Ai,zf,show(1:Int).toNat=1 from rfl,wb];congr 1;rw[List.drop_one,BG (by simp)]
  rw[ex];refine(z8j hg hb (s:=bl l.tail) (R:=λr=>r=ya (bl l.tail)) rfl).go (vs:=[.string (bl l.tail)]) (hM.trans y.le) y.ag (qc (a:=Arg.mk .str _) (rdStr _) qt) λw Z ar r A ab hr=>?_;subst hr;obtain⟨xk,xi,rfl,aH⟩:=z00 ab;refine⟨_,_,xk,xi,_,rfl,?_⟩;have C:=y.trans A;have aJ:=A.keep.size;intro aF;refine xz A.ag λai x aB ak=>?_;have i:=x.ag;have J:=S.mono (C.le.trans x.le);obtain⟨c',aA,Q,P,p⟩:=J.kids hn;rw[hj]at p;have af:=(rowLen p).1;obtain⟨b3,o3,e3,e4⟩:=zox i p (k:=0) (by simp);refine⟨⟨rb,0,Te⟩,rfl,s3,J.c2 i,c',Q,aA,P _ i,⟨b3,o3,Te⟩,⟨e3,Em _,by rw[af];simp⟩,(j:Int),by rw[qd];exact e4,?_⟩;refine(H j (by rw[hj];simp) ai ar (hM.trans (C.le.trans x.le)) i J).go λw aM G r u F hr=>?_;subst hr;obtain⟨E,D,rfl,ah⟩:=z00 F;refine⟨_,_,E,D,_,rfl,?_⟩;intro aL;have aC:=u.keep.size;refine xz u.ag λb I aE an=>?_;have ae:Blk b Z.size #[.int .i64 (ya (bl l.tail)).1.kind,.string (ya (bl l.tail)).1.text,slV xk,slV xi]:=(ak.keep (u.keep.get _ (by omega))).keep (I.keep.get _ (by omega));have m:Later h1 M b G:=A.trans (x.trans (u.trans I));have aa:Blk b h.size #[.int .i64 0,.string ⟨#[]⟩,.slice Te 0 0,.slice Te 0 0]:=B1.keep (m.keep.get _ (by omega));have ap:G h.size=Te:=by rw[m.old _ (by omega)];exact ag.none (Ab _)
  have kc:∀g:zb,(∀j,j≠h.size->g[j]?=b[j]?)->zc g (Ad ⟨Z.size,0,Te⟩ 0)=Td (.int .i64 (ya (bl l.tail)).1.kind):=λg f=>(ae.keep (f _ (by omega))).cellAdd (o:=0) (k:=0) rfl;have au:(bif (bif (ya (bl l.tail)).2 then(rd j).2 else Tc)then(decide ((ya (bl l.tail)).1.kind=4))else Tc)=((ya (bl l.tail)).2&&((rd j).2&&decide ((ya (bl l.tail)).1.kind=4))):=by cases(ya (bl l.tail)).2 <;> cases(rd j).2 <;> rfl
  have aj:((ya (bl l.tail)).1.kind==4)=decide ((ya (bl l.tail)).1.kind=4):=by rw[AM,beq_iff_eq,decide_eq_true_eq]
  have done:∀{g:zb},(∀j,j≠h.size->g[j]?=b[j]?)->g.size=b.size->∃M' r,Later h M g M'/\Yv M' [.str,.tree,.bool] r (.tuple #[.string (ya (bl l.tail)).1.text,.agg #[.int .i64 (rd j).1.kind,.string (rd j).1.text,slV E,slV D],.bool (bif (bif (ya (bl l.tail)).2 then(rd j).2 else Tc)then((ya (bl l.tail)).1.kind==4)else Tc)])/\r=rdM Ls L rd n:=λ {g} f z=>
   ⟨G,_,Later.stay (y.trans m) (Ab _) ap f z,qjf (ah.mono I.le),by rw[qjg (by rw[N];exact hh) hj,N,aj,au]⟩
  refine⟨_,ae.cellAdd (o:=0) (k:=1) rfl,_,_,E,D,an.ld (cs:=[_,_,slV E,slV D]),?_⟩;repeat' first
   |exact rfl
   |exact jw aa λg f z B=>⟨_,_,E,D,B.ld (cs:=[_,_,slV E,slV D]),done f z⟩
   |exact jw aa λg f z B=>⟨_,λ_=>kc g f,_,_,E,D,B.ld (cs:=[_,_,slV E,slV D]),done f z⟩
   |refine⟨_,λ_=>kc b λ_ _=>rfl,?_⟩
   |refine⟨?_,?_⟩
end
section
theorem qbz(L:List Int)(n:Nat):(zl L n).length<=L.length:=by unfold zl;exact Ck (List.length_filter_le _ _) (by simp)
theorem zti{α:Type}{p:α->Bool}{l:List α}{k:Nat}(b:k<l.length)(h:p l[k]=Tc):l.all p=Tc:=List.all_eq_false.2 ⟨_,AE b,by rw[h];simp⟩
theorem VbM.new{h0 g:zb}{M0 M:Fr}{b:Nat}{k:Int}(L:Later h0 M0 g M)(B:Blk g b #[.int .i64 k,.string ⟨#[]⟩,.slice Te 0 0,.slice Te 0 0])(f:h0.size<=b)(h:b<g.size)(i:M b=Te):VbM (b+1) h0 M0 b k ⟨Te,0,0⟩ ⟨Te,0,0⟩ g M [] [] ⟨Te,0,0⟩ ⟨Te,0,0⟩ [] []:= ⟨L,B,ORow.nil,ORow.nil,λc e=>(by cases e),f,Nat.lt_succ_self _,h,i⟩
section
variable {lo : Nat} {h0 : zb} {M0 : Fr} {b : Nat} {k : Int} {g : zb} {M : Fr} {ks : List Bt} {xs : List Tr} {sk si : Sl} {bk bi : List Nat}
theorem VbM.done(V:VbM lo h0 M0 b k sk si g M ks xs sk si bk bi)(t:ks.length<=1000000/\xs.length<=1000000){q:Tr×Bool}(u:q=(.mk k ⟨#[]⟩ ks xs,Ta)):
  ∃(p:Int) (h:Bt) (o l:Sl),zd g ⟨b,0,Te⟩ 0 [.int .i64 p,.string h,slV o,slV l]/\XRunU Tp (Af 26 (.pointer (Td ⟨b,0,Te⟩)) (.agg #[.int .i64 p,.string h,slV o,slV l])) g λc=>
   ∃(i:Int) (e:Bt) (m n:Sl),zd c ⟨b,0,Te⟩ 0 [.int .i64 i,.string e,slV m,slV n]/\∃f r,Later h0 M0 c f/\Yv f [.tree,.bool] r (.tuple #[.agg #[.int .i64 i,.string e,slV m,slV n],.bool Ta])/\r=q:=by
 subst u;refine⟨_,_,sk,si,V.box.ld (cs:=[_,_,slV sk,slV si]),?_⟩;refine jw V.box λx w z2 s=>⟨_,_,sk,si,s.ld (cs:=[_,_,slV sk,slV si]),?_⟩;obtain⟨L,r⟩:=(V.turn s z2 w).fin t;exact⟨_,_,L,qj8 r,rfl⟩
theorem VbM.bad{z2 z3:Sl}(V:VbM lo h0 M0 b k z2 z3 g M ks xs sk si bk bi){g':zb}{M':Fr}(L:Later g M g' M'){q:Tr×Bool}(n:q=(noT,Tc)):
  XRunU Tp (Af 26 (.pointer (Td ⟨b,0,Te⟩)) (.agg #[.int .i64 0,.string ⟨#[]⟩,.slice Te 0 0,.slice Te 0 0])) g' λc=>
   ∃(i:Int) (f:Bt) (l m:Sl),zd c ⟨b,0,Te⟩ 0 [.int .i64 i,.string f,slV l,slV m]/\∃h r,Later h0 M0 c h/\Yv h [.tree,.bool] r (.tuple #[.agg #[.int .i64 i,.string f,slV l,slV m],.bool Tc])/\r=q:=by
 subst n;have e:=V.call L;refine jw (k:=0) (s:=⟨#[]⟩) (sk:=⟨Te,0,0⟩) (si:=⟨Te,0,0⟩) e.box λt o z2 p=>⟨_,_,_,_,p.ld (cs:=[.int .i64 0,.string ⟨#[]⟩,slV ⟨Te,0,0⟩,slV ⟨Te,0,0⟩]),M',_,Later.stay e.L e.hb e.nB o z2,qj8 zyo,rfl⟩
end
set_option maxRecDepth 100000 in
set_option maxHeartbeats 4000000 in
theorem zvy{gl:Fr}(hg:GL gl)(hb:Brn gl){rb:Nat}{Ls:List Bt}{L:List Int}{s1 s2 s3:Sl}(aE:Ls.length=L.length)(hL:L.length<=512)(ay:zyh L L.length=Ta):∀(f n:Nat),n<f->n<L.length->∀(h:zb) (M:Fr),Fr.le gl M->AgM M h->RdrS M rb Ls L s1 s2 s3 ->
  PX Tp 105 #[.pointer (Td ⟨rb,0,Te⟩),.int .i64 (n:Int)] h M [.tree,.bool] (λr=>r=rdN Ls L f n)
 |0,n,h,_=>absurd h (Dc n)
 |f+1,n,hf,hn=>by
  intro h M hM ag S;have low:∀{i k:Nat},i∈zl L k->i<k/\i<L.length:=λ {i k} hi=>by obtain⟨h1,h2⟩:=Ju.1 hi;exact⟨(zau ay h1 h2).1,h1⟩
  have ih:∀j,j∈zl L n->∀(h:zb) (M:Fr),Fr.le gl M->AgM M h->RdrS M rb Ls L s1 s2 s3->PX Tp 105 #[.pointer (Td ⟨rb,0,Te⟩),.int .i64 (j:Int)] h M [.tree,.bool] (λr=>r=rdN Ls L f j):=λj D=>by obtain⟨h1,h2⟩:=low D;exact zvy hg hb aE hL ay f j (by omega) h2
  have im:∀j,j∈zl L n->∀(h:zb) (M:Fr),Fr.le gl M->AgM M h->RdrS M rb Ls L s1 s2 s3->PX Tp 188 #[.pointer (Td ⟨rb,0,Te⟩),.int .i64 (j:Int)] h M [.str,.tree,.bool] (λr=>r=rdM Ls L (rdN Ls L f) j):=λj D h M hM ag S=>by obtain⟨h1,h2⟩:=low D;exact z01 hg hb aE h2 (λi hi=>by obtain⟨h3,h4⟩:=low hi;exact zvy hg hb aE hL ay f i (by omega) h4) hM ag S
  have bI:=qbz L n;apply PX.of;apply zbn (Td ⟨rb,0,Te⟩) (n:Int);intro h1;have L1:Later h M h1 M:=Later.push ag _;have z1:h1.size=h.size+1:=Aj _;have B1:Blk h1 h.size #[.int .i64 0,.string ⟨#[]⟩,.slice Te 0 0,.slice Te 0 0]:=Blk.new _ _ _;clear_value h1;obtain⟨a,aP,aL⟩:=S.lab L1.ag (n:=n) (by omega);have nB:M h.size=Te:=ag.none (Ab _);refine⟨⟨rb,0,Te⟩,rfl,s1,S.c0 L1.ag,a,aP,Zg Ls n,aL,λy=>?_,λy=>⟨λhy=>?_,λhy=>?_⟩⟩;rw[ze1]at y;have y:Zg Ls n=bl [91]:=of_decide_eq_true y;rw[rdN,if_pos y];refine yf (o:=0+0) zsh (by kernel_rfl) B1 (by show 0<4;omega) rfl λh6 B6 z6 f6=>?_;have B6:Blk h6 h.size #[.int .i64 5,.string ⟨#[]⟩,.slice Te 0 0,.slice Te 0 0]:=B6;have L6:Later h M h6 M:=Later.stay L1 (Ab _) nB f6 z6;obtain⟨c,sk,aa,Q,E⟩:=S.kids hn;have O:=(rowLen E).1;rw[Ao]at O;refine⟨⟨rb,0,Te⟩,rfl,s3,S.c2 L6.ag,c,aa,sk,Q _ L6.ag,λi g=>∃(m:Nat) (M':Fr) (si:Sl) (bi:List Nat),i=(m:Int)/\m<=(zl L n).length/\(∀j (D:j<(zl L n).length),j<m->(rdN Ls L f (zl L n)[j]).2=Ta)/\VbM (h.size+1) h M h.size 5 ⟨Te,0,0⟩ si g M' [] (((zl L n).take m).map λk=>(rdN Ls L f k).1) ⟨Te,0,0⟩ si [] bi,λi _=>(zl L n).length-i.toNat,⟨0,M,⟨Te,0,0⟩,[],rfl,AX _,λj _ h=>absurd h (Dc j),VbM.new L6 B6 (Ab _) (by omega) nB⟩,?_⟩;rintro i g ⟨m,M',si,bi,rfl,U,A,V⟩;have ab:(((zl L n).take m).map λk=>(rdN Ls L f k).1).length=m:=by rw[Ao,AK,CE U]
  refine⟨λhc=>?_,λhc=>?_⟩;have p:m<(zl L n).length:=by have:=ltT hc;omega
  have Sg:=S.mono V.L.le;obtain⟨b3,o3,e3,e4⟩:=zox V.L.ag (E.mono V.L.le) (k:=m) (by rw[Ao];exact p);rw[C4]at e4;refine⟨⟨b3,o3,Te⟩,⟨e3,by omega,by omega⟩,(((zl L n)[m]:Nat):Int),by rw[qd,Ai];exact e4,?_⟩;refine(ih _ (AE p) g M' (hM.trans V.L.le) V.L.ag Sg).go λw bL a1 r aB C hr=>?_;subst hr;obtain⟨yk,Z,rfl,af⟩:=z00 C;refine⟨_,_,yk,Z,_,rfl,?_⟩;intro bB;refine xz aB.ag λbz ax bE aV=>⟨λH=>?_,λH=>?_⟩;have J:(rdN Ls L f (zl L n)[m]).2=Tc:=by simpa using H
  refine V.bad (aB.trans ax) ?_;rw[if_neg (by rw[zti p J];simp)];have J:(rdN Ls L f (zl L n)[m]).2=Ta:=by simpa using H
  have aH:=V.call (aB.trans ax);refine⟨si,by have:=aH.box.cellAdd (o:=0) (k:=3) rfl;exact this,_,_,yk,Z,aV.ld (cs:=[_,_,slV yk,slV Z]),?_⟩;intro bC;have aY:=aH.push (.cells #[.int .i64 (rdN Ls L f (zl L n)[m]).1.kind,.string (rdN Ls L f (zl L n)[m]).1.text,slV yk,slV Z] 26);refine aY.item (by rw[ab];omega) (Blk.new _ _ _) (af.mono ax.le) λs' g2 am V2 z2 f2=>⟨s',rfl,?_⟩;refine V2.st3 λg3 V3 z3 f3=>⟨⟨m+1,a1,s',am,by rw[ju p (by omega)],p,λj D h=>?_,?_⟩,by rw[ju p (by omega)];simp only[Ai];omega⟩;by_cases e:j=m;subst e;exact J;exact A j D (by omega);rw[Aw p,Bf];exact V3;have aF:m=(zl L n).length:=by have:=ltF hc;omega
  subst aF;rw[A3]at V;refine V.done ⟨AX _,by rw[Ao];omega⟩ ?_;rw[if_pos (Av.2 λx y=>?_)];obtain⟨j,D,rfl⟩:=C9.1 y;exact A j D D
  ·rw[ze1]at y hy;have y:¬Zg Ls n=bl [91]:=of_decide_eq_false y;have hy:Zg Ls n=bl [123]:=of_decide_eq_true hy;rw[rdN,if_neg y,if_pos hy];refine yf (o:=0+0) zsh (by kernel_rfl) B1 (by show 0<4;omega) rfl λh6 B6 z6 f6=>?_;have B6:Blk h6 h.size #[.int .i64 6,.string ⟨#[]⟩,.slice Te 0 0,.slice Te 0 0]:=B6;have L6:Later h M h6 M:=Later.stay L1 (Ab _) nB f6 z6;obtain⟨c,sk,aa,Q,E⟩:=S.kids hn;have O:=(rowLen E).1;rw[Ao]at O;refine⟨⟨rb,0,Te⟩,rfl,s3,S.c2 L6.ag,c,aa,sk,Q _ L6.ag,λi g=>∃(m:Nat) (M':Fr) (sk si:Sl) (bk bi:List Nat),i=(m:Int)/\m<=(zl L n).length/\(∀j (D:j<(zl L n).length),j<m->(rdM Ls L (rdN Ls L f) (zl L n)[j]).2.2=Ta)/\VbM (h.size+1) h M h.size 6 sk si g M' (((zl L n).take m).map λk=>(rdM Ls L (rdN Ls L f) k).1) (((zl L n).take m).map λk=>(rdM Ls L (rdN Ls L f) k).2.1) sk si bk bi,λi _=>(zl L n).length-i.toNat,⟨0,M,⟨Te,0,0⟩,⟨Te,0,0⟩,[],[],rfl,AX _,λj _ h=>absurd h (Dc j),VbM.new L6 B6 (Ab _) (by omega) nB⟩,?_⟩;rintro i g ⟨m,M',tk,Y,bk,bi,rfl,U,A,V⟩;have ab:(((zl L n).take m).map λk=>(rdM Ls L (rdN Ls L f) k).1).length=m:=by rw[Ao,AK,CE U]
   have aG:(((zl L n).take m).map λk=>(rdM Ls L (rdN Ls L f) k).2.1).length=m:=by rw[Ao,AK,CE U]
   refine⟨λhc=>?_,λhc=>?_⟩
   ·have p:m<(zl L n).length:=by have:=ltT hc;omega
    have Sg:=S.mono V.L.le;obtain⟨b3,o3,e3,e4⟩:=zox V.L.ag (E.mono V.L.le) (k:=m) (by rw[Ao];exact p);rw[C4]at e4;refine⟨⟨b3,o3,Te⟩,⟨e3,by omega,by omega⟩,(((zl L n)[m]:Nat):Int),by rw[qd,Ai];exact e4,?_⟩;refine(im _ (AE p) g M' (hM.trans V.L.le) V.L.ag Sg).go λw P I r au C hr=>?_;generalize aC:rdM Ls L (rdN Ls L f) (zl L n)[m]=rr at hr;subst hr;obtain⟨yk,Z,rfl,af⟩:=qje C;refine⟨_,_,_,yk,Z,_,rfl,?_⟩;intro bD;refine xz au.ag λq aO bH bq=>⟨λH=>?_,λH=>?_⟩;have J:(rdM Ls L (rdN Ls L f) (zl L n)[m]).2.2=Tc:=by rw[aC];simpa using H
    refine V.bad (au.trans aO) ?_;rw[if_neg (by rw[zti p J];simp)]
    ·have J:(rdM Ls L (rdN Ls L f) (zl L n)[m]).2.2=Ta:=by rw[aC];simpa using H
     have aj:=V.call au;have an:=aj.call aO;have bF:=aj.lg;have ba:=an.box.cellAdd (o:=0) (k:=3) rfl;have bg:=an.box.cellAdd (o:=0) (k:=2) rfl;have F:∀c,c∈bk->c<P.size:=λc hc=>(aj.keys.own c hc).2.1;have ap:h.size∉bk:=λU=>by have:=(aj.keys.own _ U).1;omega
     have aZ:P.size∉bk:=λU=>by have:=F _ U;omega
     have bG:h.size<P.size:=by omega
     have fin:∀{g:zb} {s2 s3:Sl} {b2 b3:List Nat},VbM (h.size+1) h M h.size 6 tk Y g I ((((zl L n).take m).map λk=>(rdM Ls L (rdN Ls L f) k).1)++[r.1]) ((((zl L n).take m).map λk=>(rdM Ls L (rdN Ls L f) k).2.1)++[r.2.1]) s2 s3 b2 b3 ->
       XRunU Tp (Af 23 (.pointer (Td (Ad ⟨h.size,0,Te⟩ 2))) (slV s2)) g λbm=>XRunU Tp (Af 24 (.pointer (Td (Ad ⟨h.size,0,Te⟩ 3))) (slV s3)) bm λg=>(∃(m2:Nat) (M':Fr) (sk si:Sl) (bk bi:List Nat),Aa .i64 ((m:Int)+1)=(m2:Int)/\m2<=(zl L n).length/\(∀j (D:j<(zl L n).length),j<m2->(rdM Ls L (rdN Ls L f) (zl L n)[j]).2.2=Ta)/\VbM (h.size+1) h M h.size 6 sk si g M' (((zl L n).take m2).map λk=>(rdM Ls L (rdN Ls L f) k).1) (((zl L n).take m2).map λk=>(rdM Ls L (rdN Ls L f) k).2.1) sk si bk bi)/\(zl L n).length-(Aa .i64 ((m:Int)+1)).toNat<(zl L n).length-((m:Nat):Int).toNat:=by
      intro g s2 s3 b2 b3 W;refine W.st2 λg1 W1 _ _=>W1.st3 λg2 W2 _ _=>⟨⟨m+1,I,s2,s3,b2,b3,by rw[ju p (by omega)],p,λj D h=>?_,?_⟩,by rw[ju p (by omega)];simp only[Ai];omega⟩;by_cases e:j=m;subst e;exact J;exact A j D (by omega);rw[Aw p,Bf,Bf];rw[<-aC]at W2;exact W2
     refine⟨tk,bg,Y,ba,_,_,yk,Z,bq.ld (cs:=[_,_,slV yk,slV Z]),?_,?_⟩;intro t;have G:Keep q.size q t:=Keep.push _ _ (Ab _);have bJ:t.size=q.size+1:=Aj _;have aM:VbM (h.size+1) h M h.size 6 tk Y t I _ _ tk Y bk bi:=an.push _;have aQ:Blk t q.size #[.string r.1]:=Blk.new _ _ _;clear_value t;refine⟨G.get P.size (by omega),G.get h.size (by omega),G.get h.size (by omega),?_,?_⟩;refine aM.key (by rw[ab];omega) aQ λs' g2 az W2 z2 f2=>⟨s',rfl,(f2 P.size (by omega) aZ).trans (G.get P.size (by omega)),(f2 h.size (by omega) ap).trans (G.get h.size (by omega)),?_⟩;intro ak;have a8:Keep g2.size g2 ak:=Keep.push _ _ (Ab _);have a6:VbM (h.size+1) h M h.size 6 tk Y ak I _ _ s' Y az bi:=W2.push _;have be:Blk ak g2.size #[.int .i64 r.2.1.kind,.string r.2.1.text,slV yk,slV Z]:=Blk.new _ _ _;clear_value ak;refine⟨(a8.get h.size (by omega)).trans ((f2 h.size (by omega) ap).trans (G.get h.size (by omega))),?_⟩;exact a6.item (by rw[aG];omega) be af λai g3 am W3 _ _=>⟨ai,rfl,fin W3⟩;intro N;have aI:Keep t.size t N:=Keep.push _ _ (Ab _);have bA:N.size=t.size+1:=Aj _;have a7:VbM (h.size+1) h M h.size 6 tk Y N I _ _ tk Y bk bi:=aM.push _;have bn:Blk N t.size #[.int .i64 r.2.1.kind,.string r.2.1.text,slV yk,slV Z]:=Blk.new _ _ _;clear_value N;have aA:N[h.size]?=q[h.size]?:=(aI.get _ (by omega)).trans (G.get _ (by omega));refine⟨aA,aA,?_⟩;refine a7.key (by rw[ab];omega) (aQ.ofKeep aI) λs' g2 az W2 z2 f2=>⟨s',rfl,(f2 h.size (by omega) ap).trans aA,?_⟩;exact W2.item (by rw[aG];omega) (bn.keep (f2 t.size (by omega) λU=>by have:=F _ U;omega)) af λai g3 am W3 _ _=>⟨ai,rfl,fin W3⟩;intro b;have aJ:Keep q.size q b:=Keep.push _ _ (Ab _);have br:b.size=q.size+1:=Aj _;have aN:VbM (h.size+1) h M h.size 6 tk Y b I _ _ tk Y bk bi:=an.push _;have aT:Blk b q.size #[.int .i64 r.2.1.kind,.string r.2.1.text,slV yk,slV Z]:=Blk.new _ _ _;clear_value b;have ah:b[h.size]?=q[h.size]?:=aJ.get _ (by omega);refine⟨ah,ah,?_⟩;intro u;have ar:Keep b.size b u:=Keep.push _ _ (Ab _);have bu:u.size=b.size+1:=Aj _;have aS:VbM (h.size+1) h M h.size 6 tk Y u I _ _ tk Y bk bi:=aN.push _;have aU:Blk u b.size #[.string r.1]:=Blk.new _ _ _;clear_value u;have ae:u[h.size]?=q[h.size]?:=(ar.get _ (by omega)).trans ah;refine⟨ae,ae,?_⟩;refine aS.key (by rw[ab];omega) aU λs' g2 az W2 z2 f2=>⟨s',rfl,(f2 h.size (by omega) ap).trans ae,?_⟩;exact W2.item (by rw[aG];omega) ((aT.ofKeep ar).keep (f2 q.size (by omega) λU=>by have:=F _ U;omega)) af λai g3 am W3 _ _=>⟨ai,rfl,fin W3⟩
   have aF:m=(zl L n).length:=by have:=ltF hc;omega
   subst aF;rw[A3]at V;refine V.done ⟨by rw[Ao];omega,by rw[Ao];omega⟩ ?_;rw[if_pos (Av.2 λx y=>?_)];obtain⟨j,D,rfl⟩:=C9.1 y;exact A j D D
  ·rw[ze1]at y hy;have y:¬Zg Ls n=bl [91]:=of_decide_eq_false y;have hy:¬Zg Ls n=bl [123]:=of_decide_eq_false hy;rw[rdN,if_neg y,if_neg hy];refine⟨⟨rb,0,Te⟩,rfl,s1,S.c0 L1.ag,a,aP,Zg Ls n,aL,?_⟩;refine(z8j hg hb (s:=Zg Ls n) (R:=λr=>r=ya (Zg Ls n)) rfl).go (vs:=[.string (Zg Ls n)]) (hM.trans L1.le) L1.ag (qc (a:=Arg.mk .str _) (rdStr _) qt) λw h2 M2 r L2 C hr=>?_;subst hr;obtain⟨xk,xi,rfl,bj⟩:=z00 C;refine⟨_,_,xk,xi,_,rfl,?_⟩;have n2:M2 h.size=Te:=by rw[L2.old _ (by omega)];exact nB
   refine jw (B1.keep (L2.keep.get _ (by omega))) λg f z B=>?_;have Lg:Later h M g M2:=Later.stay (L1.trans L2) (Ab _) n2 f z;have Sg:=S.mono Lg.le;obtain⟨c,sk,aa,Q,E⟩:=Sg.kids hn;have O:=(rowLen E).1;rw[Ao]at O;have hq:(bif (ya (Zg Ls n)).2 then(((sk.len:Nat):Int)==0)else Tc)=((ya (Zg Ls n)).2&&decide (zl L n=[])):=by
    rw[O];cases hk:zl L n with
    |nil=>cases(ya (Zg Ls n)).2 <;> rfl
    |cons a l=>
     have e:(((a::l).length:Int)==0)=Tc:=by rw[beq_eq_false_iff_ne,Aq];omega
     rw[e];cases(ya (Zg Ls n)).2 <;> simp
   have AG:∀{g':zb},(∀j,j≠h.size->g'[j]?=g[j]?)->g'.size=g.size->Later h M g' M2:=λf z=>Later.stay Lg (Ab _) n2 f z;have fin:∀{g':zb},(∀j,j≠h.size->g'[j]?=g[j]?)->g'.size=g.size->∃M' r,Later h M g' M'/\Yv M' [.tree,.bool] r (.tuple #[.agg #[.int .i64 (ya (Zg Ls n)).1.kind,.string (ya (Zg Ls n)).1.text,slV xk,slV xi],.bool (bif (ya (Zg Ls n)).2 then(((sk.len:Nat):Int)==0)else Tc)])/\r=((ya (Zg Ls n)).1,(ya (Zg Ls n)).2&&decide (zl L n=[])):=λf z=>
    ⟨M2,_,AG f z,qj8 bj,by rw[hq]⟩
   repeat' first
    |exact rfl
    |refine⟨⟨rb,0,Te⟩,λ_=>rfl,?_⟩
    |refine⟨s3,λ_=>Sg.c2 Lg.ag,?_⟩
    |refine⟨s3,λ_=>Sg.c2 (AG f' z').ag,?_⟩
    |refine⟨c,λ_=>aa,?_⟩
    |refine⟨sk,λ_=>Q _ Lg.ag,?_⟩
    |refine⟨sk,λ_=>Q _ (AG f' z').ag,?_⟩
    |exact⟨_,_,xk,xi,B'.ld (cs:=[_,_,slV xk,slV xi]),fin f' z'⟩
    |refine⟨_,_,xk,xi,B.ld (cs:=[_,_,slV xk,slV xi]),?_⟩
    |refine jw B λg' f' z' B'=>?_
    |refine⟨?_,?_⟩
end
end Go.X
end
section
namespace Go.X
open Go Go.Lib
section
variable {ks:List Bt} {v x y a b:Tr}
theorem qb0{ys:List Tr}(b:ks.Nodup)(c:ks.length=ys.length):(ks.map λq=>zgu (ks.zip ys) q)=ys:=by have:=congrArg (List.map (·.2)) (zap ks ys b c);rw[A8,List.map_snd_zip (by omega)]at this;exact this
theorem zvz(h:ks.Nodup):(jm ks).Nodup:=(y5 ks).nodup_iff.2 h
theorem zkg:∀(n:Nat) (v:Tr),tsz v<=n->Q8 zn v=Ta->ze (ze v)=ze v
 |0,v,h,_=>by have:=Q2 v;omega
 |n+1,v,hz,hok=>by
  rw[y0,Ap,jk,Av]at hok;obtain⟨f,p⟩:=hok;have q:∀x∈v.items,ze (ze x)=ze x:=λx b=>zkg n x (by have:=yd b;omega) (p x b);have S:=zsv f;have hi:∀x∈(ze v).items,ze x=x:=λx b=>by obtain⟨y,l,rfl⟩:=AL.1 (S.ip.mem_iff.1 b);exact q y l
  have r:(ze v).items.map ze=(ze v).items:=by
   conv=>rhs;rw[<-Eu (ze v).items]
   exact CX λx b=>hi x b
  rw[y8 (ze v),S.k,r];by_cases c:v.kind=6;rw[if_pos c];obtain⟨m,o⟩:=zbc f c;have e:(ze v).keys=jm v.keys:=by rw[y8,if_pos c]
  have i:jm (ze v).keys=(ze v).keys:=by rw[e];exact Qk (y5 _)
  rw[i,qb0 (by rw[e];exact zvz m) (by rw[S.kp.length_eq,S.ip.length_eq,Ao];exact o),<-S.k];generalize ze v=w;cases w;rfl;rw[if_neg c];have e:(ze v).keys=[]:=by rw[y8,if_neg c]
  rw[<-e,<-S.k];generalize ze v=w;cases w;rfl
theorem ztj(h:qa v=Ta):Q8 okV v=Ta/\Q8 zn v=Ta:=by have e:qa v=(Zf v&&Q8 okV v):=rfl;rw[e,Ap]at h;exact⟨h.2,zam (λx b=>by unfold okV at b;rw[Ap]at b;exact b.2) v h.2⟩
theorem z8k(h:Zx v=Ta):Q8 zn v=Ta:=by unfold Zx at h;rw[Ap]at h;exact h.2
theorem z8l(b:qa v=Ta)(c:jg (ze v)<=512):zbv (ze v) (unz (Qc (ze v) 0)):= ⟨by rw[zgv (Jr b)];exact b,zkg _ v (Ab _) (ztj b).2,c,rfl⟩
theorem zkh{α:Type}[DecidableEq α]:∀{xs ys:List α},xs.Nodup->(∀x∈xs,x∈ys)->xs.length<=ys.length
 |[],ys,_,_=>AX _
 |x::xs,ys,hn,h=>by
  rw[Ba]at hn;have f:=h x Am;have:=zkh (ys:=ys.erase x) hn.2 λy c=>by have b:y≠x:=λe=>hn.1 (e ▸ c);exact(List.mem_erase_of_ne b).2 (h y (Ae _ c))
  have i:=List.length_pos_of_mem f;rw[List.length_erase_of_mem f]at this;rw[Aq];omega
theorem qb1{xs ys:List Bt}(c:xs.Nodup)(b:ys.Nodup)(i:xs.length=ys.length)(h:∀x∈xs,x∈ys):xs.Perm ys:=by
 refine(List.perm_ext_iff_of_nodup c b).2 λz=>⟨h z,λe=>?_⟩;refine C0 λf=>?_;have:=zkh (xs:=z::xs) (ys:=ys) (Ba.2 ⟨f,c⟩) λy b=>by rcases Ah.1 b with rfl|b;exact e;exact h y b
 rw[Aq]at this;omega
theorem zpo(f:Tr->Tr)(q:Bt):∀(ks:List Bt) (ys:List Tr),ks.length=ys.length->q∈ks->zgu (ks.zip (ys.map f)) q=f (zgu (ks.zip ys) q)
 |[],_,_,h=>by cases h
 |z::ks,[],h,_=>by simp at h
 |z::ks,y::ys,h,hk=>by rw[Ar,B0,B0,zgu,zgu];by_cases b:z=q;rw[if_pos b,if_pos b];rw[if_neg b,if_neg b];rcases Ah.1 hk with e|e;exact absurd e.symm b;exact zpo f q ks ys (by simpa using h) e
def zv0(kb:List Bt)(ys:List Tr)(q:Tr->Tr->Bool)(k:Bt)(x:Tr):Bool:=decide (k∈kb)&&q x (zgu (kb.zip ys) k)
noncomputable def ztk(x y:Tr):Bool:=@decide (ze x=ze y) (Classical.propDecidable _)
theorem zki:ztk x y=Ta↔ze x=ze y:=@decide_eq_true_iff _ (Classical.propDecidable _)
theorem z8m(h:¬ze x=ze y):ztk x y=Tc:=@decide_eq_false _ (Classical.propDecidable _) h
theorem qb2(r:zn a=Ta)(u:zn b=Ta)(i:a.kind=6)(n:a.kind=b.kind)(t:a.text=b.text)(w:a.items.length=b.items.length):((a.keys.zip a.items).all λp=>zv0 b.keys b.items ztk p.1 p.2)=Ta↔ze a=ze b:=by
 obtain⟨na,o⟩:=zbc r i;obtain⟨s,lb⟩:=zbc u (by rw[<-n];exact i);have m:=zap a.keys a.items na o;rw[y8 a,y8 b,if_pos i,if_pos (by rw[<-n];exact i),Av];have key:∀q∈a.keys,q∈b.keys->(zv0 b.keys b.items ztk q (zgu (a.keys.zip a.items) q)=Ta↔zgu (a.keys.zip (a.items.map ze)) q=zgu (b.keys.zip (b.items.map ze)) q):=λq c e=>by rw[zpo ze q _ _ o c,zpo ze q _ _ lb e];unfold zv0;rw[Ap,decide_eq_true_eq,zki];exact⟨λh=>h.2,λh=>⟨e,h⟩⟩
 constructor;intro H;have c:∀q∈a.keys,zv0 b.keys b.items ztk q (zgu (a.keys.zip a.items) q)=Ta:=λq c=>by
  have:(q,zgu (a.keys.zip a.items) q)∈a.keys.zip a.items:=by rw[<-m];exact AL.2 ⟨q,c,by rw[m]⟩
  exact H _ this
 have f:∀q∈a.keys,q∈b.keys:=λq h=>by have:=c q h;unfold zv0 at this;rw[Ap,decide_eq_true_eq]at this;exact this.1
 have k:=qb1 na s (by omega) f;rw[<-Qk k,n,t];congr 1;refine CX λq h=>?_;have h:=(y5 _).mem_iff.1 h;exact(key q h (f q h)).1 (c q h);intro H p k;injection H with e1 e2 e3 e4;have l:a.keys.Perm b.keys:=(y5 a.keys).symm.trans (e3 ▸ y5 b.keys);rw[<-e3]at e4;rw[<-m]at k;obtain⟨q,c,rfl⟩:=AL.1 k;exact(key q c (l.mem_iff.1 c)).2 (List.map_inj_left.1 e4 q ((y5 _).mem_iff.2 c))
theorem zyp:∀(xs ys:List Tr),xs.length=ys.length->(((xs.zip ys).all λp=>ztk p.1 p.2)=Ta↔xs.map ze=ys.map ze)
 |[],[],_=>by simp
 |[],_::_,h=>by simp at h
 |_::_,[],h=>by simp at h
 |x::xs,y::ys,h=>by rw[B0,DJ,Ap,zyp xs ys (by simpa using h),Ar,Ar,BV];rw[zki]
theorem qb3(e:¬a.kind=6)(c:a.kind=b.kind)(f:a.text=b.text)(h:a.items.length=b.items.length):((a.items.zip b.items).all λp=>ztk p.1 p.2)=Ta↔ze a=ze b:=by rw[zyp _ _ h,y8 a,y8 b,if_neg e,if_neg (by rw[<-c];exact e),c,f];simp
theorem zpp(f:zn a=Ta)(i:zn b=Ta)(h:a.kind≠b.kind\/a.text≠b.text\/a.items.length≠b.items.length):¬ze a=ze b:=λe=>by have A:=zsv f;have B:=zsv i;rcases h with h|h|h;exact h (by rw[<-A.k,<-B.k,e]);exact h (by rw[<-A.t,<-B.t,e]);refine h ?_;have h1:=A.ip.length_eq;have c:=B.ip.length_eq;rw[Ao]at h1 c;rw[<-h1,<-c,e]
mutual
def ztn:Tr->Nat
 |.mk _ _ ks xs=>ks.length+xd xs
def xd:List Tr->Nat
 |[]=>0
 |x::l=>ztn x+xd l
end
theorem z8n(v:Tr):ztn v=v.keys.length+xd v.items:=by cases v;rw[ztn]
theorem z02{l:List Tr}{k:Nat}(h:k<l.length):xd (l.take (k+1))=xd (l.take k)+ztn l[k]:=by
 have app:∀(a b:List Tr),xd (a++b)=xd a+xd b:=by
  intro a b;induction a with
  |nil=>rw[xd,A5,AI]
  |cons x a c=>rw[AD,xd,xd,c,CP]
 rw[Aw h,app,xd,xd,C7]
theorem zpq(d:Nat):∀l:List Tr,zaq d l=(l.map λx=>jg x+d).sum
 |[]=>rfl
 |x::l=>by rw[zaq,zpq d l,Ar,List.sum_cons]
theorem z8o(d:Nat):∀{l:List Tr},(∀x∈l,jg (ze x)=tsz x+ztn x)->zaq d (l.map ze)=w9 l+xd l+l.length*d
 |[],_=>by simp[zaq,w9,xd]
 |x::l,h=>by rw[Ar,zaq,z8o d λy b=>h y (Ae _ b),h x Am,w9,xd,Aq,C6];omega
theorem zmz:∀(n:Nat) (v:Tr),tsz v<=n->Q8 okV v=Ta->jg (ze v)=tsz v+ztn v
 |0,v,h,_=>by have:=Q2 v;omega
 |n+1,v,hz,hok=>by
  have o:=zeq hok;have p:zn v=Ta:=by unfold okV at o;rw[Ap]at o;exact o.2
  have s:∀x∈v.items,jg (ze x)=tsz x+ztn x:=λx c=>zmz n x (by have:=yd c;omega) (Jo hok c);have S:=zsv p;have e:∀d,zaq d (ze v).items=w9 v.items+xd v.items+v.items.length*d:=λd=>by rw[zpq,zx8 (S.ip.map λx=>jg x+d),<-zpq,z8o d s]
  rw[zvr,S.k,yh,z8n];have b:v.kind≠5->v.kind≠6->v.keys=[]->v.items=[]->(if v.kind=6 then zaq 1 (ze v).items else if v.kind=5 then zaq 0 (ze v).items else 0)+1=1+w9 v.items+(v.keys.length+xd v.items):=λl m f hi=>by rw[if_neg m,if_neg l,f,hi];rfl
  rcases zew o with⟨k,_,q,i⟩|⟨k,_,q,i⟩|⟨k,_,q,i⟩|⟨k,_,q,i⟩|⟨k,t,q⟩|⟨k,u,r,t⟩;exact b (by omega) (by omega) q i;exact b (by omega) (by omega) q i;exact b (by omega) (by omega) q i;exact b (by omega) (by omega) q i;rw[if_neg (by omega),if_pos k,e,q];simp only[AR];omega;rw[if_pos k,e,r];omega
end
end Go.X
end
section
namespace Go.X
open Go Go.X Go.Proofs Go.RowKit
section
variable {u m:Nat} {M:Fr} {w:Value}
theorem ql1:ElemT Tp 137 59 (.slice Te 0 0) 1 24:=⟨by kernel_rfl,⟨Tryz.t59,by kernel_rfl,by kernel_rfl,by kernel_rfl,by kernel_rfl⟩,rfl,by decide⟩
structure KdS (lo:Nat) (h0:zb) (M0:Fr) (kb rb:Nat) (c1 c2 c3:Sl) (g:zb) (M:Fr) (K:List (List Int)) (ss:List Sl) (bf:Nat->List Nat):Prop where
 L:Later h0 M0 g M
 kbk:Blk g kb (ss.map slV).toArray
 rbk:Blk g rb #[slV c1,slV c2,slV c3]
 ln:ss.length=K.length
 row:∀i (hi:i<K.length) (hi2:i<ss.length),ORow lo g M (.int .i64) K[i] ss[i] (bf i)
 dj:∀i j,i<K.length->j<K.length->i≠j->∀c∈bf i,c∉bf j
 hk:h0.size<=kb
 kr:kb<rb
 rl:rb<lo
 lg:lo<=g.size
 nk:M kb=Te
 nr:M rb=Te
section
variable {lo : Nat} {h0 : zb} {M0 : Fr} {kb rb : Nat} {c1 c2 c3 : Sl} {g : zb} {M : Fr} {K : List (List Int)} {ss : List Sl} {bf : Nat -> List Nat}
theorem KdS.push(S:KdS lo h0 M0 kb rb c1 c2 c3 g M K ss bf)(o:Obj):KdS lo h0 M0 kb rb c1 c2 c3 (g.push o) M K ss bf:=by have L:=Later.push S.L.ag o;exact⟨S.L.trans L,S.kbk.ofKeep L.keep,S.rbk.ofKeep L.keep,S.ln,λi hi hi2=>(S.row i hi hi2).call L,S.dj,S.hk,S.kr,S.rl,by have:=S.lg;have:=L.keep.size;omega,S.nk,S.nr⟩
theorem KdS.add(S:KdS lo h0 M0 kb rb c1 c2 c3 g M K ss bf)(o:u<K.length)(s:u<ss.length)(H:K[u].length<=1000000){bv:Nat}{x:Int}(E:Blk g bv #[.int .i64 x]){Q:zb->Prop} (U:∀g' q y,KdS lo h0 M0 kb rb c1 c2 c3 g' M (K.set u (K[u]++[x])) (ss.set u q) y->Q g'):
  XRun Tp (Au #[59,59] 59 #[slV ss[u],.slice (Td ⟨bv,0,Te⟩) 1 1]) g λv p=>∃z:Sl,v=slV z/\p[rb]?=g[rb]?/\XRunU Tp (Af 59 (.pointer (Td ((⟨kb,0,Te⟩:Addr).add (u*1)))) (slV z)) p Q:=by
 have D:=S.hk;have P:=S.kr;have I:=S.rl;have N:=S.lg;have own:∀i,i<K.length->∀c∈bf i,lo<=c/\c<g.size/\M c=Te:=λi hi=>(S.row i hi (by rw[S.ln];exact hi)).own;refine ORow.app z0n (by omega) S.L.ag (S.row u o s) N (vs:=[.int .i64 x]) E rfl H λq p C r z w f=>⟨q,rfl,f rb (by omega) (λb=>by have:=(own u o _ b).1;omega),?_⟩;rw[zi,AI,Ci];have F:p[kb]?=g[kb]?:=f kb (by omega) λb=>by have:=(own u o _ b).1;omega
 have J:p[rb]?=g[rb]?:=f rb (by omega) λb=>by have:=(own u o _ b).1;omega
 have m:∀c∈C,lo<=c/\c<p.size/\M c=Te:=r.own;refine yf okF szF (S.kbk.keep F) (by simp;exact s) rfl λO G z2 t=>U O q (λj=>if j=u then C else bf j) ⟨⟨⟨by have:=S.L.keep.size;omega,λj n=>?_⟩,S.L.le,S.L.old,λc cs e=>?_⟩,?_,?_,by rw[CY,CY];exact S.ln,λi hi hi2=>?_,λi j hi n l c k b=>?_,D,P,I,by omega,S.nk,S.nr⟩;rw[t j (by omega),f j (by omega) λb=>by have:=(own u o _ b).1;omega];exact S.L.keep.get j n;rw[t c (λh=>by subst h;rw[S.nk]at e;cases e),f c (S.L.ag.lt e) λb=>by have:=(own u o _ b).2.2;rw[this]at e;cases e];exact S.L.ag c cs e;have e:(ss.map slV).toArray.setIfInBounds u (slV q)=((ss.set u q).map slV).toArray:=by rw[List.map_set];simp
 rw[<-e];exact G;exact(S.rbk.keep J).keep (t rb (by omega));rw[CY]at hi hi2;by_cases e:i=u;subst e;rw[DK,DK];simp only[if_pos];exact r.frame (λc k=>t c (by have:=(m c k).1;omega)) (Fr.le.refl _) λc k=>(m c k).2.2;rw[List.getElem_set_ne (λh=>e h.symm),List.getElem_set_ne (λh=>e h.symm)];simp only[if_neg e];refine(S.row i hi hi2).frame (λc k=>?_) (Fr.le.refl _) λc k=>(own i hi c k).2.2;rw[t c (by have:=(own i hi c k).1;omega)];exact f c (own i hi c k).2.1 λb=>S.dj i u hi o e c k b;rw[CY]at hi n;by_cases e:i=u;subst e;have A:¬j=i:=λh=>l h.symm;simp only[if_pos]at k;simp only[if_neg A]at b;rcases w c k with h|h;exact S.dj i j hi n l c h b;have:=(own j n c b).2.1;omega;simp only[if_neg e]at k;by_cases B:j=u;subst B;simp only[if_pos]at b;rcases w c b with h|h;exact S.dj i j hi n l c k h;have:=(own i hi c k).2.1;omega;simp only[if_neg B]at b;exact S.dj i j hi n l c k b
theorem KdS.fin(S:KdS lo h0 M0 kb rb c1 c2 c3 g M K ss bf)(n:K.length<=1000000)(h:∀x∈K,x.length<=1000000):∃M',Later h0 M0 g M'/\Fr.le M M'/\M' rb=Td #[slV c1,slV c2,slV c3]/\Rd M' (.row (.row (.int .i64))) K [slV ⟨Td ⟨kb,0,Te⟩,K.length,K.length⟩]:=by
 have k:=S.hk;have r:=S.kr;have o:=S.rl;have p:=S.lg;have own:∀i,i<K.length->∀c∈bf i,lo<=c/\c<g.size/\M c=Te:=λi hi=>(S.row i hi (by rw[S.ln];exact hi)).own;refine⟨MxL M g (kb::rb::(Bl K.length).flatMap bf),Later.own S.L λc b=>?_,zej S.L.ag _,MxL.at (by simp) S.rbk,⟨_,rfl,Td ⟨kb,0,Te⟩,K.length,rfl,⟨by omega,by omega⟩,.inr ⟨kb,0,_,rfl,MxL.at (by simp) S.kbk,λi hi=>?_⟩⟩⟩;rcases Ah.1 b with rfl|b;exact k;rcases Ah.1 b with rfl|b;omega;obtain⟨i,hi,l⟩:=Cw.1 b;have:=(own i (A1.1 hi) c l).1;omega;have hi2:i<ss.length:=by rw[S.ln];exact hi
 have e:cut (ss.map slV).toArray (0+i*sz (.row (.int .i64))) (sz (.row (.int .i64)))=[slV ss[i]]:=by
  show cut (ss.map slV).toArray (0+i*1) 1=[slV ss[i]];refine zan rfl λq m=>?_;have f:q=0:=by omega
  subst f;simp[hi2]
 rw[e];exact(S.row i hi hi2).rd S.L.ag (λc b=>Ae _ (Ae _ (Cw.2 ⟨i,A1.2 hi,b⟩))) (h _ (AE hi))
end
def zko(L:List Int)(m:Nat):List (List Int):=(Bl L.length).map λk:Nat=>((Bl m).filter λi=>decide (zdf L L.length i=(k:Int))).map λi:Nat=>(i:Int)
theorem ze2(L:List Int)(m:Nat):(zko L m).length=L.length:=by unfold zko;rw[Ao,Dp]
theorem qb4(L:List Int):zko L L.length=z0z L:=rfl
theorem z8p(L:List Int):zko L 0=BE L.length []:=by unfold zko;apply List.ext_getElem;simp;intro i h1 b;simp
theorem z8q{L:List Int}(h:zdf L L.length m<0):zko L (m+1)=zko L m:=by unfold zko;refine CX λk _=>?_;rw[Do,List.filter_append,Cr,if_neg (by rw[decide_eq_true_eq];omega),List.filter_nil,AQ]
theorem z8r{L:List Int}(h:zdf L L.length m=(u:Int))(c:u<(zko L m).length):zko L (m+1)=(zko L m).set u ((zko L m)[u]++[(m:Int)]):=by apply List.ext_getElem;rw[CY,ze2,ze2];intro i h1 f;rw[ze2]at h1;have e:∀m,(b:i<(zko L m).length)->(zko L m)[i]=((Bl m).filter λj=>decide (zdf L L.length j=(i:Int))).map λj:Nat=>(j:Int):=λm b=>Az ((Al b).symm.trans (by unfold zko;rw[Bn,List.getElem?_range h1];rfl));rw[e];by_cases hi:u=i;subst hi;rw[DK,e,Do,List.filter_append,Cr,if_pos (decide_eq_true h),Bf];rfl;rw[List.getElem_set_ne hi,e,Do,List.filter_append,Cr,if_neg (by rw[decide_eq_true_eq];omega),List.filter_nil,AQ]
theorem z8s{L:List Int}:∀x∈zko L m,x.length<=m:=λx b=>by unfold zko at b;obtain⟨k,_,rfl⟩:=AL.1 b;rw[Ao];exact Ck (List.length_filter_le _ _) (by simp)
theorem ql2{r:List Int×Bool}(h:Yv M [.row (.int .i64),.bool] r w):∃s:Sl,w=.tuple #[slV s,.bool r.2]/\Rd M (.row (.int .i64)) r.1 [slV s]:=by
 obtain⟨vs,⟨i,rest,rfl,f,c,rfl,b⟩,rfl⟩:=h;obtain⟨s,rfl,e⟩:=z3l f;have b:c=.bool r.2:=by have:=(zfw rfl).1 b;simpa[Rd]using this
 subst b;exact⟨s,rfl,e⟩
theorem qdi{r:(List Bt×List Int)×Int}(h:Yv M [.pair (.row .str) (.row (.int .i64)),.int .i64] r w):∃s1 s2:Sl,w=.tuple #[.agg #[slV s1,slV s2],.int .i64 r.2]/\Rd M (.row .str) r.1.1 [slV s1]/\Rd M (.row (.int .i64)) r.1.2 [slV s2]:=by obtain⟨vs,⟨i,rest,rfl,c,f,rfl,b⟩,rfl⟩:=h;obtain⟨s1,s2,rfl,h1,e⟩:=qj6 c;rw[j4 b];exact⟨s1,s2,rfl,h1,e⟩
end
end Go.X
end
section
namespace Go.X
open Go Go.X Go.Proofs Go.Lib
section
variable {gl M:Fr} {F:FuncId} {xs ys:List Tr} {h:zb}
theorem z8t(hF:zh Tp F=Ta){q:Tr->Tr->Bool}(hp:∀x∈xs,∀y∈ys,PC Tp gl F [Arg.mk .tree x,Arg.mk .tree y] [.bool] (λr=>r=q x y)){s1 s2:Sl}(hM:Fr.le gl M)(ag:AgM M h) (r1:Rd M (.row .tree) xs [slV s1]) (r2:Rd M (.row .tree) ys [slV s2]):
  PX Tp 194 #[slV s1,slV s2,.func (.func F) #[] #[]] h M [.bool] (λr=>r=(decide (xs.length=ys.length)&&(xs.zip ys).all λp=>q p.1 p.2)):=by
 obtain⟨S,n1,_⟩:=rowLen r1;obtain⟨l2,n2,_⟩:=rowLen r2;apply PX.of;apply qj s1 s2 F #[] #[];refine⟨λt=>⟨M,_,Later.refl ag,Xe.2 (rdBool _),?_⟩,λt=>?_⟩;have:¬xs.length=ys.length:=by rw[S,l2]at t;simp at t;omega
 simp[this];have af:xs.length=ys.length:=by rw[S,l2]at t;simp at t;omega
 refine⟨λi g=>∃(k:Nat) (M':Fr),i=(k:Int)/\k<=xs.length/\Later h M g M'/\((xs.zip ys).take k).all (λp=>q p.1 p.2)=Ta,λi _=>xs.length-i.toNat,⟨0,M,rfl,AX _,Later.refl ag,by simp⟩,?_⟩;rintro i g ⟨k,M',rfl,hk,L,c⟩;refine⟨λs=>?_,λs=>?_⟩;have l:k<xs.length:=by rw[S]at s;simp at s;omega
 have E:k<ys.length:=by omega
 obtain⟨a,z,G,ea,U,t1,t2⟩:=zd8 L.ag (r1.mono L.le) l;refine⟨a,⟨ea,by omega,by omega⟩,xs[k].kind,xs[k].text,z,G,by rw[Ai];exact U,?_⟩;intro m;have Z:Keep g.size g m:=Keep.push _ _ (Ab _);have ah:Blk m g.size (wu 0 ⟨#[]⟩ ⟨Te,0,0⟩ ⟨Te,0,0⟩).toArray:=Blk.new _ _ _;have ar:m.size=g.size+1:=Aj _;clear_value m;refine zek ah rfl _ _ _ _ λb aj au ab=>?_;have A:Keep g.size g b:=⟨by omega,λj hj=>by rw[ab j (by omega)];exact Z.get j hj⟩;have H:=L.ag.keep A;obtain⟨a2,P,Q,am,D,t3,t4⟩:=zd8 H (r2.mono L.le) E;refine⟨a2,⟨am,by omega,by omega⟩,ys[k].kind,ys[k].text,P,Q,by rw[Ai];exact D,?_⟩;intro n;have u:Keep b.size b n:=Keep.push _ _ (Ab _);have Y:Blk n b.size (wu 0 ⟨#[]⟩ ⟨Te,0,0⟩ ⟨Te,0,0⟩).toArray:=Blk.new _ _ _;have ax:n.size=b.size+1:=Aj _;clear_value n;refine zek Y rfl _ _ _ _ λf ak an O=>?_;have C:Blk f g.size (wu xs[k].kind xs[k].text z G).toArray:=(aj.ofKeep u).keep (O _ (by omega));have aa:Keep g.size g f:=⟨by omega,λj hj=>by rw[O j (by omega),u.get j (by omega)];exact A.get j hj⟩;have e:Later h M f M':=L.trans (Later.same L.ag aa);refine⟨xs[k].kind,xs[k].text,z,G,C.ld (cs:=wu xs[k].kind xs[k].text z G),ys[k].kind,ys[k].text,P,Q,ak.ld (cs:=wu ys[k].kind ys[k].text P Q),hF,?_⟩;have o:=(hp xs[k] (AE l) ys[k] (AE E)).px (h:=f) (M:=M') (vs:=[.agg #[.int .i64 xs[k].kind,.string xs[k].text,slV z,slV G],.agg #[.int .i64 ys[k].kind,.string ys[k].text,slV P,slV Q]]) (hM.trans e.le) e.ag (qc (qf t1 t2) (qc (qf t3 t4) qt));refine o.go λw ap I r B N hr=>?_;have hr:r=q xs[k] ys[k]:=hr;subst hr;have J:(xs.zip ys).take (k+1)=(xs.zip ys).take k++[(xs[k],ys[k])]:=by rw[Aw (by simp;omega)];simp
 refine⟨q xs[k] ys[k],zhq N,λhf=>⟨I,_,e.trans B,Xe.2 (rdBool _),?_⟩,λht=>?_⟩;have ae:q xs[k] ys[k]=Tc:=by simpa using hf
 have:(xs.zip ys).all (λp=>q p.1 p.2)=Tc:=by rw[List.all_eq_false];exact⟨(xs[k],ys[k]),C9.2 ⟨k,by simp;omega,by simp⟩,by simp[ae]⟩
 rw[this,Bool.and_false];have V:q xs[k] ys[k]=Ta:=by simpa using ht
 rw[ju l (by omega)];refine⟨⟨k+1,I,rfl,l,e.trans B,?_⟩,by simp only[Ai];omega⟩;rw[J,DG,c];simp[V];have ai:k=xs.length:=by rw[S]at s;simp at s;omega
 subst ai;refine⟨M',_,L,Xe.2 (rdBool _),?_⟩;rw[BG (by simp;omega)]at c;rw[c];simp[af]
theorem z8u{l:List Bt}(h:l.Nodup){i j:Nat}(hi:i<l.length)(b:j<l.length)(e:l[i]=l[j]):i=j:=by unfold List.Nodup at h;rw[List.pairwise_iff_getElem]at h;rcases Nat.lt_trichotomy i j with h1|h1|h1;exact absurd e (h i j hi b h1);exact h1;exact absurd e.symm (h j i b hi h1)
theorem z8v{a b:Bt}(h:AZ a=AZ b):a=b:=by injection h
theorem qb5(ks:List Bt)(us:List Value)(h:ks.length=us.length):(zbm (ks.zip us)).map (·.1)=ks.map AZ:=by
 unfold zbm;rw[A8];have:(ks.zip us).map (λp=>AZ p.1)=(ks.zip us).unzip.1.map AZ:=by simp
 show(ks.zip us).map (λp=>AZ p.1)=_;rw[this,List.unzip_zip h]
theorem z8w{ks:List Bt}(h:ks.Nodup):(ks.map AZ).Nodup:=by
 induction ks with
 |nil=>simp
 |cons k ks c=>rw[Ba]at h;rw[Ar,Ba];refine⟨λf=>?_,c h.2⟩;obtain⟨x,b,e⟩:=AL.1 f;exact h.1 (z8v e ▸ b)
set_option maxHeartbeats 2000000 in
theorem z8x(hF:zh Tp F=Ta){q:Tr->Tr->Bool}{f kb:List Bt}{z m:List Value}(aj:f.Nodup)(la:f.length=xs.length)(a6:kb.length=ys.length)(aZ:z.length=xs.length)(a7:m.length=ys.length)(aV:xs.length<=1000000000000/\ys.length<=1000000000000) (hp:∀x∈xs,∀y∈ys,PC Tp gl F [Arg.mk .tree x,Arg.mk .tree y] [.bool] (λr=>r=q x y)) {t m2:Nat} (hM:Fr.le gl M) (ag:AgM M h) (w1:MapW h t (zbm (f.zip z))) (w2:MapW h m2 (zbm (kb.zip m))) (ra:∀i (h1:i<xs.length) (h2:i<z.length),RdV M .tree xs[i] z[i]) (rb:∀i (h1:i<ys.length) (h2:i<m.length),RdV M .tree ys[i] m[i]):
  PX Tp 195 #[.map (Td t),.map (Td m2),.func (.func F) #[] #[]] h M [.bool] (λr=>r=(decide (xs.length=ys.length)&&(f.zip xs).all λp=>zv0 kb ys q p.1 p.2)):=by
 apply PX.of;apply zq (Td t) (Td m2) F #[] #[];have L1:(zbm (f.zip z)).length=xs.length:=by unfold zbm;simp;omega
 have B:(zbm (kb.zip m)).length=ys.length:=by unfold zbm;simp;omega
 have S:=z7e (P:=Tp) (ty:=3) mapVal.map w1;have Q:=z7e (P:=Tp) (ty:=3) mapVal.map w2;rw[L1]at S;rw[B]at Q;refine⟨xs.length,S,ys.length,Q,λhx=>⟨M,_,Later.refl ag,Xe.2 (rdBool _),?_⟩,λhx=>?_⟩;have:¬xs.length=ys.length:=by simp at hx;omega
 simp[this];have aM:xs.length=ys.length:=by simp at hx;omega
 have aT:=w1.lt;have aA:=w2.lt;have aG:((zbm (f.zip z)).map (·.1)).Nodup:=by rw[qb5 _ _ (by omega)];exact z8w aj
 refine zo0 mapVal.map w1 λh4 z4 k4 aO=>⟨Td ⟨h.size,0,Te⟩,rfl,?_⟩;refine⟨λg=>∃dn M',MapIt g h.size t (zbm (f.zip z)) dn/\Later h M g M'/\h.size<g.size/\∀i (h1:i<f.length) (h2:i<xs.length),AZ f[i]∈dn->zv0 kb ys q f[i] xs[i]=Ta,λg=>leftN g h.size t,⟨[],M,aO,Later.same ag k4,by omega,λi _ _ hm=>(by cases hm)⟩,?_⟩;rintro g ⟨dn,M',it,L,zg,ak⟩;have kg:=L.keep;refine zvm it aG (by omega) (λar=>.inl ⟨rfl,(λU=>(by cases U)),λ_=>⟨M',_,L,Xe.2 (rdBool _),?_⟩⟩) λk u af hk D aP ax z1 f1 az=>.inr ⟨k,u,rfl,λ_=>?_,λU=>(by cases U)⟩;have aC:((f.zip xs).all λp=>zv0 kb ys q p.1 p.2)=Ta:=by rw[Av];intro p V;obtain⟨i,hi,e⟩:=List.getElem_of_mem V;rw[List.length_zip,Nat.lt_min]at hi;have:=ak i hi.1 hi.2 (ar (.string f[i],z[i]) (by unfold zbm;refine AL.2 ⟨(f[i],z[i]),C9.2 ⟨i,by simp;omega,by simp⟩,rfl⟩));rw[<-e];simpa using this
 rw[aC];simp[aM]
 ·obtain⟨i,aQ,hi2,ek,eu⟩:∃i,∃(h1:i<f.length) (h2:i<z.length),k=.string f[i]/\u=z[i]:=by unfold zbm at af;obtain⟨p,V,e⟩:=AL.1 af;obtain⟨i,hi,I⟩:=List.getElem_of_mem V;rw[List.length_zip,Nat.lt_min]at hi;simp at I;injection e with e3 e4;exact⟨i,hi.1,hi.2,by rw[<-e3,<-I],by rw[<-e4,<-I]⟩
  subst ek;subst eu;have au:i<xs.length:=by omega
  have aB:Keep h.size h D:=⟨by omega,λj N=>by rw[f1 j (by omega)];exact kg.get j N⟩;have ai:AgM M' D:=λb c e=>by obtain⟨T,mm,I⟩:=L.ag b c e;by_cases hb:b=h.size;subst hb;obtain⟨_,_,_,_,_,e3,_⟩:=it;rw[e3]at I;cases I;exact⟨T,mm,by rw[f1 b hb];exact I⟩
  refine zo1 ax ⟨_,_,rfl,?_⟩;intro H;have aI:Keep D.size D H:=Keep.push _ _ (Ab _);have aF:Blk H D.size (wu 0 ⟨#[]⟩ ⟨Te,0,0⟩ ⟨Te,0,0⟩).toArray:=Blk.new _ _ _;have aY:H.size=D.size+1:=Aj _;clear_value H;obtain⟨ck,ci,eu,t1,t2⟩:=yz (ra i au hi2);rw[eu];refine zek aF rfl _ _ _ _ λs aE a1 aJ=>?_;have Z:Keep D.size D s:=⟨by omega,λj N=>by rw[aJ j (by omega)];exact aI.get j N⟩;have aU:=ai.keep Z;have aS:MapW s m2 (zbm (kb.zip m)):=w2.keep ((Z.get _ (by omega)).trans (aB.get _ aA));have n:=J8 mapVal aS.at f[i] Ta;simp only[if_true]at n;obtain⟨y,G,J,hget,t3,t4,hm1⟩:∃(y:Tr) (G J:Sl),zwd (kb.zip m) f[i] (.agg #[.int .i64 0,.string ⟨#[]⟩,.slice Te 0 0,.slice Te 0 0])=.agg #[.int .i64 y.kind,.string y.text,slV G,slV J]/\RdV M .tree y (.agg #[.int .i64 y.kind,.string y.text,slV G,slV J]) /\
    ((zde (kb.zip m) f[i]).isSome=Ta->y∈ys)/\zv0 kb ys q f[i] xs[i]=((zde (kb.zip m) f[i]).isSome&&q xs[i] y):=by
   by_cases hk:f[i]∈kb;obtain⟨j,q1,q2,q3,q4,q5⟩:=zo3 f[i] kb ys (by omega) hk;have g3:=q5 m (by omega);have N:j<m.length:=by omega
   rw[Al N]at g3;obtain⟨G,J,ew,t3,t4⟩:=yz (rb j q2 N);refine⟨ys[j],G,J,by unfold zwd;rw[g3];exact ew,by rw[<-ew];exact rb j q2 N,λ_=>AE q2,?_⟩;rw[g3];unfold zv0;rw[decide_eq_true hk,q4];rfl;have O:zde (kb.zip m) f[i]=Te:=zst (by rw[D4 (by omega)];exact hk);refine⟨noT,⟨Te,0,0⟩,⟨Te,0,0⟩,by unfold zwd;rw[O];rfl,zyo,?_,?_⟩;rw[O];intro U;cases U;rw[O];unfold zv0;rw[decide_eq_false hk];rfl
  rw[hget]at n;refine⟨y.kind,y.text,G,J,(zde (kb.zip m) f[i]).isSome,n,?_⟩;intro E;have am:Keep s.size s E:=Keep.push _ _ (Ab _);have aH:Blk E s.size (wu 0 ⟨#[]⟩ ⟨Te,0,0⟩ ⟨Te,0,0⟩).toArray:=Blk.new _ _ _;have a8:E.size=s.size+1:=Aj _;clear_value E;refine zek aH rfl _ _ _ _ λl aL ba ah=>?_;have ae:Blk l D.size (wu xs[i].kind xs[i].text ck ci).toArray:=(aE.ofKeep am).keep (ah _ (by omega));have o:Keep D.size D l:=⟨by omega,λj N=>by rw[ah j (by omega),am.get j (by omega)];exact Z.get j N⟩;have an:Keep h.size h l:=aB.trans o (by omega);have C:Later h M l M':=⟨an,L.le,L.old,ai.keep o⟩;have ay:MapIt l h.size t (zbm (f.zip z)) (.string f[i]::dn):=aP.keep (o.get _ (by omega)) (o.get _ (by omega));have ab:leftN l h.size t<leftN g h.size t:=by rw[leftN.keep (o.get h.size (by omega)) (o.get t (by omega))];exact az
  refine⟨xs[i].kind,xs[i].text,ck,ci,λ_=>ae.ld (cs:=wu xs[i].kind xs[i].text ck ci),y.kind,y.text,G,J,λ_=>aL.ld (cs:=wu y.kind y.text G J),?_⟩;have aa:zv0 kb ys q f[i] xs[i]=Tc->((f.zip xs).all λp=>zv0 kb ys q p.1 p.2)=Tc:=λhf=>by rw[List.all_eq_false];exact⟨(f[i],xs[i]),C9.2 ⟨i,by simp;omega,by simp⟩,by simp[hf]⟩
  refine⟨λw O=>∃b M2,w=.bool b/\Later l M' O M2/\((zde (kb.zip m) f[i]).isSome=Ta->b=q xs[i] y),λA=>⟨hF,?_⟩,λA=>⟨Ta,Ta,M',rfl,Later.refl C.ag,λU=>by rw[U]at A;cases A⟩,λ_ w O ⟨b,_,e,_⟩=>⟨b,e⟩,?_⟩;have aN:(zde (kb.zip m) f[i]).isSome=Ta:=by simpa using A
  have Y:=(hp xs[i] (AE au) y (t4 aN)).px (h:=l) (M:=M') (vs:=[.agg #[.int .i64 xs[i].kind,.string xs[i].text,slV ck,slV ci],.agg #[.int .i64 y.kind,.string y.text,slV G,slV J]]) (hM.trans C.le) C.ag (qc (RdV.mono L.le (qf t1 t2)) (qc (RdV.mono L.le t3) qt));exact Y.go λw O M2 r B ap hr=>⟨r,zhq ap,r,M2,rfl,B,λ_=>hr⟩;rintro b O ⟨b',M2,e,B,hb⟩;cases e;refine⟨λhf=>⟨M2,_,C.trans B,Xe.2 (rdBool _),?_⟩,λht=>⟨⟨_,M2,ay.keep (B.keep.get _ (by omega)) (B.keep.get _ (by omega)),C.trans B,by have:=B.keep.size;omega,λi2 h1 h2 hm=>?_⟩,?_⟩⟩;have:zv0 kb ys q f[i] xs[i]=Tc:=by
   rw[hm1];cases A:(zde (kb.zip m) f[i]).isSome with
   |false=>rfl
   |true=>rw[A]at hf;rw[<-hb A];simpa using hf
  rw[aa this,Bool.and_false];rcases Ah.1 hm with e|hm;have I:=z8v e;have:i2=i:=z8u aj h1 aQ I;subst this;rw[hm1];cases A:(zde (kb.zip m) f[i2]).isSome with
  |false=>rw[A]at ht;simp at ht
  |true=>rw[A]at ht;rw[<-hb A];simpa using ht
  exact ak i2 h1 h2 hm;show leftN O h.size t<leftN g h.size t;rw[leftN.keep (B.keep.get h.size (by omega)) (B.keep.get t (by omega))];exact ab
theorem zgz:zh Tp 109=Ta:=by kernel_rfl
set_option maxHeartbeats 1000000 in
theorem qgi:∀(n:Nat) (a b:Tr),tsz a<=n->Sm a->Sm b->Q8 zn a=Ta->Q8 zn b=Ta->∀{R:Bool->Prop},R (ztk a b)->PC Tp gl 109 [Arg.mk .tree a,Arg.mk .tree b] [.bool] R:=by
 intro n;induction n with
 |zero=>intro a _ h;have:=Q2 a;omega
 |succ n ih=>
  intro a b hn U Q oa ob R H h M vs hM ag C
  match vs,C with
  |[u1,u2],⟨B,D,_⟩=>
  have B:RdV M .tree a u1:=B;have D:RdV M .tree b u2:=D;obtain⟨sk,si,rfl,rk,ri⟩:=yz B;obtain⟨tk,I,rfl,ae,u⟩:=yz D;obtain⟨li,_,_⟩:=rowLen ri;obtain⟨J,_,_⟩:=rowLen u;apply PX.of;apply zpc a.kind a.text sk si b.kind b.text tk I;intro h1 t;have k1:Keep h.size h h1:=Keep.push _ _ (Ab _);have k2:Keep h1.size h1 t:=Keep.push _ _ (Ab _);have b1:Blk h1 h.size (wu a.kind a.text sk si).toArray:=Blk.new _ _ _;have b2:Blk t h1.size (wu b.kind b.text tk I).toArray:=Blk.new _ _ _;have z1:h1.size=h.size+1:=Aj _;have z2:t.size=h1.size+1:=Aj _;clear_value h1 t;have f:=b1.ofKeep k2;have kk:Keep h.size h t:=k1.trans k2 (by omega);have E:Later h M t M:=Later.same ag kk;intro K5 Y;have e:zn a=Ta:=zeq oa;have c:zn b=Ta:=zeq ob;have i:∀x:Bool,(x=Ta->ztk a b=Tc)->(x=Tc->a.kind=b.kind/\a.text=b.text/\a.items.length=b.items.length)->K5 x t:=by
   intro x aj ak;refine Y x t ⟨λl=>⟨M,_,E,Xe.2 (rdBool _),?_⟩,λl=>?_⟩;rw[aj l]at H;exact H;obtain⟨e1,e2,V⟩:=ak l;refine⟨a.kind,f.cellAdd (by rfl),λh6=>?_,λh6=>?_⟩;have m:¬a.kind=6:=by simpa using h6
   have A:ztk a b=((a.items.zip b.items).all λp=>ztk p.1 p.2):=by rw[AM,qb3 m e1 e2 V];rw[zki]
   rw[A]at H;refine⟨si,f.cellAdd (by rfl),I,b2.cellAdd (by rfl),?_⟩;refine(z8t (gl:=gl) zgz (q:=ztk) (xs:=a.items) (ys:=b.items) (λx l y O=>ih x y (by have:=yd l;omega) (U.item l) (Q.item O) (Jo oa l) (Jo ob O) rfl) hM E.ag ri u).go λw ap ab r L o z=>?_;have z:r=_:=z;subst z;refine⟨_,zhq o,ab,_,E.trans L,Xe.2 (rdBool _),?_⟩;rw[V];simpa using H;have m:a.kind=6:=by simpa using h6
   have A:ztk a b=((a.keys.zip a.items).all λp=>zv0 b.keys b.items ztk p.1 p.2):=by rw[AM,qb2 e c m e1 e2 V];rw[zki]
   rw[A]at H;obtain⟨na,la⟩:=zbc e m;obtain⟨nb,lb⟩:=zbc c (by rw[<-e1];exact m);refine⟨a.kind,a.text,sk,si,f.ld (cs:=wu a.kind a.text sk si),b.kind,b.text,tk,I,b2.ld (cs:=wu b.kind b.text tk I),?_⟩;refine zgd na la U.items E.ag (qf rk ri) λar m1 ua F an ai ra w1=>⟨Td m1,rfl,F.get h1.size (by omega),?_⟩;have s:=E.ag.keep F;refine zgd nb lb Q.items s (qf ae u) λZ m2 ub N au aa rb w2=>⟨Td m2,rfl,?_⟩;have P:Later h M Z M:=(E.trans (Later.same E.ag F)).trans (Later.same s N);refine(z8x (gl:=gl) zgz (q:=ztk) na la lb ai aa ⟨U.items,Q.items⟩ (λx l y O=>ih x y (by have:=yd l;omega) (U.item l) (Q.item O) (Jo oa l) (Jo ob O) rfl) hM P.ag (w1.keep (N.get _ w1.lt)) w2 ra rb).go λw am ah r L o z=>?_;have z:r=_:=z;subst z;refine⟨_,zhq o,ah,_,P.trans L,Xe.2 (rdBool _),?_⟩;rw[V];simpa using H
  refine⟨a.kind,f.cellAdd (by rfl),b.kind,b2.cellAdd (by rfl),λS=>i _ (λ_=>?_) (λk=>?_),λS=>?_⟩;exact z8m (zpp e c (.inl (by simpa using S)));rw[S]at k;cases k;have af:a.kind=b.kind:=by simpa using S
  refine⟨a.text,f.cellAdd (by rfl),b.text,b2.cellAdd (by rfl),λG=>i _ (λ_=>?_) (λk=>?_),λG=>⟨si,f.cellAdd (by rfl),I,b2.cellAdd (by rfl),i _ (λk=>?_) (λk=>?_)⟩⟩;exact z8m (zpp e c (.inr (.inl (by rw[ze1]at G;simpa using G))));rw[G]at k;cases k;exact z8m (zpp e c (.inr (.inr (by rw[li,J]at k;simp at k;omega))));have:a.text=b.text:=by rw[ze1]at G;simpa using G
  exact⟨af,this,by rw[li,J]at k;simp at k;omega⟩
theorem qgj(m:GL gl){a b:Tr}(i:Sm a)(l:Sm b){R:Bool->Prop}(h:R (Zx a&&(Zx b&&ztk a b))):PC Tp gl 55 [Arg.mk .tree a,Arg.mk .tree b] [.bool] R:=by
 apply zpf;simp only[Xg];refine zux m i ⟨λr=>r=Zx b,λ_=>zux m l rfl,λr k=>⟨λx=>x=ztk a b,λc=>?_,λx e=>?_⟩⟩;cases h1:Zx a with
 |false=>rw[h1]at c;cases c
 |true=>rw[h1,cond_true]at c;have f:=k h1;rw[c]at f;exact qgi _ a b (Ab _) i l (z8k h1) (z8k f.symm) rfl
 cases h1:Zx a with
 |false=>rw[h1]at h;exact h
 |true=>
  rw[h1]at h e;have f:=k h1;subst f;simp only[cond_true,Cs]at h e ⊢;cases h3:Zx b with
  |false=>rw[h3]at h;exact h
  |true=>rw[h3]at h e;rw[cond_true,e rfl];exact h
end
end Go.X
end
section
namespace Go.X
open Go Go.X Go.Proofs Go.RowKit
section
variable {gl:Fr} {R:Bool -> Prop}
theorem qjh{a b:List Bt}(s:a.length<=1000000)(n:∀r,(r=Ta↔a=b)->R r):PC Tp gl 190 [Arg.mk (.row .str) a,Arg.mk (.row .str) b] [.bool] R:=by
 apply Z8;refine⟨λm=>n _ ⟨λh=>(by cases h),λh=>by subst h;simp at m⟩,λm=>?_⟩;have m:(a.length:Int)=b.length:=by simpa using m
 have f:a.length=b.length:=by omega
 refine⟨λi=>∃k:Nat,i=k/\k<=a.length/\∀i (h1:i<a.length) (o:i<b.length),i<k->a[i]=b[i],λi=>a.length-i.toNat,⟨0,rfl,AX _,λi _ _ h=>by omega⟩,?_⟩;rintro i ⟨k,rfl,q,p⟩;refine⟨λc=>?_,λc=>?_⟩;have c:k<a.length:=by have:=ltT c;omega
 rw[ju c (by omega)];refine⟨a[k],⟨by omega,by rw[Ai,Al c]⟩,b[k],⟨by omega,by rw[Ai,Al (by omega)]⟩,λl=>n _ ⟨λh=>(by cases h),λh=>?_⟩,λl=>⟨⟨k+1,rfl,c,λi h1 o t=>?_⟩,by simp only[Ai];omega⟩⟩;subst h;simp at l;by_cases e:i=k;subst e;rw[ze1]at l;simpa using l;exact p i h1 o (by omega);have c:k=a.length:=by have:=ltF c;omega
 exact n _ ⟨λ_=>ztf f (Nat.le_of_eq c.symm) p,λ_=>rfl⟩
theorem qji{a b:List Int}(s:a.length<=1000000)(n:∀r,(r=Ta↔a=b)->R r):PC Tp gl 191 [Arg.mk (.row (.int .i64)) a,Arg.mk (.row (.int .i64)) b] [.bool] R:=by
 apply W9;refine⟨λl=>n _ ⟨λh=>(by cases h),λh=>by subst h;simp at l⟩,λl=>?_⟩;have l:(a.length:Int)=b.length:=by simpa using l
 have f:a.length=b.length:=by omega
 refine⟨λi=>∃k:Nat,i=k/\k<=a.length/\∀i (h1:i<a.length) (o:i<b.length),i<k->a[i]=b[i],λi=>a.length-i.toNat,⟨0,rfl,AX _,λi _ _ h=>by omega⟩,?_⟩;rintro i ⟨k,rfl,q,p⟩;refine⟨λc=>?_,λc=>?_⟩;have c:k<a.length:=by have:=ltT c;omega
 rw[ju c (by omega)];refine⟨a[k],⟨by omega,by rw[Ai,Al c]⟩,b[k],⟨by omega,by rw[Ai,Al (by omega)]⟩,λm=>n _ ⟨λh=>(by cases h),λh=>?_⟩,λm=>⟨⟨k+1,rfl,c,λi h1 o t=>?_⟩,by simp only[Ai];omega⟩⟩;subst h;simp at m;by_cases e:i=k;subst e;simpa using m;exact p i h1 o (by omega);have c:k=a.length:=by have:=ltF c;omega
 exact n _ ⟨λ_=>ztf f (Nat.le_of_eq c.symm) p,λ_=>rfl⟩
theorem z8y{a b:List Bt×List Int}(h1:a.1.length<=1000000)(l:a.2.length<=1000000)(k:∀r,(r=Ta↔a=b)->R r):PC Tp gl 106 [Arg.mk (.pair (.row .str) (.row (.int .i64))) a,Arg.mk (.pair (.row .str) (.row (.int .i64))) b] [.bool] R:=by apply zs4;refine qjh h1 λr e=>⟨λh=>(h=Ta↔a.2=b.2),λ_=>qji l λr e=>e,λh c=>k _ ?_⟩;rw[qm6,e];constructor;rintro⟨f,i⟩;exact Prod.ext f ((c (e.2 f)).1 i);rintro rfl;exact⟨rfl,(c (e.2 rfl)).2 rfl⟩
theorem z8z(v:Tr):(ze0 v).1.1.length<=512/\(ze0 v).1.2.length<=512:=by unfold ze0;split;split;exact⟨AX _,AX _⟩;rename_i h;have:=xy (ze v) 0;unfold unz;simp only[Ao];omega;exact⟨AX _,AX _⟩
theorem z81{v:Tr}{t:List Bt×List Int}(h:ze0 v=(t,0)):zbv (ze v) t:=by unfold ze0 at h;split at h;rename_i b;split at h;have:=congrArg Prod.snd h;exact absurd this (show¬(6:Int)=0 by decide);rename_i c;have:=congrArg Prod.fst h;rw[<-show unz (Qc (ze v) 0)=t from this];exact z8l b (by omega);have:=congrArg Prod.snd h;exact absurd this (show¬(1:Int)=0 by decide)
theorem z9a{w:Tr}{t:List Bt×List Int}(h:zbv w t):ze0 w=(t,0):=by obtain⟨h1,b,c,rfl⟩:=h;unfold ze0;rw[if_pos h1,b,if_neg (by omega)]
set_option maxRecDepth 100000 in
set_option maxHeartbeats 4000000 in
theorem z03(hg:GL gl)(hb:Brn gl){t:List Bt×List Int}(hs:∀s∈t.1,s.size<=65536){R:Tr×Bool->Prop}(hT:∀w,zbv w t->R (w,Ta))(hF:(∀w,¬zbv w t)->R (noT,Tc)):PC Tp gl 44 [Arg.mk (.pair (.row .str) (.row (.int .i64))) t] [.tree,.bool] R:=by
 intro h M vs hM ag ha
 match vs,ha with
 |[u],⟨hu,_⟩=>
  obtain⟨s1,s2,rfl,r1,r2⟩:=qj6 (show RdV M (.pair (.row .str) (.row (.int .i64))) t u from hu);apply PX.of;obtain⟨l1,_,_⟩:=rowLen r1;obtain⟨l2,_,_⟩:=rowLen r2;apply zpb s1 s2;intro F;have k1:Keep h.size h F:=Keep.push _ _ (Ab _);have z1:F.size=h.size+1:=Aj _;have B1:Blk F h.size #[slV s1,slV s2]:=Blk.new _ _ _;clear_value F;intro Z;have k2:Keep F.size F Z:=Keep.push _ _ (Ab _);have z2:Z.size=F.size+1:=Aj _;have R2:Blk Z F.size #[.int .i64 0,.string ⟨#[]⟩,.slice Te 0 0,.slice Te 0 0]:=Blk.new _ _ _;clear_value Z;have B2:=B1.ofKeep k2;have L2:Later h M Z M:=Later.same ag (k1.trans k2 (by omega));have done:∀(g:zb) (M':Fr) (x:Tr) (b:Bool) (xk xi:Sl),Later Z M g M'->RdV M' .tree x (.agg #[.int .i64 x.kind,.string x.text,slV xk,slV xi])->R (x,b) ->
    XRunU Tp (Af 26 (.pointer (Td ⟨F.size,0,Te⟩)) (.agg #[.int .i64 x.kind,.string x.text,slV xk,slV xi])) g λg'=>∃(y1:Int) (y2:Bt) (y3 y4:Sl),zd g' ⟨F.size,0,Te⟩ 0 [.int .i64 y1,.string y2,slV y3,slV y4]/\∃M2 q,Later h M g' M2/\Yv M2 [.tree,.bool] q (.tuple #[.agg #[.int .i64 y1,.string y2,slV y3,slV y4],.bool b])/\R q:=by
   intro g M' x b xk xi L rx hr;have nR:M' F.size=Te:=by rw[L.old _ (by omega)];exact ag.none (by omega)
   exact jw (R2.keep (L.keep.get _ (by omega))) λg' f z B=>⟨_,_,xk,xi,B.ld (cs:=[_,_,slV xk,slV xi]),M',(x,b),Later.stay (L2.trans L) (by omega) nR f z,qj8 rx,hr⟩
  have bad:∀(g:zb) (M':Fr),Later Z M g M'->(∀w,¬zbv w t)->XRunU Tp (Af 26 (.pointer (Td ⟨F.size,0,Te⟩)) (.agg #[.int .i64 0,.string ⟨#[]⟩,.slice Te 0 0,.slice Te 0 0])) g λg'=>∃(y1:Int) (y2:Bt) (y3 y4:Sl),zd g' ⟨F.size,0,Te⟩ 0 [.int .i64 y1,.string y2,slV y3,slV y4]/\∃M2 q,Later h M g' M2/\Yv M2 [.tree,.bool] q (.tuple #[.agg #[.int .i64 y1,.string y2,slV y3,slV y4],.bool Tc])/\R q:=λg M' L hn=>done g M' noT Tc ⟨Te,0,0⟩ ⟨Te,0,0⟩ L zyo (hF hn);refine⟨s1,s2,B2.ld (cs:=[slV s1,slV s2]),?_⟩;refine(zgh (gl:=gl) (t:=t) (R:=λr=>r=if yl t=Ta then(zc7 t.2,Ta)else([],Tc)) rfl).go (vs:=[.agg #[slV s1,slV s2]]) hM L2.ag (qc (a:=Arg.mk (.pair (.row .str) (.row (.int .i64))) t) (Y1 r1 r2) qt) λw l I r L6 V hr=>?_;subst hr;obtain⟨sp,rfl,rp⟩:=ql2 V;have z6:=L6.keep.size;have B6:=B2.keep (L6.keep.get h.size (by omega));refine⟨sp,_,rfl,s2,λ_=>B6.cellAdd (o:=0) (k:=1) rfl,?_⟩;by_cases C:¬(yl t=Ta/\0<t.2.length);have ay:(bif (!(if yl t=Ta then(zc7 t.2,Ta)else([],Tc)).2)then Ta else(((sp.len:Nat):Int)==0))=Ta:=by
   have hl:=(rowLen rp).1;cases hr:yl t with
   |false=>rfl
   |true=>
    rw[hr]at hl;simp only[if_true,Za]at hl;have:t.2.length=0:=by rcases Dj t.2.length with h|h;exact h;exact absurd ⟨hr,h⟩ C
    rw[hl,this];rfl
  rw[ay];refine⟨⟨0,0,Te⟩,λhx=>(by cases hx),0,λhx=>(by cases hx),λ_=>?_,λhx=>(by cases hx)⟩;exact bad l I L6 λw Y=>C ⟨(Zp Y hs).1,(Zp Y hs).2.1⟩;obtain⟨hr,bE⟩:=Classical.not_not.1 C;obtain⟨q1,q2,q3⟩:=zkd hr;have U:t.2.length-1<t.2.length:=by omega
  rw[if_pos hr]at rp ⊢;have hl:=(rowLen rp).1;rw[Za]at hl;have a7:Aa .i64 (((sp.len:Nat):Int)-1)=((t.2.length-1:Nat):Int):=by rw[wrap64 (by omega) (by omega)];omega
  have aO:(bif (!(zc7 t.2,Ta).2)then Ta else(((sp.len:Nat):Int)==0))=Tc:=by show(((sp.len:Nat):Int)==0)=Tc;rw[beq_eq_false_iff_ne];omega
  rw[aO,a7];obtain⟨b2,o2,e3,e4⟩:=zox L6.ag (r2.mono L6.le) (k:=t.2.length-1) U;have hx:t.2[t.2.length-1]=lfN t.2 (t.2.length-1):=by unfold lfN;rw[A7,Al U];rfl
  rw[hx]at e4;refine⟨⟨b2,o2,Te⟩,λ_=>⟨e3,by omega,by omega⟩,lfN t.2 (t.2.length-1),λ_=>by rw[qd,Ai];exact e4,λy=>?_,λy=>?_⟩;refine bad l I L6 λw Y=>?_;have:=(Zp Y hs).2.2.1;rw[this]at y;simp at y;have bu:lfN t.2 (t.2.length-1)=0:=by simpa using y
  refine⟨s1,s2,B6.ld (cs:=[slV s1,slV s2]),?_⟩;rw[hl];refine mkZ (E:=ql1) rfl (by omega) (by omega) ⟨⟨Td ⟨l.size,0,Te⟩,t.2.length,t.2.length⟩,rfl,(Keep.push l _ (Ab _)).get h.size (by omega),?_⟩;have aB:Keep l.size l (l.push (.cells (BE t.2.length (Dv Te 0 0)).toArray 59)):=Keep.push _ _ (Ab _);have bD:(l.push (.cells (BE t.2.length (Dv Te 0 0)).toArray 59)).size=l.size+1:=Aj _;have aJ:Blk (l.push (.cells (BE t.2.length (Dv Te 0 0)).toArray 59)) l.size (BE t.2.length (Dv Te 0 0)).toArray:=Blk.new _ _ _;generalize (l.push (.cells (BE t.2.length (Dv Te 0 0)).toArray 59))=g20 at aB bD aJ ⊢;intro J;have aE:Keep g20.size g20 J:=Keep.push _ _ (Ab _);have bG:J.size=g20.size+1:=Aj _;have bz:Blk J g20.size #[slV s1,slV s2,slV ⟨Td ⟨l.size,0,Te⟩,t.2.length,t.2.length⟩]:=Blk.new _ _ _;clear_value J;have aZ:Later l I J I:=Later.same L6.ag (aB.trans aE (by omega));have nk:I l.size=Te:=L6.ag.none (Ab _);have nr:I g20.size=Te:=L6.ag.none (by omega);refine⟨λi g=>∃(m:Nat) (ss:List Sl) (bf:Nat->List Nat),i=(m:Int)/\m<=t.2.length/\KdS (g20.size+1) l I l.size g20.size s1 s2 ⟨Td ⟨l.size,0,Te⟩,t.2.length,t.2.length⟩ g I (zko t.2 m) ss bf,λi _=>t.2.length-i.toNat,⟨0,BE t.2.length ⟨Te,0,0⟩,λ_=>[],rfl,AX _,⟨aZ,?_,bz,by rw[ze2,CI],λi hi hi2=>?_,λi j _ _ _ c y=>(by cases y),Ab _,by omega,Nat.lt_succ_self _,by omega,nk,nr⟩⟩,?_⟩;have:(BE t.2.length (⟨Te,0,0⟩:Sl)).map slV=BE t.2.length (Dv Te 0 0):=by rw[List.map_replicate];rfl
  rw[this];exact aJ.ofKeep aE;have e:(zko t.2 0)[i]=[]:=by have:=z8p t.2;simp only[this,List.getElem_replicate]
  rw[e,List.getElem_replicate];exact ORow.nil;rintro i g ⟨m,ss,bf,rfl,hm,S⟩;have kl:=ze2 t.2 m;refine⟨λy=>?_,λy=>?_⟩;have A:m<t.2.length:=by have:=ltT y;omega
  obtain⟨b3,o3,e5,e6⟩:=zox S.L.ag (rp.mono S.L.le) (k:=m) (by rw[Za];exact A);have br:(zc7 t.2)[m]'(by rw[Za];exact A)=zdf t.2 t.2.length m:=by have:=zph (L:=t.2) A;rw[Al (by rw[Za];exact A)]at this;exact Az this
  rw[br]at e6;have am:=ju A (by omega);refine⟨⟨b3,o3,Te⟩,⟨e5,by omega,by omega⟩,zdf t.2 t.2.length m,by rw[qd,Ai];exact e6,λhp=>?_,λhp=>?_⟩;have hp:=of_decide_eq_true hp;obtain⟨u,hu,aF⟩:∃u:Nat,zdf t.2 t.2.length m=(u:Int)/\u<t.2.length:=by rcases js t.2 t.2.length m with⟨e,_⟩|⟨p,e,p1,p2,_⟩;omega;exact⟨p,e,p2⟩
  have au:u<(zko t.2 m).length:=by rw[kl];exact aF
  have aC:u<ss.length:=by rw[S.ln,kl];exact aF
  have ak:zc g ((⟨l.size,0,Te⟩:Addr).add (u*1))=Td (slV ss[u]):=by rw[qd];exact S.kbk.cell (by simp[aC])
  rw[hu];refine⟨⟨g20.size,0,Te⟩,rfl,_,S.rbk.cellAdd (o:=0) (k:=2) rfl,⟨g20.size,0,Te⟩,rfl,_,S.rbk.cellAdd (o:=0) (k:=2) rfl,⟨l.size,0,Te⟩,⟨rfl,by omega,by show(u:Int)<((t.2.length:Nat):Int);omega⟩,ss[u],by rw[Ai];exact ak,?_⟩;intro G;have aG:Keep g.size g G:=Keep.push _ _ (Ab _);have bN:G.size=g.size+1:=Aj _;have bm:Blk G g.size #[.int .i64 (m:Int)]:=Blk.new _ _ _;have aS:KdS (g20.size+1) l I l.size g20.size s1 s2 ⟨Td ⟨l.size,0,Te⟩,t.2.length,t.2.length⟩ G I (zko t.2 m) ss bf:=S.push _;clear_value G;have bH:=S.lg;have er:G[g20.size]?=g[g20.size]?:=aG.get _ (by omega);refine⟨by rw[qd];exact aG.get l.size (by omega),er,er,?_⟩;have bL:=z8s (L:=t.2) (m:=m) _ (AE au);refine XRun.mono (aS.add au aC (by omega) bm (Q:=λg'=>(∃(m2:Nat) (ss:List Sl) (bf:Nat->List Nat),Aa .i64 ((m:Int)+1)=(m2:Int)/\m2<=t.2.length/\KdS (g20.size+1) l I l.size g20.size s1 s2 ⟨Td ⟨l.size,0,Te⟩,t.2.length,t.2.length⟩ g' I (zko t.2 m2) ss bf)/\t.2.length-(Aa .i64 ((m:Int)+1)).toNat<t.2.length-((m:Nat):Int).toNat) λg' s' aU S'=>⟨⟨m+1,_,aU,am,A,by rw[z8r hu au];exact S'⟩,by rw[am];simp only[Ai];omega⟩) ?_;rintro v g37 ⟨z,rfl,fr,aV⟩;exact⟨z,rfl,⟨l.size,0,Te⟩,⟨rfl,by omega,by show(u:Int)<((t.2.length:Nat):Int);omega⟩,fr.trans er,by rw[Ai];exact aV⟩;have hp:=of_decide_eq_false hp;rw[am];exact⟨⟨m+1,ss,bf,rfl,A,by rw[z8q (by omega)];exact S⟩,by simp only[Ai];omega⟩
  ·have bC:m=t.2.length:=by have:=ltF y;omega
   subst bC;obtain⟨M7,L7,bO,a8,aI⟩:=S.fin (by rw[kl];omega) λx hx=>by have:=z8s x hx;omega
   rw[kl,qb4]at aI;have an:Later Z M g M7:=L6.trans L7;have ST:RdrS M7 g20.size t.1 t.2 s1 s2 ⟨Td ⟨l.size,0,Te⟩,t.2.length,t.2.length⟩:=⟨a8,r1.mono an.le,aI⟩;refine(zvy hg hb (rb:=g20.size) (Ls:=t.1) (L:=t.2) q1 q2 q3 t.2.length (t.2.length-1) U U g M7 (hM.trans an.le) L7.ag ST).go λw bB aY r ax V P=>?_;obtain⟨aH,_⟩:=(z8i (Ls:=t.1) q3 q2 t.2.length (t.2.length-1) U).1;rw[<-P]at aH;obtain⟨yk,yi,rfl,aL⟩:=z00 V;refine⟨_,_,yk,yi,_,rfl,?_⟩;intro bQ;refine xz ax.ag λa6 az bI aN=>?_;refine⟨_,_,yk,yi,aN.ld (cs:=[_,_,slV yk,slV yi]),?_⟩;have ah:Later Z M a6 aY:=an.trans (ax.trans az);refine(zvv hg hb aH (R:=λq=>q=ze0 r.1) rfl).go (vs:=[.agg #[.int .i64 r.1.kind,.string r.1.text,slV yk,slV yi]]) (hM.trans ah.le) az.ag (qc (a:=Arg.mk .tree _) aL qt) λw O N fr H ai ab=>?_;obtain⟨f1,f2,rfl,bn,aT⟩:=qdi ai;refine⟨f1,f2,_,rfl,?_⟩;intro ae;have ba:Keep O.size O ae:=Keep.push _ _ (Ab _);have bM:ae.size=O.size+1:=Aj _;have a1:Blk ae O.size #[.slice Te 0 0,.slice Te 0 0]:=Blk.new _ _ _;clear_value ae;refine zpk a1 λaa f60 aQ be=>?_;have D:Later O N aa N:=Later.stay (Later.same H.ag ba) (Ab _) (H.ag.none (Ab _)) f60 aQ;have n:Later Z M aa N:=ah.trans (H.trans D);have bJ:=ax.keep.size;have bP:=H.keep.size;have Bt:Blk aa h.size #[slV s1,slV s2]:=B2.keep (n.keep.get _ (by omega));have aP:=z8z r.1;rw[<-ab]at aP;have ap:=z8y (gl:=gl) (a:=fr.1) (b:=t) (by omega) (by omega) (R:=λq=>(q=Ta↔fr.1=t)) λq hq=>hq;refine⟨f1,f2,λ_=>be.ld (cs:=[slV f1,slV f2]),s1,s2,λ_=>Bt.ld (cs:=[slV s1,slV s2]),λv g'=>∃M',Later aa N g' M'/\∃b,v=.bool b/\(b=Ta↔fr.1=t),λ_=>?_,λ_=>⟨decide (fr.1=t),N,Later.refl D.ag,_,rfl,decide_eq_true_iff⟩,λ_ v g' hv=>?_,?_⟩;refine ap.go (vs:=[.agg #[slV f1,slV f2],.agg #[slV s1,slV s2]]) (hM.trans n.le) D.ag (qc (a:=Arg.mk (.pair (.row .str) (.row (.int .i64))) _) (Y1 bn aT) (qc (a:=Arg.mk (.pair (.row .str) (.row (.int .i64))) _) (Y1 (r1.mono n.le) (r2.mono n.le)) qt)) λw bF bA q bg ar hq=>?_;exact⟨q,zhq ar,bA,bg,q,by rfl,hq⟩;obtain⟨M',_,b,e,_⟩:=hv;exact⟨b,e⟩;rintro b g66 ⟨aM,aj,b',e,aA⟩;cases e;have af:=n.trans aj;refine⟨λy=>?_,λy=>?_⟩;refine bad g66 aM af λw Y=>?_;obtain⟨_,_,_,p1,_⟩:=Zp Y hs;rw[p1]at P;subst P;rw[z9a Y]at ab;subst ab;have:b=Ta:=aA.2 rfl;subst this;simp at y
   ·have bq:Blk g66 bB.size #[.int .i64 r.1.kind,.string r.1.text,slV yk,slV yi]:=(aN.keep ((H.trans D).keep.get _ (by omega))).keep (aj.keep.get _ (by have:=D.keep.size;omega));refine⟨_,_,yk,yi,bq.ld (cs:=[_,_,slV yk,slV yi]),?_⟩;rw[qj7,qj7]at y;obtain⟨⟨c1,c2⟩,c3⟩:=y;have c1:r.2=Ta:=by simpa using c1
    have c2:fr.2=0:=by simpa using c2
    have c3:b=Ta:=by simpa using c3
    have c4:=aA.1 c3;have Y:zbv (ze r.1) t:=z81 (by rw[<-ab,<-c4,<-c2]);obtain⟨_,_,_,p1,_⟩:=Zp Y hs;have bj:r.1=ze r.1:=by rw[p1]at P;exact congrArg Prod.fst P
    refine done g66 aM r.1 Ta yk yi af (aL.mono (az.le.trans (H.le.trans (D.le.trans aj.le)))) ?_;rw[bj];exact hT _ Y
end
end Go.X
end
section
namespace Go.X
open Go Go.Proofs Go.Shelf Go.RowKit
section
def zpr:Go.Shelf.Ren:=⟨fun|189=>108|125=>193|257=>192|128=>251|129=>252|294=>242|295=>243|296=>244|297=>245|298=>246|299=>247|216=>248|300=>249|301=>250|328=>285|329=>286|330=>287|331=>288|332=>289|215=>290|343=>314|n=>n,fun|28=>59|3=>3|46=>177|0=>0|51=>236|53=>238|4=>4|183=>256|182=>255|131=>42|5=>5|9=>9|218=>281|222=>285|228=>297|229=>298|n=>n,fun|n=>n⟩
theorem ztl:Go.Proofs.Lays.n189 Tp zpr:={
 mixed:=by kernel_rfl
 f125:=LF Tryz.func193
 f128:=LF Tryz.func251
 f129:=LF Tryz.func252
 f189:=LF Tryz.func108
 f215:=LF Tryz.func290
 f216:=LF Tryz.func248
 f257:=LF Tryz.func192
 f294:=LF Tryz.func242
 f295:=LF Tryz.func243
 f296:=LF Tryz.func244
 f297:=LF Tryz.func245
 f298:=LF Tryz.func246
 f299:=LF Tryz.func247
 f300:=LF Tryz.func249
 f301:=LF Tryz.func250
 f328:=LF Tryz.func285
 f329:=LF Tryz.func286
 f330:=LF Tryz.func287
 f331:=LF Tryz.func288
 f332:=LF Tryz.func289
 f343:=LF Tryz.func314
 t0:=Cf
 a0:=CZ
 z0:=CN
 v0:=Cq
 t3:=BH
 a3:=Cx
 z3:=Cm
 v3:=BP
 t4:=BI
 a4:=CC
 z4:=Cu
 v4:=BW
 t5:=Bz
 a5:=Cy
 z5:=Cn
 v5:=BQ
 t9:=BC
 a9:=Cz
 z9:=Co
 v9:=BR
 t28:=Tryz.underlying59
 a28:=Tryz.isAgg59
 z28:=Tryz.sizeOf59
 v28:=Tryz.zeroValue59
 t46:=Tryz.underlying177
 a46:=Tryz.isAgg177
 z46:=Tryz.sizeOf177
 v46:=Tryz.zeroValue177
 t51:=Tryz.underlying236
 a51:=Tryz.isAgg236
 z51:=Tryz.sizeOf236
 v51:=Tryz.zeroValue236
 t53:=Tryz.underlying238
 a53:=Tryz.isAgg238
 z53:=Tryz.sizeOf238
 v53:=Tryz.zeroValue238
 t131:=Tryz.underlying42
 a131:=Tryz.isAgg42
 z131:=Tryz.sizeOf42
 v131:=Tryz.zeroValue42
 t182:=Tryz.underlying255
 a182:=Tryz.isAgg255
 z182:=Tryz.sizeOf255
 v182:=Tryz.zeroValue255
 t183:=Tryz.underlying256
 a183:=Tryz.isAgg256
 z183:=Tryz.sizeOf256
 v183:=Tryz.zeroValue256
 t218:=Tryz.underlying281
 a218:=Tryz.isAgg281
 z218:=Tryz.sizeOf281
 v218:=Tryz.zeroValue281
 t222:=Tryz.underlying285
 a222:=Tryz.isAgg285
 z222:=Tryz.sizeOf285
 v222:=Tryz.zeroValue285
 t228:=Tryz.underlying297
 a228:=Tryz.isAgg297
 z228:=Tryz.sizeOf297
 v228:=Tryz.zeroValue297
 t229:=Tryz.underlying298
 a229:=Tryz.isAgg298
 z229:=Tryz.sizeOf298
 v229:=Tryz.zeroValue298 }
open Go.Sort Go.RowKit in
theorem zgj(blk off cap:Nat)(c:List Int)(w:World)(h:Holds (Bm .i64) w blk off c.toArray)(b:blk<w.heap.size)(f:c.length<4611686018427387904):
  Calls Tp 108 #[.slice (Td ⟨blk,off,Te⟩) c.length cap] w λe w'=>
   e=.returned (.tuple #[])/\∃n os,w'=grow (putRow (Bm .i64) (Sort.ahead w n) blk off (c.mergeSort λx y=>decide (x<=y)).toArray) os:=Any.slices_Sort_int ztl blk off cap c w h b f
open Go.RowKit Go.Sort in
theorem Xs(p:Option Addr)(cap:Nat)(w:World): Calls Tp 108 #[.slice p 0 cap] w λe w'=>e=.returned (.tuple #[])/\w'=w:=Any.slices_Sort_int_none ztl p cap w
end
end Go.X
end
section
namespace Go.X
open Go Go.X Go.Proofs Go.RowKit Go.Sort Go.Shelf
section
variable {h:zb} {s:Sl}
theorem bsI{x:Int}{K:Value->zb->Prop}:bsR Tp 59 1 (.int .i64 x) h K=K (.slice (Td ⟨h.size,0,Te⟩) 1 1) (h.push (.cells #[.int .i64 x] 3)):=by kernel_rfl
theorem mapII:MapTI Tp 142 3 3:=⟨by kernel_rfl,by kernel_rfl⟩
theorem z9b{base:Nat}{xs:List Int}(H:Owns h base 3 1 s (xs.map (Bm .i64))):s.len=xs.length:=by have:=H.length;simp at this;omega
theorem z04{base:Nat}{xs:List Int}(H:Owns h base 3 1 s (xs.map (Bm .i64)))(u:xs.length<=1000000):
  XC Tp 108 #[.slice s.a s.len s.cap] h λv h'=>v=.tuple #[]/\Owns h' base 3 1 s ((xs.mergeSort λx y=>decide (x<=y)).map (Bm .i64))/\h.size<=h'.size/\∀i,i<h.size->(∀p,s.a=Td p->i≠p.block)->h'[i]?=h[i]?:=by
 refine XC.of_below λB d=>?_;have f:s.len=xs.length:=z9b H;rcases H.2 with⟨o,h0⟩|⟨g,cap,m,o,q,C,A,E,D,G⟩;have F:xs=[]:=AN (by omega);subst F;rw[h0];refine(Xs s.a s.cap (mk B d h)).mono ?_;rintro e w' ⟨rfl,rfl⟩;exact⟨_,rfl,rfl,rfl,rfl,rfl,by rw[List.mergeSort_nil];exact H,Ab _,λ_ _ _=>rfl⟩;simp only[AO]at o;obtain⟨t,_,rfl⟩:=o;have c:(mk B d h).heap[g]?=Td (.cells m 3 (0,0)):=C;have k:g<(mk B d h).heap.size:=(An.1 c).1;have I:Holds (Bm .i64) (mk B d h) g 0 xs.toArray:=holds_of_blockI c (by rw[<-f];simpa using G);have r:=zgj g 0 s.cap xs (mk B d h) I k (by omega);rw[<-f]at r;rw[t];refine r.mono ?_;rintro e w' ⟨rfl,n,os,rfl⟩;have b:=grownBy_sortedI (w:=mk B d h) (g:=g) (n:=n) (os:=os) (xs.mergeSort λx y=>decide (x<=y)).toArray;refine⟨_,rfl,b.os,b.tape,b.output,rfl,?_,b.size,λi hi l=>b.block i hi λe=>l _ rfl (by simpa using e)⟩;have z:=ownsRow_sortedI (w:=mk B d h) (base:=base) (n:=n) (os:=os) (ss:=xs) (ts:=xs.mergeSort λx y=>decide (x<=y)) (by simp) q c (by rw[<-f];exact A) E (by simpa using D);rw[<-f]at z;show World.ownsRow _ base _ 1 (.slice s.a s.len s.cap) s.len _;rw[t];exact z
theorem Owns.frzI{h g:zb}{M M':Fr}(L:Later h M g M'){ks:List Int}{base:Nat}(o:Owns g base 3 1 s (ks.map (Bm .i64)))(D:h.size<=base)(B:ks.length<=1000000):
  ∃m,Later h M g m/\Rd m (.row (.int .i64)) ks [slV s]:=by
 have u:=z9b o;rcases o.2 with⟨k,h0⟩|⟨b,cap,f,k,y,x,C,z,E,w⟩;have t:ks=[]:=AN (by omega);subst t;simp only[AO]at k;refine⟨M',L,⟨_,rfl,s.a,s.cap,?_,⟨by simp,by simp⟩,.inl rfl⟩⟩;show slV s=_;unfold slV;rw[h0];rfl;simp only[AO]at k;obtain⟨p,_,n⟩:=k;have r:Blk g b f:=⟨_,x⟩;refine⟨MxL M' g [b],Later.own L (λc n=>by rw[A4.1 n];omega),⟨_,rfl,s.a,s.cap,?_,⟨by omega,by omega⟩,.inr ⟨b,0,f,p,MxL.at (by simp) r,λi hi=>?_⟩⟩⟩;show slV s=_;unfold slV;rw[u];show cut f (0+i*1) 1=[.int .i64 ks[i]];refine zan rfl λq A=>?_
 have l:q=0:=by omega
 subst l;have e:(f.toList.take (s.len*1))[i]?=(ks.map (Bm .i64))[i]?:=by rw[w]
 rw[AJ,if_pos (by omega)]at e;rw[show 0+i*1+0=i from by omega,e];simp[hi]
theorem qb6{L:List Int}{xs:List Nat}(h:xs.Perm (qbw L)):((xs.map λi:Nat=>(i:Int)).mergeSort λx y=>decide (x<=y))=(qbw L).map λi:Nat=>(i:Int):=by refine List.Perm.eq_of_pairwise (le:=λa b:Int=>decide (a<=b)=Ta) (λa b _ _ h1 e=>?_) (List.pairwise_mergeSort (λa b c h1 e=>?_) (λa b=>?_) _) (List.pairwise_map.2 ((zkc L).imp λh=>decide_eq_true (by omega))) ((List.mergeSort_perm _ _).trans (h.map _));have:=of_decide_eq_true h1;have:=of_decide_eq_true e;omega;have:=of_decide_eq_true h1;have:=of_decide_eq_true e;exact decide_eq_true (by omega);rw[BO,decide_eq_true_eq,decide_eq_true_eq];omega
set_option maxRecDepth 100000 in
set_option maxHeartbeats 2000000 in
theorem zv1{gl:Fr}{t:List Bt×List Int}{R:List Int->Prop}(hR:R (if yl t=Ta then(qbw t.2).map (λi:Nat=>(i:Int))else [])):PC Tp gl 53 [Arg.mk (.pair (.row .str) (.row (.int .i64))) t] [.row (.int .i64)] R:=by
 intro h M vs hM ag ha
 match vs,ha with
 |[u],⟨hu,_⟩=>
  obtain⟨s1,s2,rfl,r1,r2⟩:=qj6 (show RdV M (.pair (.row .str) (.row (.int .i64))) t u from hu);apply PX.of;obtain⟨l2,_,_⟩:=rowLen r2;apply zhh s1 s2;intro h1;have L1:Later h M h1 M:=Later.push ag _;have z1:h1.size=h.size+1:=Aj _;have B1:Blk h1 h.size #[slV s1,slV s2]:=Blk.new _ _ _;clear_value h1;refine⟨s1,s2,B1.ld (cs:=[slV s1,slV s2]),?_⟩;refine(z0u (gl:=gl) (t:=t) (R:=λr=>r=yl t) rfl).go (vs:=[.agg #[slV s1,slV s2]]) hM L1.ag (qc (a:=Arg.mk (.pair (.row .str) (.row (.int .i64))) t) (Y1 r1 r2) qt) λw l O r S Y hr=>?_;subst hr;have E:=L1.trans S;have z5:=S.keep.size;refine⟨_,zhq Y,λc=>?_,λc=>?_⟩;have c:yl t=Tc:=by simpa using c
  rw[c]at hR;exact⟨O,[],E,Xe.2 ((zfw rfl).2 (zga (T:=.int .i64))),hR⟩;have c:yl t=Ta:=by simpa using c
  rw[c,if_pos rfl]at hR;obtain⟨q1,q2,q3⟩:=zkd c;obtain⟨L,hL⟩:∃L,L=t.2:=⟨_,rfl⟩;rw[<-hL]at hR q2 q3 r2 l2;intro I;have k7:Keep l.size l I:=Keep.push _ _ (Ab _);have z7:I.size=l.size+1:=Aj _;have W7:MapW I l.size []:=MapW.new _;clear_value I;have B7:Blk I h.size #[slV s1,slV s2]:=(B1.keep (S.keep.get _ (by omega))).ofKeep k7;refine⟨s2,B7.cellAdd (o:=0) (k:=1) rfl,λi g=>∃m:Nat,i=(m:Int)/\m<=L.length/\g.size=I.size/\(∀j,j≠l.size->g[j]?=I[j]?)/\MapW g l.size (z7w ((zgi L m).map (ztd L))),λi _=>L.length-i.toNat,⟨0,rfl,AX _,rfl,λ_ _=>rfl,W7⟩,?_⟩;rintro i g ⟨m,rfl,hm,zg,fg,W⟩;have kg:Keep l.size l g:=⟨by omega,λj A=>by rw[fg j (by omega)];exact k7.get j A⟩;have Lg:Later l O g O:=Later.same S.ag kg;refine⟨λC=>?_,λC=>?_⟩;have s:m<L.length:=by have:=ltT C;omega
  obtain⟨b,o,e1,e2⟩:=zox Lg.ag (r2.mono E.le) (k:=m) s;have U:L[m]=lfN L m:=by unfold lfN;rw[A7,Al s];rfl
  rw[U]at e2;refine⟨⟨b,o,Te⟩,⟨e1,by omega,by omega⟩,lfN L m,by rw[qd,Ai];exact e2,?_⟩;refine qbv mapII W (lfN L m) (.int .i64 (m:Int)) λg' W' z' f'=>⟨⟨m+1,by rw[ju s (by omega)],s,by omega,λj A=>(f' j A).trans (fg j A),?_⟩,by rw[ju s (by omega)];simp only[Ai];omega⟩;rw[zte]at W';exact W';have aj:m=L.length:=by have:=ltF C;omega
  subst aj;obtain⟨Q,y⟩:=zc8 L L.length;have F:((z7w ((zgi L L.length).map (ztd L))).map (·.1))=((zgi L L.length).map (lfN L)).map (Bm .i64):=by unfold z7w;rw[A8,A8,A8];rfl
  have ak:((z7w ((zgi L L.length).map (ztd L))).map (·.1)).Nodup:=by rw[F];exact D8.map _ (λa b am e=>am (by injection e)) Q
  refine zo0 mapII.map W λan au af N=>⟨Td ⟨g.size,0,Te⟩,rfl,?_⟩;have ah:Keep l.size l an:=kg.trans af (by omega);refine⟨λout B=>∃xs:List Nat,xs.Nodup/\(∀x∈xs,x∈zgi L L.length)/\MapIt B g.size l.size (z7w ((zgi L L.length).map (ztd L))) (xs.reverse.map λi=>Bm .i64 (lfN L i))/\Owns B (g.size+1) 3 1 out ((xs.map λi:Nat=>(i:Int)).map (Bm .i64))/\g.size+1<=B.size/\Keep l.size l B,λ_ B=>leftN B g.size l.size,⟨[],Dm,λx c=>(by cases c),N,Owns.nil _ _ _ _,by omega,ah⟩,?_⟩;rintro out B ⟨xs,D,z,it,o,ar,K2⟩;have ap:xs.length<=L.length:=by have:=zkh (xs:=xs) (ys:=Bl L.length) D λx c=>A1.2 ((y x).1 (z x c)).1;rwa[Dp]at this
  refine zvm it ak (by omega) (λZ=>.inl ⟨rfl,(λC=>(by cases C)),λ_=>?_⟩) λk v H hk q ab aa z3 f3 P=>.inr ⟨k,v,rfl,λ_=>zo1 aa ⟨k,v,rfl,?_⟩,λC=>(by cases C)⟩;have f:xs.Perm (qbw L):=by refine((List.perm_ext_iff_of_nodup D (zgw Q)).2 λp=>⟨z p,λf=>?_⟩).trans (z0t L);have ae:=Z (.int .i64 (lfN L p),.int .i64 (p:Int)) (by unfold z7w;rw[A8];exact AL.2 ⟨p,f,rfl⟩);obtain⟨x,c,e⟩:=AL.1 ae;injection e with _ e;have c:=List.mem_reverse.1 c;obtain⟨a1,a2⟩:=(y x).1 (z x c);obtain⟨b1,b2⟩:=(y p).1 f;rcases Nat.lt_trichotomy x p with h|h|h;exact absurd e.symm (a2 p h b1);rw[<-h];exact c;exact absurd e (b2 x h a1)
  refine XC.mono (z04 o (by rw[Ao];omega)) ?_;rintro v g4 ⟨rfl,o4,z4,f4⟩;rw[qb6 f]at o4;have Lf:Later l O g4 O:=Later.same S.ag ⟨by have:=K2.size;omega,λj A=>by rw[f4 j (by have:=K2.size;omega) λp f=>by have:=o.base_le p f;omega];exact K2.get j A⟩;obtain⟨M6,L6,rd⟩:=Owns.frzI Lf o4 (by omega) (by rw[Ao,f.symm.length_eq];omega);exact⟨rfl,M6,_,E.trans L6,Xe.2 ((zfw rfl).2 rd),hR⟩;obtain⟨i,hi,rfl,rfl⟩:∃i,i∈zgi L L.length/\k=.int .i64 (lfN L i)/\v=.int .i64 (i:Int):=by unfold z7w at H;rw[A8]at H;obtain⟨i,hi,e⟩:=AL.1 H;injection e with e1 e2;exact⟨i,hi,e1.symm,e2.symm⟩
  have ai:i∉xs:=λhm=>hk (AL.2 ⟨i,List.mem_reverse.2 hm,rfl⟩);rw[bsI];have G:Keep q.size q (q.push (.cells #[.int .i64 (i:Int)] 3)):=Keep.push _ _ (Ab _);have z8:(q.push (.cells #[.int .i64 (i:Int)] 3)).size=q.size+1:=Aj _;have V8:Blk (q.push (.cells #[.int .i64 (i:Int)] 3)) q.size #[.int .i64 (i:Int)]:=Blk.new _ _ _;generalize (q.push (.cells #[.int .i64 (i:Int)] 3))=h8 at G z8 V8 ⊢;have o3:Owns q (g.size+1) 3 1 out ((xs.map λi:Nat=>(i:Int)).map (Bm .i64)):=o.keep λp f=>f3 _ (by have:=o.base_le p f;omega);have J:=o3.keepN G;have hl:=z9b o;rw[Ao]at hl;refine za2 (z0n:ElemT _ _ _ _ 1 8) J (src:=⟨Td ⟨q.size,0,Te⟩,1,1⟩) (news:=[.int .i64 (i:Int)]) (n:=h8.size) ?_ rfl (by simp[Value.oneCell']) (by simp only;omega) (by simp only;omega) (by omega) λs' h4 p1 p2 V p4 p5=>⟨s',rfl,⟨xs++[i],?_,?_,?_,?_,by omega,?_⟩,?_⟩;refine .inr ⟨q.size,0,rfl,by omega,λi v U=>?_⟩
  match i,U with
  |0,U=>cases U;exact V8.cell rfl
  rw[CV];exact⟨D,by simp,λa ha b hb e=>by rw[A4]at hb;subst hb;subst e;exact ai ha⟩;intro x c;rcases Ay.1 c with h|h;exact z x h;rw[A4.1 h];exact hi;rw[List.reverse_append];refine ab.keep ?_ ?_;rw[V _ (by omega) λp f=>by have:=J.base_le p f;omega];exact G.get _ (by omega);rw[V _ (by omega) λp f=>by have:=J.base_le p f;omega];exact G.get _ (by omega);rw[Bf,Bf];exact p2;refine⟨by have:=K2.size;omega,λj A=>?_⟩;rw[V j (by omega) λp f=>by have:=J.base_le p f;omega,G.get j (by omega),f3 j (by omega)];exact K2.get j A;show leftN h4 g.size l.size<leftN B g.size l.size;rw[leftN.keep (h:=q) ?_ ?_];exact P;rw[V _ (by omega) λp f=>by have:=J.base_le p f;omega];exact G.get _ (by omega);rw[V _ (by omega) λp f=>by have:=J.base_le p f;omega];exact G.get _ (by omega)
end
end Go.X
end
