/- A part of the proof: nothing is stated here for its own sake. -/
import Derived.Test.YtjohlemfgcmaoaaGreatDoorPuE
import Derived.Sort.OwnSortedInts
open _root_.Go.Addr renaming add->Ad
open _root_.Array renaming getElem?_eq_some_iff->An,getElem?_setIfInBounds_ne->AB,getElem?_toList->Ca,push->Cn,size_push->Aj
open _root_.Bool renaming and_eq_false_iff->Cp,and_eq_true->Ao,and_true->C6,eq_iff_iff->AM,not_eq_true'->Dh,or_eq_true->BK,true_and->Cc
open _root_.Go.Builtin renaming append_->Au,len_->CG
open _root_.Classical renaming byContradiction->CB
open _root_.Go.Instr renaming entry->Dk,findNow->Cr,keyThatStays->CY,lookup->C9,mapUpdate->Ce,next->CW,range->Dx,sameNow->Dv,storeAt->Af
open _root_.Int renaming le_refl->Dz,toNat_natCast->Ag
open _root_.Go.IntKind renaming wrap->Aa
open _root_.List renaming Pairwise->Df,all_append->Dd,all_cons->De,all_eq_true->Av,all_map->DK,append_assoc->AH,append_nil->AR,drop_eq_getElem_cons->Bw,drop_eq_nil_of_le->Br,drop_zero->BQ,eq_nil_of_length_eq_zero->AO,ext_getElem?->Bu,filter_cons->BP,getD_eq_getElem?_getD->A6,getElem?_append_right->BD,getElem?_eq_getElem->Ak,getElem?_eq_none->BH,getElem?_eq_some_iff->A1,getElem?_map->Bf,getElem?_modify->BF,getElem?_take->AK,getElem_append_left->BL,getElem_append_right->BW,getElem_map->CF,getElem_mem->AE,getElem_set_self->Dg,length->Cd,length_append->Ah,length_cons->Aq,length_eq_zero_iff->Bl,length_map->Ap,length_nil->A4,length_range->C3,length_replicate->Co,length_set->Cz,length_singleton->Cq,length_take->AN,map_append->Bh,map_congr_left->Cy,map_cons->As,map_fst_zip->Dt,map_id->DY,map_map->A7,map_nil->Cb,mem_append->Aw,mem_append_left->Ar,mem_append_right->AC,mem_cons->Ai,mem_cons_of_mem->Ae,mem_cons_self->Am,mem_filter->Cf,mem_flatMap->Cg,mem_iff_getElem->Ct,mem_map->AJ,mem_range->AU,mem_singleton->AY,nil_append->A8,nodup_append->Cw,nodup_cons->Ba,nodup_nil->C0,pairwise_cons->Be,pairwise_lt_range->CM,range->Bj,range_succ->CK,replicate->BC,take_append_drop->B8,take_length->A5,take_of_length_le->BE,take_succ_cons->CL,take_succ_eq_append_getElem->Ay,take_take->DF,take_zero->CZ,zip_cons_cons->BR
open _root_.List.Pairwise renaming nil->DG
open _root_.List.cons renaming injEq->BN
open _root_.Nat renaming add_assoc->CP,add_zero->CO,eq_zero_or_pos->CX,le_of_lt->Da,le_refl->Ab,le_trans->BX,lt_or_ge->AX,lt_trichotomy->Di,min_eq_left->Cj,mul_one->B0,not_lt_zero->CJ,sub_self->Dr,zero_add->AL,zero_le->AW
open _root_.Option.some renaming inj->Az
open _root_.Prod renaming fst->D3
open _root_.Prod.mk renaming injEq->Bi
open _root_.Go.Value renaming int->Bn,slice->C8,string->A3
open _root_.Go.Value.slice renaming injEq->AP
set_option linter.unusedVariables false
set_option maxRecDepth 100000
namespace Go.X
end Go.X
namespace Go.Proofs
end Go.Proofs
open Go Go.X Go.Proofs
open _root_.Bool renaming true->Ta,false->Tc
open _root_.Option renaming some->Td,none->Te
section
namespace Go.X
section
theorem zdc(h:zb)(R:Value->zb->Prop) (H:let b:=h.push (.cells #[.string (⟨#[98]⟩:Bt),.string (⟨#[97]⟩:Bt)] 9);XC Tp 58 #[iV 1] b (λc d=>∃e f g i,c=tA e f g i/\XC Tp 58 #[iV 2] d (λj k=>∃l m n o,j=tA l m n o/\let p:=k.push (.cells #[iV l,.string m,slV n,slV o] 26);XC Tp 29 #[.slice (Td ⟨k.size,0,Te⟩) 1 1] p (λq r=>∃s t u v,q=tA s t u v/\let w:=r.push (.cells #[iV e,.string f,slV g,slV i,iV s,.string t,slV u,slV v] 26);XC Tp 99 #[.slice (Td ⟨h.size,0,Te⟩) 2 2,.slice (Td ⟨r.size,0,Te⟩) 2 2] w (λx y=>∃z A B C,x=tA z A B C/\let D:=y.push (.cells tC 26);XRunU Tp (Af 26 (.pointer (Td ⟨y.size,0,Te⟩)) (tA z A B C)) D (λE=>∃F G I J,zd E ⟨y.size,0,Te⟩ 0 (tL F G I J)/\XC Tp 40 #[tA F G I J] E (λL M=>∃N O P,L=.tuple #[.agg #[slV N,slV O],iV P]/\let Q:=M.push (.cells #[.slice Te 0 0,.slice Te 0 0] 71);XRunU Tp (Af 71 (.pointer (Td ⟨M.size,0,Te⟩)) (.agg #[slV N,slV O])) Q (λS=>let T:=S.push (.cells #[.string (⟨#[50]⟩:Bt),.string (⟨#[91]⟩:Bt),.string (⟨#[107,34,97,34]⟩:Bt),.string (⟨#[49]⟩:Bt),.string (⟨#[107,34,98,34]⟩:Bt),.string (⟨#[123]⟩:Bt)] 9);let U:=T.push (.cells #[iV 0,iV 0,iV 0,iV 3,iV 3,iV 0] 3);let V:=U.push (.cells #[.slice Te 0 0,.slice Te 0 0] 71);XRunU Tp (Af 71 (.pointer (Td ⟨U.size,0,Te⟩)) (.agg #[.slice (Td ⟨S.size,0,Te⟩) 6 6,.slice (Td ⟨T.size,0,Te⟩) 6 6])) V (λW=>∃X Y,zd W ⟨M.size,0,Te⟩ 0 [slV X,slV Y]/\XC Tp 44 #[.agg #[slV X,slV Y]] W (λZ aa=>∃ab ac ad ae af,Z=.tuple #[tA ab ac ad ae,.bool af]/\let ag:=aa.push (.cells tC 26);XRunU Tp (Af 26 (.pointer (Td ⟨aa.size,0,Te⟩)) (tA ab ac ad ae)) ag (λah=>∃ai aj,((P==0)=Ta->zd ah ⟨M.size,0,Te⟩ 0 [slV ai,slV aj])/\∃ak al,((P==0)=Ta->zd ah ⟨U.size,0,Te⟩ 0 [slV ak,slV al])/\∃am:Value->zb->Prop,((P==0)=Ta->XC Tp 42 #[.agg #[slV ai,slV aj],.agg #[slV ak,slV al]] ah (λan ao=>∃ap,an=.bool ap/\am (.bool ap) ao))/\((P==0)=Tc->∃aq,am (.bool aq) ah)/\((P==0)=Ta->∀ar au,am ar au->∃av,ar=.bool av)/\∀aw:Bool,∀ax,am (.bool aw) ax->∃ay az aA aB,((bif (bif (P==0)then aw else Tc)then af else Tc)=Ta->zd ax ⟨y.size,0,Te⟩ 0 (tL ay az aA aB))/\∃aC aD aE aF,((bif (bif (P==0)then aw else Tc)then af else Tc)=Ta->zd ax ⟨aa.size,0,Te⟩ 0 (tL aC aD aE aF))/\∃aG:Value->zb->Prop,((bif (bif (P==0)then aw else Tc)then af else Tc)=Ta->XC Tp 55 #[tA ay az aA aB,tA aC aD aE aF] ax (λaH aI=>∃aJ,aH=.bool aJ/\aG (.bool aJ) aI))/\((bif (bif (P==0)then aw else Tc)then af else Tc)=Tc->∃aL,aG (.bool aL) ax)/\((bif (bif (P==0)then aw else Tc)then af else Tc)=Ta->∀aM aN,aG aM aN->∃aO,aM=.bool aO)/\∀aP:Bool,∀aQ,aG (.bool aP) aQ->∃aS aT,((bif (bif (bif (P==0)then aw else Tc)then af else Tc)then aP else Tc)=Ta->zd aQ ⟨M.size,0,Te⟩ 0 [slV aS,slV aT])/\∃aU:Value->zb->Prop,((bif (bif (bif (P==0)then aw else Tc)then af else Tc)then aP else Tc)=Ta->XC Tp 53 #[.agg #[slV aS,slV aT]] aQ (λaV aW=>∃aX,aV=slV aX/\aU (slV aX) aW))/\((bif (bif (bif (P==0)then aw else Tc)then af else Tc)then aP else Tc)=Tc->∃aY,aU (slV aY) aQ)/\((bif (bif (bif (P==0)then aw else Tc)then af else Tc)then aP else Tc)=Ta->∀aZ a0,aU aZ a0->∃a1,aZ=slV a1)/\∀a2:Sl,∀a3,aU (slV a2) a3->∃a4:Value->zb->Prop,((bif (bif (bif (P==0)then aw else Tc)then af else Tc)then aP else Tc)=Ta->let a5:=a3.push (.cells #[iV 4,iV 5] 3);a4 (.slice (Td ⟨a3.size,0,Te⟩) 2 2) a5)/\((bif (bif (bif (P==0)then aw else Tc)then af else Tc)then aP else Tc)=Tc->∃a6,a4 (slV a6) a3)/\((bif (bif (bif (P==0)then aw else Tc)then af else Tc)then aP else Tc)=Ta->∀a7 a8,a4 a7 a8->∃a9,a7=slV a9)/\∀ba:Sl,∀bb,a4 (slV ba) bb->∃bc:Value->zb->Prop,((bif (bif (bif (P==0)then aw else Tc)then af else Tc)then aP else Tc)=Ta->XC Tp 48 #[slV a2,slV ba] bb (λbd be=>∃bf,bd=.bool bf/\bc (.bool bf) be))/\((bif (bif (bif (P==0)then aw else Tc)then af else Tc)then aP else Tc)=Tc->∃bg,bc (.bool bg) bb)/\((bif (bif (bif (P==0)then aw else Tc)then af else Tc)then aP else Tc)=Ta->∀bh bi,bc bh bi->∃bj,bh=.bool bj)/\∀bk:Bool,∀bl,bc (.bool bk) bl->∃bm bn,((bif (bif (bif (bif (P==0)then aw else Tc)then af else Tc)then aP else Tc)then bk else Tc)=Ta->zd bl ⟨M.size,0,Te⟩ 0 [slV bm,slV bn])/\∃bo:Value->zb->Prop,((bif (bif (bif (bif (P==0)then aw else Tc)then af else Tc)then aP else Tc)then bk else Tc)=Ta->XC Tp 49 #[.agg #[slV bm,slV bn]] bl (λbp bq=>∃br,bp=slV br/\bo (slV br) bq))/\((bif (bif (bif (bif (P==0)then aw else Tc)then af else Tc)then aP else Tc)then bk else Tc)=Tc->∃bs,bo (slV bs) bl)/\((bif (bif (bif (bif (P==0)then aw else Tc)then af else Tc)then aP else Tc)then bk else Tc)=Ta->∀bt bu,bo bt bu->∃bv,bt=slV bv)/\∀bw:Sl,∀bx,bo (slV bw) bx->∃bz:Value->zb->Prop,((bif (bif (bif (bif (P==0)then aw else Tc)then af else Tc)then aP else Tc)then bk else Tc)=Ta->let bA:=bx.push (.cells #[iV 5] 3);bz (.slice (Td ⟨bx.size,0,Te⟩) 1 1) bA)/\((bif (bif (bif (bif (P==0)then aw else Tc)then af else Tc)then aP else Tc)then bk else Tc)=Tc->∃bB,bz (slV bB) bx)/\((bif (bif (bif (bif (P==0)then aw else Tc)then af else Tc)then aP else Tc)then bk else Tc)=Ta->∀bC bD,bz bC bD->∃bE,bC=slV bE)/\∀bF:Sl,∀bG,bz (slV bF) bG->∃bH:Value->zb->Prop,((bif (bif (bif (bif (P==0)then aw else Tc)then af else Tc)then aP else Tc)then bk else Tc)=Ta->XC Tp 48 #[slV bw,slV bF] bG (λbI bJ=>∃bL,bI=.bool bL/\bH (.bool bL) bJ))/\((bif (bif (bif (bif (P==0)then aw else Tc)then af else Tc)then aP else Tc)then bk else Tc)=Tc->∃bM,bH (.bool bM) bG)/\((bif (bif (bif (bif (P==0)then aw else Tc)then af else Tc)then aP else Tc)then bk else Tc)=Ta->∀bN bO,bH bN bO->∃bP,bN=.bool bP)/\∀bQ:Bool,∀bS,bH (.bool bQ) bS->R (.bool (bif (bif (bif (bif (bif (P==0)then aw else Tc)then af else Tc)then aP else Tc)then bk else Tc)then bQ else Tc)) bS))))))))))):
  XC Tp 38 #[] h R:=
 XF ⟨[],[],[]⟩ [.tmp 0] 54 Tryz.func38 H
theorem zt5(b:Int)(c:Bt)(d:Sl)(e:Sl)(h:zb)(R:Value->zb->Prop) (H:let f:=h.push (.cells #[iV b,.string c,slV d,slV e] 26);let g:=f.push (.cells #[.slice Te 0 0,.slice Te 0 0] 71);∃i j k l,zd g ⟨h.size,0,Te⟩ 0 (tL i j k l)/\XC Tp 33 #[tA i j k l] g (λm n=>∃o,m=.bool o/\((!o)=Ta->XRunU Tp (Af 71 (.pointer (Td ⟨f.size,0,Te⟩)) (.agg #[.slice Te 0 0,.slice Te 0 0])) n (λp=>∃q r,zd p ⟨f.size,0,Te⟩ 0 [slV q,slV r]/\R (.tuple #[.agg #[slV q,slV r],iV 1]) p))/\((!o)=Tc->let s:=n.push (.cells #[.slice Te 0 0,.slice Te 0 0] 132);∃t u v w,zd s ⟨h.size,0,Te⟩ 0 (tL t u v w)/\XC Tp 37 #[tA t u v w] s (λx y=>∃z A B C,x=tA z A B C/\XC Tp 100 #[.pointer (Td ⟨n.size,0,Te⟩),tA z A B C] y (λD E=>D=.tuple #[]/\∃F,zc E (Ad (Ad ⟨n.size,0,Te⟩ 0) 0)=Td (slV F)/\(decide ((F.len:Int)>512)=Ta->XRunU Tp (Af 71 (.pointer (Td ⟨f.size,0,Te⟩)) (.agg #[.slice Te 0 0,.slice Te 0 0])) E (λG=>∃I J,zd G ⟨f.size,0,Te⟩ 0 [slV I,slV J]/\R (.tuple #[.agg #[slV I,slV J],iV 6]) G))/\(decide ((F.len:Int)>512)=Tc->∃L M,zd E (Ad ⟨n.size,0,Te⟩ 0) 0 [slV L,slV M]/\XRunU Tp (Af 71 (.pointer (Td ⟨f.size,0,Te⟩)) (.agg #[slV L,slV M])) E (λN=>∃O P,zd N ⟨f.size,0,Te⟩ 0 [slV O,slV P]/\R (.tuple #[.agg #[slV O,slV P],iV 0]) N))))))):
  XC Tp 40 #[.agg #[.int .i64 b,.string c,.slice d.a d.len d.cap,.slice e.a e.len e.cap]] h R:=
 XF ⟨[],[],[]⟩ [.cell 2 71,.tmp 3] 20 Tryz.func40 H
theorem zqe(b:Sl)(c:Sl)(h:zb)(R:Value->zb->Prop) (H:let d:=h.push (.cells #[slV b,slV c] 71);let e:=d.push (.cells tC 26);∃f g,zd e ⟨h.size,0,Te⟩ 0 [slV f,slV g]/\XC Tp 104 #[.agg #[slV f,slV g]] e (λi j=>∃k l,i=.tuple #[slV k,.bool l]/\∃m,((!(bif (!l)then Ta else((k.len:Int)==0)))=Ta->zc j (Ad ⟨h.size,0,Te⟩ 1)=Td (slV m))/\∃n,((!(bif (!l)then Ta else((k.len:Int)==0)))=Ta->(m.a=Td n/\0<=(Aa .i64 ((k.len:Int)-1))/\(Aa .i64 ((k.len:Int)-1))<(m.len:Int)))/\∃o,((!(bif (!l)then Ta else((k.len:Int)==0)))=Ta->zc j (n.add ((Aa .i64 ((k.len:Int)-1)).toNat*1))=Td (iV o))/\((bif (bif (!l)then Ta else((k.len:Int)==0))then Ta else(o != 0))=Ta->XRunU Tp (Af 26 (.pointer (Td ⟨d.size,0,Te⟩)) (tZ)) j (λp=>∃q r s t,zd p ⟨d.size,0,Te⟩ 0 (tL q r s t)/\R (.tuple #[tA q r s t,.bool Tc]) p))/\((bif (bif (!l)then Ta else((k.len:Int)==0))then Ta else(o != 0))=Tc->∃u v,zd j ⟨h.size,0,Te⟩ 0 [slV u,slV v]/\XRun Tp (Instr.makeSlice 137 (iV (k.len:Int)) (iV (k.len:Int))) j (λw x=>∃y,w=slV y/\(x)[(⟨h.size,0,Te⟩:Addr).block]?=(j)[(⟨h.size,0,Te⟩:Addr).block]?/\let z:=x.push (.cells #[slV u,slV v,slV y] 139);∃(A:Int->zb->Prop) (B:Int->zb->Nat),A 0 z/\∀C:Int,∀D:zb,A C D->((decide (C<k.len)=Ta->∃E,(k.a=Td E/\0<=C/\C<k.len)/\∃F,zc D (E.add (C.toNat*1))=Td (iV F)/\(decide (F>=0)=Ta->∃G:Addr,Td ⟨x.size,0,Te⟩=Td G/\∃I,zc D (Ad G 2)=Td (slV I)/\∃J:Addr,Td ⟨x.size,0,Te⟩=Td J/\∃L,zc D (Ad J 2)=Td (slV L)/\∃M,(L.a=Td M/\0<=F/\F<L.len)/\∃N,zc D (M.add (F.toNat*1))=Td (slV N)/\let O:=D.push (.cells #[iV C] 3);(O)[((M.add (F.toNat*1)):Addr).block]?=(D)[((M.add (F.toNat*1)):Addr).block]?/\(O)[((Ad J 2):Addr).block]?=(D)[((Ad J 2):Addr).block]?/\(O)[((Ad G 2):Addr).block]?=(D)[((Ad G 2):Addr).block]?/\XRun Tp (Au #[59,59] 59 #[slV N,.slice (Td ⟨D.size,0,Te⟩) 1 1]) O (λP Q=>∃S,P=slV S/\∃T,(I.a=Td T/\0<=F/\F<I.len)/\(Q)[((Ad G 2):Addr).block]?=(D)[((Ad G 2):Addr).block]?/\XRunU Tp (Af 59 (.pointer (Td (T.add (F.toNat*1)))) (slV S)) Q (λU=>(A (Aa .i64 (C+1)) U/\B (Aa .i64 (C+1)) U<B C D))))/\(decide (F>=0)=Tc->(A (Aa .i64 (C+1)) D/\B (Aa .i64 (C+1)) D<B C D)))/\(decide (C<k.len)=Tc->XC Tp 105 #[.pointer (Td ⟨x.size,0,Te⟩),iV (Aa .i64 ((k.len:Int)-1))] D (λV W=>∃X Y Z aa ab,V=.tuple #[tA X Y Z aa,.bool ab]/\let ac:=W.push (.cells tC 26);XRunU Tp (Af 26 (.pointer (Td ⟨W.size,0,Te⟩)) (tA X Y Z aa)) ac (λad=>∃ae af ag ah,zd ad ⟨W.size,0,Te⟩ 0 (tL ae af ag ah)/\XC Tp 40 #[tA ae af ag ah] ad (λai aj=>∃ak al am,ai=.tuple #[.agg #[slV ak,slV al],iV am]/\let an:=aj.push (.cells #[.slice Te 0 0,.slice Te 0 0] 71);XRunU Tp (Af 71 (.pointer (Td ⟨aj.size,0,Te⟩)) (.agg #[slV ak,slV al])) an (λao=>∃ap aq,((!(bif (!ab)then Ta else(am != 0)))=Ta->zd ao ⟨aj.size,0,Te⟩ 0 [slV ap,slV aq])/\∃ar au,((!(bif (!ab)then Ta else(am != 0)))=Ta->zd ao ⟨h.size,0,Te⟩ 0 [slV ar,slV au])/\∃av:Value->zb->Prop,((!(bif (!ab)then Ta else(am != 0)))=Ta->XC Tp 106 #[.agg #[slV ap,slV aq],.agg #[slV ar,slV au]] ao (λaw ax=>∃ay,aw=.bool ay/\av (.bool ay) ax))/\((!(bif (!ab)then Ta else(am != 0)))=Tc->∃az,av (.bool az) ao)/\((!(bif (!ab)then Ta else(am != 0)))=Ta->∀aA aB,av aA aB->∃aC,aA=.bool aC)/\∀aD:Bool,∀aE,av (.bool aD) aE->((bif (bif (!ab)then Ta else(am != 0))then Ta else(!aD))=Ta->XRunU Tp (Af 26 (.pointer (Td ⟨d.size,0,Te⟩)) (tZ)) aE (λaF=>∃aG aH aI aJ,zd aF ⟨d.size,0,Te⟩ 0 (tL aG aH aI aJ)/\R (.tuple #[tA aG aH aI aJ,.bool Tc]) aF))/\((bif (bif (!ab)then Ta else(am != 0))then Ta else(!aD))=Tc->∃aL aM aN aO,zd aE ⟨W.size,0,Te⟩ 0 (tL aL aM aN aO)/\XRunU Tp (Af 26 (.pointer (Td ⟨d.size,0,Te⟩)) (tA aL aM aN aO)) aE (λaP=>∃aQ aS aT aU,zd aP ⟨d.size,0,Te⟩ 0 (tL aQ aS aT aU)/\R (.tuple #[tA aQ aS aT aU,.bool Ta]) aP)))))))))))):
  XC Tp 44 #[.agg #[.slice b.a b.len b.cap,.slice c.a c.len c.cap]] h R:=
 XF ⟨[(5,8000),(10,8000)],[(7,[(44,.one (.int .i64))])],[]⟩ [.cell 2 26,.tmp 3] 94 Tryz.func44 H
theorem zhu(b:Sl)(c:Sl)(h:zb)(R:Value->zb->Prop) (H:let d:=h.push (.cells #[slV b,slV c] 71);∃e f,zd d ⟨h.size,0,Te⟩ 0 [slV e,slV f]/\XC Tp 46 #[.agg #[slV e,slV f]] d (λg i=>∃j,g=.bool j/\((!j)=Ta->R (.slice Te 0 0) i)/\((!j)=Tc->let k:=i.push (.map #[] 0);∃l,zc k (Ad ⟨h.size,0,Te⟩ 1)=Td (slV l)/\∃(m:Int->zb->Prop) (n:Int->zb->Nat),m 0 k/\∀o:Int,∀p:zb,m o p->((decide (o<l.len)=Ta->∃q,(l.a=Td q/\0<=o/\o<l.len)/\∃r,zc p (q.add (o.toNat*1))=Td (iV r)/\XRunU Tp (Ce 142 (.map (Td i.size)) (iV r) (iV o)) p (λs=>(m (Aa .i64 (o+1)) s/\n (Aa .i64 (o+1)) s<n o p)))/\(decide (o<l.len)=Tc->XRun Tp (Dx 142 (.map (Td i.size))) p (λt u=>∃v:Option Addr,t=.pointer v/\∃(w:Sl->zb->Prop) (x:Sl->zb->Nat),w (⟨Te,0,0⟩:Sl) u/\∀y:Sl,∀z:zb,w y z->(XRun Tp (CW (.pointer v) Tc 0) z (λA B=>(A=.tuple #[.bool Tc]/\(Tc=Ta->XRun Tp (Dk (.pointer v)) B (λC D=>∃E F:Value,C=.tuple #[E,F]/\bsR Tp 59 1 F D (λG I=>XRun Tp (Au #[59,59] 59 #[slV y,G]) I (λJ L=>∃M,J=slV M/\(w M L/\x M L<x y z)))))/\(Tc=Tc->XC Tp 108 #[slV y] B (λN O=>N=.tuple #[]/\R (slV y) O)))\/∃P Q:Value,A=.tuple #[.bool Ta,P,Q]/\(Ta=Ta->XRun Tp (Dk (.pointer v)) B (λS T=>∃U V:Value,S=.tuple #[U,V]/\bsR Tp 59 1 V T (λW X=>XRun Tp (Au #[59,59] 59 #[slV y,W]) X (λY Z=>∃aa,Y=slV aa/\(w aa Z/\x aa Z<x y z)))))/\(Ta=Tc->XC Tp 108 #[slV y] B (λab ac=>ab=.tuple #[]/\R (slV y) ac)))))))))):
  XC Tp 53 #[.agg #[.slice b.a b.len b.cap,.slice c.a c.len c.cap]] h R:=
 XF ⟨[],[(5,[(16,.one (.int .i64))]),(11,[(6,.one (.sl))])],[]⟩ [.tmp 2] 38 Tryz.func53 H
theorem za1(b0:Option Addr)(b:Int)(c:Bt)(d:Sl)(e:Sl)(h:zb)(R:Value->zb->Prop) (H:let f:=h.push (.cells #[.pointer b0] 199);let g:=f.push (.cells #[iV b,.string c,slV d,slV e] 26);∃i,zc g (Ad ⟨f.size,0,Te⟩ 0)=Td (iV i)/\((i==5)=Ta->∃j:Option Addr,zc g ⟨h.size,0,Te⟩=Td (.pointer j)/\XC Tp 175 #[.pointer j,.string (⟨#[91]⟩:Bt),.func (.func 176) #[] #[.pointer (Td ⟨f.size,0,Te⟩),.pointer (Td ⟨h.size,0,Te⟩)]] g (λk l=>k=.tuple #[]/\R (.tuple #[]) l))/\((i==5)=Tc->((i==6)=Ta->∃m:Option Addr,zc g ⟨h.size,0,Te⟩=Td (.pointer m)/\XC Tp 175 #[.pointer m,.string (⟨#[123]⟩:Bt),.func (.func 177) #[] #[.pointer (Td ⟨f.size,0,Te⟩),.pointer (Td ⟨h.size,0,Te⟩)]] g (λn o=>n=.tuple #[]/\R (.tuple #[]) o))/\((i==6)=Tc->∃p:Option Addr,zc g ⟨h.size,0,Te⟩=Td (.pointer p)/\∃q r s t,zd g ⟨f.size,0,Te⟩ 0 (tL q r s t)/\XC Tp 178 #[tA q r s t] g (λu v=>∃w,u=.string w/\(v)[(⟨h.size,0,Te⟩:Addr).block]?=(g)[(⟨h.size,0,Te⟩:Addr).block]?/\XC Tp 175 #[.pointer p,.string w,.func (.func 180) #[] #[]] v (λx y=>x=.tuple #[]/\R (.tuple #[]) y))))):
  XC Tp 100 #[.pointer b0,.agg #[.int .i64 b,.string c,.slice d.a d.len d.cap,.slice e.a e.len e.cap]] h R:=
 XF ⟨[(2,8000)],[],[]⟩ [] 20 Tryz.func100 H
theorem zkx(b:Sl)(c:Sl)(h:zb)(R:Value->zb->Prop) (H:let d:=h.push (.cells #[slV b,slV c] 71);∃e,zc d (Ad ⟨h.size,0,Te⟩ 0)=Td (slV e)/\∃f,zc d (Ad ⟨h.size,0,Te⟩ 1)=Td (slV f)/\∃g,((!((e.len:Int) != (f.len:Int)))=Ta->zc d (Ad ⟨h.size,0,Te⟩ 0)=Td (slV g))/\((bif ((e.len:Int) != (f.len:Int))then Ta else(decide ((g.len:Int)>512)))=Ta->R (.tuple #[.slice Te 0 0,.bool Tc]) d)/\((bif ((e.len:Int) != (f.len:Int))then Ta else(decide ((g.len:Int)>512)))=Tc->∃i,zc d (Ad ⟨h.size,0,Te⟩ 1)=Td (slV i)/\XRun Tp (Instr.makeSlice 59 (iV (i.len:Int)) (iV (i.len:Int))) d (λj k=>∃l,j=slV l/\∃m,zc k (Ad ⟨h.size,0,Te⟩ 1)=Td (slV m)/\∃(n:Sl->Int->zb->Prop) (o:Sl->Int->zb->Nat),n (⟨Te,0,0⟩:Sl) 0 k/\∀p:Sl,∀q:Int,∀r:zb,n p q r->((decide (q<m.len)=Ta->∃s,(m.a=Td s/\0<=q/\q<m.len)/\∃t,zc r (s.add (q.toNat*1))=Td (iV t)/\((bif (decide (t<0))then Ta else(decide (t>q)))=Ta->R (.tuple #[.slice Te 0 0,.bool Tc]) r)/\((bif (decide (t<0))then Ta else(decide (t>q)))=Tc->∃(u:Sl->zb->Prop) (w:Sl->zb->Nat),u p r/\∀x:Sl,∀y:zb,u x y->(∃z,(decide ((x.len:Int)>0)=Ta->(x.a=Td z/\0<=(Aa .i64 ((x.len:Int)-1))/\(Aa .i64 ((x.len:Int)-1))<(x.len:Int)))/\∃A,(decide ((x.len:Int)>0)=Ta->zc y (z.add ((Aa .i64 ((x.len:Int)-1)).toNat*1))=Td (iV A))/\((bif (decide ((x.len:Int)>0))then(decide (A>=t))else Tc)=Ta->∃B,(x.a=Td B/\0<=(Aa .i64 ((x.len:Int)-1))/\(Aa .i64 ((x.len:Int)-1))<(x.len:Int))/\∃C,zc y (B.add ((Aa .i64 ((x.len:Int)-1)).toNat*1))=Td (iV C)/\∃D,zc y (Ad ⟨h.size,0,Te⟩ 1)=Td (slV D)/\∃E,(D.a=Td E/\0<=C/\C<D.len)/\∃F,zc y (E.add (C.toNat*1))=Td (iV F)/\(decide (F<t)=Ta->R (.tuple #[.slice Te 0 0,.bool Tc]) y)/\(decide (F<t)=Tc->∃G,(l.a=Td G/\0<=C/\C<l.len)/\let I:zb->Prop:=λ(J:zb)=>((u (⟨ze7 x.a 1 ((0:Int).toNat) ((x.cap:Int).toNat),(Aa .i64 ((x.len:Int)-1)).toNat-(0:Int).toNat,(x.cap:Int).toNat-(0:Int).toNat⟩:Sl) J/\w (⟨ze7 x.a 1 ((0:Int).toNat) ((x.cap:Int).toNat),(Aa .i64 ((x.len:Int)-1)).toNat-(0:Int).toNat,(x.cap:Int).toNat-(0:Int).toNat⟩:Sl) J<w x y));(((Te:Option Value)=Te\/∃v,(Td (iV (Aa .i64 ((x.len:Int)-1))):Option Value)=Td v)/\(0<=(0:Int)/\(0:Int)<=(Aa .i64 ((x.len:Int)-1))/\(Aa .i64 ((x.len:Int)-1))<=(x.cap:Int)/\(x.cap:Int)<=(x.cap:Int))/\XRunU Tp (Af 3 (.pointer (Td (G.add (C.toNat*1)))) (iV q)) y (λL=>I L))/\(XRunU Tp (Af 3 (.pointer (Td (G.add (C.toNat*1)))) (iV q)) y (λM=>((Te:Option Value)=Te\/∃v,(Td (iV (Aa .i64 ((x.len:Int)-1))):Option Value)=Td v)/\(0<=(0:Int)/\(0:Int)<=(Aa .i64 ((x.len:Int)-1))/\(Aa .i64 ((x.len:Int)-1))<=(x.cap:Int)/\(x.cap:Int)<=(x.cap:Int))/\I M))))/\((bif (decide ((x.len:Int)>0))then(decide (A>=t))else Tc)=Tc->∃N,(l.a=Td N/\0<=q/\q<l.len)/\XRunU Tp (Af 3 (.pointer (Td (N.add (q.toNat*1)))) (iV (-1))) y (λO=>let P:=O.push (.cells #[iV q] 3);XRun Tp (Au #[59,59] 59 #[slV x,.slice (Td ⟨O.size,0,Te⟩) 1 1]) P (λQ S=>∃T,Q=slV T/\(n T (Aa .i64 (q+1)) S/\o T (Aa .i64 (q+1)) S<o p q r)))))))/\(decide (q<m.len)=Tc->R (.tuple #[slV l,.bool Ta]) r))))):
  XC Tp 104 #[.agg #[.slice b.a b.len b.cap,.slice c.a c.len c.cap]] h R:=
 XF ⟨[(14,8000)],[(6,[(5,.one (.sl)),(29,.one (.int .i64))]),(10,[(5,.one (.sl))])],[]⟩ [.tmp 2,.tmp 3] 85 Tryz.func104 H
theorem zbu(r0:Option Addr)(n1:Int)(h:zb)(R:Value->zb->Prop) (H:let b:=h.push (.cells tC 26);∃c,r0=Td c/\∃d,zc b (Ad (Ad c 0) 0)=Td (slV d)/\∃e,(d.a=Td e/\0<=n1/\n1<d.len)/\∃f,zc b (e.add (n1.toNat*1))=Td (.string f)/\((f.toList==(⟨#[91]⟩:Bt).toList)=Ta->XRunU Tp (Af 3 (.pointer (Td (Ad ⟨h.size,0,Te⟩ 0))) (iV 5)) b (λg=>∃i,r0=Td i/\∃j,zc g (Ad i 2)=Td (slV j)/\∃k,(j.a=Td k/\0<=n1/\n1<j.len)/\∃l,zc g (k.add (n1.toNat*1))=Td (slV l)/\∃(m:Int->zb->Prop) (n:Int->zb->Nat),m 0 g/\∀o:Int,∀p:zb,m o p->((decide (o<l.len)=Ta->∃q,(l.a=Td q/\0<=o/\o<l.len)/\∃r,zc p (q.add (o.toNat*1))=Td (iV r)/\XC Tp 105 #[.pointer r0,iV r] p (λs t=>∃u v w x y,s=.tuple #[tA u v w x,.bool y]/\let z:=t.push (.cells tC 26);XRunU Tp (Af 26 (.pointer (Td ⟨t.size,0,Te⟩)) (tA u v w x)) z (λA=>((!y)=Ta->XRunU Tp (Af 26 (.pointer (Td ⟨h.size,0,Te⟩)) (tZ)) A (λB=>∃C D E F,zd B ⟨h.size,0,Te⟩ 0 (tL C D E F)/\R (.tuple #[tA C D E F,.bool Tc]) B))/\((!y)=Tc->∃G,zc A (Ad ⟨h.size,0,Te⟩ 3)=Td (slV G)/\∃I J L M,zd A ⟨t.size,0,Te⟩ 0 (tL I J L M)/\let N:=A.push (.cells #[iV I,.string J,slV L,slV M] 26);XRun Tp (Au #[24,24] 24 #[slV G,.slice (Td ⟨A.size,0,Te⟩) 1 1]) N (λO P=>∃Q,O=slV Q/\XRunU Tp (Af 24 (.pointer (Td (Ad ⟨h.size,0,Te⟩ 3))) (slV Q)) P (λS=>(m (Aa .i64 (o+1)) S/\n (Aa .i64 (o+1)) S<n o p)))))))/\(decide (o<l.len)=Tc->∃T U V W,zd p ⟨h.size,0,Te⟩ 0 (tL T U V W)/\XRunU Tp (Af 26 (.pointer (Td ⟨h.size,0,Te⟩)) (tA T U V W)) p (λX=>∃Y Z aa ab,zd X ⟨h.size,0,Te⟩ 0 (tL Y Z aa ab)/\R (.tuple #[tA Y Z aa ab,.bool Ta]) X)))))/\((f.toList==(⟨#[91]⟩:Bt).toList)=Tc->((f.toList==(⟨#[123]⟩:Bt).toList)=Ta->XRunU Tp (Af 3 (.pointer (Td (Ad ⟨h.size,0,Te⟩ 0))) (iV 6)) b (λac=>∃ad,r0=Td ad/\∃ae,zc ac (Ad ad 2)=Td (slV ae)/\∃af,(ae.a=Td af/\0<=n1/\n1<ae.len)/\∃ag,zc ac (af.add (n1.toNat*1))=Td (slV ag)/\∃(ah:Int->zb->Prop) (ai:Int->zb->Nat),ah 0 ac/\∀aj:Int,∀ak:zb,ah aj ak->((decide (aj<ag.len)=Ta->∃al,(ag.a=Td al/\0<=aj/\aj<ag.len)/\∃am,zc ak (al.add (aj.toNat*1))=Td (iV am)/\XC Tp 188 #[.pointer r0,iV am] ak (λan ao=>∃ap aq ar au av aw,an=.tuple #[.string ap,tA aq ar au av,.bool aw]/\let ax:=ao.push (.cells tC 26);XRunU Tp (Af 26 (.pointer (Td ⟨ao.size,0,Te⟩)) (tA aq ar au av)) ax (λay=>((!aw)=Ta->XRunU Tp (Af 26 (.pointer (Td ⟨h.size,0,Te⟩)) (tZ)) ay (λaz=>∃aA aB aC aD,zd az ⟨h.size,0,Te⟩ 0 (tL aA aB aC aD)/\R (.tuple #[tA aA aB aC aD,.bool Tc]) az))/\((!aw)=Tc->∃aE,zc ay (Ad ⟨h.size,0,Te⟩ 2)=Td (slV aE)/\∃aF,zc ay (Ad ⟨h.size,0,Te⟩ 3)=Td (slV aF)/\∃aG aH aI aJ,zd ay ⟨ao.size,0,Te⟩ 0 (tL aG aH aI aJ)/\let aL:Sl->Sl->zb->Prop:=λ(aM:Sl) (aN:Sl) (aO:zb)=>(XRun Tp (Au #[24,24] 24 #[slV aF,slV aM]) aO (λaP aQ=>∃aS,aP=slV aS/\XRunU Tp (Af 23 (.pointer (Td (Ad ⟨h.size,0,Te⟩ 2))) (slV aN)) aQ (λaT=>XRunU Tp (Af 24 (.pointer (Td (Ad ⟨h.size,0,Te⟩ 3))) (slV aS)) aT (λaU=>(ah (Aa .i64 (aj+1)) aU/\ai (Aa .i64 (aj+1)) aU<ai aj ak)))));let aV:Sl->Sl->zb->Prop:=λ(aW:Sl) (aX:Sl) (aY:zb)=>(XRun Tp (Au #[23,23] 23 #[slV aE,slV aX]) aY (λaZ a0=>∃a1,aZ=slV a1/\(a0)[((Ad ⟨h.size,0,Te⟩ 3):Addr).block]?=(ay)[((Ad ⟨h.size,0,Te⟩ 3):Addr).block]?/\aL aW a1 a0));(let a2:=ay.push (.cells #[.string ap] 9);(a2)[(⟨ao.size,0,Te⟩:Addr).block]?=(ay)[(⟨ao.size,0,Te⟩:Addr).block]?/\(a2)[((Ad ⟨h.size,0,Te⟩ 3):Addr).block]?=(ay)[((Ad ⟨h.size,0,Te⟩ 3):Addr).block]?/\(a2)[((Ad ⟨h.size,0,Te⟩ 2):Addr).block]?=(ay)[((Ad ⟨h.size,0,Te⟩ 2):Addr).block]?/\(XRun Tp (Au #[23,23] 23 #[slV aE,.slice (Td ⟨ay.size,0,Te⟩) 1 1]) a2 (λa3 a4=>∃a5,a3=slV a5/\(a4)[(⟨ao.size,0,Te⟩:Addr).block]?=(ay)[(⟨ao.size,0,Te⟩:Addr).block]?/\(a4)[((Ad ⟨h.size,0,Te⟩ 3):Addr).block]?=(ay)[((Ad ⟨h.size,0,Te⟩ 3):Addr).block]?/\let a6:=a4.push (.cells #[iV aG,.string aH,slV aI,slV aJ] 26);(a6)[((Ad ⟨h.size,0,Te⟩ 3):Addr).block]?=(ay)[((Ad ⟨h.size,0,Te⟩ 3):Addr).block]?/\aL (⟨Td ⟨a4.size,0,Te⟩,1,1⟩:Sl) a5 a6))/\(let a7:=a2.push (.cells #[iV aG,.string aH,slV aI,slV aJ] 26);(a7)[((Ad ⟨h.size,0,Te⟩ 3):Addr).block]?=(ay)[((Ad ⟨h.size,0,Te⟩ 3):Addr).block]?/\(a7)[((Ad ⟨h.size,0,Te⟩ 2):Addr).block]?=(ay)[((Ad ⟨h.size,0,Te⟩ 2):Addr).block]?/\aV (⟨Td ⟨a2.size,0,Te⟩,1,1⟩:Sl) (⟨Td ⟨ay.size,0,Te⟩,1,1⟩:Sl) a7))/\(let a8:=ay.push (.cells #[iV aG,.string aH,slV aI,slV aJ] 26);(a8)[((Ad ⟨h.size,0,Te⟩ 3):Addr).block]?=(ay)[((Ad ⟨h.size,0,Te⟩ 3):Addr).block]?/\(a8)[((Ad ⟨h.size,0,Te⟩ 2):Addr).block]?=(ay)[((Ad ⟨h.size,0,Te⟩ 2):Addr).block]?/\let a9:=a8.push (.cells #[.string ap] 9);(a9)[((Ad ⟨h.size,0,Te⟩ 3):Addr).block]?=(ay)[((Ad ⟨h.size,0,Te⟩ 3):Addr).block]?/\(a9)[((Ad ⟨h.size,0,Te⟩ 2):Addr).block]?=(ay)[((Ad ⟨h.size,0,Te⟩ 2):Addr).block]?/\aV (⟨Td ⟨ay.size,0,Te⟩,1,1⟩:Sl) (⟨Td ⟨a8.size,0,Te⟩,1,1⟩:Sl) a9)))))/\(decide (aj<ag.len)=Tc->∃ba bb bc bd,zd ak ⟨h.size,0,Te⟩ 0 (tL ba bb bc bd)/\XRunU Tp (Af 26 (.pointer (Td ⟨h.size,0,Te⟩)) (tA ba bb bc bd)) ak (λbe=>∃bf bg bh bi,zd be ⟨h.size,0,Te⟩ 0 (tL bf bg bh bi)/\R (.tuple #[tA bf bg bh bi,.bool Ta]) be)))))/\((f.toList==(⟨#[123]⟩:Bt).toList)=Tc->∃bj,r0=Td bj/\∃bk,zc b (Ad (Ad bj 0) 0)=Td (slV bk)/\∃bl,(bk.a=Td bl/\0<=n1/\n1<bk.len)/\∃bm,zc b (bl.add (n1.toNat*1))=Td (.string bm)/\XC Tp 189 #[.string bm] b (λbn bo=>∃bp bq br bs bt,bn=.tuple #[tA bp bq br bs,.bool bt]/\XRunU Tp (Af 26 (.pointer (Td ⟨h.size,0,Te⟩)) (tA bp bq br bs)) bo (λbu=>∃bv bw bx bz,zd bu ⟨h.size,0,Te⟩ 0 (tL bv bw bx bz)/\let bA:Bool->zb->Prop:=λbB (bC:zb)=>(∃bD bE bF bG,zd bC ⟨h.size,0,Te⟩ 0 (tL bD bE bF bG)/\R (.tuple #[tA bD bE bF bG,.bool bB]) bC);let bH:Bool->zb->Prop:=λbI (bJ:zb)=>(bA (bif bt then bI else Tc) bJ);let bL:Int->zb->Prop:=λbM (bN:zb)=>(bH (bM==0) bN);let bO:Sl->zb->Prop:=λ(bP:Sl) (bQ:zb)=>(bL (bP.len:Int) bQ);let bS:Addr->zb->Prop:=λ(bT:Addr) (bU:zb)=>(∃bV,(bt=Ta->zc bU bT=Td (slV bV))/\bO bV bU);let bW:Sl->zb->Prop:=λ(bX:Sl) (bY:zb)=>(∃bZ,(bt=Ta->(bX.a=Td bZ/\0<=n1/\n1<bX.len))/\bS (bZ.add (n1.toNat*1)) bY);let b0:Sl->zb->Prop:=λ(b1:Sl) (b2:zb)=>((∃b3,(bt=Ta->(b1.a=Td b3/\0<=n1/\n1<b1.len))/\(b2)[(⟨h.size,0,Te⟩:Addr).block]?=(bu)[(⟨h.size,0,Te⟩:Addr).block]?/\(∃b4,(bt=Ta->zc b2 (b3.add (n1.toNat*1))=Td (slV b4))/\(b2)[(⟨h.size,0,Te⟩:Addr).block]?=(bu)[(⟨h.size,0,Te⟩:Addr).block]?/\((b2)[(⟨h.size,0,Te⟩:Addr).block]?=(bu)[(⟨h.size,0,Te⟩:Addr).block]?/\((b2)[(⟨h.size,0,Te⟩:Addr).block]?=(bu)[(⟨h.size,0,Te⟩:Addr).block]?/\((b2)[(⟨h.size,0,Te⟩:Addr).block]?=(bu)[(⟨h.size,0,Te⟩:Addr).block]?/\XRunU Tp (Af 26 (.pointer (Td ⟨h.size,0,Te⟩)) (tA bv bw bx bz)) b2 (λb5=>bA (bif bt then((b4.len:Int)==0)else Tc) b5))/\(XRunU Tp (Af 26 (.pointer (Td ⟨h.size,0,Te⟩)) (tA bv bw bx bz)) b2 (λb6=>bH ((b4.len:Int)==0) b6)))/\(XRunU Tp (Af 26 (.pointer (Td ⟨h.size,0,Te⟩)) (tA bv bw bx bz)) b2 (λb7=>bL (b4.len:Int) b7)))/\(XRunU Tp (Af 26 (.pointer (Td ⟨h.size,0,Te⟩)) (tA bv bw bx bz)) b2 (λb8=>bO b4 b8)))/\(XRunU Tp (Af 26 (.pointer (Td ⟨h.size,0,Te⟩)) (tA bv bw bx bz)) b2 (λb9=>bS (b3.add (n1.toNat*1)) b9)))/\(XRunU Tp (Af 26 (.pointer (Td ⟨h.size,0,Te⟩)) (tA bv bw bx bz)) b2 (λca=>bW b1 ca)));let cb:Sl->zb->Prop:=λ(cc:Sl) (cd:zb)=>(bW cc cd);let ce:Addr->zb->Prop:=λ(cf:Addr) (cg:zb)=>(∃ch,(bt=Ta->zc cg cf=Td (slV ch))/\bW ch cg);let ci:Addr->zb->Prop:=λ(cj:Addr) (ck:zb)=>((∃cl,(bt=Ta->zc ck cj=Td (slV cl))/\(ck)[(⟨h.size,0,Te⟩:Addr).block]?=(bu)[(⟨h.size,0,Te⟩:Addr).block]?/\b0 cl ck)/\(XRunU Tp (Af 26 (.pointer (Td ⟨h.size,0,Te⟩)) (tA bv bw bx bz)) ck (λcm=>ce cj cm)));let cn:Addr->zb->Prop:=λ(co:Addr) (cp:zb)=>((∃cq,(bt=Ta->zc cp co=Td (slV cq))/\cb cq cp)/\(ce co cp));let cr:Addr->zb->Prop:=λ(cs:Addr) (ct:zb)=>(ce (Ad cs 2) ct);let cu:Addr->zb->Prop:=λ(cv:Addr) (cw:zb)=>(((cw)[(⟨h.size,0,Te⟩:Addr).block]?=(bu)[(⟨h.size,0,Te⟩:Addr).block]?/\ci (Ad cv 2) cw)/\(XRunU Tp (Af 26 (.pointer (Td ⟨h.size,0,Te⟩)) (tA bv bw bx bz)) cw (λcx=>cr cv cx)));let cy:Addr->zb->Prop:=λ(cz:Addr) (cA:zb)=>((cn (Ad cz 2) cA)/\(cr cz cA));let cB:zb->Prop:=λ(cC:zb)=>(∃cD,(bt=Ta->r0=Td cD)/\cr cD cC);let cE:zb->Prop:=λ(cF:zb)=>((∃cG,(bt=Ta->r0=Td cG)/\(cF)[(⟨h.size,0,Te⟩:Addr).block]?=(bu)[(⟨h.size,0,Te⟩:Addr).block]?/\cu cG cF)/\(XRunU Tp (Af 26 (.pointer (Td ⟨h.size,0,Te⟩)) (tA bv bw bx bz)) cF (λcH=>cB cH)));let cI:zb->Prop:=λ(cJ:zb)=>((∃cL,(bt=Ta->r0=Td cL)/\cy cL cJ)/\(cB cJ));let cM:zb->Prop:=λ(cN:zb)=>(cB cN);((bu)[(⟨h.size,0,Te⟩:Addr).block]?=(bu)[(⟨h.size,0,Te⟩:Addr).block]?/\(∃cO,(bt=Ta->r0=Td cO)/\(bu)[(⟨h.size,0,Te⟩:Addr).block]?=(bu)[(⟨h.size,0,Te⟩:Addr).block]?/\((bu)[(⟨h.size,0,Te⟩:Addr).block]?=(bu)[(⟨h.size,0,Te⟩:Addr).block]?/\(∃cP,(bt=Ta->zc bu (Ad cO 2)=Td (slV cP))/\(bu)[(⟨h.size,0,Te⟩:Addr).block]?=(bu)[(⟨h.size,0,Te⟩:Addr).block]?/\((bu)[(⟨h.size,0,Te⟩:Addr).block]?=(bu)[(⟨h.size,0,Te⟩:Addr).block]?/\b0 cP bu)/\(XRunU Tp (Af 26 (.pointer (Td ⟨h.size,0,Te⟩)) (tA bv bw bx bz)) bu (λcQ=>cb cP cQ)))/\((bu)[(⟨h.size,0,Te⟩:Addr).block]?=(bu)[(⟨h.size,0,Te⟩:Addr).block]?/\ci (Ad cO 2) bu)/\(XRunU Tp (Af 26 (.pointer (Td ⟨h.size,0,Te⟩)) (tA bv bw bx bz)) bu (λcS=>cn (Ad cO 2) cS)))/\((bu)[(⟨h.size,0,Te⟩:Addr).block]?=(bu)[(⟨h.size,0,Te⟩:Addr).block]?/\cu cO bu)/\(XRunU Tp (Af 26 (.pointer (Td ⟨h.size,0,Te⟩)) (tA bv bw bx bz)) bu (λcT=>cy cO cT)))/\((bu)[(⟨h.size,0,Te⟩:Addr).block]?=(bu)[(⟨h.size,0,Te⟩:Addr).block]?/\cE bu)/\(XRunU Tp (Af 26 (.pointer (Td ⟨h.size,0,Te⟩)) (tA bv bw bx bz)) bu (λcU=>cI cU)))/\((bu)[(⟨h.size,0,Te⟩:Addr).block]?=(bu)[(⟨h.size,0,Te⟩:Addr).block]?/\((bu)[(⟨h.size,0,Te⟩:Addr).block]?=(bu)[(⟨h.size,0,Te⟩:Addr).block]?/\cE bu)/\(XRunU Tp (Af 26 (.pointer (Td ⟨h.size,0,Te⟩)) (tA bv bw bx bz)) bu (λcV=>cM cV)))/\(XRunU Tp (Af 26 (.pointer (Td ⟨h.size,0,Te⟩)) (tA bv bw bx bz)) bu (λcW=>(cI cW)/\(cM cW)))))))):
  XC Tp 105 #[.pointer r0,.int .i64 n1] h R:=
 XF ⟨[(21,8000),(25,8000)],[(5,[(34,.one (.int .i64))]),(16,[(66,.one (.int .i64))])],[]⟩ [.cell 4 26,.tmp 5] 119 Tryz.func105 H
theorem zqf(b:Int)(c:Bt)(d:Sl)(e:Sl)(f:Int)(g:Bt)(i:Sl)(j:Sl)(h:zb)(R:Value->zb->Prop) (H:let k:=h.push (.cells #[iV b,.string c,slV d,slV e] 26);let l:=k.push (.cells #[iV f,.string g,slV i,slV j] 26);∀m:Bool->zb->Prop,(∀n:Bool,∀o:zb,((n=Ta->R (.bool Tc) o)/\(n=Tc->∃p,zc o (Ad ⟨h.size,0,Te⟩ 0)=Td (iV p)/\((p != 6)=Ta->∃q,zc o (Ad ⟨h.size,0,Te⟩ 3)=Td (slV q)/\∃r,zc o (Ad ⟨k.size,0,Te⟩ 3)=Td (slV r)/\XC Tp 194 #[slV q,slV r,.func (.func 109) #[] #[]] o (λs t=>∃u,s=.bool u/\R (.bool u) t))/\((p != 6)=Tc->∃v w x y,zd o ⟨h.size,0,Te⟩ 0 (tL v w x y)/\∃z A B C,zd o ⟨k.size,0,Te⟩ 0 (tL z A B C)/\XC Tp 172 #[tA v w x y] o (λD E=>∃F:Option Nat,D=.map F/\(E)[(⟨k.size,0,Te⟩:Addr).block]?=(o)[(⟨k.size,0,Te⟩:Addr).block]?/\XC Tp 172 #[tA z A B C] E (λG I=>∃J:Option Nat,G=.map J/\XC Tp 195 #[.map F,.map J,.func (.func 109) #[] #[]] I (λL M=>∃N,L=.bool N/\R (.bool N) M))))))->m n o)->∃O,zc l (Ad ⟨h.size,0,Te⟩ 0)=Td (iV O)/\∃P,zc l (Ad ⟨k.size,0,Te⟩ 0)=Td (iV P)/\((O != P)=Ta->m (O != P) l)/\((O != P)=Tc->∃Q,zc l (Ad ⟨h.size,0,Te⟩ 1)=Td (.string Q)/\∃S,zc l (Ad ⟨k.size,0,Te⟩ 1)=Td (.string S)/\((!(Q.toList==S.toList))=Ta->m (!(Q.toList==S.toList)) l)/\((!(Q.toList==S.toList))=Tc->∃T,zc l (Ad ⟨h.size,0,Te⟩ 3)=Td (slV T)/\∃U,zc l (Ad ⟨k.size,0,Te⟩ 3)=Td (slV U)/\m ((T.len:Int) != (U.len:Int)) l))):
  XC Tp 109 #[.agg #[.int .i64 b,.string c,.slice d.a d.len d.cap,.slice e.a e.len e.cap],.agg #[.int .i64 f,.string g,.slice i.a i.len i.cap,.slice j.a j.len j.cap]] h R:=
 XF ⟨[(7,8000)],[],[(4,[(5,.one (.bool))])]⟩ [.tmp 4] 37 Tryz.func109 H
theorem zdd(b0:Option Addr)(P:Bt)(O:FuncId)(S:Array Value)(Q:Array Value)(h:zb)(R:Value->zb->Prop) (H:∃b,b0=Td b/\∃c,zc h (Ad (Ad b 0) 0)=Td (slV c)/\zh Tp O=Ta/\XC Tp O (S++#[]++Q) h (λd e=>d=.tuple #[]/\∃f,b0=Td f/\∃g,zc e (Ad (Ad f 0) 0)=Td (slV g)/\(decide ((g.len:Int)<=512)=Ta->∃i,b0=Td i/\∃j,zc e (Ad (Ad i 0) 0)=Td (slV j)/\∃k,b0=Td k/\∃l,zc e (Ad (Ad k 0) 1)=Td (slV l)/\let m:Sl->Sl->zb->Prop:=λ(n:Sl) (o:Sl) (p:zb)=>(XRun Tp (Au #[59,59] 59 #[slV l,slV n]) p (λq r=>∃s,q=slV s/\∃t,b0=Td t/\XRunU Tp (Af 23 (.pointer (Td (Ad (Ad t 0) 0))) (slV o)) r (λu=>∃v,b0=Td v/\XRunU Tp (Af 59 (.pointer (Td (Ad (Ad v 0) 1))) (slV s)) u (λw=>R (.tuple #[]) w))));let x:Sl->Sl->zb->Prop:=λ(y:Sl) (z:Sl) (A:zb)=>(XRun Tp (Au #[23,23] 23 #[slV j,slV z]) A (λB C=>∃D,B=slV D/\(C)[((Ad (Ad k 0) 1):Addr).block]?=(e)[((Ad (Ad k 0) 1):Addr).block]?/\m y D C));(let E:=e.push (.cells #[.string P] 9);(E)[((Ad (Ad k 0) 1):Addr).block]?=(e)[((Ad (Ad k 0) 1):Addr).block]?/\(E)[((Ad (Ad i 0) 0):Addr).block]?=(e)[((Ad (Ad i 0) 0):Addr).block]?/\(XRun Tp (Au #[23,23] 23 #[slV j,.slice (Td ⟨e.size,0,Te⟩) 1 1]) E (λF G=>∃I,F=slV I/\(G)[((Ad (Ad k 0) 1):Addr).block]?=(e)[((Ad (Ad k 0) 1):Addr).block]?/\let J:=G.push (.cells #[iV (c.len:Int)] 3);(J)[((Ad (Ad k 0) 1):Addr).block]?=(e)[((Ad (Ad k 0) 1):Addr).block]?/\m (⟨Td ⟨G.size,0,Te⟩,1,1⟩:Sl) I J))/\(let L:=E.push (.cells #[iV (c.len:Int)] 3);(L)[((Ad (Ad k 0) 1):Addr).block]?=(e)[((Ad (Ad k 0) 1):Addr).block]?/\(L)[((Ad (Ad i 0) 0):Addr).block]?=(e)[((Ad (Ad i 0) 0):Addr).block]?/\x (⟨Td ⟨E.size,0,Te⟩,1,1⟩:Sl) (⟨Td ⟨e.size,0,Te⟩,1,1⟩:Sl) L))/\(let M:=e.push (.cells #[iV (c.len:Int)] 3);(M)[((Ad (Ad k 0) 1):Addr).block]?=(e)[((Ad (Ad k 0) 1):Addr).block]?/\(M)[((Ad (Ad i 0) 0):Addr).block]?=(e)[((Ad (Ad i 0) 0):Addr).block]?/\let N:=M.push (.cells #[.string P] 9);(N)[((Ad (Ad k 0) 1):Addr).block]?=(e)[((Ad (Ad k 0) 1):Addr).block]?/\(N)[((Ad (Ad i 0) 0):Addr).block]?=(e)[((Ad (Ad i 0) 0):Addr).block]?/\x (⟨Td ⟨e.size,0,Te⟩,1,1⟩:Sl) (⟨Td ⟨M.size,0,Te⟩,1,1⟩:Sl) N))/\(decide ((g.len:Int)<=512)=Tc->R (.tuple #[]) e))):
  XC Tp 175 #[.pointer b0,.string P,.func (.func O) S Q] h R:=
 XF ⟨[(3,8000)],[],[]⟩ [] 46 Tryz.func175 H
theorem Xc(c0:Addr)(c1:Addr)(h:zb)(R:Value->zb->Prop) (H:∃b,zc h (Ad c0 3)=Td (slV b)/\∃(c:Int->zb->Prop) (d:Int->zb->Nat),c 0 h/\∀e:Int,∀f:zb,c e f->((decide (e<b.len)=Ta->∃g,(b.a=Td g/\0<=e/\e<b.len)/\∃i j k l,zd f (g.add (e.toNat*4)) 0 (tL i j k l)/\let m:=f.push (.cells tC 26);XRunU Tp (Af 26 (.pointer (Td ⟨f.size,0,Te⟩)) (tA i j k l)) m (λn=>∃o:Option Addr,zc n c1=Td (.pointer o)/\∃p q r s,zd n ⟨f.size,0,Te⟩ 0 (tL p q r s)/\XC Tp 100 #[.pointer o,tA p q r s] n (λt u=>t=.tuple #[]/\(c (Aa .i64 (e+1)) u/\d (Aa .i64 (e+1)) u<d e f))))/\(decide (e<b.len)=Tc->R (.tuple #[]) f))):
  XC Tp 176 #[.pointer (Td c0),.pointer (Td c1)] h R:=
 XF ⟨[],[(1,[(7,.one (.int .i64))])],[]⟩ [] 15 Tryz.func176 H
theorem Xd(c0:Addr)(c1:Addr)(h:zb)(R:Value->zb->Prop) (H:∃b,zc h (Ad c0 3)=Td (slV b)/\∃(c:Int->zb->Prop) (d:Int->zb->Nat),c 0 h/\∀e:Int,∀f:zb,c e f->((decide (e<b.len)=Ta->∃g,(b.a=Td g/\0<=e/\e<b.len)/\∃i j k l,zd f (g.add (e.toNat*4)) 0 (tL i j k l)/\let m:=f.push (.cells tC 26);XRunU Tp (Af 26 (.pointer (Td ⟨f.size,0,Te⟩)) (tA i j k l)) m (λn=>∃o:Option Addr,zc n c1=Td (.pointer o)/\∃p,zc n (Ad c0 2)=Td (slV p)/\∃q,(p.a=Td q/\0<=e/\e<p.len)/\∃r,zc n (q.add (e.toNat*1))=Td (.string r)/\let s:Bt->zb->Prop:=λt (u:zb)=>(XC Tp 175 #[.pointer o,.string t,.func (.func 179) #[] #[.pointer (Td c1),.pointer (Td ⟨f.size,0,Te⟩)]] u (λv w=>v=.tuple #[]/\(c (Aa .i64 (e+1)) w/\d (Aa .i64 (e+1)) w<d e f)));let x:Int->Bt->Sl->Sl->zb->Prop:=λy z (A:Sl) (B:Sl) (C:zb)=>(XC Tp 178 #[tA y z A B] C (λD E=>∃F,D=.string F/\wu (((⟨#[107]⟩:Bt)).size+F.size)/\(E)[(c1:Addr).block]?=(n)[(c1:Addr).block]?/\s ((⟨#[107]⟩:Bt)++F) E));(XC Tp 28 #[.string r] n (λG I=>∃J L M N,G=tA J L M N/\(I)[(c1:Addr).block]?=(n)[(c1:Addr).block]?/\(XC Tp 178 #[tA J L M N] I (λO P=>∃Q,O=.string Q/\wu (((⟨#[107]⟩:Bt)).size+Q.size)/\(P)[(c1:Addr).block]?=(n)[(c1:Addr).block]?/\(P)[(c1:Addr).block]?=(n)[(c1:Addr).block]?/\s ((⟨#[107]⟩:Bt)++Q) P))/\((I)[(c1:Addr).block]?=(n)[(c1:Addr).block]?/\x J L M N I)))/\((n)[((q.add (e.toNat*1)):Addr).block]?=(n)[((q.add (e.toNat*1)):Addr).block]?/\(n)[((Ad c0 2):Addr).block]?=(n)[((Ad c0 2):Addr).block]?/\(n)[(c1:Addr).block]?=(n)[(c1:Addr).block]?/\XC Tp 28 #[.string r] n (λS T=>∃U V W X,S=tA U V W X/\(T)[(c1:Addr).block]?=(n)[(c1:Addr).block]?/\x U V W X T))))/\(decide (e<b.len)=Tc->R (.tuple #[]) f))):
  XC Tp 177 #[.pointer (Td c0),.pointer (Td c1)] h R:=
 XF ⟨[(3,8000)],[(1,[(7,.one (.int .i64))])],[]⟩ [] 24 Tryz.func177 H
theorem Y7(c0:Addr)(c1:Addr)(h:zb)(R:Value->zb->Prop) (H:∃b:Option Addr,zc h c0=Td (.pointer b)/\∃c d e f,zd h c1 0 (tL c d e f)/\XC Tp 100 #[.pointer b,tA c d e f] h (λg i=>g=.tuple #[]/\R (.tuple #[]) i)):
  XC Tp 179 #[.pointer (Td c0),.pointer (Td c1)] h R:=
 XF ⟨[],[],[]⟩ [] 5 Tryz.func179 H
theorem za2(r0:Option Addr)(n1:Int)(h:zb)(R:Value->zb->Prop) (H:let b:=h.push (.cells tC 26);∃c,r0=Td c/\∃d,zc b (Ad (Ad c 0) 0)=Td (slV d)/\∃e,(d.a=Td e/\0<=n1/\n1<d.len)/\∃f,zc b (e.add (n1.toNat*1))=Td (.string f)/\((!((f.size:Int)==0))=Ta->(0<=(0:Int)/\(0:Int)<=1/\(1:Int)<=(f.size:Int)))/\∃g,((!(bif ((f.size:Int)==0)then Ta else(!((f.extract (0:Int).toNat (1:Int).toNat:Bt).toList==(⟨#[107]⟩:Bt).toList))))=Ta->r0=Td g)/\∃i,((!(bif ((f.size:Int)==0)then Ta else(!((f.extract (0:Int).toNat (1:Int).toNat:Bt).toList==(⟨#[107]⟩:Bt).toList))))=Ta->zc b (Ad g 2)=Td (slV i))/\∃j,((!(bif ((f.size:Int)==0)then Ta else(!((f.extract (0:Int).toNat (1:Int).toNat:Bt).toList==(⟨#[107]⟩:Bt).toList))))=Ta->(i.a=Td j/\0<=n1/\n1<i.len))/\∃k,((!(bif ((f.size:Int)==0)then Ta else(!((f.extract (0:Int).toNat (1:Int).toNat:Bt).toList==(⟨#[107]⟩:Bt).toList))))=Ta->zc b (j.add (n1.toNat*1))=Td (slV k))/\((bif (bif ((f.size:Int)==0)then Ta else(!((f.extract (0:Int).toNat (1:Int).toNat:Bt).toList==(⟨#[107]⟩:Bt).toList)))then Ta else((k.len:Int) != 1))=Ta->XRunU Tp (Af 26 (.pointer (Td ⟨h.size,0,Te⟩)) (tZ)) b (λl=>∃m n o p,zd l ⟨h.size,0,Te⟩ 0 (tL m n o p)/\R (.tuple #[.string (⟨#[]⟩:Bt),tA m n o p,.bool Tc]) l))/\((bif (bif ((f.size:Int)==0)then Ta else(!((f.extract (0:Int).toNat (1:Int).toNat:Bt).toList==(⟨#[107]⟩:Bt).toList)))then Ta else((k.len:Int) != 1))=Tc->(0<=(1:Int)/\(1:Int)<=(f.size:Int)/\(f.size:Int)<=(f.size:Int))/\XC Tp 189 #[.string (f.extract (1:Int).toNat (f.size:Int).toNat)] b (λq r=>∃s t u v w,q=.tuple #[tA s t u v,.bool w]/\let x:=r.push (.cells tC 26);XRunU Tp (Af 26 (.pointer (Td ⟨r.size,0,Te⟩)) (tA s t u v)) x (λy=>∃z,r0=Td z/\∃A,zc y (Ad z 2)=Td (slV A)/\∃B,(A.a=Td B/\0<=n1/\n1<A.len)/\∃C,zc y (B.add (n1.toNat*1))=Td (slV C)/\∃D,(C.a=Td D/\0<=(0:Int)/\(0:Int)<(C.len:Int))/\∃E,zc y (D.add ((0:Int).toNat*1))=Td (iV E)/\XC Tp 105 #[.pointer r0,iV E] y (λF G=>∃I J L M N,F=.tuple #[tA I J L M,.bool N]/\let O:=G.push (.cells tC 26);XRunU Tp (Af 26 (.pointer (Td ⟨G.size,0,Te⟩)) (tA I J L M)) O (λP=>∃Q,zc P (Ad ⟨r.size,0,Te⟩ 1)=Td (.string Q)/\∃S T U V,zd P ⟨G.size,0,Te⟩ 0 (tL S T U V)/\let W:Bool->zb->Prop:=λX (Y:zb)=>(∃Z aa ab ac,zd Y ⟨h.size,0,Te⟩ 0 (tL Z aa ab ac)/\R (.tuple #[.string Q,tA Z aa ab ac,.bool X]) Y);let ad:Bool->zb->Prop:=λae (af:zb)=>(XRunU Tp (Af 26 (.pointer (Td ⟨h.size,0,Te⟩)) (tA S T U V)) af (λag=>W ae ag));let ah:Bool->zb->Prop:=λai (aj:zb)=>(W (bif (bif w then N else Tc)then ai else Tc) aj);let ak:Bool->zb->Prop:=λal (am:zb)=>(((am)[(⟨G.size,0,Te⟩:Addr).block]?=(P)[(⟨G.size,0,Te⟩:Addr).block]?/\ad (bif (bif w then N else Tc)then al else Tc) am)/\(XRunU Tp (Af 26 (.pointer (Td ⟨h.size,0,Te⟩)) (tA S T U V)) am (λan=>ah al an)));let ao:Int->zb->Prop:=λap (aq:zb)=>(ah (ap==4) aq);let ar:Int->zb->Prop:=λau (av:zb)=>(((av)[(⟨G.size,0,Te⟩:Addr).block]?=(P)[(⟨G.size,0,Te⟩:Addr).block]?/\ak (au==4) av)/\(XRunU Tp (Af 26 (.pointer (Td ⟨h.size,0,Te⟩)) (tA S T U V)) av (λaw=>ao au aw)));let ax:zb->Prop:=λ(ay:zb)=>(∃az,((bif w then N else Tc)=Ta->zc ay (Ad ⟨r.size,0,Te⟩ 0)=Td (iV az))/\ao az ay);let aA:zb->Prop:=λ(aB:zb)=>((∃aC,((bif w then N else Tc)=Ta->zc aB (Ad ⟨r.size,0,Te⟩ 0)=Td (iV aC))/\(aB)[(⟨G.size,0,Te⟩:Addr).block]?=(P)[(⟨G.size,0,Te⟩:Addr).block]?/\ar aC aB)/\(XRunU Tp (Af 26 (.pointer (Td ⟨h.size,0,Te⟩)) (tA S T U V)) aB (λaD=>ax aD)));(P)[(⟨G.size,0,Te⟩:Addr).block]?=(P)[(⟨G.size,0,Te⟩:Addr).block]?/\(P)[((Ad ⟨r.size,0,Te⟩ 1):Addr).block]?=(P)[((Ad ⟨r.size,0,Te⟩ 1):Addr).block]?/\(P)[(⟨G.size,0,Te⟩:Addr).block]?=(P)[(⟨G.size,0,Te⟩:Addr).block]?/\(P)[((Ad ⟨r.size,0,Te⟩ 1):Addr).block]?=(P)[((Ad ⟨r.size,0,Te⟩ 1):Addr).block]?/\((P)[(⟨G.size,0,Te⟩:Addr).block]?=(P)[(⟨G.size,0,Te⟩:Addr).block]?/\(P)[((Ad ⟨r.size,0,Te⟩ 1):Addr).block]?=(P)[((Ad ⟨r.size,0,Te⟩ 1):Addr).block]?/\(∃aE,((bif w then N else Tc)=Ta->zc P (Ad ⟨r.size,0,Te⟩ 0)=Td (iV aE))/\(P)[(⟨G.size,0,Te⟩:Addr).block]?=(P)[(⟨G.size,0,Te⟩:Addr).block]?/\(P)[((Ad ⟨r.size,0,Te⟩ 1):Addr).block]?=(P)[((Ad ⟨r.size,0,Te⟩ 1):Addr).block]?/\((P)[(⟨G.size,0,Te⟩:Addr).block]?=(P)[(⟨G.size,0,Te⟩:Addr).block]?/\(P)[((Ad ⟨r.size,0,Te⟩ 1):Addr).block]?=(P)[((Ad ⟨r.size,0,Te⟩ 1):Addr).block]?/\((P)[(⟨G.size,0,Te⟩:Addr).block]?=(P)[(⟨G.size,0,Te⟩:Addr).block]?/\(P)[((Ad ⟨r.size,0,Te⟩ 1):Addr).block]?=(P)[((Ad ⟨r.size,0,Te⟩ 1):Addr).block]?/\(P)[(⟨G.size,0,Te⟩:Addr).block]?=(P)[(⟨G.size,0,Te⟩:Addr).block]?/\ad (bif (bif w then N else Tc)then(aE==4)else Tc) P)/\((P)[(⟨G.size,0,Te⟩:Addr).block]?=(P)[(⟨G.size,0,Te⟩:Addr).block]?/\ak (aE==4) P))/\((P)[(⟨G.size,0,Te⟩:Addr).block]?=(P)[(⟨G.size,0,Te⟩:Addr).block]?/\ar aE P))/\((P)[(⟨G.size,0,Te⟩:Addr).block]?=(P)[(⟨G.size,0,Te⟩:Addr).block]?/\aA P))/\((P)[(⟨G.size,0,Te⟩:Addr).block]?=(P)[(⟨G.size,0,Te⟩:Addr).block]?/\((P)[(⟨G.size,0,Te⟩:Addr).block]?=(P)[(⟨G.size,0,Te⟩:Addr).block]?/\aA P)/\(XRunU Tp (Af 26 (.pointer (Td ⟨h.size,0,Te⟩)) (tA S T U V)) P (λaF=>ax aF))))))))):
  XC Tp 188 #[.pointer r0,.int .i64 n1] h R:=
 XF ⟨[(6,8000)],[],[]⟩ [.tmp 4,.cell 5 26,.tmp 6] 72 Tryz.func188 H
theorem Xe(h:zb)(R:Value->zb->Prop) (H:R (.tuple #[]) h):
  XC Tp 180 #[] h R:=
 XF ⟨[],[],[]⟩ [] 0 Tryz.func180 H
theorem qj(F:Sl)(G:Sl)(I:FuncId)(J:Array Value)(L:Array Value)(h:zb)(R:Value->zb->Prop) (H:(((F.len:Int) != (G.len:Int))=Ta->R (.bool Tc) h)/\(((F.len:Int) != (G.len:Int))=Tc->∃(b:Int->zb->Prop) (c:Int->zb->Nat),b 0 h/\∀d:Int,∀e:zb,b d e->((decide (d<F.len)=Ta->∃f,(F.a=Td f/\0<=d/\d<F.len)/\∃g i j k,zd e (f.add (d.toNat*4)) 0 (tL g i j k)/\let l:=e.push (.cells tC 26);XRunU Tp (Af 26 (.pointer (Td ⟨e.size,0,Te⟩)) (tA g i j k)) l (λm=>∃n,(G.a=Td n/\0<=d/\d<G.len)/\∃o p q r,zd m (n.add (d.toNat*4)) 0 (tL o p q r)/\let s:=m.push (.cells tC 26);XRunU Tp (Af 26 (.pointer (Td ⟨m.size,0,Te⟩)) (tA o p q r)) s (λt=>∃u v w x,zd t ⟨e.size,0,Te⟩ 0 (tL u v w x)/\∃y z A B,zd t ⟨m.size,0,Te⟩ 0 (tL y z A B)/\zh Tp I=Ta/\XC Tp I (J++#[tA u v w x,tA y z A B]++L) t (λC D=>∃E,C=.bool E/\((!E)=Ta->R (.bool Tc) D)/\((!E)=Tc->(b (Aa .i64 (d+1)) D/\c (Aa .i64 (d+1)) D<c d e))))))/\(decide (d<F.len)=Tc->R (.bool Ta) e)))):
  XC Tp 194 #[.slice F.a F.len F.cap,.slice G.a G.len G.cap,.func (.func I) J L] h R:=
 XF ⟨[],[(4,[(17,.one (.int .i64))])],[]⟩ [.tmp 6] 32 Tryz.func194 H
theorem zq(aI:Option Nat)(aH:Option Nat)(aE:FuncId)(aF:Array Value)(aG:Array Value)(h:zb)(R:Value->zb->Prop) (H:∃b,QExec Tp (CG #[193] 3 #[.map aI]) h (iV b)/\∃c,QExec Tp (CG #[193] 3 #[.map aH]) h (iV c)/\((b != c)=Ta->R (.bool Tc) h)/\((b != c)=Tc->XRun Tp (Dx 193 (.map aI)) h (λd e=>∃f:Option Addr,d=.pointer f/\∃(g:zb->Prop) (i:zb->Nat),g e/\∀j:zb,g j->(XRun Tp (CW (.pointer f) Tc 0) j (λk l=>(k=.tuple #[.bool Tc]/\(Tc=Ta->XRun Tp (Dk (.pointer f)) l (λm n=>∃o p:Value,m=.tuple #[o,p]/\let q:=n.push (.cells tC 26);XRunU Tp (Af 26 (.pointer (Td ⟨n.size,0,Te⟩)) p) q (λr=>∃s t u v w,QExec Tp (C9 193 (.map aH) o Ta) r (.tuple #[tA s t u v,.bool w])/\let x:=r.push (.cells tC 26);XRunU Tp (Af 26 (.pointer (Td ⟨r.size,0,Te⟩)) (tA s t u v)) x (λy=>∃z A B C,((!(!w))=Ta->zd y ⟨n.size,0,Te⟩ 0 (tL z A B C))/\∃D E F G,((!(!w))=Ta->zd y ⟨r.size,0,Te⟩ 0 (tL D E F G))/\∃I:Value->zb->Prop,((!(!w))=Ta->zh Tp aE=Ta/\XC Tp aE (aF++#[tA z A B C,tA D E F G]++aG) y (λJ L=>∃M,J=.bool M/\I (.bool M) L))/\((!(!w))=Tc->∃N,I (.bool N) y)/\((!(!w))=Ta->∀O P,I O P->∃Q,O=.bool Q)/\∀S:Bool,∀T,I (.bool S) T->((bif (!w)then Ta else(!S))=Ta->R (.bool Tc) T)/\((bif (!w)then Ta else(!S))=Tc->(g T/\i T<i j))))))/\(Tc=Tc->R (.bool Ta) l))\/∃U V:Value,k=.tuple #[.bool Ta,U,V]/\(Ta=Ta->XRun Tp (Dk (.pointer f)) l (λW X=>∃Y Z:Value,W=.tuple #[Y,Z]/\let aa:=X.push (.cells tC 26);XRunU Tp (Af 26 (.pointer (Td ⟨X.size,0,Te⟩)) Z) aa (λab=>∃ac ad ae af ag,QExec Tp (C9 193 (.map aH) Y Ta) ab (.tuple #[tA ac ad ae af,.bool ag])/\let ah:=ab.push (.cells tC 26);XRunU Tp (Af 26 (.pointer (Td ⟨ab.size,0,Te⟩)) (tA ac ad ae af)) ah (λai=>∃aj ak al am,((!(!ag))=Ta->zd ai ⟨X.size,0,Te⟩ 0 (tL aj ak al am))/\∃an ao ap aq,((!(!ag))=Ta->zd ai ⟨ab.size,0,Te⟩ 0 (tL an ao ap aq))/\∃ar:Value->zb->Prop,((!(!ag))=Ta->zh Tp aE=Ta/\XC Tp aE (aF++#[tA aj ak al am,tA an ao ap aq]++aG) ai (λau av=>∃aw,au=.bool aw/\ar (.bool aw) av))/\((!(!ag))=Tc->∃ax,ar (.bool ax) ai)/\((!(!ag))=Ta->∀ay az,ar ay az->∃aA,ay=.bool aA)/\∀aB:Bool,∀aC,ar (.bool aB) aC->((bif (!ag)then Ta else(!aB))=Ta->R (.bool Tc) aC)/\((bif (!ag)then Ta else(!aB))=Tc->(g aC/\i aC<i j))))))/\(Ta=Tc->R (.bool Ta) l)))))):
  XC Tp 195 #[.map aI,.map aH,.func (.func aE) aF aG] h R:=
 XF ⟨[],[(4,[])],[]⟩ [.tmp 6] 38 Tryz.func195 H
end
end Go.X
end
section
namespace Go.X
open Go Go.X Go.Proofs Go.RowKit
section
variable {h h' h'':zb} {M M' M'':Fr} {bs bs' b1 b2:List Nat} {b lo bv:Nat} {K:Value -> zb -> Prop}
theorem Later.own{h g:zb}(L:Later h M g M')(i:∀c∈bs,h.size<=c):Later h M g (MxL M' g bs):=by
 refine⟨L.keep,L.le.trans (zel L.ag bs),λc b=>?_,MxL.ag L.ag bs⟩;have e:c∉bs:=λf=>by have:=i c f;omega
 rw[<-L.old c b];unfold MxL;rw[if_neg e]
structure Grw (h:zb) (M:Fr) (b:Nat) (bs:List Nat) (h':zb) (M':Fr) (bs':List Nat):Prop where
 grow:h.size<=h'.size
 le:Fr.le M M'
 old:∀c,c<h.size->M' c=M c
 ag:AgM M' h'
 fr:∀j,j<h.size->j≠b->j∉bs->h'[j]?=h[j]?
 nw:∀c∈bs',c∈bs\/h.size<=c
theorem Grw.refl(ag:AgM M h):Grw h M b bs h M bs:=⟨Ab _,Fr.le.refl _,λ_ _=>rfl,ag,λ_ _ _ _=>rfl,λ_ c=>.inl c⟩
theorem Grw.trans{bs bs' e:List Nat}(A:Grw h M b bs h' M' bs')(B:Grw h' M' b bs' h'' M'' e):Grw h M b bs h'' M'' e:=by have m:=A.grow;refine⟨BX A.grow B.grow,A.le.trans B.le,λc f=>(B.old c (by omega)).trans (A.old c f),B.ag,λj k h0 i=>(B.fr j (by omega) h0 λl=>?_).trans (A.fr j k h0 i),λc f=>?_⟩;rcases A.nw j l with h|h;exact i h;omega;rcases B.nw c f with h|h;exact A.nw c h;exact .inr (by omega)
theorem Grw.ofCall(L:Later h M h' M')(A:Grw h' M' b bs h'' M'' bs')(l:∀c∈bs,c<h.size):Grw h M b bs h'' M'' bs':=by have k:=L.keep.size;refine⟨BX k A.grow,L.le.trans A.le,λc e=>(A.old c (by omega)).trans (L.old c e),A.ag,λj f h0 i=>(A.fr j (by omega) h0 i).trans (L.keep.get j f),λc e=>?_⟩;rcases A.nw c e with h|h;exact .inl h;exact .inr (by omega)
structure TbS (lo:Nat) (h:zb) (M:Fr) (b:Nat) (S:List (Bt×Int)) (sl sf:Sl) (b1 b2:List Nat):Prop where
 box:Blk h b #[slV sl,slV sf]
 r1:ORow lo h M .str (S.map (·.1)) sl b1
 r2:ORow lo h M (.int .i64) (S.map (·.2)) sf b2
 dj:∀c∈b1,c∉b2
 n1:b∉b1
 n2:b∉b2
 nM:M b=Te
 lb:lo<=b
def Tb(lo:Nat)(h:zb)(M:Fr)(b:Nat)(S:List (Bt×Int))(bs:List Nat):Prop:=∃sl sf b1 b2,bs=b1++b2/\TbS lo h M b S sl sf b1 b2
theorem TbS.call{S:List (Bt×Int)}{sl sf:Sl}(B:TbS lo h M b S sl sf b1 b2)(L:Later h M h' M'):TbS lo h' M' b S sl sf b1 b2:= ⟨B.box.keep (L.keep.get b B.box.lt),B.r1.call L,B.r2.call L,B.dj,B.n1,B.n2,(L.old b B.box.lt).trans B.nM,B.lb⟩
theorem Tb.call{S:List (Bt×Int)}(B:Tb lo h M b S bs)(L:Later h M h' M'):Tb lo h' M' b S bs:=by obtain⟨sl,sf,b1,b2,e,B⟩:=B;exact⟨sl,sf,b1,b2,e,B.call L⟩
theorem Tb.lt{S:List (Bt×Int)}(B:Tb lo h M b S bs):∀c∈bs,c<h.size:=by obtain⟨sl,sf,b1,b2,rfl,B⟩:=B;intro c e;rcases Aw.1 e with h|h;exact(B.r1.own c h).2.1;exact(B.r2.own c h).2.1
theorem Tb.ltb{S:List (Bt×Int)}(B:Tb lo h M b S bs):b<h.size:=by obtain⟨sl,sf,b1,b2,rfl,B⟩:=B;exact B.box.lt
structure AdM (lo:Nat) (h:zb) (M:Fr) (b:Nat) (sl sf:Sl) (b0:List Nat) (g:zb) (X:List Bt) (s1:Sl) (c1:List Nat) (Y:List Int) (s2:Sl) (c2:List Nat):Prop where
 box:Blk g b #[slV sl,slV sf]
 r1:ORow lo g M .str X s1 c1
 r2:ORow lo g M (.int .i64) Y s2 c2
 dj:∀c∈c1,c∉c2
 n1:b∉c1
 n2:b∉c2
 gr:h.size<=g.size
 bh:b<h.size
 fr:∀j,j<h.size->j≠b->j∉b0->g[j]?=h[j]?
 w1:∀c∈c1,c∈b0\/h.size<=c
 w2:∀c∈c2,c∈b0\/h.size<=c
 ag:AgM M g
 nM:M b=Te
 lb:lo<=b
section
variable {lo : Nat} {h g : zb} {M : Fr} {b : Nat} {sl sf : Sl} {b0 : List Nat} {X : List Bt} {s1 : Sl} {c1 : List Nat} {Y : List Int} {s2 : Sl} {c2 : List Nat}
theorem AdM.start{S:List (Bt×Int)}(B:TbS lo h M b S sl sf b1 b2)(ag:AgM M h):AdM lo h M b sl sf (b1++b2) h (S.map (·.1)) sl b1 (S.map (·.2)) sf b2:= ⟨B.box,B.r1,B.r2,B.dj,B.n1,B.n2,Ab _,B.box.lt,λ_ _ _ _=>rfl,λc e=>.inl (Ar _ e),λc e=>.inl (AC _ e),ag,B.nM,B.lb⟩
theorem AdM.push(D:AdM lo h M b sl sf b0 g X s1 c1 Y s2 c2)(o:Obj):AdM lo h M b sl sf b0 (g.push o) X s1 c1 Y s2 c2:=by have k:Keep g.size g (g.push o):=Keep.push _ _ (Ab _);have l:=D.gr;have m:(g.push o).size=g.size+1:=Aj _;refine⟨D.box.ofKeep k,D.r1.frame (λc e=>k.get c (D.r1.own c e).2.1) (Fr.le.refl _) λc e=>(D.r1.own c e).2.2,D.r2.frame (λc e=>k.get c (D.r2.own c e).2.1) (Fr.le.refl _) λc e=>(D.r2.own c e).2.2,D.dj,D.n1,D.n2,by omega,D.bh,λj f h0 i=>(k.get j (by omega)).trans (D.fr j f h0 i),D.w1,D.w2,D.ag.keep k,D.nM,D.lb⟩
theorem AdM.lab(D:AdM lo h M b sl sf b0 g X s1 c1 Y s2 c2)(p:lo<=h.size)(l:X.length<=1000000){x:Bt}(s:Blk g bv #[.string x]) (q:∀(m:Sl) (g':zb) (n:List Nat),AdM lo h M b sl sf b0 g' (X++[x]) m n Y s2 c2->g.size<=g'.size->(∀j,j<g.size->j∉c1->g'[j]?=g[j]?)->K (slV m) g'):
  XRun Tp (Au #[23,23] 23 #[slV s1,.slice (Td ⟨bv,0,Te⟩) 1 1]) g K:=by
 have t:=D.gr;refine ORow.app qjz (by omega) D.ag D.r1 (by omega) (vs:=[.string x]) s rfl l λm g' n r z w f=>q m g' n ⟨D.box.keep (f b D.box.lt D.n1),r,D.r2.frame (λc i=>f c (D.r2.own c i).2.1 λk=>D.dj c k i) (Fr.le.refl _) λc i=>(D.r2.own c i).2.2,λc i k=>?_,λk=>?_,D.n2,by omega,D.bh,λj o h0 l=>(f j (by omega) λk=>?_).trans (D.fr j o h0 l),λc i=>?_,D.w2,λc cs e=>?_,D.nM,D.lb⟩ z f;rcases w c i with h|h;exact D.dj c h k;have:=(D.r2.own c k).2.1;omega;rcases w b k with h|h;exact D.n1 h;have:=D.bh;omega;rcases D.w1 j k with h|h;exact l h;omega;rcases w c i with h|h;exact D.w1 c h;exact .inr (by omega);have i:=D.ag.lt e;rw[f c i λk=>by have:=(D.r1.own c k).2.2;rw[this]at e;cases e];exact D.ag c cs e
theorem AdM.lef(D:AdM lo h M b sl sf b0 g X s1 c1 Y s2 c2)(p:lo<=h.size)(l:Y.length<=1000000){x:Int}(s:Blk g bv #[.int .i64 x]) (q:∀(m:Sl) (g':zb) (n:List Nat),AdM lo h M b sl sf b0 g' X s1 c1 (Y++[x]) m n->g.size<=g'.size->(∀j,j<g.size->j∉c2->g'[j]?=g[j]?)->K (slV m) g'):
  XRun Tp (Au #[59,59] 59 #[slV s2,.slice (Td ⟨bv,0,Te⟩) 1 1]) g K:=by
 have t:=D.gr;refine ORow.app z1i (by omega) D.ag D.r2 (by omega) (vs:=[.int .i64 x]) s rfl l λm g' n r z w f=>q m g' n ⟨D.box.keep (f b D.box.lt D.n2),D.r1.frame (λc i=>f c (D.r1.own c i).2.1 λk=>D.dj c i k) (Fr.le.refl _) λc i=>(D.r1.own c i).2.2,r,λc i k=>?_,D.n1,λk=>?_,by omega,D.bh,λj o h0 l=>(f j (by omega) λk=>?_).trans (D.fr j o h0 l),D.w1,λc i=>?_,λc cs e=>?_,D.nM,D.lb⟩ z f;rcases w c k with h|h;exact D.dj c i h;have:=(D.r1.own c i).2.1;omega;rcases w b k with h|h;exact D.n2 h;have:=D.bh;omega;rcases D.w2 j k with h|h;exact l h;omega;rcases w c i with h|h;exact D.w2 c h;exact .inr (by omega);have i:=D.ag.lt e;rw[f c i λk=>by have:=(D.r2.own c k).2.2;rw[this]at e;cases e];exact D.ag c cs e
theorem okF:qc Tp 59=Ta:=by kernel_rfl
theorem szF:qi Tp 59=1:=by kernel_rfl
theorem AdM.fin(D:AdM lo h M b sl sf b0 g X s1 c1 Y s2 c2){S:List (Bt×Int)}(t:X=S.map (·.1))(o:Y=S.map (·.2)){K:zb->Prop}(s:∀g' bs',Grw h M b b0 g' M bs'->Tb lo g' M b S bs'->K g'):
  XRunU Tp (Af 23 (.pointer (Td (Ad (Ad ⟨b,0,Te⟩ 0) 0))) (slV s1)) g λl=>XRunU Tp (Af 59 (.pointer (Td (Ad (Ad ⟨b,0,Te⟩ 0) 1))) (slV s2)) l K:=by
 subst t;subst o;have x:=D.gr;rw[add0,add0,zi];refine yg qky qkz D.box (by show 0<2;omega) rfl λl r w n=>?_;refine yg okF szF r (by show 1<2;omega) rfl λm q z2 u=>?_;have f:∀j,j≠b->m[j]?=g[j]?:=λj k=>(u j k).trans (n j k);refine s m (c1++c2) ⟨by omega,Fr.le.refl _,λ_ _=>rfl,λc cs e=>?_,λj k h0 p=>(f j h0).trans (D.fr j k h0 p),λc i=>?_⟩ ⟨s1,s2,c1,c2,rfl,q,D.r1.frame (λc i=>f c λe=>D.n1 (e ▸ i)) (Fr.le.refl _) λc i=>(D.r1.own c i).2.2,D.r2.frame (λc i=>f c λe=>D.n2 (e ▸ i)) (Fr.le.refl _) λc i=>(D.r2.own c i).2.2,D.dj,D.n1,D.n2,D.nM,D.lb⟩;rw[f c λh=>by subst h;rw[D.nM]at e;cases e];exact D.ag c cs e;rcases Aw.1 i with h|h;exact D.w1 c h;exact D.w2 c h
end
end
end Go.X
end
section
namespace Go.X
section
theorem Xf(gl:Fr)(h:Tr)(w1:Tr)(R:Bool->Prop) (H:PC Tp gl 38 [] [.bool] (λa:Bool=>PC Tp gl 32 [Arg.mk .tree (Tr.mk h.kind h.text h.keys h.items),Arg.mk (.int .i64) 300] [.bool] (λb:Bool=>∃c:Bool->Prop,(b=Ta->PC Tp gl 32 [Arg.mk .tree (Tr.mk w1.kind w1.text w1.keys w1.items),Arg.mk (.int .i64) 300] [.bool] c)/\∀d:Bool,(b=Ta->c d)->((!(bif b then d else Tc))=Ta->R a)/\((!(bif b then d else Tc))=Tc->PC Tp gl 40 [Arg.mk .tree (Tr.mk h.kind h.text h.keys h.items)] [.pair (.row .str) (.row (.int .i64)),.int .i64] (λe:((List Bt)×List Int)×Int=>PC Tp gl 40 [Arg.mk .tree (Tr.mk w1.kind w1.text w1.keys w1.items)] [.pair (.row .str) (.row (.int .i64)),.int .i64] (λf:((List Bt)×List Int)×Int=>∀g:Prop,((((bif (e.2 != 0)then Ta else(f.2 != 0))=Ta->R a)/\((bif (e.2 != 0)then Ta else(f.2 != 0))=Tc->∃i:Bool->Prop,(a=Ta->PC Tp gl 42 [Arg.mk (.pair (.row .str) (.row (.int .i64))) (e.1.1,e.1.2),Arg.mk (.pair (.row .str) (.row (.int .i64))) (f.1.1,f.1.2)] [.bool] i)/\∀j:Bool,(a=Ta->i j)->∃k:Bool->Prop,(a=Ta->PC Tp gl 55 [Arg.mk .tree (Tr.mk h.kind h.text h.keys h.items),Arg.mk .tree (Tr.mk w1.kind w1.text w1.keys w1.items)] [.bool] k)/\∀l:Bool,(a=Ta->k l)->R (bif a then(j==l)else Tc)))->g)->((e.2==0)=Ta->PC Tp gl 49 [Arg.mk (.pair (.row .str) (.row (.int .i64))) (e.1.1,e.1.2)] [.row (.int .i64)] (λm:List Int=>PC Tp gl 44 [Arg.mk (.pair (.row .str) (.row (.int .i64))) (e.1.1,e.1.2)] [.tree,.bool] (λn:Tr×Bool=>PC Tp gl 46 [Arg.mk (.pair (.row .str) (.row (.int .i64))) (e.1.1,e.1.2)] [.bool] (λo:Bool=>∃p,((!(bif (!o)then Ta else((m.length:Int) != 1)))=Ta->(0<=(0:Int)/\m[(0:Int).toNat]?=Td p))/\∃q:Bool->Prop,((!(bif (bif (bif (!o)then Ta else((m.length:Int) != 1))then Ta else(p != (Aa .i64 ((e.1.1.length:Int)-1))))then Ta else(!n.2)))=Ta->PC Tp gl 55 [Arg.mk .tree (Tr.mk n.1.kind n.1.text n.1.keys n.1.items),Arg.mk .tree (Tr.mk h.kind h.text h.keys h.items)] [.bool] q)/\∀r:Bool,((!(bif (bif (bif (!o)then Ta else((m.length:Int) != 1))then Ta else(p != (Aa .i64 ((e.1.1.length:Int)-1))))then Ta else(!n.2)))=Ta->q r)->((bif (bif (bif (bif (!o)then Ta else((m.length:Int) != 1))then Ta else(p != (Aa .i64 ((e.1.1.length:Int)-1))))then Ta else(!n.2))then Ta else(!r))=Ta->R Tc)/\((bif (bif (bif (bif (!o)then Ta else((m.length:Int) != 1))then Ta else(p != (Aa .i64 ((e.1.1.length:Int)-1))))then Ta else(!n.2))then Ta else(!r))=Tc->g)))))/\((e.2==0)=Tc->g))))))):
  PC Tp gl 10 [Arg.mk .tree h,Arg.mk .tree w1] [.bool] R:=
 PF ⟨[],[(10,25,[],[0,1,2,3,4,5,6,7,8,9,10,11,12,13,14,15,16,17,18,19,20,21,22,23,24],[]),(14,7,[],[0,1,2,3,5,6,4],[])],[],[(12,⟨[],[],[2,3,7,9],[]⟩)]⟩ [.tmp 4] 88 Tryz.func10 H
theorem Xz(gl:Fr)(h:(List Bt)×List Int)(R:Bool->Prop) (H:PC Tp gl 38 [] [.bool] (λa:Bool=>PC Tp gl 43 [Arg.mk (.pair (.row .str) (.row (.int .i64))) (h.1,h.2),Arg.mk (.int .i64) 300] [.bool] (λb:Bool=>∃c:Bool->Prop,((!(!b))=Ta->PC Tp gl 46 [Arg.mk (.pair (.row .str) (.row (.int .i64))) (h.1,h.2)] [.bool] c)/\∀d:Bool,((!(!b))=Ta->c d)->((bif (!b)then Ta else(!d))=Ta->R a)/\((bif (!b)then Ta else(!d))=Tc->PC Tp gl 51 [Arg.mk (.pair (.row .str) (.row (.int .i64))) (h.1,h.2)] [.row (.int .i64)] (λe:List Int=>(((e.length:Int) != (h.1.length:Int))=Ta->R Tc)/\(((e.length:Int) != (h.1.length:Int))=Tc->∃(f:Int->Int->Prop) (g:Int->Int->Nat),f 0 0/\∀i j:Int,f i j->((decide (j<e.length)=Ta->∃k,(0<=j/\h.2[j.toNat]?=Td k)/\∃l,(0<=j/\h.2[j.toNat]?=Td l)/\∃(m:Int->Int->Prop) (n:Int->Int->Nat),m k l/\∀o p:Int,m o p->((decide (p<j)=Ta->∃q,(0<=p/\e[p.toNat]?=Td q)/\((q != j)=Ta->(m o (Aa .i64 (p+1))/\n o (Aa .i64 (p+1))<n o p))/\((q != j)=Tc->∃r,(0<=p/\h.2[p.toNat]?=Td r)/\((r != o)=Ta->R Tc)/\((r != o)=Tc->(m (Aa .i64 (p+1)) (Aa .i64 (p+1))/\n (Aa .i64 (p+1)) (Aa .i64 (p+1))<n o p))))/\(decide (p<j)=Tc->∃s,((!(o != j))=Ta->(0<=j/\e[j.toNat]?=Td s))/\∃t,(((!(o != j))&&(decide (s>=0)))=Ta->(0<=j/\e[j.toNat]?=Td t))/\((bif (o != j)then Ta else(bif (decide (s>=0))then(decide (t<=j))else Tc))=Ta->R Tc)/\((bif (o != j)then Ta else(bif (decide (s>=0))then(decide (t<=j))else Tc))=Tc->∃u,(0<=j/\h.2[j.toNat]?=Td u)/\((u==j)=Ta->(f (Aa .i64 (i+1)) (Aa .i64 (j+1))/\g (Aa .i64 (i+1)) (Aa .i64 (j+1))<g i j))/\((u==j)=Tc->(f i (Aa .i64 (j+1))/\g i (Aa .i64 (j+1))<g i j))))))/\(decide (j<e.length)=Tc->∃v:List Int->Prop,(a=Ta->PC Tp gl 53 [Arg.mk (.pair (.row .str) (.row (.int .i64))) (h.1,h.2)] [.row (.int .i64)] v)/\∀w:List Int,(a=Ta->v w)->R (bif a then((w.length:Int)==i)else Tc))))))))):
  PC Tp gl 11 [Arg.mk (.pair (.row .str) (.row (.int .i64))) h] [.bool] R:=
 PF ⟨[],[],[(10,⟨[(6,.one (.dat (.int .i64))),(7,.one (.dat (.int .i64)))],[],[1],[100384,100448]⟩),(14,⟨[(8,.one (.dat (.int .i64))),(9,.one (.dat (.int .i64)))],[],[],[100512,100576]⟩)],[]⟩ [.tmp 2] 100 Tryz.func11 H
theorem zey(gl:Fr)(a0:(List Bt)×List Int)(b1:(List Bt)×List Int)(R:Bool->Prop) (H:((bif ((a0.1.length:Int) != (b1.1.length:Int))then Ta else((a0.2.length:Int) != (b1.2.length:Int)))=Ta->R Tc)/\((bif ((a0.1.length:Int) != (b1.1.length:Int))then Ta else((a0.2.length:Int) != (b1.2.length:Int)))=Tc->∃(a:Int->Prop) (b:Int->Nat),a 0/\∀c:Int,a c->((decide (c<a0.1.length)=Ta->∃d,(0<=c/\a0.1[c.toNat]?=Td d)/\∃e,(0<=c/\b1.1[c.toNat]?=Td e)/\((!(d.toList==e.toList))=Ta->R Tc)/\((!(d.toList==e.toList))=Tc->(a (Aa .i64 (c+1))/\b (Aa .i64 (c+1))<b c)))/\(decide (c<a0.1.length)=Tc->∃(f:Int->Prop) (g:Int->Nat),f 0/\∀i:Int,f i->((decide (i<a0.2.length)=Ta->∃j,(0<=i/\a0.2[i.toNat]?=Td j)/\∃k,(0<=i/\b1.2[i.toNat]?=Td k)/\((j != k)=Ta->R Tc)/\((j != k)=Tc->(f (Aa .i64 (i+1))/\g (Aa .i64 (i+1))<g i)))/\(decide (i<a0.2.length)=Tc->R Ta)))))):
  PC Tp gl 42 [Arg.mk (.pair (.row .str) (.row (.int .i64))) a0,Arg.mk (.pair (.row .str) (.row (.int .i64))) b1] [.bool] R:=
 PF ⟨[],[],[(4,⟨[(5,.one (.dat (.int .i64)))],[],[2,3],[100320]⟩),(9,⟨[(6,.one (.dat (.int .i64)))],[],[2,3],[100384]⟩)],[]⟩ [.tmp 4] 59 Tryz.func42 H
theorem zgd(gl:Fr)(f:(List Bt)×List Int)(e:Int)(R:Bool->Prop) (H:∃(a:Int->Prop) (b:Int->Nat),a 0/\∀c:Int,a c->(((bif (decide (c<f.1.length))then(decide (c<=e))else Tc)=Ta->∃d,(0<=c/\f.1[c.toNat]?=Td d)/\(decide ((d.size:Int)>1024)=Ta->R Tc)/\(decide ((d.size:Int)>1024)=Tc->(a (Aa .i64 (c+1))/\b (Aa .i64 (c+1))<b c)))/\((bif (decide (c<f.1.length))then(decide (c<=e))else Tc)=Tc->R (bif (decide ((f.1.length:Int)<=e))then(decide ((f.2.length:Int)<=600))else Tc)))):
  PC Tp gl 43 [Arg.mk (.pair (.row .str) (.row (.int .i64))) f,Arg.mk (.int .i64) e] [.bool] R:=
 PF ⟨[],[],[(2,⟨[(5,.one (.dat (.int .i64)))],[],[2],[100320]⟩)],[]⟩ [.tmp 4] 36 Tryz.func43 H
theorem zqg(gl:Fr)(b:(List Bt)×List Int)(R:Bool->Prop) (H:PC Tp gl 104 [Arg.mk (.pair (.row .str) (.row (.int .i64))) (b.1,b.2)] [.row (.int .i64),.bool] (λa:(List Int)×Bool=>R a.2)):
  PC Tp gl 46 [Arg.mk (.pair (.row .str) (.row (.int .i64))) b] [.bool] R:=
 PF ⟨[],[],[],[]⟩ [.tmp 2] 11 Tryz.func46 H
theorem zez(gl:Fr)(a0:List Int)(b1:List Int)(R:Bool->Prop) (H:(((a0.length:Int) != (b1.length:Int))=Ta->R Tc)/\(((a0.length:Int) != (b1.length:Int))=Tc->∃(a:Int->Prop) (b:Int->Nat),a 0/\∀c:Int,a c->((decide (c<a0.length)=Ta->∃d,(0<=c/\a0[c.toNat]?=Td d)/\∃e,(0<=c/\b1[c.toNat]?=Td e)/\((d != e)=Ta->R Tc)/\((d != e)=Tc->(a (Aa .i64 (c+1))/\b (Aa .i64 (c+1))<b c)))/\(decide (c<a0.length)=Tc->R Ta)))):
  PC Tp gl 48 [Arg.mk (.row (.int .i64)) a0,Arg.mk (.row (.int .i64)) b1] [.bool] R:=
 PF ⟨[],[],[(4,⟨[(5,.one (.dat (.int .i64)))],[],[],[100320]⟩)],[]⟩ [.tmp 4] 26 Tryz.func48 H
theorem zqh(gl:Fr)(h:(List Bt)×List Int)(R:(List Int)->Prop) (H:PC Tp gl 51 [Arg.mk (.pair (.row .str) (.row (.int .i64))) (h.1,h.2)] [.row (.int .i64)] (λa:List Int=>∃(b:(List Int)->Int->Prop) (c:(List Int)->Int->Nat),b [] 0/\∀d:List Int,∀e:Int,b d e->((decide (e<a.length)=Ta->∃f,(0<=e/\a[e.toNat]?=Td f)/\(decide (f<0)=Ta->((d.length+Cd ([e]:List Int))*8<=140737488355328/\(b (d++[e]) (Aa .i64 (e+1))/\c (d++[e]) (Aa .i64 (e+1))<c d e)))/\(decide (f<0)=Tc->(b d (Aa .i64 (e+1))/\c d (Aa .i64 (e+1))<c d e)))/\(decide (e<a.length)=Tc->R d)))):
  PC Tp gl 49 [Arg.mk (.pair (.row .str) (.row (.int .i64))) h] [.row (.int .i64)] R:=
 PF ⟨[],[],[(3,⟨[(3,.one (.own 3 (.int .i64))),(9,.one (.dat (.int .i64)))],[],[],[100192,100576]⟩)],[]⟩ [.tmp 2] 22 Tryz.func49 H
theorem zky(gl:Fr)(b:(List Bt)×List Int)(R:(List Int)->Prop) (H:PC Tp gl 104 [Arg.mk (.pair (.row .str) (.row (.int .i64))) (b.1,b.2)] [.row (.int .i64),.bool] (λa:(List Int)×Bool=>((!a.2)=Ta->R [])/\((!a.2)=Tc->R a.1))):
  PC Tp gl 51 [Arg.mk (.pair (.row .str) (.row (.int .i64))) b] [.row (.int .i64)] R:=
 PF ⟨[],[],[],[]⟩ [.tmp 2] 13 Tryz.func51 H
theorem zqi(gl:Fr)(a0:Tr)(b1:Tr)(R:Bool->Prop) (H:PC Tp gl 88 [Arg.mk .tree (Tr.mk a0.kind a0.text a0.keys a0.items)] [.bool] (λa:Bool=>∃b:Bool->Prop,(a=Ta->PC Tp gl 88 [Arg.mk .tree (Tr.mk b1.kind b1.text b1.keys b1.items)] [.bool] b)/\∀c:Bool,(a=Ta->b c)->∃d:Bool->Prop,((bif a then c else Tc)=Ta->PC Tp gl 109 [Arg.mk .tree (Tr.mk a0.kind a0.text a0.keys a0.items),Arg.mk .tree (Tr.mk b1.kind b1.text b1.keys b1.items)] [.bool] d)/\∀e:Bool,((bif a then c else Tc)=Ta->d e)->R (bif (bif a then c else Tc)then e else Tc))):
  PC Tp gl 55 [Arg.mk .tree a0,Arg.mk .tree b1] [.bool] R:=
 PF ⟨[],[],[],[]⟩ [.tmp 4] 16 Tryz.func55 H
theorem zt6(gl:Fr)(a0:(List Bt)×List Int)(b1:(List Bt)×List Int)(R:Bool->Prop) (H:PC Tp gl 190 [Arg.mk (.row .str) a0.1,Arg.mk (.row .str) b1.1] [.bool] (λa:Bool=>∃b:Bool->Prop,(a=Ta->PC Tp gl 191 [Arg.mk (.row (.int .i64)) a0.2,Arg.mk (.row (.int .i64)) b1.2] [.bool] b)/\∀c:Bool,(a=Ta->b c)->R (bif a then c else Tc))):
  PC Tp gl 106 [Arg.mk (.pair (.row .str) (.row (.int .i64))) a0,Arg.mk (.pair (.row .str) (.row (.int .i64))) b1] [.bool] R:=
 PF ⟨[],[],[],[]⟩ [.tmp 4] 17 Tryz.func106 H

theorem zkz(gl:Fr)(b:Tr)(R:Bt->Prop) (H:PC Tp gl 34 [Arg.mk .tree (Tr.mk b.kind b.text b.keys b.items)] [.str,.int .i64] (λa:Bt×Int=>R a.1)):
  PC Tp gl 178 [Arg.mk .tree b] [.str] R:=
 PF ⟨[],[],[],[]⟩ [.tmp 2] 11 Tryz.func178 H
theorem zt7(gl:Fr)(e:Bt)(R:(Tr×Bool)->Prop) (H:PC Tp gl 15 [Arg.mk .str e] [.tree,.int .i64,.int .i64] (λa:Tr×Int×Int=>∃b:Bt->Prop,((bif (bif (a.2.2==0)then((a.1.items.length:Int)==0)else Tc)then(decide (a.1.kind<5))else Tc)=Ta->PC Tp gl 178 [Arg.mk .tree (Tr.mk a.1.kind a.1.text a.1.keys a.1.items)] [.str] b)/\∀c:Bt,((bif (bif (a.2.2==0)then((a.1.items.length:Int)==0)else Tc)then(decide (a.1.kind<5))else Tc)=Ta->b c)->R (Tr.mk a.1.kind a.1.text a.1.keys a.1.items,bif (bif (bif (a.2.2==0)then((a.1.items.length:Int)==0)else Tc)then(decide (a.1.kind<5))else Tc)then(c.toList==e.toList)else Tc))):
  PC Tp gl 189 [Arg.mk .str e] [.tree,.bool] R:=
 PF ⟨[],[(2,20,[],[0,1,2,3,4,5,6,7,8,9,10,11,12,13,14,15,17,16,18,19],[17,18,19])],[],[]⟩ [.cell 2 26,.tmp 3] 33 Tryz.func189 H
theorem Qc(gl:Fr)(f:List Bt)(h:List Bt)(R:Bool->Prop) (H:(((f.length:Int) != (h.length:Int))=Ta->R Tc)/\(((f.length:Int) != (h.length:Int))=Tc->∃(a:Int->Prop) (b:Int->Nat),a 0/\∀c:Int,a c->((decide (c<f.length)=Ta->∃d,(0<=c/\f[c.toNat]?=Td d)/\∃e,(0<=c/\h[c.toNat]?=Td e)/\((!(d.toList==e.toList))=Ta->R Tc)/\((!(d.toList==e.toList))=Tc->(a (Aa .i64 (c+1))/\b (Aa .i64 (c+1))<b c)))/\(decide (c<f.length)=Tc->R Ta)))):
  PC Tp gl 190 [Arg.mk (.row .str) f,Arg.mk (.row .str) h] [.bool] R:=
 PF ⟨[],[],[(4,⟨[(13,.one (.dat (.int .i64)))],[],[],[100832]⟩)],[]⟩ [.tmp 4] 26 Tryz.func190 H
theorem Xg(gl:Fr)(f:List Int)(h:List Int)(R:Bool->Prop) (H:(((f.length:Int) != (h.length:Int))=Ta->R Tc)/\(((f.length:Int) != (h.length:Int))=Tc->∃(a:Int->Prop) (b:Int->Nat),a 0/\∀c:Int,a c->((decide (c<f.length)=Ta->∃d,(0<=c/\f[c.toNat]?=Td d)/\∃e,(0<=c/\h[c.toNat]?=Td e)/\((d != e)=Ta->R Tc)/\((d != e)=Tc->(a (Aa .i64 (c+1))/\b (Aa .i64 (c+1))<b c)))/\(decide (c<f.length)=Tc->R Ta)))):
  PC Tp gl 191 [Arg.mk (.row (.int .i64)) f,Arg.mk (.row (.int .i64)) h] [.bool] R:=
 PF ⟨[],[],[(4,⟨[(13,.one (.dat (.int .i64)))],[],[],[100832]⟩)],[]⟩ [.tmp 4] 26 Tryz.func191 H
end
end Go.X
end
section
namespace Go.X
open Go Go.X Go.Proofs Go.RowKit
section
variable {v:Tr} {k:Bt}
set_option maxRecDepth 100000 in
theorem qj6{lo:Nat}{h:zb}{M:Fr}{b:Nat}{S x:List (Bt×Int)}{bs:List Nat}{lab:Bt}{F:FuncId}{A C:Array Value}(hF:zh Tp F=Ta)(H:Tb lo h M b S bs)(ax:lo<=h.size)(Z:x.length<=513) (hk:XC Tp F (A++#[]++C) h λv h1=>v=.tuple #[]/\∃n G,Grw h M b bs h1 n G/\Tb lo h1 n b x G) {K:Value->zb->Prop} (hK:∀h' M' bs',Grw h M b bs h' M' bs'->Tb lo h' M' b (zgb (x++[(lab,(S.length:Int))])) bs'->K (.tuple #[]) h'):
  XC Tp 175 #[.pointer (Td ⟨b,0,Te⟩),.string lab,.func (.func F) A C] h K:=by
 obtain⟨sl,sf,b1,b2,rfl,B⟩:=H;have l0:=B.r1.len;rw[Ap]at l0;apply zdd (Td ⟨b,0,Te⟩) lab F A C;refine⟨⟨b,0,Te⟩,rfl,sl,by rw[add0];exact B.box.cellAdd (o:=0) (k:=0) rfl,hF,XC.mono hk ?_⟩;rintro v h4 ⟨rfl,n,G,T,f,i,t,d2,rfl,q⟩;have l1:=q.r1.len;have l2:=q.r2.len;rw[Ap]at l1 l2;have ay:=T.grow;refine⟨rfl,⟨b,0,Te⟩,rfl,f,by rw[add0];exact q.box.cellAdd (o:=0) (k:=0) rfl,λE=>?_,λE=>?_⟩
 ·have E:x.length<=512:=by have:=of_decide_eq_true E;omega
  have D:=AdM.start q T.ag;have aa:=q.box.lt;have fin:∀{g:zb} {s1:Sl} {c1:List Nat} {s2:Sl} {c2:List Nat},AdM lo h4 n b f i (t++d2) g (x.map (·.1)++[lab]) s1 c1 (x.map (·.2)++[(sl.len:Int)]) s2 c2->∃u:Addr,Td (⟨b,0,Te⟩:Addr)=Td u /\
    XRunU Tp (Af 23 (.pointer (Td (Ad (Ad u 0) 0))) (slV s1)) g (λg1=>∃y:Addr,Td (⟨b,0,Te⟩:Addr)=Td y/\XRunU Tp (Af 59 (.pointer (Td (Ad (Ad y 0) 1))) (slV s2)) g1 (λL=>K (.tuple #[]) L)):=by
   intro g s1 c1 s2 c2 w;refine⟨_,rfl,?_⟩;have:=w.fin (S:=x++[(lab,(sl.len:Int))]) (by simp) (by simp) (K:=λL=>K (.tuple #[]) L) λg' bs' T' B'=>hK g' n bs' (T.trans T') (by rw[<-zza Z,if_pos E,<-l0];exact B');exact XRunU.mono this λg1 h1=>⟨_,rfl,h1⟩
  refine⟨⟨b,0,Te⟩,rfl,f,by rw[add0];exact q.box.cellAdd (o:=0) (k:=0) rfl,⟨b,0,Te⟩,rfl,i,by rw[add0];exact q.box.cellAdd (o:=0) (k:=1) rfl,?_,?_⟩;intro c;have am:Keep h4.size h4 c:=Keep.push _ _ (Ab _);have ap:c.size=h4.size+1:=Aj _;have Q:Blk c h4.size #[.string lab]:=Blk.new _ _ _;have r:AdM lo h4 n b f i (t++d2) c _ _ _ _ _ _:=D.push _;clear_value c;have p:c[b]?=h4[b]?:=am.get b aa;refine⟨p,p,?_,?_⟩;refine r.lab (by omega) (by rw[Ap];omega) Q λY g' c' w z' f'=>⟨Y,rfl,?_,?_⟩;exact(f' b (by omega) r.n1).trans p;intro s;have ae:Keep g'.size g' s:=Keep.push _ _ (Ab _);have an:Blk s g'.size #[.int .i64 (sl.len:Int)]:=Blk.new _ _ _;have ai:AdM lo h4 n b f i (t++d2) s _ _ _ _ _ _:=w.push _;clear_value s;refine⟨(ae.get b w.box.lt).trans ((f' b (by omega) r.n1).trans p),?_⟩;exact ai.lef (by omega) (by rw[Ap];omega) an λs2 L c2 P _ _=>⟨s2,rfl,fin P⟩;intro l;have V:Keep c.size c l:=Keep.push _ _ (Ab _);have ah:Blk l c.size #[.int .i64 (sl.len:Int)]:=Blk.new _ _ _;have N:AdM lo h4 n b f i (t++d2) l _ _ _ _ _ _:=r.push _;have au:l.size=c.size+1:=Aj _;clear_value l;have J:l[b]?=h4[b]?:=(V.get b (by omega)).trans p;refine⟨J,J,?_⟩;refine N.lab (by omega) (by rw[Ap];omega) (Q.ofKeep V) λY g' c' w z' f'=>⟨Y,rfl,(f' b (by omega) N.n1).trans J,?_⟩;have hn:c.size∉t:=λhm=>by have:=(q.r1.own _ hm).2.1;omega
  exact w.lef (by omega) (by rw[Ap];omega) (ah.keep (f' _ (by omega) hn)) λs2 L c2 P _ _=>⟨s2,rfl,fin P⟩;intro e;have af:Keep h4.size h4 e:=Keep.push _ _ (Ab _);have ar:e.size=h4.size+1:=Aj _;have ak:Blk e h4.size #[.int .i64 (sl.len:Int)]:=Blk.new _ _ _;have aj:AdM lo h4 n b f i (t++d2) e _ _ _ _ _ _:=D.push _;clear_value e;have z:e[b]?=h4[b]?:=af.get b aa;refine⟨z,z,?_⟩;intro m;have U:Keep e.size e m:=Keep.push _ _ (Ab _);have az:m.size=e.size+1:=Aj _;have ab:Blk m e.size #[.string lab]:=Blk.new _ _ _;have O:AdM lo h4 n b f i (t++d2) m _ _ _ _ _ _:=aj.push _;clear_value m;have I:m[b]?=h4[b]?:=(U.get b (by omega)).trans z;refine⟨I,I,?_⟩;refine O.lab (by omega) (by rw[Ap];omega) ab λY g' c' w z' f'=>⟨Y,rfl,(f' b (by omega) O.n1).trans I,?_⟩;have hn:h4.size∉t:=λhm=>by have:=(q.r1.own _ hm).2.1;omega
  exact w.lef (by omega) (by rw[Ap];omega) ((ak.ofKeep U).keep (f' _ (by omega) hn)) λs2 L c2 P _ _=>⟨s2,rfl,fin P⟩
 have E:¬x.length<=512:=by have:=of_decide_eq_false E;omega
 refine hK h4 n _ T ?_;rw[<-zza Z,if_neg E];exact⟨f,i,t,d2,rfl,q⟩
theorem zge{gl:Fr}(b:GL gl)(e:Brn gl)(c:Sm v){R:Bt->Prop}(f:R (zbr v).1):PC Tp gl 178 [Arg.mk .tree v] [.str] R:=by apply zkz;simp only[zam];exact z1l b e c f
theorem znq(h:okV v=Ta)(k:v.kind≠5)(i:v.kind≠6):v.items=[]/\zy v=Ta:=by
 have hi:v.items=[]:=by unfold okV zn at h;simp only[k,i,if_false]at h;by_cases h1:v.kind=1;simp[h1]at h;exact h.2;by_cases f:v.kind=2;simp[f]at h;exact h.2;by_cases e:v.kind=3;simp[e]at h;exact h.2;by_cases b:v.kind=4;simp[b]at h;exact h.2;by_cases c:v.kind=7;simp[c]at h;simp[h1,f,e,b,c]at h
 refine⟨hi,?_⟩;unfold zy Zi;rw[y0,zj7,y5,hi];simp only[Ao,decide_eq_true_eq];refine⟨⟨by rw[Zs];omega,by rw[Xp];omega⟩,?_,by rfl⟩;unfold okV at h;simpa using h
theorem qg7(h:Z8 (lb k)=Ta):okV (.mk 4 k [] [])=Ta:=by unfold okV zn;simpa[Tr.kind,Tr.text,Tr.keys,Tr.items]using h
theorem zt8(h:Z8 (lb k)=Ta):zy (.mk 4 k [] [])=Ta:= (znq (qg7 h) (show¬(4:Int)=5 by decide) (show¬(4:Int)=6 by decide)).2
theorem z8z(h:okV v=Ta)(b:v.kind≠5)(c:v.kind≠6):(zbr v).1=zqb v:=by unfold zbr zqb;rw[if_pos (znq h b c).2,if_neg b,if_neg c]
theorem qcp(h:Z8 (lb k)=Ta):(⟨#[107]⟩:Bt)++(zbr (.mk 4 k [] [])).1=zuq k:=by unfold zbr zuq;rw[if_pos (zt8 h),Yc];show bl [107]++bl (znd (lb k)).1=_;rw[wz];rfl
end
section
theorem Zb{g:zb}{M:Fr}(ag:AgM M g){k:Int}{s:Bt}{sk si:Sl}{K:zb->Prop}(h:∀g',Later g M g' M->g'.size=g.size+1->Blk g' g.size #[.int .i64 k,.string s,slV sk,slV si]->K g'):
  XRunU Tp (Af 26 (.pointer (Td ⟨g.size,0,Te⟩)) (.agg #[.int .i64 k,.string s,slV sk,slV si])) (Cn g (.cells #[.int .i64 0,.string ⟨#[]⟩,.slice Te 0 0,.slice Te 0 0] 26)) K:=by
 have c:Keep g.size g (Cn g (.cells #[.int .i64 0,.string ⟨#[]⟩,.slice Te 0 0,.slice Te 0 0] 26)):=Keep.push _ _ (Ab _);have i:(Cn g (.cells #[.int .i64 0,.string ⟨#[]⟩,.slice Te 0 0,.slice Te 0 0] 26)).size=g.size+1:=Aj _;have e:Blk (Cn g (.cells #[.int .i64 0,.string ⟨#[]⟩,.slice Te 0 0,.slice Te 0 0] 26)) g.size #[.int .i64 0,.string ⟨#[]⟩,.slice Te 0 0,.slice Te 0 0]:=Blk.new _ _ _;refine j4 e λg' f z B=>h g' (Later.same ag ⟨by omega,λj b=>by rw[f j (by omega)];exact c.get j b⟩) (by omega) B
set_option maxRecDepth 100000 in
set_option maxHeartbeats 2000000 in
theorem zt9{gl:Fr}(hg:GL gl)(hb:Brn gl){lo:Nat}:∀(n:Nat) (v:Tr),n<=1000000->tsz v<=n->Qt okV v=Ta->Sm v->∀(h:zb) (M:Fr) (b:Nat) (S:List (Bt×Int)) (bs:List Nat) (u:Value),AgM M h->Fr.le gl M->Tb lo h M b S bs->lo<=h.size->S.length<=513->RdV M .tree v u ->
  XC Tp 100 #[.pointer (Td ⟨b,0,Te⟩),u] h λr h'=>r=.tuple #[]/\∃M' bs',Grw h M b bs h' M' bs'/\Tb lo h' M' b (zgb (S++Zj v S.length)) bs'
 |0,v,_,hz,_,_=>by have:=Q6 v;omega
 |n+1,v,hn,hz,hok,hsm=>by
  intro h M b S bs u ag hM HB aP hS hu;obtain⟨sk,si,rfl,rk,ri⟩:=yz hu;have E:=hok;rw[y5,Ao]at E;have aO:v.items.length<=1000000:=by have:=Yx v.items;rw[y0]at hz;omega
  have ih:∀(i:Nat) (hi:i<v.items.length) (h:zb) (M:Fr) (S:List (Bt×Int)) (bs:List Nat) (u:Value),AgM M h->Fr.le gl M->Tb lo h M b S bs->lo<=h.size->S.length<=513->RdV M .tree v.items[i] u ->
    XC Tp 100 #[.pointer (Td ⟨b,0,Te⟩),u] h λr h'=>r=.tuple #[]/\∃M' bs',Grw h M b bs h' M' bs'/\Tb lo h' M' b (zgb (S++Zj v.items[i] S.length)) bs':=λi hi h M S bs u=>by
   have hm:=AE hi;have hs:=yj hm;have ar:Qt okV v.items[i]=Ta:=by rw[jo,Av]at E;exact E.2 _ hm
   exact zt9 hg hb n v.items[i] (by omega) (by omega) ar (hsm.item hm) h M b S bs u
  obtain⟨li,_,_⟩:=rowLen ri;obtain⟨lk,_,_⟩:=rowLen rk;have aQ:=HB.ltb;have af:=HB.lt;apply za1 (Td ⟨b,0,Te⟩) v.kind v.text sk si;intro h1;have k1:Keep h.size h h1:=Keep.push _ _ (Ab _);have z1:h1.size=h.size+1:=Aj _;have P1:Blk h1 h.size #[.pointer (Td ⟨b,0,Te⟩)]:=Blk.new _ _ _;clear_value h1;intro h2;have k2:Keep h1.size h1 h2:=Keep.push _ _ (Ab _);have z2:h2.size=h1.size+1:=Aj _;have T2:Blk h2 h1.size #[.int .i64 v.kind,.string v.text,slV sk,slV si]:=Blk.new _ _ _;clear_value h2;have P2:=P1.ofKeep k2;have aA:Keep h.size h h2:=k1.trans k2 (by omega);have L2:Later h M h2 M:=Later.same ag aA;have ae:=HB.call L2;have row:Zj v S.length=(if v.kind=6 then Y0 v.items v.keys S.length else if v.kind=5 then za0 v.items S.length else [])++[(zqb v,(S.length:Int))]:=zqc v _;have fin:∀(A:List (Bt×Int)) (lab:Bt) (F:FuncId) (C:Array Value),Zj v S.length=A++[(lab,(S.length:Int))]->zh Tp F=Ta -> (∀(h':zb) (M':Fr),Later h2 M h' M'->XC Tp F (#[]++#[]++C) h' λw h1=>w=.tuple #[]/\∃N z,Grw h' M' b bs h1 N z/\Tb lo h1 N b (zgb (S++A)) z) ->
    ∀(h':zb) (M':Fr),Later h2 M h' M'->XC Tp 175 #[.pointer (Td ⟨b,0,Te⟩),.string lab,.func (.func F) #[] C] h' λr h3=>r=.tuple #[]/\Value.tuple #[]=Value.tuple #[]/\∃M' bs',Grw h M b bs h3 M' bs'/\Tb lo h3 M' b (zgb (S++Zj v S.length)) bs':=by
   intro A lab F C ap hF hk h' M' J;have aN:=J.keep.size;refine qj6 hF (ae.call J) (by omega) (zqd (S++A)) (hk h' M' J) λh3 M3 ai T3 B3=>⟨rfl,rfl,M3,ai,Grw.ofCall (L2.trans J) T3 af,?_⟩;have:=zex (S++A) λ_=>[(lab,(S.length:Int))];rw[this,AH,<-ap]at B3;exact B3
  refine⟨v.kind,T2.cellAdd (o:=0) (k:=0) rfl,λh5=>?_,λh5=>⟨λh6=>?_,λh6=>?_⟩⟩;have h5:v.kind=5:=by simpa using h5
  refine⟨Td ⟨b,0,Te⟩,P2.cell (o:=0) rfl,?_⟩;refine fin (za0 v.items S.length) ⟨#[91]⟩ _ _ (by rw[row,if_neg (by omega),if_pos h5];unfold zqb;rw[if_pos h5]) (by kernel_rfl) (λh' M' J=>?_) h2 M (Later.refl L2.ag);show XC _ _ #[.pointer (Td ⟨h1.size,0,Te⟩),.pointer (Td ⟨h.size,0,Te⟩)] _ _;have z':=J.keep.size;have T':Blk h' h1.size #[.int .i64 v.kind,.string v.text,slV sk,slV si]:=T2.keep (J.keep.get _ (by omega));have P':Blk h' h.size #[.pointer (Td ⟨b,0,Te⟩)]:=P2.keep (J.keep.get _ (by omega));have ak:=ae.call J;apply Xc ⟨h1.size,0,Te⟩ ⟨h.size,0,Te⟩;refine⟨si,T'.cellAdd (o:=0) (k:=3) rfl,λi g=>∃(m:Nat) (N:Fr) (z:List Nat),i=(m:Int)/\m<=v.items.length/\Grw h' M' b bs g N z/\Tb lo g N b (zgb (S++za0 (v.items.take m) S.length)) z,λi _=>v.items.length-i.toNat,⟨0,M',bs,rfl,AW _,Grw.refl J.ag,by rw[CZ,za0,AR,zgc hS];exact ak⟩,?_⟩;rintro i g ⟨m,N,z,rfl,hm,T,B⟩;have gz:=T.grow;refine⟨λV=>?_,λV=>?_⟩;have s:m<v.items.length:=by have:=of_decide_eq_true V;omega
  obtain⟨a,ck,ci,ea,ah,t1,t2⟩:=zd9 T.ag (ri.mono (J.le.trans T.le)) s;refine⟨a,⟨ea,by omega,by omega⟩,v.items[m].kind,v.items[m].text,ck,ci,by rw[Ag];exact ah,?_⟩;intro aF;refine Zb T.ag λD I ay aj=>?_;have Pg:Blk D h.size #[.pointer (Td ⟨b,0,Te⟩)]:=P'.keep ((I.keep.get h.size (by omega)).trans (T.fr h.size (by omega) (by omega) λhm=>by have:=af _ hm;omega));refine⟨Td ⟨b,0,Te⟩,Pg.cell (o:=0) rfl,v.items[m].kind,v.items[m].text,ck,ci,aj.ld (cs:=[_,_,slV ck,slV ci]),?_⟩;refine XC.mono (ih m s D N _ z _ I.ag (hM.trans (J.le.trans T.le)) (B.call I) (by omega) (zqd _) (qf t1 t2)) ?_;rintro r h19 ⟨rfl,M2,aJ,aL,am⟩;refine⟨rfl,⟨m+1,M2,aJ,by rw[jc s (by omega)],s,T.trans (Grw.ofCall I aL λc V=>B.lt c V),?_⟩,?_⟩;have:=zex (S++za0 (v.items.take m) S.length) λk=>Zj v.items[m] k;rw[this,AH,Ah,<-z8x s]at am;exact am;show v.items.length-(Aa .i64 ((m:Int)+1)).toNat<v.items.length-(m:Int).toNat;rw[jc s (by omega)];omega;have s:m=v.items.length:=by have:=of_decide_eq_false V;omega
  subst s;rw[A5]at B;exact⟨rfl,N,z,T,B⟩
  ·have h6:v.kind=6:=by simpa using h6
   have aT:v.keys.length=v.items.length:=by have:=E.1;unfold okV zn at this;simp[h6]at this;exact this.1.2
   have aB:∀k∈v.keys,Z8 (lb k)=Ta:=by have:=E.1;unfold okV zn wo at this;simp[h6]at this;exact this.1.1.1
   refine⟨Td ⟨b,0,Te⟩,P2.cell (o:=0) rfl,?_⟩;refine fin (Y0 v.items v.keys S.length) ⟨#[123]⟩ _ _ (by rw[row,if_pos h6];unfold zqb;rw[if_neg (by omega),if_pos h6]) (by kernel_rfl) (λh' M' J=>?_) h2 M (Later.refl L2.ag);show XC _ _ #[.pointer (Td ⟨h1.size,0,Te⟩),.pointer (Td ⟨h.size,0,Te⟩)] _ _;have z':=J.keep.size;have T':Blk h' h1.size #[.int .i64 v.kind,.string v.text,slV sk,slV si]:=T2.keep (J.keep.get _ (by omega));have P':Blk h' h.size #[.pointer (Td ⟨b,0,Te⟩)]:=P2.keep (J.keep.get _ (by omega));have ak:=ae.call J;apply Xd ⟨h1.size,0,Te⟩ ⟨h.size,0,Te⟩;refine⟨si,T'.cellAdd (o:=0) (k:=3) rfl,λi g=>∃(m:Nat) (N:Fr) (z:List Nat),i=(m:Int)/\m<=v.items.length/\Grw h' M' b bs g N z/\Tb lo g N b (zgb (S++Y0 (v.items.take m) v.keys S.length)) z,λi _=>v.items.length-i.toNat,⟨0,M',bs,rfl,AW _,Grw.refl J.ag,by rw[CZ,Y0,AR,zgc hS];exact ak⟩,?_⟩;rintro i g ⟨m,N,z,rfl,hm,T,B⟩;have gz:=T.grow;refine⟨λV=>?_,λV=>?_⟩
   ·have s:m<v.items.length:=by have:=of_decide_eq_true V;omega
    have Z:m<v.keys.length:=by omega
    have Y:=J.le.trans T.le;obtain⟨a,ck,ci,ea,ah,t1,t2⟩:=zd9 T.ag (ri.mono Y) s;refine⟨a,⟨ea,by omega,by omega⟩,v.items[m].kind,v.items[m].text,ck,ci,by rw[Ag];exact ah,?_⟩;intro aF;refine Zb T.ag λD I ay aj=>?_;have Pg:Blk D h.size #[.pointer (Td ⟨b,0,Te⟩)]:=P'.keep ((I.keep.get h.size (by omega)).trans (T.fr h.size (by omega) (by omega) λhm=>by have:=af _ hm;omega));have Tg:Blk D h1.size #[.int .i64 v.kind,.string v.text,slV sk,slV si]:=T'.keep ((I.keep.get h1.size (by omega)).trans (T.fr h1.size (by omega) (by omega) λhm=>by have:=af _ hm;omega));obtain⟨a2,aI,x,aE,az⟩:=z0q I.ag (rk.mono Y) Z (i:=(m:Int)) rfl (L:=sk.len) rfl (Q:=λx=>x=v.keys[m]) rfl;subst az;refine⟨Td ⟨b,0,Te⟩,Pg.cell (o:=0) rfl,sk,Tg.cellAdd (o:=0) (k:=2) rfl,a2,aI,v.keys[m],aE,?_⟩;have an:=aB _ (AE Z);have aC:Sm (.mk 4 v.keys[m] [] []):=⟨by rw[y0];simp[Zs],by rw[txB];refine⟨⟨?_,AW _,λk hk=>by cases hk⟩,trivial⟩;have:=hsm.key (AE Z);rw[zbz]at this;exact this⟩;have BB:=B.call I;have tail:∀(f:zb) (p:Fr) (kt:Bt),Later D N f p->kt=(zbr (.mk 4 v.keys[m] [] [])).1->XC Tp 175 #[.pointer (Td ⟨b,0,Te⟩),.string ((⟨#[107]⟩:Bt)++kt),.func (.func 179) #[] #[.pointer (Td ⟨h.size,0,Te⟩),.pointer (Td ⟨g.size,0,Te⟩)]] f λw ax=>w=.tuple #[] /\
      (∃(q:Nat) (N:Fr) (z:List Nat),Aa .i64 ((m:Int)+1)=(q:Int)/\q<=v.items.length/\Grw h' M' b bs ax N z/\Tb lo ax N b (zgb (S++Y0 (v.items.take q) v.keys S.length)) z)/\v.items.length-(Aa .i64 ((m:Int)+1)).toNat<v.items.length-(m:Int).toNat:=by
     rintro f p kt l rfl;rw[qcp an];have aS:=l.keep.size;have U:=I.trans l;refine qj6 (by kernel_rfl) (B.call U) (by omega) (zqd (zgb (S++Y0 (v.items.take m) v.keys S.length)++Zj v.items[m] (zgb (S++Y0 (v.items.take m) v.keys S.length)).length)) ?_ λh3 M3 ai T3 B3=>⟨rfl,⟨m+1,M3,ai,by rw[jc s (by omega)],s,T.trans (Grw.ofCall U T3 λc V=>B.lt c V),?_⟩,?_⟩;show XC _ _ #[.pointer (Td ⟨h.size,0,Te⟩),.pointer (Td ⟨g.size,0,Te⟩)] _ _;apply Y7 ⟨h.size,0,Te⟩ ⟨g.size,0,Te⟩;refine⟨Td ⟨b,0,Te⟩,(Pg.keep (l.keep.get _ (by omega))).cell (o:=0) rfl,v.items[m].kind,v.items[m].text,ck,ci,(aj.keep (l.keep.get _ (by omega))).ld (cs:=[_,_,slV ck,slV ci]),?_⟩;exact XC.mono (ih m s f p _ z _ l.ag (hM.trans (Y.trans l.le)) (B.call U) (by omega) (zqd _) (qf (t1.mono l.le) (t2.mono l.le))) λr h' O=>⟨O.1,rfl,O.2⟩;have e1:=zex (S++Y0 (v.items.take m) v.keys S.length) λk=>Zj v.items[m] k++[(zuq v.keys[m],(k:Int))];have e2:=zex (zgb (S++Y0 (v.items.take m) v.keys S.length)++Zj v.items[m] (zgb (S++Y0 (v.items.take m) v.keys S.length)).length) λ_=>[(zuq v.keys[m],((zgb (S++Y0 (v.items.take m) v.keys S.length)).length:Int))];rw[e2,AH,e1,AH,Ah,<-z8y s Z]at B3;exact B3;rw[jc s (by omega)];omega
    have aa:∀(t:zb) (y:Fr) (xk xi:Sl),Later D N t y->RdV y .tree (.mk 4 v.keys[m] [] []) (.agg #[.int .i64 4,.string v.keys[m],slV xk,slV xi])->∀{K:Value->zb->Prop},(∀f p,Later D N f p->Later t y f p->K (.string (zbr (.mk 4 v.keys[m] [] [])).1) f) ->
      XC Tp 178 #[.agg #[.int .i64 4,.string v.keys[m],slV xk,slV xi]] t K:=λt y xk xi G O K hK=>by
     refine(zge hg hb aC (R:=λr=>r=(zbr (.mk 4 v.keys[m] [] [])).1) rfl).go (vs:=[.agg #[.int .i64 4,.string v.keys[m],slV xk,slV xi]]) (hM.trans (Y.trans G.le)) G.ag (qb O qq) λw f p r l P O=>?_;subst O;rw[qil P];exact hK f p (G.trans l) l
    have off:∀{K:Value->zb->Prop},(∀t y xk xi,Later D N t y->RdV y .tree (.mk 4 v.keys[m] [] []) (.agg #[.int .i64 4,.string v.keys[m],slV xk,slV xi])->K (.agg #[.int .i64 4,.string v.keys[m],slV xk,slV xi]) t)->XC Tp 28 #[.string v.keys[m]] D K:=λ {K} hK=>by refine(show PC Tp gl 28 [Arg.mk .str v.keys[m]] [.tree] (λr=>r=.mk 4 v.keys[m] [] [])from by apply zwj;rfl).go (hM.trans Y) I.ag (qb (a:=Arg.mk .str _) (rdStr _) qq) λw t y r G P O=>?_;subst O;have O:=Xl.1 P;obtain⟨xk,xi,e,_,_⟩:=yz O;subst e;exact hK t y xk xi G O
    have ab:wu ((⟨#[107]⟩:Bt).size+(zbr (.mk 4 v.keys[m] [] [])).1.size):=by have h1:=hsm.key (AE Z);unfold zbr;rw[if_pos (zt8 an),Yc];show wu ((bl [107]).size+(bl (znd (lb v.keys[m])).1).size);have:=zeu (lb v.keys[m]);exact z0w (by simp only[Cq];omega)
    have aM:b<D.size:=by have:=B.ltb;omega
    have H:∀(f:zb) (p:Fr),Later D N f p->f[h.size]?=D[h.size]?:=λf p L=>L.keep.get _ (by omega);refine⟨off λt y xk xi G O=>⟨_,_,xk,xi,rfl,H t y G,?_,H t y G,?_⟩,rfl,rfl,rfl,off λt y xk xi G O=>⟨_,_,xk,xi,rfl,H t y G,?_⟩⟩;exact aa t y xk xi G O λf p l _=>⟨_,rfl,ab,H f p l,H f p l,tail f p _ l rfl⟩;exact aa t y xk xi G O λf p l _=>⟨_,rfl,ab,H f p l,tail f p _ l rfl⟩;exact aa t y xk xi G O λf p l _=>⟨_,rfl,ab,H f p l,tail f p _ l rfl⟩
   have s:m=v.items.length:=by have:=of_decide_eq_false V;omega
   subst s;rw[A5]at B;exact⟨rfl,N,z,T,B⟩
  have h5:v.kind≠5:=by simpa using h5
  have h6:v.kind≠6:=by simpa using h6
  refine⟨Td ⟨b,0,Te⟩,P2.cell (o:=0) rfl,v.kind,v.text,sk,si,T2.ld (cs:=[_,_,slV sk,slV si]),?_⟩;refine(zge hg hb hsm (R:=λr=>r=(zbr v).1) rfl).go (vs:=[.agg #[.int .i64 v.kind,.string v.text,slV sk,slV si]]) hM L2.ag (qb hu qq) λw aH aG r au P O=>?_;subst O;rw[qil P,z8z E.1 h5 h6];refine⟨_,rfl,au.keep.get h.size (by omega),?_⟩;refine fin [] (zqb v) _ _ (by rw[row,if_neg h6,if_neg h5]) (by kernel_rfl) (λh' M' J=>?_) aH aG au;show XC _ _ #[] _ _;apply Xe;exact⟨rfl,M',bs,Grw.refl J.ag,by rw[AR,zgc hS];exact ae.call J⟩
end
end Go.X
end
section
namespace Go.X
open Go Go.Lib
section
variable {n i:Nat}
def lfN(L:List Int)(i:Nat):Int:=L.getD i 0
def qaj(L:List Int)(j:Nat):Bool:=decide (0<=lfN L j)&&decide (lfN L j<=j)&&(Bj j).all λi=>!(decide (lfN L j<=(i:Int))&&decide (lfN L i<lfN L j))
def zqj(L:List Int)(j:Nat):Bool:=(Bj j).all (qaj L)
def yb(t:List Bt×List Int):Bool:=decide (t.1.length=t.2.length)&&decide (t.1.length<=512)&&zqj t.2 t.2.length
def Y9(L:List Int)(n i:Nat):Int:=match (Bj n).find? λj=>decide (i<j)&&decide (lfN L j<=(i:Int))with
 |some j=>(j:Int)
 |none=>-1
def zbv(L:List Int):List Int:=(Bj L.length).map (Y9 L L.length)
def Yl(L:List Int)(j:Nat):List Nat:=(Bj j).filter λi=>decide (Y9 L j i<0)
theorem jj{L:List Int}{j:Nat}:qaj L j=Ta↔0<=lfN L j/\lfN L j<=j/\∀i,i<j->lfN L j<=(i:Int)->lfN L j<=lfN L i:=by unfold qaj;simp only[Ao,decide_eq_true_eq,Av,AU,Dh,Cp,decide_eq_false_iff_not];constructor;rintro⟨⟨h1,e⟩,c⟩;exact⟨h1,e,λi hi b=>by rcases c i hi with h|h <;> omega⟩;rintro⟨h1,e,c⟩;refine⟨⟨h1,e⟩,λi hi=>?_⟩;by_cases b:lfN L j<=(i:Int);exact .inr (by have:=c i hi b;omega);exact .inl b
theorem Zc{L:List Int}{j:Nat}:zqj L j=Ta↔∀i,i<j->qaj L i=Ta:=by unfold zqj;simp only[Av,AU]
theorem z81{L:List Int}{j:Nat}(h:zqj L j=Ta)(c:qaj L j=Ta):zqj L (j+1)=Ta:=by rw[Zc]at h ⊢;intro i hi;rcases AX i j with b|b;exact h i b;rw[show i=j from by omega];exact c
theorem z9a{L:List Int}{j k:Nat}(h:zqj L j=Ta)(b:k<=j):zqj L k=Ta:=by rw[Zc]at h ⊢;exact λi hi=>h i (by omega)
theorem z1n{p:Nat->Bool}:∀{n j:Nat},(Bj n).find? p=Td j->j<n/\p j=Ta/\∀i,i<j->p i=Tc:=by
 intro n;induction n with
 |zero=>intro j h;simp at h
 |succ n c=>
  intro j h;rw[CK,List.find?_append]at h;cases e:(Bj n).find? p with
  |some k=>rw[e]at h;simp at h;subst h;obtain⟨h1,l,f⟩:=c e;exact⟨by omega,l,f⟩
  |none=>rw[e]at h;rw[List.find?_eq_none]at e;simp[List.find?]at h;split at h;rename_i b;simp at h;subst h;exact⟨by omega,b,λi hi=>by simpa using e i (AU.2 hi)⟩;simp at h
theorem qz(L:List Int)(n i:Nat):(Y9 L n i=-1/\∀j,i<j->j<n->(i:Int)<lfN L j)\/∃p:Nat,Y9 L n i=(p:Int)/\i<p/\p<n/\lfN L p<=(i:Int)/\∀j,i<j->j<p->(i:Int)<lfN L j:=by
 unfold Y9;cases e:(Bj n).find? λj=>decide (i<j)&&decide (lfN L j<=(i:Int))with
 |none=>refine .inl ⟨rfl,λj h1 c=>?_⟩;rw[List.find?_eq_none]at e;have:=e j (AU.2 c);simp[h1]at this;omega
 |some p=>obtain⟨h1,c,f⟩:=z1n e;simp only[Ao,decide_eq_true_eq]at c;refine .inr ⟨p,rfl,c.1,h1,c.2,λj a b=>?_⟩;have:=f j b;simp[a]at this;omega
theorem zqk{L:List Int}{n i p:Nat}(h1:i<p)(k:p<n)(l:lfN L p<=(i:Int))(f:∀j,i<j->j<p->(i:Int)<lfN L j):Y9 L n i=(p:Int):=by rcases qz L n i with⟨_,e⟩|⟨q,e,a,b,c,d⟩;have:=e p h1 k;omega;rw[e];rcases Di p q with h|h|h;have:=d p h1 h;omega;rw[h];have:=f q a h;omega
theorem zua{L:List Int}(h:∀j,i<j->j<n->(i:Int)<lfN L j):Y9 L n i=-1:=by rcases qz L n i with⟨e,_⟩|⟨q,e,a,b,c,d⟩;exact e;have:=h q a b;omega
theorem zub(L:List Int)(n i:Nat)(hi:i<n):Y9 L (n+1) i=if Y9 L n i<0/\lfN L n<=(i:Int)then(n:Int)else Y9 L n i:=by
 rcases qz L n i with⟨e,h⟩|⟨p,e,a,b,c,d⟩;by_cases f:lfN L n<=(i:Int);rw[if_pos ⟨by omega,f⟩];exact zqk hi (by omega) f λj h1 l=>h j h1 l
 rw[if_neg (λq=>f q.2),e];refine zua λj h1 l=>?_;rcases AX j n with k|k;exact h j h1 k;rw[show j=n from by omega];omega;rw[if_neg (λq=>by omega),e];exact zqk a (by omega) c d
theorem zk0(L:List Int)(n:Nat):Y9 L (n+1) n=-1:=zua λj h1 b=>by omega
theorem zwq{L:List Int}{j:Nat}(h:zqj L j=Ta):∀(k i:Nat),j-i<=k->i<j->∃r,r<j/\Y9 L j r=-1/\i<=r/\lfN L r<=lfN L i
 |0,i,hk,hi=>by omega
 |k+1,i,hk,hi=>by rcases qz L j i with⟨e,_⟩|⟨p,e,a,b,c,_⟩;exact⟨i,hi,e,Ab _,Dz _⟩;obtain⟨r,l,f,n,m⟩:=zwq h k p (by omega) b;rw[Zc]at h;have:=(jj.1 (h p b)).2.2 i a c;exact⟨r,l,f,by omega,by omega⟩
theorem zil{L:List Int}{j i:Nat}:i∈Yl L j↔i<j/\Y9 L j i=-1:=by unfold Yl;rw[Cf,AU,decide_eq_true_eq];constructor;rintro⟨a,b⟩;rcases qz L j i with⟨e,_⟩|⟨p,e,_⟩;exact⟨a,e⟩;omega;rintro⟨a,b⟩;exact⟨a,by omega⟩
theorem z9b{L:List Int}{j:Nat}(h:zqj L j=Ta)(h0:0<=lfN L j)(h1:lfN L j<=j)(e:∀r∈Yl L j,lfN L j<=(r:Int)->lfN L j<=lfN L r):qaj L j=Ta:=by refine jj.2 ⟨h0,h1,λi hi f=>?_⟩;obtain⟨r,c,b,l,k⟩:=zwq h (j-i) i (Ab _) hi;have:=e r (zil.2 ⟨c,b⟩) (by omega);omega
theorem z9c(L:List Int)(j:Nat):Yl L (j+1)=(Yl L j).filter (λi:Nat=>decide ((i:Int)<lfN L j))++[j]:=by unfold Yl;rw[CK,List.filter_append,List.filter_filter];congr 1;refine List.filter_congr λi hi=>?_;rw[AU]at hi;rw[zub L j i hi,AM,Ao,decide_eq_true_eq,decide_eq_true_eq,decide_eq_true_eq];by_cases c:Y9 L j i<0;by_cases b:lfN L j<=(i:Int);rw[if_pos ⟨c,b⟩];omega;rw[if_neg (λq=>b q.2)];omega;rw[if_neg (λq=>c q.1)];omega;rw[BP,if_pos (by rw[zk0];decide)];rfl
theorem zk1(L:List Int)(j:Nat):(Yl L j).Pairwise (· < ·):=by unfold Yl;exact Df.sublist List.filter_sublist CM
theorem zb2:∀{l:List Nat},l.Pairwise (· < ·)->∀{x:Int} {m:Nat},m<=l.length->(∀i (h:i<l.length),i<m->(l[i]:Int)<x)->(∀i (h:i<l.length),m<=i->x<=(l[i]:Int))->l.filter (λi:Nat=>decide ((i:Int)<x))=l.take m
 |[],_,x,m,_,_,_=>by simp
 |a::l,hp,x,m,hm,h1,h2=>by
  cases m with
  |zero=>rw[CZ,List.filter_eq_nil_iff];intro b c;obtain⟨i,hi,rfl⟩:=Ct.1 c;have:=h2 i hi (AW _);simp;exact this
  |succ m=>rw[BP,if_pos (by have:=h1 0 (by simp) (by omega);simpa using this),CL];congr 1;exact zb2 (Be.1 hp).2 (by simpa using hm) (λi h hi=>by have:=h1 (i+1) (by simpa using h) (by omega);simpa using this) (λi h hi=>by have:=h2 (i+1) (by simpa using h) (by omega);simpa using this)
theorem qd9{L:List Int}(h:i<L.length):L[i]?=Td (lfN L i):=by unfold lfN;rw[A6,Ak h];rfl
theorem zim{L:List Int}(h:i<L.length):(zbv L)[i]?=Td (Y9 L L.length i):=by unfold zbv;rw[Bf,List.getElem?_range h];rfl
theorem wj(L:List Int):(zbv L).length=L.length:=by unfold zbv;rw[Ap,C3]
end
end Go.X
end
section
namespace Go.X
open Go Go.X Go.Proofs Go.RowKit
section
variable {M:Fr} {a b:Ty} {h g:zb} {n q bo bt i:Nat} {ts:Sl} {ct:Array Value}
theorem qk2{x:El (.row a)×El (.row b)}{u:Value}(h:RdV M (.pair (.row a) (.row b)) x u):∃s1 s2:Sl,u=.agg #[slV s1,slV s2]/\Rd M (.row a) x.1 [slV s1]/\Rd M (.row b) x.2 [slV s2]:=by unfold RdV at h;simp only[zhf,if_true]at h;obtain⟨cs,rfl,c1,c2,rfl,h1,m⟩:=h;obtain⟨c,rfl,i⟩:=h1;obtain⟨k,rfl,e⟩:=m;obtain⟨s1,rfl,f⟩:=z4m (M:=M) (t:=a) (xs:=x.1) ((zfs rfl).2 ⟨c,rfl,i⟩);obtain⟨s2,rfl,l⟩:=z4m (M:=M) (t:=b) (xs:=x.2) ((zfs rfl).2 ⟨k,rfl,e⟩);exact⟨s1,s2,rfl,f,l⟩
theorem Y8{x:El (.row a)×El (.row b)}{s1 s2:Sl}(h1:Rd M (.row a) x.1 [slV s1])(c:Rd M (.row b) x.2 [slV s2]):RdV M (.pair (.row a) (.row b)) x (.agg #[slV s1,slV s2]):=by unfold RdV;simp only[zhf,if_true];exact⟨[_,_],rfl,[_],[_],rfl,h1,c⟩
theorem qg8(z:Value)(n:Nat):madeCells #[z] n=(BC n z).toArray:=by apply Array.ext;simp[madeCells];intro i h1 b;simp[madeCells,Nat.mod_one]
theorem mkZ{t e:TypeId}{z:Value}{bytes:Nat}(E:ElemT Tp t e z 1 bytes)(o:z.cells=#[z])(m:bytes<=1000)(p:n<=1000000){K:Value->zb->Prop}(l:K (slV ⟨Td ⟨h.size,0,Te⟩,n,n⟩) (h.push (.cells (BC n z).toArray e))):
  XRun Tp (Instr.makeSlice t (.int .i64 (n:Int)) (.int .i64 (n:Int))) h K:=by
 intro B d;obtain⟨i,hi,b,k,f⟩:=E.info;have q:(bytes:Int)*(n:Int)<=1000*1000000:=Int.mul_le_mul (by omega) (by omega) (by omega) (by omega);have c:=run_make (P:=Tp) (mk B d h) t e i z E.slice hi b .i64 .i64 (n:Int) (n:Int) (by omega) (Dz _) (by rw[f];omega) (by omega);rw[Ag,k,B0,o,qg8]at c;exact⟨_,_,_,c,l⟩
theorem CR.pop{els:List (List Value)}{sl:Sl}{b:Nat}{cs:Array Value}(H:CR g 1 els sl b cs)(f:q<=els.length):CR g 1 (els.take q) ⟨sl.a,q,sl.cap⟩ b cs:=by have k:=H.ln;have c:=H.ro.le;refine⟨⟨by show q<=sl.cap;omega,?_⟩,by rw[AN,Cj f],λi e hi=>?_⟩;rcases H.ro.at_ with⟨h1,h⟩|h1;exact .inl ⟨by show q=0;omega,h⟩;exact .inr h1;rw[AK]at hi;split at hi;exact H.el i e hi;cases hi
structure ParI (h:zb) (n bo:Nat) (T:List Nat) (outs:List Int) (ts:Sl) (bt:Nat) (ct:Array Value) (g:zb):Prop where
 k:Keep bo h g
 out:Blk g bo (outs.map (Bn .i64)).toArray
 ln:outs.length=n
 top:CR g 1 (T.map λi:Nat=>[Bn .i64 (i:Int)]) ts bt ct
 hb:bo<bt
theorem ParI.len{T:List Nat}{outs:List Int}(S:ParI h n bo T outs ts bt ct g):ts.len=T.length:=by rw[S.top.ln,Ap]
theorem ParI.cell{T:List Nat}{outs:List Int}(S:ParI h n bo T outs ts bt ct g)(hi:i<T.length):ts.a=Td ⟨bt,0,Te⟩/\zc g ⟨bt,0+i,Te⟩=Td (.int .i64 ((T[i]:Nat):Int)):=by
 have b:(T.map λi:Nat=>[Bn .i64 (i:Int)])≠[]:=λe=>by rw[List.map_eq_nil_iff]at e;rw[e]at hi;exact absurd hi (CJ _)
 obtain⟨c,B⟩:=S.top.blk b;obtain⟨_,f⟩:=S.top.el i [.int .i64 ((T[i]:Nat):Int)] (by rw[Bf,Ak hi];rfl);refine⟨c,B.cell ?_⟩;have:=zte f (q:=0) (by omega);rw[B0,CO]at this;rw[AL,<-Ca,this];rfl
theorem ParI.set{T:List Nat}{outs:List Int}(S:ParI h n bo T outs ts bt ct g)(hi:i<n){x:Int}{K:zb->Prop}(o:∀g',ParI h n bo T (outs.set i x) ts bt ct g'->g'.size=g.size->K g'):
  XRunU Tp (Af 3 (.pointer (Td ((⟨bo,0,Te⟩:Addr).add (i*1)))) (.int .i64 x)) g K:=by
 have b:=S.ln;have m:=S.hb;rw[zi,AL,B0];refine yg ztl (by kernel_rfl) S.out (by simp;omega) rfl λg' c f f'=>o g' ⟨⟨by have:=S.k.size;omega,λj l=>(f' j (by omega)).trans (S.k.get j l)⟩,?_,by rw[Cz];exact b,S.top.frame λ_=>f' bt (by omega),m⟩ f;have e:(outs.map (Bn .i64)).toArray.setIfInBounds i (.int .i64 x)=((outs.set i x).map (Bn .i64)).toArray:=by rw[List.map_set];simp
 rw[e]at c;exact c
theorem qny{s:Sl}{i:Int}(h1:i=(q:Int)):(⟨ze7 s.a 1 (0:Int).toNat ((s.cap:Nat):Int).toNat,i.toNat-(0:Int).toNat,((s.cap:Nat):Int).toNat-(0:Int).toNat⟩:Sl)=⟨s.a,q,s.cap⟩:=by have:ze7 s.a 1 (0:Int).toNat ((s.cap:Nat):Int).toNat=s.a:=z2u _ _ _;rw[this];congr 1;omega
set_option maxRecDepth 100000 in
set_option maxHeartbeats 2000000 in
theorem zgf{gl:Fr}{t:List Bt×List Int}{R:List Int×Bool->Prop}(hR:R (if yb t=Ta then(zbv t.2,Ta)else([],Tc))):PC Tp gl 104 [Arg.mk (.pair (.row .str) (.row (.int .i64))) t] [.row (.int .i64),.bool] R:=by
 intro h M vs hM ag ha
 match vs,ha with
 |[u],⟨hu,_⟩=>
  obtain⟨s1,s2,rfl,r1,r2⟩:=qk2 (show RdV M (.pair (.row .str) (.row (.int .i64))) t u from hu);apply PX.of;obtain⟨l1,_,_⟩:=rowLen r1;obtain⟨l2,b2,_⟩:=rowLen r2;apply zkx s1 s2;intro h1;have k1:Keep h.size h h1:=Keep.push _ _ (Ab _);have z1:h1.size=h.size+1:=Aj _;have P:Blk h1 h.size #[slV s1,slV s2]:=Blk.new _ _ _;clear_value h1;have bad:∀g:zb,yb t=Tc->Keep h.size h g->∃M' r,Later h M g M'/\Y3 M' [.row (.int .i64),.bool] r (.tuple #[.slice Te 0 0,.bool Tc])/\R r:=λg e k=>⟨M,([],Tc),Later.same ag k,⟨[_,_],⟨_,_,rfl,(zfs rfl).2 zf6,_,rfl,rdBool _⟩,rfl⟩,by rw[e]at hR;exact hR⟩;refine⟨s1,P.cellAdd (o:=0) (k:=0) rfl,s2,P.cellAdd (o:=0) (k:=1) rfl,s1,λ_=>P.cellAdd (o:=0) (k:=0) rfl,λc=>?_,λc=>?_⟩;refine bad _ ?_ k1;cases s:yb t with
  |false=>rfl
  |true=>
   unfold yb at s;simp only[Ao,decide_eq_true_eq]at s;have e1:((s1.len:Int) != (s2.len:Int))=Tc:=by simp;omega
   rw[e1]at c;have:=of_decide_eq_true c;omega
  have l:s1.len=s2.len:=by
   by_cases e:s1.len=s2.len;exact e;exfalso;have:((s1.len:Int) != (s2.len:Int))=Ta:=by simp;omega
   simp[this]at c
  have aE:s1.len<=512:=by
   have:((s1.len:Int) != (s2.len:Int))=Tc:=by simp;omega
   rw[this]at c;have:=of_decide_eq_false c;omega
  refine⟨s2,P.cellAdd (o:=0) (k:=1) rfl,?_⟩;refine mkZ (E:=(z1i:ElemT _ _ _ _ 1 8)) rfl (by omega) (by omega) ⟨⟨Td ⟨h1.size,0,Te⟩,s2.len,s2.len⟩,rfl,s2,?_,?_⟩;exact(P.keepN (n:=h1.size) (Keep.push _ _ (Ab _)) (by omega)).cellAdd (o:=0) (k:=1) rfl;obtain⟨L,B⟩:∃L,L=t.2:=⟨_,rfl⟩;have hn:L.length=s2.len:=by rw[B,l2]
  have nr:∀m,m<L.length->qaj L m=Tc->yb t=Tc:=λm hm e=>by
   cases s:yb t with
   |false=>rfl
   |true=>unfold yb at s;simp only[Ao,decide_eq_true_eq]at s;rw[B]at hm e;have:=Zc.1 s.2 m hm;rw[e]at this;cases this
  refine⟨λts j g=>∃(m:Nat) (outs:List Int) (bt:Nat) (ct:Array Value),j=(m:Int)/\m<=L.length/\zqj L m=Ta/\ParI h1 L.length h1.size (Yl L m) outs ts bt ct g/\∀i,i<m->outs[i]?=Td (Y9 L m i),λ_ j _=>L.length-j.toNat,?_,?_⟩;refine⟨0,BC L.length 0,h1.size+1,#[],rfl,AW _,rfl,⟨Keep.push _ _ (Ab _),?_,Co,⟨⟨AW _,.inl ⟨rfl,rfl⟩⟩,rfl,λi e hi=>by simp[Yl]at hi⟩,by omega⟩,λi hi=>by omega⟩;rw[List.map_replicate,hn];exact Blk.new _ _ _;rintro ts j g ⟨m,outs,bt,ct,rfl,hm,I,S,hv⟩;refine⟨λc=>?_,λc=>?_⟩;have l:m<L.length:=by have:=of_decide_eq_true c;omega
  have kg:Keep h.size h g:=k1.trans S.k (by omega);have ah:AgM M g:=ag.keep kg;obtain⟨b,o,e1,x⟩:=zp0 ah r2 (k:=m) (by rw[<-B];exact l);have H:t.2[m]'(by rw[<-B];exact l)=lfN L m:=by subst B;unfold lfN;rw[A6,Ak l];rfl
  rw[H]at x;refine⟨⟨b,o,Te⟩,⟨e1,by omega,by omega⟩,lfN L m,by rw[qd,Ag];exact x,λO=>?_,λO=>?_⟩;refine bad _ (nr m l ?_) kg;cases e:qaj L m with
  |false=>rfl
  |true=>
   obtain⟨a1,a2,_⟩:=jj.1 e;have e3:decide (lfN L m<0)=Tc:=by simp;omega
   rw[e3]at O;have:=of_decide_eq_true O;omega
  have a0:0<=lfN L m:=by by_cases e:lfN L m<0;rw[decide_eq_true e]at O;cases O;omega
  have a1:lfN L m<=m:=by rw[decide_eq_false (show¬lfN L m<0 by omega)]at O;have:=of_decide_eq_false O;omega
  generalize w:lfN L m=lf at *;have hT:∀k,(D:k<(Yl L m).length)->(Yl L m)[k]<m:=λk D=>(zil.1 (AE D)).1;refine⟨λts g=>∃(q:Nat) (outs:List Int) (ct:Array Value),q<=(Yl L m).length/\ParI h1 L.length h1.size ((Yl L m).take q) outs ts bt ct g/\(∀i,i<m->outs[i]?=Td (if i∈(Yl L m).drop q then(m:Int)else Y9 L m i))/\∀r∈(Yl L m).drop q,lf<=(r:Int)/\lf<=lfN L r,λts _=>ts.len,?_,?_⟩;exact⟨(Yl L m).length,outs,ct,Ab _,by rw[BE (Ab _)];exact S,λi hi=>by rw[Br (Ab _),if_neg (by simp)];exact hv i hi,λr s=>by rw[Br (Ab _)]at s;cases s⟩;rintro ts' g' ⟨q,J,N,hq,C,Z,hp⟩;have aB:ts'.len=q:=by rw[C.len,AN,Cj hq]
  have Q:Keep h.size h g':=k1.trans C.k (by omega);have ay:=C.top.ro.le;have aH:m<=512:=by omega
  have aC:q<=512:=by
   have:(Yl L m).length<=m:=by unfold Yl;exact BX (List.length_filter_le _ _) (by simp)
   omega
  obtain⟨k,D⟩:∃k,k=(Yl L m).getD (q-1) 0:=⟨_,rfl⟩;obtain⟨a,p1⟩:∃a:Addr,0<q->ts'.a=Td a/\zc g' (a.add ((q-1)*1))=Td (.int .i64 (k:Int)):=by by_cases h0:0<q;obtain⟨e3,e4⟩:=C.cell (i:=q-1) (by rw[AN];omega);refine⟨_,λ_=>⟨e3,?_⟩⟩;rw[zi,B0,e4,List.getElem_take,D,A6,Ak (by omega)];rfl;exact⟨⟨0,0,Te⟩,λh=>absurd h h0⟩
  have z:0<q->Aa .i64 (((ts'.len:Nat):Int)-1)=((q-1:Nat):Int):=λh0=>by rw[wrap64 (by omega) (by omega)];omega
  have au:0<q->k<m/\k∈Yl L m/\(Yl L m).drop (q-1)=k::(Yl L m).drop q:=λh0=>by
   have e:(Yl L m).getD (q-1) 0=(Yl L m)[q-1]'(by omega):=by rw[A6,Ak (by omega)];rfl
   rw[e]at D;refine⟨by rw[D];exact hT _ _,by rw[D];exact AE _,?_⟩;rw[Bw (by omega:q-1<(Yl L m).length),<-D,show q-1+1=q by omega]
  refine⟨a,λc=>?_,(k:Int),λc=>?_,λc=>?_,λc=>?_⟩;have h0:0<q:=by have:=of_decide_eq_true c;omega
  exact⟨(p1 h0).1,by rw[z h0];omega,by rw[z h0];omega⟩;have h0:0<q:=by have:=of_decide_eq_true c;omega
  rw[z h0,Ag];exact(p1 h0).2;have h0:0<q:=by by_cases e:0<q;exact e;rw[decide_eq_false (show¬((ts'.len:Nat):Int)>0 by omega)]at c;cases c
  rw[decide_eq_true (show((ts'.len:Nat):Int)>0 by omega)]at c;have ae:lf<=(k:Int):=by have:=of_decide_eq_true c;omega
  obtain⟨an,aG,af⟩:=au h0;have z:=z h0;obtain⟨b3,o3,e3,e4⟩:=zp0 (ag.keep Q) r2 (k:=k) (by rw[<-B];omega);have aj:t.2[k]'(by rw[<-B];omega)=lfN L k:=by subst B;unfold lfN;rw[A6,Ak (by omega)];rfl
  rw[aj]at e4;refine⟨a,⟨(p1 h0).1,by rw[z];omega,by rw[z];omega⟩,(k:Int),by rw[z,Ag];exact(p1 h0).2,s2,(P.keepN C.k (by omega)).cellAdd (o:=0) (k:=1) rfl,⟨b3,o3,Te⟩,⟨e3,by omega,by omega⟩,lfN L k,by rw[qd,Ag];exact e4,λh4=>?_,λh4=>?_⟩;refine bad _ (nr m l ?_) Q;cases e:qaj L m with
  |false=>rfl
  |true=>have:=(jj.1 e).2.2 k an (by rw[w];exact ae);rw[w]at this;have:=of_decide_eq_true h4;omega
  have h5:lf<=lfN L k:=by have:=of_decide_eq_false h4;omega
  have am:q<=ts'.cap:=by omega
  have U:(0:Int)<=0/\0<=Aa .i64 (((ts'.len:Nat):Int)-1)/\Aa .i64 (((ts'.len:Nat):Int)-1)<=((ts'.cap:Nat):Int)/\((ts'.cap:Nat):Int)<=((ts'.cap:Nat):Int):=by rw[z];omega
  have Y:∀y,ParI h1 L.length h1.size ((Yl L m).take q) (J.set k (m:Int)) ts' bt N y->(∃(q2:Nat) (outs:List Int) (ct:Array Value),q2<=(Yl L m).length/\ParI h1 L.length h1.size ((Yl L m).take q2) outs ⟨ze7 ts'.a 1 (0:Int).toNat ((ts'.cap:Nat):Int).toNat,(Aa .i64 (((ts'.len:Nat):Int)-1)).toNat-(0:Int).toNat,((ts'.cap:Nat):Int).toNat-(0:Int).toNat⟩ bt ct y/\(∀i,i<m->outs[i]?=Td (if i∈(Yl L m).drop q2 then(m:Int)else Y9 L m i))/\∀r∈(Yl L m).drop q2,lf<=(r:Int)/\lf<=lfN L r)/\(Aa .i64 (((ts'.len:Nat):Int)-1)).toNat-(0:Int).toNat<ts'.len:=λy f=>by rw[qny z];refine⟨⟨q-1,_,N,by omega,⟨f.k,f.out,f.ln,?_,f.hb⟩,λi hi=>?_,λr s=>?_⟩,by rw[z];omega⟩;have:=f.top.pop (q:=q-1) (by rw[Ap,AN];omega);rw[<-List.map_take,DF,Cj (by omega)]at this;exact this;rw[List.getElem?_set,af];by_cases e:k=i;subst e;rw[if_pos rfl,if_pos (by rw[C.ln];omega),if_pos (by simp)];rw[if_neg e,Z i hi];congr 1;by_cases x:i∈(Yl L m).drop q;rw[if_pos x,if_pos (Ae _ x)];rw[if_neg x,if_neg (λh=>by rcases Ai.1 h with h|h;exact e h.symm;exact x h)];rw[af]at s;rcases Ai.1 s with rfl|s;exact⟨ae,h5⟩;exact hp r s
  refine⟨⟨h1.size,0,Te⟩,⟨rfl,by omega,by show(k:Int)<(s2.len:Int);omega⟩,⟨.inl rfl,U,?_⟩,?_⟩;rw[Ag];exact C.set (by omega) λy f _=>Y y f;rw[Ag];exact C.set (by omega) λy f _=>⟨.inl rfl,U,Y y f⟩;have aa:0<q->(k:Int)<lf:=λh0=>by rw[decide_eq_true (show((ts'.len:Nat):Int)>0 by omega)]at c;have:=of_decide_eq_false c;omega
  have F:=zk1 L m;have A:(Yl L m).filter (λi:Nat=>decide ((i:Int)<lfN L m))=(Yl L m).take q:=by
   rw[w];refine zb2 F hq (λi hi ai=>?_) λi hi ai=>?_;have h0:0<q:=by omega
   have h1:=aa h0;have e:k=(Yl L m)[q-1]'(by omega):=by rw[D,A6,Ak (by omega)];rfl
   rcases AX i (q-1)with h2|h2;have:=List.pairwise_iff_getElem.1 F i (q-1) hi (by omega) h2;omega;have:i=q-1:=by omega
   subst this;omega;exact(hp _ (by rw[List.mem_drop_iff_getElem];exact⟨i-q,by omega,by congr 1;omega⟩)).1
  have ab:qaj L m=Ta:=z9b I (by rw[w];exact a0) (by rw[w];exact a1) λr s ax=>by
   rw[w]at ax ⊢;have ar:r∉(Yl L m).take q:=λh=>by rw[<-A,Cf,decide_eq_true_eq,w]at h;omega
   rw[<-B8 q (Yl L m)]at s;rcases Aw.1 s with h|h;exact absurd h ar;exact(hp r h).2
  refine⟨⟨h1.size,0,Te⟩,⟨rfl,by omega,by show(m:Int)<(s2.len:Int);omega⟩,?_⟩;rw[Ag];refine C.set (by omega) λy f z2=>?_;intro V;have k3:Keep y.size y V:=Keep.push _ _ (Ab _);have B3:Blk V y.size [Bn .i64 (m:Int)].toArray:=Blk.new _ _ _;have z3:V.size=y.size+1:=Aj _;clear_value V;have aA:=f.k.size;have aF:=f.out.lt;have az:=f.hb;have T3:CR V 1 (((Yl L m).take q).map λi:Nat=>[Bn .i64 (i:Int)]) ts' bt N:=f.top.frame λH=>k3.get bt (by rcases f.top.ro.at_ with⟨e5,e6⟩|⟨_,e6,_⟩;rcases H with H|H;exfalso;have:=f.top.ln;rw[e5]at this;exact H (Bl.1 this.symm);exact absurd e6 H;exact e6.lt);refine CR.app (E:=(z1i:ElemT _ _ _ _ 1 8)) (by omega) T3 B3 rfl (by intro u hu;simp at hu;rw[hu];rfl) (by rw[Ap,AN];omega) λs' g4 b' c4 T4 z4 w4 l4 f4=>⟨s',rfl,⟨m+1,_,b',c4,by rw[wrap64 (by omega) (by omega)];omega,l,z81 I ab,⟨⟨by omega,λj hj=>?_⟩,?_,f.ln,?_,?_⟩,λi hi=>?_⟩,?_⟩;rw[f4 j (by omega) (by rcases w4 with⟨e,_⟩|e <;> omega),k3.get j (by omega)];exact f.k.get j hj;refine f.out.keep ?_;rw[f4 h1.size (by omega) (by rcases w4 with⟨e,_⟩|e <;> omega),k3.get _ (by omega)];rw[z9c,A,Bh];exact T4;rcases w4 with⟨e,_⟩|e <;> omega;rw[List.getElem?_set];by_cases e:m=i;subst e;rw[if_pos rfl,if_pos (by rw[C.ln];exact l),zk0];rw[if_neg e,Z i (by omega),zub L m i (by omega),w];congr 1;have G:i∈Yl L m↔Y9 L m i<0:=by rw[zil];rcases qz L m i with⟨e7,_⟩|⟨p,e7,_⟩;exact⟨λ_=>by omega,λ_=>⟨by omega,e7⟩⟩;exact⟨λh=>by omega,λh=>by omega⟩
  by_cases x:i∈(Yl L m).drop q;rw[if_pos x,if_pos ⟨G.1 (List.mem_of_mem_drop x),(hp i x).1⟩];rw[if_neg x,if_neg];rintro⟨h6,h7⟩;have h8:=G.2 h6;rw[<-B8 q (Yl L m)]at h8;rcases Aw.1 h8 with h|h;rw[<-A,Cf,decide_eq_true_eq,w]at h;omega;exact x h;show L.length-(Aa .i64 ((m:Int)+1)).toNat<L.length-((m:Nat):Int).toNat;rw[jc l (by omega)];simp only[Ag];omega;have ap:m=L.length:=by have:=of_decide_eq_false c;omega
  subst ap;have s:yb t=Ta:=by unfold yb;simp only[Ao,decide_eq_true_eq];exact⟨⟨by omega,by omega⟩,by rw[<-B];exact I⟩
  rw[s]at hR;have kg:Keep h.size h g:=k1.trans S.k (by omega);have ah:AgM M g:=ag.keep kg;have ho:outs=zbv t.2:=by rw[<-B];apply Bu;intro i;by_cases hi:i<L.length;rw[hv i hi,zim hi];rw[BH (by rw[S.ln];omega),BH (by rw[wj];omega)]
  refine⟨MxL M g [h1.size],(outs,Ta),MxL.later ag kg (by intro b hb;simp at hb;omega),⟨[_,_],⟨_,_,rfl,(zfs rfl).2 ⟨_,rfl,Td ⟨h1.size,0,Te⟩,s2.len,?_,⟨?_,?_⟩,.inr ⟨h1.size,0,_,rfl,MxL.at (by simp) S.out,λi hi=>?_⟩⟩,_,rfl,rdBool _⟩,rfl⟩,by rw[ho];exact hR⟩;show C8 _ _ _=C8 _ _ _;rw[S.ln,hn];show outs.length<=_;rw[S.ln];omega;show outs.length<=_;rw[S.ln];omega;show cut (outs.map (Bn .i64)).toArray (0+i*1) 1=[Bn .i64 outs[i]];refine zaw rfl λq hq=>?_;have ak:q=0:=by omega
  subst ak;have hi:i<outs.length:=hi;simp[hi]
end
end Go.X
end
section
namespace Go.X
open Go Go.ChangeMaps
section
variable {P:Program} {kt:TypeId}
def zuc(l:List (Int×Value))(k:Int):Option Value:=match l with
 |[]=>Te
 |p::l=>if p.1=k then Td p.2 else zuc l k
def qcq(l:List (Int×Value))(k:Int)(v:Value):List (Int×Value):=match l with
 |[]=>[(k,v)]
 |p::l=>if p.1=k then(k,v)::l else p::qcq l k v
def z9d(l:List (Int×Value)):List (Value×Value):=l.map λp=>(Bn .i64 p.1,p.2)
structure MapTI (P:Program) (t kt et:TypeId):Prop where
 map:P.underlying t=Td (.map kt et)
 key:P.underlying kt=Td (.int .i64)
theorem zk2(k:Int):∀(f:List MapEntry) (l:List (Int×Value)) (i:Nat),f.map (λe=>(e.key,e.val))=l.map (λp=>(Bn .i64 p.1,p.2)) ->
  (zuc l k=Te/\Cr (.int .i64) (.int .i64 k) f i=Td Te)\/(∃j v e,zuc l k=Td v/\f[j]?=Td e/\e.key=.int .i64 k/\e.val=v/\Cr (.int .i64) (.int .i64 k) f i=Td (Td (i+j,v)) /\ ∀w,(f.modify j λe=>{ e with key:=.int .i64 k,val:=w }).map (λe=>(e.key,e.val))=(qcq l k w).map λp=>(Bn .i64 p.1,p.2))
 |[],l,i,h=>by
  have:l=[]:=by cases l <;> simp_all
  subst this;exact .inl ⟨rfl,rfl⟩
 |e::f,l,i,h=>by
  cases l with
  |nil=>simp at h
  |cons p l=>
   simp only[As,BN,Bi]at h;obtain⟨⟨h1,o⟩,q⟩:=h;by_cases c:p.1=k;refine .inr ⟨0,p.2,e,by simp[zuc,c],rfl,by rw[h1,c],o,?_,λw=>?_⟩;have b:(k==p.1)=Ta:=by simpa using c.symm
   simp[Cr,Dv,h1,o,b];simp[qcq,c,q];have b:(k==p.1)=Tc:=by simpa using λe=>c e.symm
   rcases zk2 k f l (i+1) q with⟨m,n⟩|⟨j,v,e',m,n,u,t,r,s⟩;refine .inl ⟨by simp[zuc,c,m],?_⟩;simp[Cr,Dv,h1,b,n];refine .inr ⟨j+1,v,e',by simp[zuc,c,m],by simpa using n,u,t,?_,λw=>?_⟩;simp[Cr,Dv,h1,b,r];omega;simp[qcq,c,h1,o,s w]
theorem zud(e:P.underlying kt=Td (.int .i64))(b:Bool)(k:Int)(h:zb):QExec P (Instr.checkKey b 10000 kt (.int .i64 k)) h ():=by intro B d;have c:=QExec.underlying (h:=h) e B d;unfold Instr.checkKey;rw[Sem.run_bind,c];rfl
theorem zk3(e:P.underlying kt=Td (.int .i64))(k:Int)(b:List MapEntry)(r:Option (Nat×Value))(h:zb)(f:Cr (.int .i64) (.int .i64 k) b 0=Td r):
  QExec P (Instr.findKey kt (.int .i64 k) b) h r:=by
 intro B d;have c:=QExec.underlying (h:=h) e B d;unfold Instr.findKey;rw[Sem.run_bind,c];simp only[Result.andThen_ok,f];rfl
theorem zwr{l:List (Int×Value)}{k:Int}{v:Value}(g:zuc l k=Te):qcq l k v=l++[(k,v)]:=by
 induction l with
 |nil=>rfl
 |cons p l c=>simp only[zuc]at g;split at g;cases g;rename_i b;simp[qcq,b,c g]
theorem qcr{t kt et:TypeId}(T:MapTI P t kt et){h:zb}{m:Nat}{l:List (Int×Value)}(H:MapW h m (z9d l))(k:Int)(v:Value){K:zb->Prop}
  (G:∀h':zb,MapW h' m (z9d (qcq l k v))->h'.size=h.size->(∀i,i≠m->h'[i]?=h[i]?)->K h'):XRunU P (Ce t (.map (Td m)) (.int .i64 k) v) h K:=by
 have s:=H.lt;obtain⟨f,c,h1,z,C,I⟩:=H;intro B d;have L:=QExec.underlying (h:=h) T.map B d;have E:=Qq (P:=P) h1 B d;have F:=zud T.key Tc k h B d;have b:∀o:Obj,(setObj m o).run P (mk B d h)=.ok () (mk B d (h.setIfInBounds m o)):=by intro o;have:(mk B d h).heap[m]?=Td (.map f c):=h1;simp[setObj,Sem.run,this];rfl
 unfold Ce;rcases zk2 k f.toList l 0 z with⟨J,u⟩|⟨j,v0,e,J,u,N,Z,V,Q⟩;refine⟨d,h.setIfInBounds m (.map (f.push { key:=.int .i64 k,val:=v,born:=c }) (c+1)),?_,G _ ⟨f.push { key:=.int .i64 k,val:=v,born:=c },c+1,by simp[s],?_,?_,?_⟩ (by simp) (λi hi=>by rw[AB (Ne.symm hi)])⟩;rw[Sem.run_bind,L];simp only[Result.andThen_ok,Sem.run_bind,E,F];rw[zk3 T.key k f.toList Te h u B d];simp only[Result.andThen_ok];exact b _;rw[zwr J];unfold z9d at z ⊢;simp[z];intro e w;simp at w;rcases w with w|rfl;have:=C e (by simpa using w);omega;simp;simp only[Array.toList_push,Bh,As,Cb];rw[Cw];refine⟨I,by simp,λx Y y U e=>?_⟩;simp at U;obtain⟨e',p,rfl⟩:=AJ.1 Y;have:=C e' p;omega;have D:j<f.size:=by have:=(A1.1 u).1;simpa using this
 have n:((f.modify j λe=>{ e with key:=.int .i64 k,val:=v }).toList.map (·.born))=f.toList.map (·.born):=by apply Bu;intro i;simp only[Array.toList_modify,Bf,BF];by_cases q:j=i;subst q;cases f.toList[j]? <;> simp;cases f.toList[i]? <;> simp[q]
 refine⟨d,_,?_,G (h.setIfInBounds m (.map (f.modify j λe=>{ e with key:=.int .i64 k,val:=v }) c)) ⟨f.modify j λe=>{ e with key:=.int .i64 k,val:=v },c,by simp[s],?_,?_,?_⟩ (by simp) (λi hi=>by rw[AB (Ne.symm hi)])⟩;rw[Sem.run_bind,L];simp only[Result.andThen_ok,Sem.run_bind,E,F];rw[zk3 T.key k f.toList _ h V B d];simp only[Result.andThen_ok,AL];have r:((f[j]?).map (·.key)).getD (.int .i64 k)=.int .i64 k:=by
  have:f[j]?=Td e:=by simpa using u
  rw[this];exact N
 rw[r];have O:CY (.int .i64 k) (.int .i64 k)=pure (.int .i64 k):=by unfold CY;rw[if_pos (by show((IntKind.i64==IntKind.i64)&&(k==k))=Ta;simp)]
 rw[O];exact b _;have:=Q v;unfold z9d;simpa using this;intro e' p;have:e'.born∈((f.modify j λe=>{ e with key:=.int .i64 k,val:=v }).toList.map (·.born)):=AJ.2 ⟨e',p,rfl⟩;rw[n]at this;obtain⟨M,A,S⟩:=AJ.1 this;rw[<-S];exact C M A;rw[n];exact I
end
end Go.X
end
section
namespace Go.X
open Go Go.Lib
section
variable {i n:Nat}
def z1o(L:List Int):List Nat:=(Bj L.length).filter λi=>(Bj L.length).all λj=>decide (j<=i)||decide (lfN L j≠lfN L i)
theorem zin{L:List Int}:i∈z1o L↔i<L.length/\∀j,i<j->j<L.length->lfN L j≠lfN L i:=by unfold z1o;rw[Cf,AU,Av];refine and_congr_right λ_=>⟨λh j h1 e=>?_,λh j b=>?_⟩;have:=h j (AU.2 e);simp only[BK,decide_eq_true_eq]at this;rcases this with h|h;omega;exact h;simp only[BK,decide_eq_true_eq];by_cases c:j<=i;exact .inl c;exact .inr (h j (by omega) (AU.1 b))
theorem zk4(L:List Int):(z1o L).Pairwise (· < ·):=by unfold z1o;exact Df.sublist List.filter_sublist CM
def qak(L:List Int)(m:Nat):List Nat->List Nat
 |[]=>[m]
 |p::P=>if lfN L p=lfN L m then m::P else p::qak L m P
def zgg(L:List Int):Nat->List Nat
 |0=>[]
 |m+1=>qak L m (zgg L m)
def zue(L:List Int)(i:Nat):Int×Value:=(lfN L i,.int .i64 (i:Int))
theorem zuf(L:List Int)(m:Nat):∀P:List Nat,qcq (P.map (zue L)) (lfN L m) (.int .i64 (m:Int))=(qak L m P).map (zue L)
 |[]=>rfl
 |p::P=>by rw[As,qcq,qak];by_cases h:lfN L p=lfN L m;rw[if_pos h,if_pos (show(zue L p).1=lfN L m from h),As];rfl;rw[if_neg h,if_neg (show¬(zue L p).1=lfN L m from h),As,zuf L m P]
theorem zql{L:List Int}{m:Nat}:∀{P:List Nat},(P.map (lfN L)).Nodup->∀i,i∈qak L m P↔i=m\/(i∈P/\lfN L i≠lfN L m)
 |[],_,i=>by simp[qak]
 |p::P,hn,i=>by rw[As,Ba]at hn;rw[qak];by_cases h:lfN L p=lfN L m;rw[if_pos h,Ai,Ai];refine or_congr_right ⟨λhi=>⟨.inr hi,λe=>hn.1 ?_⟩,λhi=>?_⟩;rw[h,<-e];exact List.mem_map_of_mem hi;rcases hi.1 with rfl|b;exact absurd h hi.2;exact b;rw[if_neg h,Ai,Ai,zql hn.2 i];constructor;rintro(rfl|rfl|b);exact .inr ⟨.inl rfl,h⟩;exact .inl rfl;exact .inr ⟨.inr b.1,b.2⟩;rintro(rfl|⟨rfl|b,c⟩);exact .inr (.inl rfl);exact .inl rfl;exact .inr (.inr ⟨b,c⟩)
theorem znr{L:List Int}{m:Nat}:∀{P:List Nat},(P.map (lfN L)).Nodup->((qak L m P).map (lfN L)).Nodup
 |[],_=>by simp[qak]
 |p::P,hn=>by have b:=hn;rw[As,Ba]at hn;rw[qak];by_cases h:lfN L p=lfN L m;rw[if_pos h,As,Ba,<-h];exact hn;rw[if_neg h,As,Ba];refine⟨λf=>?_,znr hn.2⟩;obtain⟨q,c,e⟩:=AJ.1 f;rcases(zql hn.2 q).1 c with rfl|⟨i,_⟩;exact h e.symm;exact hn.1 (e ▸ List.mem_map_of_mem i)
theorem Xh(L:List Int):∀m,((zgg L m).map (lfN L)).Nodup/\∀i,i∈zgg L m↔i<m/\∀j,i<j->j<m->lfN L j≠lfN L i
 |0=>⟨C0,λi=>by simp[zgg]⟩
 |m+1=>by
  obtain⟨h1,l⟩:=Xh L m;refine⟨znr h1,λi=>?_⟩;rw[zgg,zql h1,l];constructor;rintro(rfl|⟨⟨a,b⟩,c⟩);exact⟨by omega,λj _ _=>by omega⟩;refine⟨by omega,λj h k=>?_⟩;rcases AX j m with f|f;exact b j h f;rw[show j=m from by omega];exact λe=>c e.symm
  rintro⟨a,b⟩;rcases AX i m with f|f;exact .inr ⟨⟨f,λj h k=>b j h (by omega)⟩,λe=>b m f (by omega) e.symm⟩;exact .inl (by omega)
theorem zg9{α β:Type}{f:α->β}{l:List α}(h:(l.map f).Nodup):l.Nodup:=by
 induction l with
 |nil=>exact C0
 |cons x l c=>rw[As,Ba]at h;exact Ba.2 ⟨λb=>h.1 (List.mem_map_of_mem b),c h.2⟩
theorem zns(L:List Int):(zgg L L.length).Perm (z1o L):=by obtain⟨h1,b⟩:=Xh L L.length;refine(List.perm_ext_iff_of_nodup (zg9 h1) ((zk4 L).imp λh=>Nat.ne_of_lt h)).2 λi=>?_;rw[b,zin]
theorem qg9{L:List Int}(h:zqj L L.length=Ta)(hi:i<L.length):∃a:Nat,lfN L i=(a:Int)/\a<=i/\lfN L a=(a:Int):=by rw[Zc]at h;obtain⟨h1,f,c⟩:=jj.1 (h i hi);refine⟨(lfN L i).toNat,by omega,by omega,?_⟩;rcases AX (lfN L i).toNat i with b|b;have:=c _ b (by omega);obtain⟨_,e,_⟩:=jj.1 (h _ (by omega:(lfN L i).toNat<L.length));omega;rw[show(lfN L i).toNat=i from by omega];omega
def zk5(L:List Int)(n:Nat):List Nat:=(Bj n).filter λi=>decide (lfN L i=(i:Int))
theorem zk6(p:Nat->Prop)[DecidablePred p]:∀n,(∃i,i<n/\p i)->∃i,i<n/\p i/\∀j,i<j->j<n->¬p j
 |0,⟨i,h,_⟩=>by omega
 |n+1,⟨i,h,hp⟩=>by by_cases b:p n;exact⟨n,by omega,b,λj _ _=>by omega⟩;obtain⟨k,l,k2,f⟩:=zk6 p n ⟨i,by rcases AX i n with c|c;exact c;exact absurd (by rw[show n=i from by omega];exact hp) b,hp⟩;refine⟨k,by omega,k2,λj h1 c=>?_⟩;rcases AX j n with e|e;exact f j h1 e;rw[show j=n from by omega];exact b
theorem qcs{L:List Int}(h:zqj L L.length=Ta):(z1o L).length=(zk5 L L.length).length:=by
 have f:((z1o L).map (lfN L)).Nodup:=by have:=(Xh L L.length).1;exact((zns L).map (lfN L)).nodup_iff.1 this
 have b:((z1o L).map (lfN L)).Perm ((zk5 L L.length).map λi:Nat=>(i:Int)):=by refine(List.perm_ext_iff_of_nodup f ?_).2 λa=>?_;have:(zk5 L L.length).Pairwise (· < ·):=Df.sublist List.filter_sublist CM;exact List.pairwise_map.2 (this.imp λh e=>by omega);rw[AJ,AJ];constructor;rintro⟨i,hi,rfl⟩;obtain⟨a,n,p,c⟩:=qg9 h (zin.1 hi).1;refine⟨a,?_,n.symm⟩;unfold zk5;rw[Cf,AU,decide_eq_true_eq];have:=(zin.1 hi).1;exact⟨by omega,c⟩;rintro⟨i,hi,rfl⟩;unfold zk5 at hi;rw[Cf,AU,decide_eq_true_eq]at hi;obtain⟨k,l,k2,m⟩:=zk6 (λj=>lfN L j=(i:Int)) L.length ⟨i,hi.1,hi.2⟩;exact⟨k,zin.2 ⟨l,λj h1 o e=>m j h1 o (by rw[e,k2])⟩,k2⟩
 have:=b.length_eq;simpa using this
def zl(L:List Int)(n:Nat):List Nat:=(Bj L.length).filter λi=>decide (Y9 L L.length i=(n:Int))
theorem Jz{L:List Int}:i∈zl L n↔i<L.length/\Y9 L L.length i=(n:Int):=by unfold zl;rw[Cf,AU,decide_eq_true_eq]
theorem Z3{L:List Int}(h:zqj L L.length=Ta)(hi:i<L.length)(f:Y9 L L.length i=(n:Int)):i<n/\n<L.length/\lfN L n<=(i:Int)/\lfN L n<=lfN L i/\∀j,i<j->j<n->(i:Int)<lfN L j:=by
 rcases qz L L.length i with⟨e,_⟩|⟨p,e,a,b,c,d⟩;omega;have:p=n:=by omega
 subst this;rw[Zc]at h;exact⟨a,b,c,(jj.1 (h p b)).2.2 i a c,d⟩
theorem zzb{L:List Int}(h:zqj L L.length=Ta){n b:Nat}(o:n<L.length)(h1:lfN L n<=(b:Int))(w:b<n)(f:lfN L n=(b:Int)\/(0<b/\Y9 L L.length (b-1)=(n:Int))):
  ∃r,b<=r/\r<n/\Y9 L L.length r=(n:Int)/\lfN L r=(b:Int)/\∀k,b<=k->k<r->Y9 L L.length k≠(n:Int):=by
 obtain⟨r,i,B,u,x⟩:=zwq (z9a h (Da o)) (n-b) b (Ab _) w;have c:Y9 L L.length r=(n:Int):=by rcases qz L n r with⟨_,e⟩|⟨p,e,_⟩;exact zqk i o (by omega) e;omega
 have t:=Zc.1 h;obtain⟨y,a2,A⟩:=jj.1 (t b (by omega));have m:lfN L r=(b:Int):=by rcases f with f|⟨q,f⟩;have:=(Z3 h (by omega) c).2.2.2.1;omega;by_cases s:lfN L r<(b:Int);have l:=Z3 h (by omega) f;have:=l.2.2.2.2 r (by omega) i;omega;omega
 refine⟨r,u,i,c,m,λk z k2 l=>?_⟩;have:=(Z3 h (by omega) l).2.2.2.2 r k2 i;omega
end
section
variable {n:Nat}
def OkX(n:Nat)(X:List (Bt×Int)):Prop:=∀j (h:j<X.length),(n:Int)<=X[j].2/\X[j].2<=((n+j:Nat):Int)/\∀i (hi:i<X.length),i<j->X[j].2<=((n+i:Nat):Int)->X[j].2<=X[i].2
theorem OkX.nil(n:Nat):OkX n []:=λj h=>absurd h (CJ j)
theorem OkX.app{X Y:List (Bt×Int)}(l:OkX n X)(k:OkX (n+X.length) Y):OkX n (X++Y):=by intro j h;rw[Ah]at h;by_cases h1:j<X.length;rw[BL h1];obtain⟨a,b,c⟩:=l j h1;refine⟨a,b,λi hi f e=>?_⟩;rw[BL (by omega)];exact c i (by omega) f e;rw[BW (by omega)];obtain⟨a,b,c⟩:=k (j-X.length) (by omega);refine⟨by omega,by omega,λi hi f e=>?_⟩;by_cases m:i<X.length;omega;rw[BW (by omega)];exact c (i-X.length) (by omega) (by omega) (by omega)
theorem OkX.root{X:List (Bt×Int)}(h:OkX n X)(s:Bt):OkX n (X++[(s,(n:Int))]):=by
 intro j k;rw[Ah,Cq]at k;by_cases h1:j<X.length;rw[BL h1];obtain⟨a,b,c⟩:=h j h1;refine⟨a,b,λi hi f e=>?_⟩;rw[BL (by omega)];exact c i (by omega) f e;have:j=X.length:=by omega
 subst this;rw[BW (Ab _)];refine⟨by simp,by simp;omega,λi hi f e=>?_⟩;rw[BL (by omega)];have:=(h i (by omega)).1;simp;exact this
mutual
theorem zqm:∀(v:Tr) (n:Nat),OkX n (Zj v n)
 |.mk k s ks xs,n=>by rw[Zj];refine OkX.root ?_ _;split;exact z9f xs ks n;split;exact z9e xs n;exact OkX.nil n
theorem z9e:∀(l:List Tr) (n:Nat),OkX n (za0 l n)
 |[],n=>by rw[za0];exact OkX.nil n
 |x::l,n=>by rw[za0];exact(zqm x n).app (z9e l _)
theorem z9f:∀(l:List Tr) (ks:List Bt) (n:Nat),OkX n (Y0 l ks n)
 |[],_,n=>by rw[Y0];exact OkX.nil n
 |x::l,ks,n=>by rw[Y0];have h1:=(zqm x n).root (zuq ks.head!);have b:=h1.app (Y:=Y0 l ks.tail (n+(Zj x n).length+1)) (by rw[Ah,Cq,<-CP];exact z9f l _ _);rw[AH]at b;exact b
end
def unz(X:List (Bt×Int)):List Bt×List Int:=(X.map (·.1),X.map (·.2))
theorem z9g{w:Tr}(h:ji w<=512):yb (unz (Zj w 0))=Ta:=by
 have l:=Za w 0;unfold yb unz;simp only[Ao,decide_eq_true_eq,Ap];refine⟨⟨by simp,by omega⟩,Zc.2 λj f=>jj.2 ?_⟩;have e:∀i (hi:i<(Zj w 0).length),lfN ((Zj w 0).map (·.2)) i=(Zj w 0)[i].2:=λi hi=>by unfold lfN;rw[A6,Bf,Ak hi];rfl
 obtain⟨a,b,c⟩:=zqm w 0 j f;rw[e j f];refine⟨by omega,by omega,λi hi k=>?_⟩;rw[e i (by omega)];exact c i (by omega) hi (by omega)
def BlkS(L:List Int):Nat->List Nat->Nat->Prop
 |a,[],r=>a=r
 |a,e::es,r=>a<e/\lfN L (e-1)=(a:Int)/\(∀i,a<=i->i<e->(a:Int)<=lfN L i)/\BlkS L e es r
theorem BlkS.le{L:List Int}:∀{c:List Nat} {a r:Nat},BlkS L a c r->a<=r/\(∀e∈c,a<e/\e<=r)/\c.Pairwise (· < ·)/\∀i,a<=i->i<r->(a:Int)<=lfN L i
 |[],a,r,h=>by have h:a=r:=h;exact⟨Nat.le_of_eq h,by simp,DG,λi _ _=>by omega⟩
 |e::c,a,r,⟨h1,h2,h3,h4⟩=>by obtain⟨k,f,n,m⟩:=h4.le;refine⟨by omega,λx b=>?_,Be.2 ⟨λx b=>(f x b).1,n⟩,λi hi l=>?_⟩;rcases Ai.1 b with rfl|b;exact⟨h1,k⟩;have:=f x b;omega;by_cases h:i<e;exact h3 i hi h;have:=m i (by omega) l;omega
theorem BlkS.par{L:List Int}{r:Nat}(k:r<L.length):∀{b:List Nat} {a:Nat},BlkS L a b r->lfN L r<=(a:Int)->∀i,a<=i->i<r->(Y9 L L.length i=(r:Int)↔i+1∈b)
 |[],a,h,_,i,h1,h2=>by have h:a=r:=h;omega
 |e::b,a,⟨h1,h2,h3,h4⟩,hl,i,hi,hir=>by
  obtain⟨u,m,z,l⟩:=h4.le;by_cases c:i<e;by_cases c2:i+1=e;refine⟨λ_=>by rw[c2];exact Am,λ_=>?_⟩;refine zqk hir k (by omega) λj q f=>?_;have:=l j (by omega) f;omega;refine⟨λt=>?_,λs=>?_⟩;exfalso;rcases qz L L.length i with⟨n,_⟩|⟨p,n,y,x,w,o⟩;omega;have:¬(e-1<p):=λh=>by have:=o (e-1) (by omega) h;omega
  omega;rcases Ai.1 s with h|h;exact absurd h c2;have:=(m _ h).1;omega;rw[BlkS.par k h4 (by omega) i (by omega) hir,Ai];exact⟨λh=>.inr h,λh=>by rcases h with h|h;omega;exact h⟩
theorem zgh:∀{a b:List Nat},a.Pairwise (· < ·)->b.Pairwise (· < ·)->(∀i,i∈a↔i∈b)->a=b
 |[],[],_,_,_=>rfl
 |[],y::b,_,_,h=>absurd ((h y).2 Am) (by simp)
 |x::a,[],_,_,h=>absurd ((h x).1 Am) (by simp)
 |x::a,y::b,ha,hb,h=>by
  rw[Be]at ha hb;have c:x=y:=by have h1:=(h x).1 Am;have k:=(h y).2 Am;rcases Ai.1 h1 with e|e;exact e;rcases Ai.1 k with f|f;exact f.symm;have:=ha.1 y f;have:=hb.1 x e;omega
  subst c;rw[zgh ha.2 hb.2 λi=>?_];have h1:=h i;rw[Ai,Ai]at h1;constructor;intro hi;have:=ha.1 i hi;rcases h1.1 (.inr hi)with e|e;omega;exact e;intro hi;have:=hb.1 i hi;rcases h1.2 (.inr hi)with e|e;omega;exact e
theorem zha(L:List Int)(n:Nat):(zl L n).Pairwise (· < ·):=Df.sublist List.filter_sublist CM
theorem BlkS.kids{L:List Int}{r a:Nat}{k:List Nat}(c:r<L.length)(H:BlkS L a k r)(z:lfN L r=(a:Int)):zl L r=k.map λe=>e-1:=by
 obtain⟨s,f,n,w⟩:=H.le;refine zgh (zha L r) (List.pairwise_map.2 ?_) λi=>?_;exact Df.imp_of_mem (λ {x y} o C h=>by have:=(f x o).1;omega) n;rw[Jz,AJ];constructor;rintro⟨h1,q⟩;have l:i<r/\a<=i:=by
  rcases qz L L.length i with⟨m,_⟩|⟨p,m,B,u,t,A⟩;omega;have:p=r:=by omega
  subst this;omega
 exact⟨i+1,(H.par c (by omega) i l.2 l.1).1 q,by omega⟩;rintro⟨e,b,rfl⟩;have:=f e b;exact⟨by omega,(H.par c (by omega) (e-1) (by omega) (by omega)).2 (by rw[show e-1+1=e by omega];exact b)⟩
end
end Go.X
end
section
namespace Go.X
open Go Go.X Go.Proofs Go.RowKit
section
variable {g:zb} {b:Nat} {v:Tr}
theorem qnz:qc Tp 71=Ta:=by kernel_rfl
theorem qn0:qi Tp 71=2:=by kernel_rfl
theorem zqn{x y:Value}(B:Blk g b #[x,y]){s1 s2:Sl}{K:zb->Prop}(h:∀g',(∀j,j≠b->g'[j]?=g[j]?)->g'.size=g.size->Blk g' b #[slV s1,slV s2]->K g'):
  XRunU Tp (Af 71 (.pointer (Td ⟨b,0,Te⟩)) (.agg #[slV s1,slV s2])) g K:=by
 refine zek (vs:=[slV s1,slV s2]) qnz B rfl qn0 (Ab _) (λu c=>?_) λg' i e f=>h g' f e i;simp at c;rcases c with rfl|rfl <;> rfl
theorem Later.stay{h g g':zb}{M M':Fr}(L:Later h M g M')(l:h.size<=b)(k:M' b=Te)(f:∀j,j≠b->g'[j]?=g[j]?)(z:g'.size=g.size):Later h M g' M':= ⟨⟨by have:=L.keep.size;omega,λj i=>by rw[f j (by omega)];exact L.keep.get j i⟩,L.le,L.old,λc cs e=>by rw[f c (λh=>by subst h;rw[k]at e;cases e)];exact L.ag c cs e⟩
def j5(v:Tr):(List Bt×List Int)×Int:=if zy v=Ta then(if 512<ji (ze v)then(([],[]),6)else(unz (Zj (ze v) 0),0))else(([],[]),1)
theorem zgi(h:zy v=Ta):Zt v=ze v:=by unfold Zt;rw[if_pos (jw h)]
set_option maxRecDepth 100000 in
set_option maxHeartbeats 1000000 in
theorem zqo{gl:Fr}(U:GL gl)(hb:Brn gl)(hv:Sm v){R:(List Bt×List Int)×Int->Prop}(x:R (j5 v)):PC Tp gl 40 [Arg.mk .tree v] [.pair (.row .str) (.row (.int .i64)),.int .i64] R:=by
 intro h M vs Z ag ha
 match vs,ha with
 |[u],⟨Q,_⟩=>
  have Q:RdV M .tree v u:=Q;have H:=Q;obtain⟨sk,si,rfl,rk,ri⟩:=yz Q;apply PX.of;apply zt5 v.kind v.text sk si;intro h1;have k1:Keep h.size h h1:=Keep.push _ _ (Ab _);have z1:h1.size=h.size+1:=Aj _;have B1:Blk h1 h.size #[.int .i64 v.kind,.string v.text,slV sk,slV si]:=Blk.new _ _ _;clear_value h1;intro m;have k2:Keep h1.size h1 m:=Keep.push _ _ (Ab _);have z2:m.size=h1.size+1:=Aj _;have R2:Blk m h1.size #[.slice Te 0 0,.slice Te 0 0]:=Blk.new _ _ _;clear_value m;have B2:=B1.ofKeep k2;have S:Keep h.size h m:=k1.trans k2 (by omega);have L2:Later h M m M:=Later.same ag S;have done:∀(g:zb) (M':Fr) (t:List Bt×List Int) (e:Int) (s1 s2:Sl),Later m M g M'->Rd M' (.row .str) t.1 [slV s1]->Rd M' (.row (.int .i64)) t.2 [slV s2]->R (t,e) ->
    XRunU Tp (Af 71 (.pointer (Td ⟨h1.size,0,Te⟩)) (.agg #[slV s1,slV s2])) g λg'=>∃O P:Sl,zd g' ⟨h1.size,0,Te⟩ 0 [slV O,slV P]/\∃M2 q,Later h M g' M2/\Y3 M2 [.pair (.row .str) (.row (.int .i64)),.int .i64] q (.tuple #[.agg #[slV O,slV P],.int .i64 e])/\R q:=by
   intro g M' t e s1 s2 L O P I;have nR:M' h1.size=Te:=by rw[L.old _ (by omega)];exact ag.none (by omega)
   refine zqn (R2.keep (L.keep.get _ (by omega))) λg' f z B=>⟨s1,s2,B.ld (cs:=[slV s1,slV s2]),M',(t,e),Later.stay (L2.trans L) (by omega) nR f z,⟨[_,_],⟨_,_,rfl,Y8 O P,_,rfl,Jn _ _⟩,rfl⟩,I⟩
  refine⟨v.kind,v.text,sk,si,B2.ld (cs:=[_,_,slV sk,slV si]),?_⟩;refine(ztr U hv (R:=λr=>r=zy v) rfl).go (vs:=[.agg #[.int .i64 v.kind,.string v.text,slV sk,slV si]]) Z L2.ag (qb H qq) λw y M8 r N n I=>?_;subst I;refine⟨_,zib n,λA=>?_,λA=>?_⟩
  ·have A:zy v=Tc:=by simpa using A
   unfold j5 at x;rw[if_neg (by rw[A];simp)]at x;exact done y M8 ([],[]) 1 ⟨Te,0,0⟩ ⟨Te,0,0⟩ N zf6 zf6 x
  have A:zy v=Ta:=by simpa using A
  unfold j5 at x;rw[if_pos A]at x;have z8:=N.keep.size;intro s;have aa:Keep y.size y s:=Keep.push _ _ (Ab _);have ae:s.size=y.size+1:=Aj _;have Y:Blk s y.size #[.slice Te 0 0,.slice Te 0 0]:=Blk.new _ _ _;clear_value s;have i:Later m M s M8:=N.trans (Later.same N.ag aa);refine⟨v.kind,v.text,sk,si,(B2.keep (i.keep.get _ (by omega))).ld (cs:=[_,_,slV sk,slV si]),?_⟩;refine(z8v U hv (R:=λr=>r=Zt v) rfl).go (vs:=[.agg #[.int .i64 v.kind,.string v.text,slV sk,slV si]]) (Z.trans i.le) i.ag (qb (H.mono i.le) qq) λw F C r l n I=>?_;subst I;have G:=Xl.1 n;obtain⟨xk,xi,rfl,y1,y2⟩:=yz G;refine⟨_,_,xk,xi,rfl,?_⟩;have hs:=zgi A;have V:zy (Zt v)=Ta:=by rw[zt4];exact A
  obtain⟨q1,q2,q3,q4⟩:=zdb V;have ah:=l.keep.size;have nB:C y.size=Te:=by rw[l.old _ (by omega)];exact N.ag.none (by omega)
  have HB:Tb y.size F C y.size [] []:=⟨⟨Te,0,0⟩,⟨Te,0,0⟩,[],[],rfl,Y.keep (l.keep.get _ (by omega)),ORow.nil,ORow.nil,λc b=>(by cases b),λb=>(by cases b),λb=>(by cases b),nB,Ab _⟩;refine XC.mono (zt9 U hb (tsz (Zt v)) (Zt v) (by omega) (Ab _) q3 (zkw hv) F C y.size [] [] _ l.ag (Z.trans (i.le.trans l.le)) HB (by omega) (AW _) G) ?_;rintro w h25 ⟨rfl,D,bs,T,s1,s2,b1,b2,rfl,B⟩;rw[A8,A4,hs]at B;have af:=T.grow;have E:Later m M h25 D:=by have hk:=i.keep;refine⟨⟨by omega,λj hj=>?_⟩,i.le.trans (l.le.trans T.le),λc b=>?_,T.ag⟩;rw[T.fr j (by omega) (by omega) (by simp),l.keep.get j (by omega)];exact hk.get j hj;rw[T.old c (by omega),l.old c (by omega)];exact i.old c b
  have p:=B.r1.len;rw[Ap]at p;have ai:=Za (ze v) 0;refine⟨rfl,s1,by rw[add0];exact B.box.cellAdd (o:=0) (k:=0) rfl,λb=>?_,λb=>?_⟩
  ·have b:=of_decide_eq_true b;have:512<ji (ze v):=by unfold zgb at p;rw[AN]at p;omega
   rw[if_pos this]at x;exact done h25 D ([],[]) 6 ⟨Te,0,0⟩ ⟨Te,0,0⟩ E zf6 zf6 x
  ·have b:=of_decide_eq_false b;have:¬512<ji (ze v):=by unfold zgb at p;rw[AN]at p;omega
   rw[if_neg this]at x;have J:=zgc (X:=Zj (ze v) 0) (by omega);rw[J]at B;refine⟨s1,s2,by rw[add0];exact B.box.ld (cs:=[slV s1,slV s2]),?_⟩;have own:∀c∈b1++b2,m.size<=c:=λc b=>by rcases Aw.1 b with h|h;have:=(B.r1.own c h).1;omega;have:=(B.r2.own c h).1;omega
   have ab:Later m M h25 (MxL D h25 (b1++b2)):=Later.own E own;exact done h25 _ (unz (Zj (ze v) 0)) 0 s1 s2 ab (B.r1.rd T.ag (λc b=>Ar _ b) (by rw[Ap];omega)) (B.r2.rd T.ag (λc b=>AC _ b) (by rw[Ap];omega)) x
end
section
variable {x y:Bool} {a b:Int} {gl:Fr} {R:Bool -> Prop}
theorem ze0(a b:Bt):(a.toList==b.toList)=decide (a=b):=by rw[zeb,zeb,AM,beq_iff_eq,decide_eq_true_eq,zxv]
theorem qmw:(bif x then Ta else y)=Ta↔x=Ta\/y=Ta:=by cases x <;> simp
theorem qhl:(bif x then Ta else y)=Tc↔x=Tc/\y=Tc:=by cases x <;> simp
theorem qk3:(bif x then y else Tc)=Ta↔x=Ta/\y=Ta:=by cases x <;> simp
theorem qn1:(bif x then y else Tc)=Tc↔x=Tc\/y=Tc:=by cases x <;> simp
theorem ltT(h:decide (a<b)=Ta):a<b:=of_decide_eq_true h
theorem ltF(h:decide (a<b)=Tc):¬a<b:=of_decide_eq_false h
theorem qj7{L:List Int}{m:Nat}(h:m<L.length):(0:Int)<=(m:Int)/\L[((m:Nat):Int).toNat]?=Td (lfN L m):=⟨by omega,by rw[Ag];exact qd9 h⟩
theorem za3{t:List Bt×List Int}(h:yb t=Ta):t.1.length=t.2.length/\t.2.length<=512/\zqj t.2 t.2.length=Ta:=by unfold yb at h;simp only[Ao,decide_eq_true_eq]at h;exact⟨h.1.1,by omega,h.2⟩
theorem zgj{t:List Bt×List Int}(b:R (yb t)):PC Tp gl 46 [Arg.mk (.pair (.row .str) (.row (.int .i64))) t] [.bool] R:=by
 apply zqg;refine zgf (t:=t) (R:=λr=>R r.2) ?_;cases h:yb t with
 |false=>rw[h]at b;exact b
 |true=>rw[h]at b;exact b
theorem znt{t:List Bt×List Int}{R:List Int->Prop}(b:R (if yb t=Ta then zbv t.2 else [])):PC Tp gl 51 [Arg.mk (.pair (.row .str) (.row (.int .i64))) t] [.row (.int .i64)] R:=by
 apply zky;refine zgf (t:=t) (R:=λr=>((!r.2)=Ta->R ([]:List Int))/\((!r.2)=Tc->R r.1)) ?_;cases h:yb t with
 |false=>rw[h]at b;exact⟨λ_=>b,λh=>(by cases h)⟩
 |true=>rw[h]at b;exact⟨λh=>(by cases h),λ_=>b⟩
def zhb(P:List Int)(m:Nat):List Nat:=(Bj m).filter λi=>decide (lfN P i<0)
theorem zzc{P:List Int}(l:P.length<=1000000){R:List Int->Prop}(k:R ((zhb P P.length).map λi:Nat=>(i:Int))):
  ∃(I:(List Int)->Int->Prop) (μ:(List Int)->Int->Nat),I ([]:List Int) 0/\∀out:List Int,∀x:Int,I out x->(((decide ((x:Int)<((Cd P:Nat):Int)))=Ta->∃y:Int,(0<=(x:Int)/\P[(x:Int).toNat]?=Td y)/\((decide ((y:Int)<0))=Ta->((Cd out+Cd ([x]:List Int))*8<=140737488355328/\(I (out++([x]:List Int)) (Aa .i64 (x+1))/\μ (out++([x]:List Int)) (Aa .i64 (x+1))<μ out x)))/\((decide ((y:Int)<0))=Tc->(I out (Aa .i64 (x+1))/\μ out (Aa .i64 (x+1))<μ out x)))/\((decide ((x:Int)<((Cd P:Nat):Int)))=Tc->R out)):=by
 refine⟨λo i=>∃m:Nat,i=m/\m<=P.length/\o=(zhb P m).map λi:Nat=>(i:Int),λ_ i=>P.length-i.toNat,⟨0,rfl,AW _,rfl⟩,?_⟩;rintro o i ⟨m,rfl,n,rfl⟩;refine⟨λe=>?_,λe=>?_⟩;have b:m<P.length:=by have:=ltT e;omega
 rw[jc b (by omega)];have f:(zhb P m).length<=m:=by unfold zhb;exact BX (List.length_filter_le _ _) (by simp)
 refine⟨lfN P m,qj7 b,λh=>⟨by rw[Ap,Cq];omega,⟨m+1,rfl,b,?_⟩,by simp only[Ag];omega⟩,λh=>⟨⟨m+1,rfl,b,?_⟩,by simp only[Ag];omega⟩⟩;unfold zhb;rw[CK,List.filter_append,BP,if_pos h,Bh];rfl;unfold zhb;rw[CK,List.filter_append,BP,if_neg (by rw[h];simp),List.filter_nil,AR];have c:m=P.length:=by have:=ltF e;omega
 rw[c];exact k
theorem z9h{t:List Bt×List Int}(h:yb t=Ta):zhb (zbv t.2) (zbv t.2).length=Yl t.2 t.2.length:=by unfold zhb Yl;rw[wj];refine List.filter_congr λi hi=>?_;have:=qd9 (L:=zbv t.2) (i:=i) (by rw[wj];exact AU.1 hi);rw[zim (AU.1 hi)]at this;rw[<-Az this]
theorem zzd{t:List Bt×List Int}{R:List Int->Prop}(b:R (if yb t=Ta then(Yl t.2 t.2.length).map (λi:Nat=>(i:Int))else [])):PC Tp gl 49 [Arg.mk (.pair (.row .str) (.row (.int .i64))) t] [.row (.int .i64)] R:=by
 apply zqh;refine znt (t:=t) ?_;cases h:yb t with
 |false=>rw[h]at b;exact zzc (P:=[]) (by simp) b
 |true=>obtain⟨_,c,_⟩:=za3 h;rw[h]at b;refine zzc (P:=zbv t.2) (by rw[wj];omega) ?_;rw[z9h h];exact b
theorem zug{α:Type}{a b:List α}(e:a.length=b.length){k:Nat}(f:a.length<=k)(h:∀i (h1:i<a.length) (c:i<b.length),i<k->a[i]=b[i]):a=b:=List.ext_getElem e λi h1 c=>h i h1 c (by omega)
theorem z9i{a b:List Int}(s:a.length<=1000000)(n:∀r,(r=Ta↔a=b)->R r):PC Tp gl 48 [Arg.mk (.row (.int .i64)) a,Arg.mk (.row (.int .i64)) b] [.bool] R:=by
 apply zez;refine⟨λl=>n _ ⟨λh=>(by cases h),λh=>by subst h;simp at l⟩,λl=>?_⟩;have l:(a.length:Int)=b.length:=by simpa using l
 have f:a.length=b.length:=by omega
 refine⟨λi=>∃k:Nat,i=k/\k<=a.length/\∀i (h1:i<a.length) (p:i<b.length),i<k->a[i]=b[i],λi=>a.length-i.toNat,⟨0,rfl,AW _,λi _ _ h=>by omega⟩,?_⟩;rintro i ⟨k,rfl,q,o⟩;refine⟨λc=>?_,λc=>?_⟩;have c:k<a.length:=by have:=ltT c;omega
 rw[jc c (by omega)];refine⟨a[k],⟨by omega,by rw[Ag,Ak c]⟩,b[k],⟨by omega,by rw[Ag,Ak (by omega)]⟩,λm=>n _ ⟨λh=>(by cases h),λh=>?_⟩,λm=>⟨⟨k+1,rfl,c,λi h1 p t=>?_⟩,by simp only[Ag];omega⟩⟩;subst h;simp at m;by_cases e:i=k;subst e;simpa using m;exact o i h1 p (by omega);have c:k=a.length:=by have:=ltF c;omega
 exact n _ ⟨λ_=>zug f (Nat.le_of_eq c.symm) o,λ_=>rfl⟩
theorem zuh{a b:List Bt×List Int}(h1:a.1.length<=1000000)(l:a.2.length<=1000000)(n:∀r,(r=Ta↔a=b)->R r):PC Tp gl 42 [Arg.mk (.pair (.row .str) (.row (.int .i64))) a,Arg.mk (.pair (.row .str) (.row (.int .i64))) b] [.bool] R:=by
 apply zey;refine⟨λo=>n _ ⟨λh=>(by cases h),λh=>by subst h;rcases qmw.1 o with h|h <;> simp at h⟩,λo=>?_⟩;obtain⟨c1,c2⟩:=qhl.1 o;have c1:(a.1.length:Int)=b.1.length:=by simpa using c1
 have c2:(a.2.length:Int)=b.2.length:=by simpa using c2
 have t:a.1.length=b.1.length:=by omega
 have w:a.2.length=b.2.length:=by omega
 refine⟨λi=>∃k:Nat,i=k/\k<=a.1.length/\∀i (h1:i<a.1.length) (l:i<b.1.length),i<k->a.1[i]=b.1[i],λi=>a.1.length-i.toNat,⟨0,rfl,AW _,λi _ _ h=>by omega⟩,?_⟩;rintro i ⟨k,rfl,p,m⟩;refine⟨λc=>?_,λc=>?_⟩;have c:k<a.1.length:=by have:=ltT c;omega
 rw[jc c (by omega)];refine⟨a.1[k],⟨by omega,by rw[Ag,Ak c]⟩,b.1[k],⟨by omega,by rw[Ag,Ak (by omega)]⟩,λf=>n _ ⟨λh=>(by cases h),λh=>?_⟩,λf=>⟨⟨k+1,rfl,c,λi h1 l s=>?_⟩,by simp only[Ag];omega⟩⟩;subst h;simp at f;by_cases e:i=k;subst e;rw[ze0]at f;simpa using f;exact m i h1 l (by omega);have c:k=a.1.length:=by have:=ltF c;omega
 have q:a.1=b.1:=zug t (Nat.le_of_eq c.symm) m;refine⟨λi=>∃k:Nat,i=k/\k<=a.2.length/\∀i (h1:i<a.2.length) (l:i<b.2.length),i<k->a.2[i]=b.2[i],λi=>a.2.length-i.toNat,⟨0,rfl,AW _,λi _ _ h=>by omega⟩,?_⟩;rintro i ⟨k,rfl,p,m⟩;refine⟨λc=>?_,λc=>?_⟩;have c:k<a.2.length:=by have:=ltT c;omega
 rw[jc c (by omega)];refine⟨a.2[k],⟨by omega,by rw[Ag,Ak c]⟩,b.2[k],⟨by omega,by rw[Ag,Ak (by omega)]⟩,λf=>n _ ⟨λh=>(by cases h),λh=>?_⟩,λf=>⟨⟨k+1,rfl,c,λi h1 l s=>?_⟩,by simp only[Ag];omega⟩⟩;subst h;simp at f;by_cases e:i=k;subst e;simpa using f;exact m i h1 l (by omega);have c:k=a.2.length:=by have:=ltF c;omega
 have u:a.2=b.2:=zug w (Nat.le_of_eq c.symm) m;exact n _ ⟨λ_=>Prod.ext q u,λ_=>rfl⟩
theorem qct{t:List Bt×List Int}{most:Nat}(w:most<=100000)(m:∀r,(r=Ta->t.1.length<=most/\t.2.length<=600/\∀s∈t.1,s.size<=1024)->R r):PC Tp gl 43 [Arg.mk (.pair (.row .str) (.row (.int .i64))) t,Arg.mk (.int .i64) (most:Int)] [.bool] R:=by
 apply zgd;refine⟨λi=>∃k:Nat,i=k/\k<=t.1.length/\∀i (h:i<t.1.length),i<k->t.1[i].size<=1024,λi=>t.1.length-i.toNat,⟨0,rfl,AW _,λi _ h=>by omega⟩,?_⟩;rintro i ⟨k,rfl,u,l⟩;refine⟨λc=>?_,λc=>m _ λf=>?_⟩;obtain⟨c,f⟩:=qk3.1 c;have c:k<t.1.length:=by have:=ltT c;omega
 have f:=of_decide_eq_true f;rw[jc (n:=k+1) (by omega) (by omega)];refine⟨t.1[k],⟨by omega,by rw[Ag,Ak c]⟩,λ_=>m _ λh=>(by cases h),λq=>⟨⟨k+1,rfl,c,λi h1 x=>?_⟩,by simp only[Ag];omega⟩⟩;by_cases e:i=k;subst e;have:=of_decide_eq_false q;omega;exact l i h1 (by omega);obtain⟨a,b⟩:=qk3.1 f;have a:=of_decide_eq_true a;have b:=of_decide_eq_true b;have o:k=t.1.length:=by rcases qn1.1 c with h|h;have:=ltF h;omega;have:=of_decide_eq_false h;omega
 refine⟨by omega,by omega,λs p=>?_⟩;obtain⟨i,hi,rfl⟩:=Ct.1 p;exact l i hi (by omega)
end
end Go.X
end
section
namespace Go.X
open Go Go.Lib
section
variable {Ls:List Bt} {b:Nat} {w x:Tr} {K:List Nat} {s:Bt}
def z1p(v:Tr):Bt:=if zy v=Ta then bl (jz Tc 0 v 0)else⟨#[]⟩
def noT:Tr:=.mk 0 ⟨#[]⟩ [] []
def Zk(Ls:List Bt)(i:Nat):Bt:=Ls.getD i ⟨#[]⟩
def yc(s:Bt):Tr×Bool:=((yu (lb s)).1,decide ((yu (lb s)).2.2=0)&&(decide ((yu (lb s)).1.items.length=0)&&(decide ((yu (lb s)).1.kind<5)&&decide (z1p (yu (lb s)).1=s))))
def rdM(Ls:List Bt)(L:List Int)(rd:Nat->Tr×Bool)(k:Nat):Bt×Tr×Bool:=
 match zl L k with
 |[j]=>if(lb (Zk Ls k)).head?=Td 107 then((yc (bl (lb (Zk Ls k)).tail)).1.text,(rd j).1,(yc (bl (lb (Zk Ls k)).tail)).2&&((rd j).2&&decide ((yc (bl (lb (Zk Ls k)).tail)).1.kind=4)))else(⟨#[]⟩,noT,Tc)
 |_=>(⟨#[]⟩,noT,Tc)
def rdN(Ls:List Bt)(L:List Int):Nat->Nat->Tr×Bool
 |0,_=>(noT,Tc)
 |f+1,n=>
  if Zk Ls n=bl [91]then(if(zl L n).all (λk=>(rdN Ls L f k).2)=Ta then(.mk 5 ⟨#[]⟩ [] ((zl L n).map λk=>(rdN Ls L f k).1),Ta)else(noT,Tc))
  else if Zk Ls n=bl [123]then(if(zl L n).all (λk=>(rdM Ls L (rdN Ls L f) k).2.2)=Ta then(.mk 6 ⟨#[]⟩ ((zl L n).map λk=>(rdM Ls L (rdN Ls L f) k).1) ((zl L n).map λk=>(rdM Ls L (rdN Ls L f) k).2.1),Ta)else(noT,Tc))
  else((yc (Zk Ls n)).1,(yc (Zk Ls n)).2&&decide (zl L n=[]))
def rfK(Ls:List Bt)(L:List Int)(rd:Nat->Tr×Bool)(i:Nat):Bt×Tr×Bool:=
 if(lb (Zk Ls i)).head?=Td 107/\(yu (lb (Zk Ls i)).tail).2.2=0/\(yu (lb (Zk Ls i)).tail).1.kind=4/\lfN L i<(i:Int)/\lfN L (i-1)=lfN L i then((yu (lb (Zk Ls i)).tail).1.text,rd (i-1))else(⟨#[]⟩,noT,Tc)
def rfN(Ls:List Bt)(L:List Int):Nat->Nat->Tr×Bool
 |0,_=>(noT,Tc)
 |f+1,n=>
  if Zk Ls n=bl [91]then(if(zl L n).all (λk=>(rfN Ls L f k).2)=Ta then(.mk 5 ⟨#[]⟩ [] ((zl L n).map λk=>(rfN Ls L f k).1),Ta)else(noT,Tc))
  else if Zk Ls n=bl [123]then(if(zl L n).all (λk=>(rfK Ls L (rfN Ls L f) k).2.2)=Ta then(.mk 6 ⟨#[]⟩ ((zl L n).map λk=>(rfK Ls L (rfN Ls L f) k).1) ((zl L n).map λk=>(rfK Ls L (rfN Ls L f) k).2.1),Ta)else(noT,Tc))
  else((yc (Zk Ls n)).1,(yc (Zk Ls n)).2&&decide (lfN L n=(n:Int)))
structure SegT (Ls:List Bt) (L:List Int) (b:Nat) (X:List (Bt×Int)):Prop where
 le:b+X.length<=L.length
 at_:∀i (h:i<X.length),Zk Ls (b+i)=X[i].1/\lfN L (b+i)=X[i].2
theorem SegT.left{L:List Int}{X Y:List (Bt×Int)}(S:SegT Ls L b (X++Y)):SegT Ls L b X:=by have:=S.le;rw[Ah]at this;refine⟨by omega,λi h=>?_⟩;have:=S.at_ i (by rw[Ah];omega);rwa[BL h]at this
theorem SegT.right{L:List Int}{X Y:List (Bt×Int)}(S:SegT Ls L b (X++Y)):SegT Ls L (b+X.length) Y:=by have:=S.le;rw[Ah]at this;refine⟨by omega,λi h=>?_⟩;have:=S.at_ (X.length+i) (by rw[Ah];omega);rw[BW (by omega)]at this;simpa[CP]using this
theorem z9j{X:List (Bt×Int)}:SegT (unz X).1 (unz X).2 0 X:=by refine⟨by simp[unz],λi h=>?_⟩;unfold Zk lfN unz;rw[AL,A6,A6,Bf,Bf,Ak h];exact⟨rfl,rfl⟩
theorem Y1(w:Tr):0<ji w:=by rw[z8w];omega
theorem Xi{L:List Int}(S:SegT Ls L b (Zj w b)):b+ji w<=L.length/\Zk Ls (b+ji w-1)=zqb w/\lfN L (b+ji w-1)=(b:Int)/\∀i,b<=i->i<b+ji w->(b:Int)<=lfN L i:=by
 have l:=Za w b;have n:=Y1 w;have k:=S.le;have c:∀(h:ji w-1<(Zj w b).length),(Zj w b)[ji w-1]=(zqb w,(b:Int)):=λh=>by
  have e:=zqc w b;have m:((if w.kind=6 then Y0 w.items w.keys b else if w.kind=5 then za0 w.items b else [])).length=ji w-1:=by have:=congrArg Cd e;rw[Ah,Cq,l]at this;omega
  have:(Zj w b)[ji w-1]?=Td (zqb w,(b:Int)):=by rw[e,BD (by omega),m,Dr];rfl
  rw[Ak h]at this;exact Az this
 obtain⟨f,a2⟩:=S.at_ (ji w-1) (by omega);rw[c (by omega),show b+(ji w-1)=b+ji w-1 by omega]at f a2;refine⟨by omega,f,a2,λi h1 o=>?_⟩;obtain⟨_,c2⟩:=S.at_ (i-b) (by omega);rw[show b+(i-b)=i by omega]at c2;rw[c2];exact(zqm w b (i-b) (by omega)).1
def z1q(d:Nat):List Tr->Nat->List Nat
 |[],_=>[]
 |x::l,n=>(n+ji x+d)::z1q d l (n+ji x+d)
theorem zze{Ls:List Bt}{L:List Int}:∀(l:List Tr) (b:Nat),SegT Ls L b (za0 l b)->BlkS L b (z1q 0 l b) (b+zga 0 l)
 |[],b,_=>by rw[z1q,zga];exact rfl
 |x::l,b,S=>by rw[za0]at S;obtain⟨m,h,f,e⟩:=Xi S.left;have k:=Y1 x;have c:=S.right;rw[Za]at c;rw[z1q,zga];refine⟨by omega,f,λi h1 n=>e i h1 (by omega),?_⟩;have:=zze l (b+ji x) c;rw[show b+(ji x+0+zga 0 l)=b+ji x+zga 0 l by omega];exact this
theorem z9k{L:List Int}{l:List Tr}{ks:List Bt}(S:SegT Ls L b (Y0 (x::l) ks b)):
  SegT Ls L b (Zj x b)/\Zk Ls (b+ji x)=zuq ks.head!/\lfN L (b+ji x)=(b:Int)/\b+ji x<L.length/\SegT Ls L (b+ji x+1) (Y0 l ks.tail (b+ji x+1)):=by
 rw[Y0]at S;have c:=S.right;rw[Za]at c;have h0:=c.at_ 0 (by simp);have h1:=c.le;rw[Aq]at h1;have e:=SegT.right (X:=[(zuq ks.head!,(b:Int))]) c;exact⟨S.left,h0.1,h0.2,by omega,e⟩
theorem zzf{Ls:List Bt}{L:List Int}:∀(l:List Tr) (ks:List Bt) (b:Nat),SegT Ls L b (Y0 l ks b)->BlkS L b (z1q 1 l b) (b+zga 1 l)
 |[],_,b,_=>by rw[z1q,zga];exact rfl
 |x::l,ks,b,S=>by obtain⟨f,k,k2,m,h⟩:=z9k S;obtain⟨o,n,p,e⟩:=Xi f;rw[z1q,zga];refine⟨by omega,k2,λi h1 q=>?_,?_⟩;by_cases c:i<b+ji x;exact e i h1 c;rw[show i=b+ji x by omega,k2];exact Dz _;have:=zzf l ks.tail (b+ji x+1) h;rw[show b+(ji x+1+zga 1 l)=b+ji x+1+zga 1 l by omega];exact this
theorem qha{L:List Int}(S:SegT Ls L b (Zj x b))(h1:b+ji x<L.length)(h:lfN L (b+ji x)=(b:Int)):zl L (b+ji x)=[b+ji x-1]:=by obtain⟨l,m,f,e⟩:=Xi S;have k:=Y1 x;have B:BlkS L b [b+ji x] (b+ji x):=⟨by omega,f,λi a c=>e i a c,rfl⟩;rw[B.kids h1 h];rfl
theorem zui(b:zy w=Ta)(f:w.kind<5)(hi:w.items=[])(c:(jz Tc 0 w 0).length<=65536):yc (bl (jz Tc 0 w 0))=(w,Ta):=by obtain⟨n,e⟩:=zp9 (ln:=Tc) (N:=0) b c;unfold yc z1p;rw[yh,e];dsimp only;rw[if_pos b,hi];simp[f]
theorem zzg(k:zy w=Ta){c:UInt8}(b:c=91\/c=123):jz Tc 0 w 0≠[c]:=λe=>by
 obtain⟨n,h⟩:=zp9 (ln:=Tc) (N:=0) k (by rw[e];simp);rw[e]at h;have h:=congrArg (·.2.2) h;have f:decide ((yu [91]).2.2=0)=Tc:=by kernel_rfl
 have i:decide ((yu [123]).2.2=0)=Tc:=by kernel_rfl
 rcases b with rfl|rfl;exact of_decide_eq_false f h;exact of_decide_eq_false i h
theorem zk7(h:okV w=Ta)(hi:w.items=[]):zy w=Ta:=by unfold zy Zi;rw[y5,y0,zj7,hi];simp only[Zs,Xp,Xq,C6];exact h
theorem z9l{rd:Nat->Tr×Bool}{xs:List Tr}(h:K.map rd=xs.map λx=>(x,Ta)):K.all (λk=>(rd k).2)=Ta/\K.map (λk=>(rd k).1)=xs:=by
 have b:K.all (λk=>(rd k).2)=(K.map rd).all (·.2):=by rw[DK];rfl
 have c:K.map (λk=>(rd k).1)=(K.map rd).map (·.1):=by rw[A7];rfl
 rw[b,c,h,DK,A7];exact⟨Av.2 λ_ _=>rfl,by rw[show((·.1) ∘ λx:Tr=>(x,Ta))=id from rfl,DY]⟩
theorem z9m{rd:Nat->Bt×Tr×Bool}{b:List (Bt×Tr)}(h:K.map rd=b.map λp=>(p.1,p.2,Ta)):K.all (λk=>(rd k).2.2)=Ta/\K.map (λk=>(rd k).1)=b.map (·.1)/\K.map (λk=>(rd k).2.1)=b.map (·.2):=by
 have c:K.all (λk=>(rd k).2.2)=(K.map rd).all (·.2.2):=by rw[DK];rfl
 have e:K.map (λk=>(rd k).1)=(K.map rd).map (·.1):=by rw[A7];rfl
 have f:K.map (λk=>(rd k).2.1)=(K.map rd).map (·.2.1):=by rw[A7];rfl
 rw[c,e,f,h,DK,A7,A7];exact⟨Av.2 λ_ _=>rfl,rfl,rfl⟩
theorem zqp{Ls:List Bt}{L:List Int}{rd:Nat->Tr×Bool}{e:Nat}:∀(l:List Tr) (b:Nat),SegT Ls L b (za0 l b)->b+zga 0 l<=e->(∀x∈l,∀c,SegT Ls L c (Zj x c)->c+ji x<=e->rd (c+ji x-1)=(x,Ta)) ->
  ((z1q 0 l b).map λe=>e-1).map rd=l.map λx=>(x,Ta)
 |[],_,_,_,_=>rfl
 |x::l,b,S,he,H=>by rw[za0]at S;rw[zga]at he;have f:=S.right;rw[Za]at f;rw[z1q,As,As,As,CO,H x Am b S.left (by omega),zqp l _ f (by omega) λy h=>H y (Ae _ h)]
theorem zqq{Ls:List Bt}{L:List Int}{rd:Nat->Bt×Tr×Bool}{e:Nat}:∀(l:List Tr) (ks:List Bt) (b:Nat),ks.length=l.length->SegT Ls L b (Y0 l ks b)->b+zga 1 l<=e -> (∀p∈ks.zip l,∀c,SegT Ls L c (Zj p.2 c)->Zk Ls (c+ji p.2)=zuq p.1->lfN L (c+ji p.2)=(c:Int)->c+ji p.2<L.length->c+ji p.2<e->rd (c+ji p.2)=(p.1,p.2,Ta)) ->
  ((z1q 1 l b).map λe=>e-1).map rd=(ks.zip l).map λp=>(p.1,p.2,Ta)
 |[],_,_,h,_,_,_=>by rw[List.zip_nil_right];rfl
 |x::l,[],_,h,_,_,_=>by simp at h
 |x::l,k::ks,b,h,S,he,H=>by obtain⟨m,f,k2,i,o⟩:=z9k S;rw[zga]at he;rw[z1q,As,As,BR,As,Nat.add_sub_cancel,H (k,x) Am b m f k2 i (by show b+ji x<e;omega),zqq l ks _ (by simpa using h) o (by omega) λy n=>H y (Ae _ n)]
theorem qea(h:lb s=[]):s=⟨#[]⟩:=by rw[<-Y4 s,h]
theorem zuj{s k:Bt}(f:s=zuq k)(i:Z8 (lb k)=Ta)(l:s.size<=65536):(lb s).head?=Td 107/\yc (bl (lb s).tail)=(.mk 4 k [] [],Ta)/\(yu (lb s).tail).2.2=0/\(yu (lb s).tail).1=.mk 4 k [] []:=by
 subst f;have e:lb (zuq k)=107::jz Tc 0 (.mk 4 k [] []) 0:=by unfold zuq;rw[yh,Yc];rfl
 have c:zy (.mk 4 k [] [])=Ta:=zk7 (by unfold okV zn;simpa[Tr.kind,Tr.text,Tr.keys,Tr.items]using i) rfl;have b:(jz Tc 0 (.mk 4 k [] []) 0).length<=65536:=by have:=zbz (zuq k);rw[e,Aq]at this;omega
 rw[e];obtain⟨n,h⟩:=zp9 (ln:=Tc) (N:=0) c b;refine⟨rfl,zui c (show(4:Int)<5 by decide) rfl b,?_,?_⟩;rw[List.tail_cons,h];rw[List.tail_cons,h]
theorem qeb{Ls:List Bt}{L:List Int}(O:∀i,i<L.length->(Zk Ls i).size<=65536):∀(m:Nat) (w:Tr) (b:Nat),tsz w<=m->Qt okV w=Ta->SegT Ls L b (Zj w b)->∀f,b+ji w<=f ->
  rdN Ls L f (b+ji w-1)=(w,Ta)/\rfN Ls L f (b+ji w-1)=(w,Ta)
 |0,w,b,h,_,_,_,_=>by rw[y0]at h;omega
 |m+1,w,b,hm,ok,S,f,hf=>by
  obtain⟨g1,u,N,g4⟩:=Xi S;have A:=Y1 w;obtain⟨f,rfl⟩:∃f',f=f'+1:=⟨f-1,by omega⟩;have H:b+ji w-1<L.length:=by omega
  have o:=Ya ok;have D:=z8w w;have G:=O _ H;have M:∀x∈w.items,∀c,SegT Ls L c (Zj x c)->c+ji x<=f->rdN Ls L f (c+ji x-1)=(x,Ta)/\rfN Ls L f (c+ji x-1)=(x,Ta):=λx C c n r=>qeb O m x c (by have:=yj C;omega) (Jw ok C) n f r;have l:w.kind<5->w.items=[]->rdN Ls L (f+1) (b+ji w-1)=(w,Ta)/\rfN Ls L (f+1) (b+ji w-1)=(w,Ta):=λhk hi=>by
   have h1:ji w=1:=by rw[D,if_neg (by omega),if_neg (by omega)]
   have z:=zk7 o hi;have E:zqb w=bl (jz Tc 0 w 0):=by unfold zqb;rw[if_neg (by omega),if_neg (by omega)]
   rw[E]at u;have hl:(jz Tc 0 w 0).length<=65536:=by rw[u,<-zbz,yh]at G;exact G
   have F:¬bl (jz Tc 0 w 0)=bl [91]:=λe=>zzg z (.inl rfl) (zsg.1 e);have n2:¬bl (jz Tc 0 w 0)=bl [123]:=λe=>zzg z (.inr rfl) (zsg.1 e);have n3:zl L (b+ji w-1)=[]:=by
    have B:BlkS L b [] (b+ji w-1):=by show b=b+ji w-1;omega
    rw[B.kids H N];rfl
   rw[rdN,rfN,u,if_neg F,if_neg n2,if_neg F,if_neg n2,zui z hk hi hl,n3,N,h1];exact⟨rfl,by rw[show b+1-1=b by omega];simp⟩
  rcases zkt o with⟨k,_,_,i⟩|⟨k,_,_,i⟩|⟨k,_,_,i⟩|⟨k,_,_,i⟩|⟨k,t,ks⟩|⟨k,V,kl,t⟩;exact l (by omega) i;exact l (by omega) i;exact l (by omega) i;exact l (by omega) i;rw[k]at D;simp only[if_neg (show¬(5:Int)=6 by decide),if_true]at D;have y:SegT Ls L b (za0 w.items b):=by rw[zqc,k]at S;simp only[if_neg (show¬(5:Int)=6 by decide),if_true]at S;exact S.left
  have E:zqb w=bl [91]:=by unfold zqb;rw[if_pos k]
  rw[E]at u;have s:zl L (b+ji w-1)=(z1q 0 w.items b).map λe=>e-1:=by refine BlkS.kids H ?_ N;have:=zze w.items b y;rw[show b+ji w-1=b+zga 0 w.items by omega];exact this
  obtain⟨U,a2⟩:=z9l (zqp (rd:=rdN Ls L f) (e:=f) w.items b y (by omega) λx C c n r=>(M x C c n r).1);obtain⟨J,Q⟩:=z9l (zqp (rd:=rfN Ls L f) (e:=f) w.items b y (by omega) λx C c n r=>(M x C c n r).2);have z:Tr.mk 5 ⟨#[]⟩ [] w.items=w:=by cases w;simp only[Tr.kind,Tr.text,Tr.keys,Tr.items]at k t ks ⊢;rw[k,ks,qea t]
  rw[rdN,rfN,u,if_pos rfl,if_pos rfl,s,if_pos U,if_pos J,a2,Q,z];exact⟨rfl,rfl⟩;rw[k]at D;simp only[if_true]at D;have y:SegT Ls L b (Y0 w.items w.keys b):=by rw[zqc,k]at S;simp only[if_true]at S;exact S.left
  have E:zqb w=bl [123]:=by unfold zqb;rw[if_neg (by omega),if_pos k]
  rw[E]at u;have s:zl L (b+ji w-1)=(z1q 1 w.items b).map λe=>e-1:=by refine BlkS.kids H ?_ N;have:=zzf w.items w.keys b y;rw[show b+ji w-1=b+zga 1 w.items by omega];exact this
  have ku:∀q∈w.keys,Z8 (lb q)=Ta:=by unfold wo at V;rw[Ao,Av]at V;exact V.1
  obtain⟨U,a2,J⟩:=z9m (zqq (rd:=rdM Ls L (rdN Ls L f)) (e:=f) w.items w.keys b kl y (by omega) λp A c n q1 P I q4=>by obtain⟨r1,Z,_⟩:=zuj q1 (ku _ (List.of_mem_zip A).1) (O _ I);have Y:=Y1 p.2;unfold rdM;rw[qha n I P];dsimp only;rw[if_pos r1,Z,(M p.2 (List.of_mem_zip A).2 c n (by omega)).1];rfl);obtain⟨Q,a5,a6⟩:=z9m (zqq (rd:=rfK Ls L (rfN Ls L f)) (e:=f) w.items w.keys b kl y (by omega) λp A c n q1 P I q4=>by obtain⟨r1,_,Z,r3⟩:=zuj q1 (ku _ (List.of_mem_zip A).1) (O _ I);have Y:=Y1 p.2;obtain⟨_,_,s3,_⟩:=Xi n;unfold rfK;rw[if_pos ⟨r1,Z,by rw[r3],by omega,by rw[s3,P]⟩,r3,(M p.2 (List.of_mem_zip A).2 c n (by omega)).2]);have z:Tr.mk 6 ⟨#[]⟩ w.keys w.items=w:=by cases w;simp only[Tr.kind,Tr.text,Tr.keys,Tr.items]at k t ⊢;rw[k,qea t]
  have z1:(w.keys.zip w.items).map (·.1)=w.keys:=by rw[Dt (by omega)]
  have z2:(w.keys.zip w.items).map (·.2)=w.items:=by rw[List.map_snd_zip (by omega)]
  rw[z1]at a2 a5;rw[z2]at J a6;have F:¬bl [123]=bl [91]:=λe=>by have:=zsg.1 e;cases this
  rw[rdN,rfN,u,if_neg F,if_pos rfl,if_neg F,if_pos rfl,s,if_pos U,if_pos Q,a2,J,a5,a6,z];exact⟨rfl,rfl⟩
end
section
theorem zws(s:Bs):((yu s).2.2=0->zy (yu s).1=Ta)/\Sm (yu s).1:=by
 by_cases c:(Yf s).2.2=0;obtain⟨e,_,f⟩:=z7e c;have b:(yu s).1=Q9 s (Yf s).1.2 33 0:=by unfold yu;rw[if_pos c]
 rw[b];exact⟨λ_=>e,f⟩;have b:(yu s).1=.mk 0 (bl []) [] []:=by unfold yu;rw[if_neg c]
 refine⟨λh=>?_,?_⟩;unfold yu at h;rw[if_neg c]at h;exact absurd h c;rw[b];refine⟨by rw[y0];simp[Zs],?_⟩;rw[txB];exact⟨⟨AW _,AW _,λk i=>by cases i⟩,trivial⟩
theorem znu:Sm noT:=by refine⟨by rw[y0];simp[noT,Tr.items,Zs],?_⟩;unfold noT;rw[txB];exact⟨⟨AW _,AW _,λk b=>by cases b⟩,trivial⟩
theorem zwt(s:Bt):Sm (yc s).1/\((yc s).2=Ta->tsz (yc s).1=1):=by refine⟨(zws (lb s)).2,λh=>?_⟩;unfold yc at h ⊢;simp only[Ao,decide_eq_true_eq]at h;have hi:=Bl.1 h.2.1;rw[y0,hi];rfl
theorem zzh{L:List Int}{n:Nat}:∀(K:List Nat) (a:Nat),K.Pairwise (λi j:Nat=>(i:Int)<lfN L j)->(∀k∈K,(a:Int)<=lfN L k/\lfN L k<=k/\k<n)->a<=n->(K.map λk=>k+1-(lfN L k).toNat).sum<=n-a
 |[],a,_,_,_=>by simp
 |k::K,a,hp,hk,han=>by rw[Be]at hp;obtain⟨h1,e,c⟩:=hk k Am;have:=zzh K (k+1) hp.2 (λj b=>⟨by have:=hp.1 j b;omega,(hk j (Ae _ b)).2⟩) (by omega);rw[As,List.sum_cons];omega
theorem z1r{L:List Int}(h:zqj L L.length=Ta)(n:Nat):(zl L n).Pairwise (λi j:Nat=>(i:Int)<lfN L j):=by refine Df.imp_of_mem (λ {i j} hi c b=>?_) (zha L n);obtain⟨h1,k⟩:=Jz.1 hi;obtain⟨f,e⟩:=Jz.1 c;exact(Z3 h h1 k).2.2.2.2 j b (Z3 h f e).1
theorem z9n{f:Nat->Tr}{g:Nat->Nat}:∀{K:List Nat},(∀k∈K,tsz (f k)<=g k)->Zs (K.map f)<=(K.map g).sum
 |[],_=>by simp[Zs]
 |k::K,h=>by rw[As,As,List.sum_cons,Zs];have h1:=h k Am;have c:=z9n (K:=K) λj b=>h j (Ae _ b);omega
theorem zzi{m:Nat}{f:Nat->Tr}:∀{K:List Nat},(∀k∈K,txB m (f k))->zo7 m (K.map f)
 |[],_=>by rw[Cb,zo7];trivial
 |k::K,h=>by rw[As,zo7];exact⟨h k Am,zzi λj b=>h j (Ae _ b)⟩
theorem zqr{L:List Int}(c:zqj L L.length=Ta)(r:L.length<=512){n:Nat}(o:n<L.length){kd:Int}{ks:List Bt}{f:Nat->Tr}(h:∀k∈zl L n,tsz (f k)<=k+1-(lfN L k).toNat/\txB 1048576 (f k))(b:ks.length<=1048576/\∀k∈ks,k.size<=1048576):
  Sm (.mk kd ⟨#[]⟩ ks ((zl L n).map f))/\tsz (.mk kd ⟨#[]⟩ ks ((zl L n).map f))<=n+1-(lfN L n).toNat:=by
 have e:=Zc.1 c;obtain⟨q,a2,_⟩:=jj.1 (e n o);have h1:=z9n (K:=zl L n) λk b=>(h k b).1;have i:=zzh (n:=n) (zl L n) (lfN L n).toNat (z1r c n) (λk b=>by obtain⟨h1,i⟩:=Jz.1 b;obtain⟨l,t,u,s,p⟩:=Z3 c h1 i;exact⟨by omega,(jj.1 (e k h1)).2.1,l⟩) (by omega);have m:tsz (.mk kd ⟨#[]⟩ ks ((zl L n).map f))<=n+1-(lfN L n).toNat:=by rw[y0];show 1+Zs ((zl L n).map f)<=_;omega
 refine⟨⟨by omega,?_⟩,m⟩;rw[txB];exact⟨⟨AW _,b.1,b.2⟩,zzi λk b=>(h k b).2⟩
theorem z9o{v:Tr}(h:Sm v):v.text.size<=1048576:=by have:=h.tx;cases v;rw[txB]at this;exact this.1.1
theorem z9p{Ls:List Bt}{L:List Int}(c:zqj L L.length=Ta)(o:L.length<=512):∀(f n:Nat),n<L.length ->
  (Sm (rdN Ls L f n).1/\((rdN Ls L f n).2=Ta->tsz (rdN Ls L f n).1<=n+1-(lfN L n).toNat))/\(Sm (rfN Ls L f n).1/\((rfN Ls L f n).2=Ta->tsz (rfN Ls L f n).1<=n+1-(lfN L n).toNat))
 |0,n,_=>⟨⟨znu,λh=>by cases h⟩,⟨znu,λh=>by cases h⟩⟩
 |f+1,n,hn=>by
  have w:=Zc.1 c;obtain⟨G,a2,_⟩:=jj.1 (w n hn);have x:(zl L n).length<=512:=by unfold zl;exact BX (List.length_filter_le _ _) (by simp;omega)
  have low:∀{i k:Nat},i∈zl L k->i<L.length/\i<k/\lfN L k<=lfN L i:=λ {i k} hi=>by obtain⟨h1,e⟩:=Jz.1 hi;obtain⟨m,p,D,B,H⟩:=Z3 c h1 e;exact⟨h1,m,B⟩
  have l:([]:List Bt).length<=1048576/\∀k∈([]:List Bt),k.size<=1048576:=⟨AW _,λk b=>by cases b⟩;have lf:Sm (yc (Zk Ls n)).1/\((yc (Zk Ls n)).2=Ta->tsz (yc (Zk Ls n)).1<=n+1-(lfN L n).toNat):=⟨(zwt _).1,λh=>by rw[(zwt _).2 h];omega⟩;constructor;rw[rdN];split;split;rename_i h;rw[Av]at h;obtain⟨m,p⟩:=zqr (kd:=5) (ks:=[]) c o hn (f:=λk=>(rdN Ls L f k).1) (λk b=>by obtain⟨⟨r,q⟩,_⟩:=z9p (Ls:=Ls) c o f k (low b).1;exact⟨q (h k b),r.tx⟩) l;exact⟨m,λ_=>p⟩;exact⟨znu,λh=>by cases h⟩;split;split;rename_i h;rw[Av]at h;have key:∀k∈zl L n,(tsz (rdM Ls L (rdN Ls L f) k).2.1<=k+1-(lfN L k).toNat/\txB 1048576 (rdM Ls L (rdN Ls L f) k).2.1)/\(rdM Ls L (rdN Ls L f) k).1.size<=1048576:=λk b=>by
   have e:=h k b;revert e;unfold rdM;split;rename_i j C;split;intro e;simp only[Ao]at e;have u:j∈zl L k:=by rw[C];simp
   obtain⟨A,E,F⟩:=low u;obtain⟨⟨r,q⟩,_⟩:=z9p (Ls:=Ls) c o f j A;have z:=q e.2.1;obtain⟨b1,b2,_⟩:=jj.1 (w k (low b).1);exact⟨⟨by dsimp only;omega,r.tx⟩,z9o (zwt _).1⟩;intro e;cases e;intro e;cases e
  obtain⟨m,p⟩:=zqr (kd:=6) (ks:=(zl L n).map λk=>(rdM Ls L (rdN Ls L f) k).1) c o hn (f:=λk=>(rdM Ls L (rdN Ls L f) k).2.1) (λk b=>(key k b).1) ⟨by rw[Ap];omega,λs t=>by obtain⟨k,b,rfl⟩:=AJ.1 t;exact(key k b).2⟩;exact⟨m,λ_=>p⟩;exact⟨znu,λh=>by cases h⟩;exact⟨lf.1,λh=>lf.2 (by rw[Ao]at h;exact h.1)⟩;rw[rfN];split;split;rename_i h;rw[Av]at h;obtain⟨m,p⟩:=zqr (kd:=5) (ks:=[]) c o hn (f:=λk=>(rfN Ls L f k).1) (λk b=>by obtain⟨_,⟨r,q⟩⟩:=z9p (Ls:=Ls) c o f k (low b).1;exact⟨q (h k b),r.tx⟩) l;exact⟨m,λ_=>p⟩;exact⟨znu,λh=>by cases h⟩;split;split;rename_i h;rw[Av]at h;have key:∀k∈zl L n,(tsz (rfK Ls L (rfN Ls L f) k).2.1<=k+1-(lfN L k).toNat/\txB 1048576 (rfK Ls L (rfN Ls L f) k).2.1)/\(rfK Ls L (rfN Ls L f) k).1.size<=1048576:=λk b=>by have e:=h k b;revert e;unfold rfK;split;rename_i y;intro e;have e:(rfN Ls L f (k-1)).2=Ta:=e;obtain⟨_,⟨r,q⟩⟩:=z9p (Ls:=Ls) c o f (k-1) (by have:=(low b).1;omega);have z:=q e;obtain⟨b1,b2,_⟩:=jj.1 (w k (low b).1);have c1:=y.2.2.2.1;have c2:=y.2.2.2.2;exact⟨⟨by show tsz (rfN Ls L f (k-1)).1<=_;rw[c2]at z;omega,r.tx⟩,z9o (zws _).2⟩;intro e;cases e
  obtain⟨m,p⟩:=zqr (kd:=6) (ks:=(zl L n).map λk=>(rfK Ls L (rfN Ls L f) k).1) c o hn (f:=λk=>(rfK Ls L (rfN Ls L f) k).2.1) (λk b=>(key k b).1) ⟨by rw[Ap];omega,λs t=>by obtain⟨k,b,rfl⟩:=AJ.1 t;exact(key k b).2⟩;exact⟨m,λ_=>p⟩;exact⟨znu,λh=>by cases h⟩;exact⟨lf.1,λh=>lf.2 (by rw[Ao]at h;exact h.1)⟩
def J0(w:Tr)(t:List Bt×List Int):Prop:=zy w=Ta/\ze w=w/\ji w<=512/\t=unz (Zj w 0)
theorem jy{w:Tr}{t:List Bt×List Int}(h:J0 w t)(k:∀s∈t.1,s.size<=65536):yb t=Ta/\0<t.2.length/\lfN t.2 (t.2.length-1)=0/\rdN t.1 t.2 t.2.length (t.2.length-1)=(w,Ta)/\rfN t.1 t.2 t.2.length (t.2.length-1)=(w,Ta):=by
 obtain⟨h1,o,m,rfl⟩:=h;have c:=Za w 0;have f:=Y1 w;have S:=z9j (X:=Zj w 0);have l:(unz (Zj w 0)).2.length=ji w:=by unfold unz;rw[Ap,c]
 have r:(unz (Zj w 0)).1.length=ji w:=by unfold unz;rw[Ap,c]
 obtain⟨n,q,e,p⟩:=Xi S;have ok:Qt okV w=Ta:=by unfold zy at h1;rw[Ao]at h1;exact h1.2
 have b:=qeb (Ls:=(unz (Zj w 0)).1) (L:=(unz (Zj w 0)).2) (λi hi=>by unfold Zk;rw[A6,Ak (by omega)];exact k _ (AE _)) (tsz w) w 0 (Ab _) ok S (ji w) (by omega);rw[AL]at e b;rw[l];exact⟨z9g m,f,e,b.1,b.2⟩
end
end Go.X
end
section
namespace Go.X
open Go Go.X Go.Proofs Go.RowKit
section
variable {g' g:zb} {M' M:Fr} {bv rb n:Nat} {x:Tr} {K:Value -> zb -> Prop} {xk xi s1 s2 s3:Sl} {Ls:List Bt}
theorem qhb(v:Tr):(zbr v).1=z1p v:=by unfold zbr z1p;split <;> rfl
theorem z9q{gl:Fr}(i:GL gl)(k:Brn gl){s:Bt}{R:Tr×Bool->Prop}(m:R (yc s)):PC Tp gl 189 [Arg.mk .str s] [.tree,.bool] R:=by
 apply zt7;have b:=qg1 (gl:=gl) i (s:=lb s) (R:=λr=>r=yu (lb s)) rfl;rw[Y4]at b;refine b.mono λr l=>?_;subst l;simp only[zam];refine⟨λx=>x=z1p (yu (lb s)).1,λ_=>(zge i k (zws (lb s)).2 (R:=λx=>x=z1p (yu (lb s)).1) (qhb _)),λx f=>?_⟩;have e:(bif (bif (bif ((yu (lb s)).2.2==0)then(((Cd (yu (lb s)).1.items:Nat):Int)==0)else Tc)then(decide ((yu (lb s)).1.kind<5))else Tc)then(x.toList==s.toList)else Tc)=(yc s).2:=by unfold yc;by_cases h1:(yu (lb s)).2.2=0;by_cases h:(yu (lb s)).1.items.length=0;by_cases c:(yu (lb s)).1.kind<5;have f:=f (by simp[h1,h,c]);subst f;rw[ze0];simp[h1,h,c];simp[c];simp[h];simp[h1]
 rw[e];exact m
structure VbM (lo:Nat) (h0:zb) (M0:Fr) (b:Nat) (k:Int) (z2 z3:Sl) (g:zb) (M:Fr) (ks:List Bt) (xs:List Tr) (sk si:Sl) (bk bi:List Nat):Prop where
 L:Later h0 M0 g M
 box:Blk g b #[.int .i64 k,.string ⟨#[]⟩,slV z2,slV z3]
 keys:ORow lo g M .str ks sk bk
 items:ORow lo g M .tree xs si bi
 dj:∀c∈bk,c∉bi
 hb:h0.size<=b
 bl:b<lo
 lg:lo<=g.size
 nB:M b=Te
section
variable {lo : Nat} {h0 : zb} {M0 : Fr} {b : Nat} {k : Int} {z2 z3 : Sl} {g : zb} {M : Fr} {ks : List Bt} {xs : List Tr} {sk si : Sl} {bk bi : List Nat}
theorem VbM.call(V:VbM lo h0 M0 b k z2 z3 g M ks xs sk si bk bi)(L:Later g M g' M'):VbM lo h0 M0 b k z2 z3 g' M' ks xs sk si bk bi:= ⟨V.L.trans L,V.box.keep (L.keep.get b V.box.lt),V.keys.call L,V.items.call L,V.dj,V.hb,V.bl,by have:=V.lg;have:=L.keep.size;omega,by rw[L.old b V.box.lt];exact V.nB⟩
theorem VbM.push(V:VbM lo h0 M0 b k z2 z3 g M ks xs sk si bk bi)(o:Obj):VbM lo h0 M0 b k z2 z3 (g.push o) M ks xs sk si bk bi:=V.call (Later.push V.L.ag o)
theorem VbM.key(V:VbM lo h0 M0 b k z2 z3 g M ks xs sk si bk bi)(y:ks.length<=1000000){x:Bt}(t:Blk g bv #[.string x]) (s:∀m g' n,VbM lo h0 M0 b k z2 z3 g' M (ks++[x]) xs m si n bi->g.size<=g'.size->(∀j,j<g.size->j∉bk->g'[j]?=g[j]?)->K (slV m) g'):
  XRun Tp (Au #[23,23] 23 #[slV sk,.slice (Td ⟨bv,0,Te⟩) 1 1]) g K:=by
 have A:=V.bl;have o:=V.lg;have q:=V.hb;refine ORow.app qjz (by omega) V.L.ag V.keys V.lg (vs:=[.string x]) t rfl y λm g' p r z w f=>s m g' p ⟨⟨⟨by have:=V.L.keep.size;omega,λj u=>?_⟩,V.L.le,V.L.old,λc cs e=>?_⟩,V.box.keep (f b V.box.lt λi=>?_),r,V.items.frame (λc l=>f c (V.items.own c l).2.1 λi=>V.dj c i l) (Fr.le.refl _) (λc l=>(V.items.own c l).2.2),λc l i=>?_,V.hb,V.bl,by omega,V.nB⟩ z f;rw[f j (by omega) λi=>by have:=(V.keys.own j i).1;omega];exact V.L.keep.get j u;rw[f c (V.L.ag.lt e) λi=>by have:=(V.keys.own c i).2.2;rw[this]at e;cases e];exact V.L.ag c cs e;have:=(V.keys.own b i).1;omega;rcases w c l with h|h;exact V.dj c h i;have:=(V.items.own c i).2.1;omega
theorem qn2(b:RdV M .tree x (.agg #[.int .i64 x.kind,.string x.text,slV xk,slV xi])):Rd M .tree x [.int .i64 x.kind,.string x.text,slV xk,slV xi]:=by
 unfold RdV at b;simp only[zhf,if_true]at b;obtain⟨cs,e,c⟩:=b;injection e with e;have:cs=[.int .i64 x.kind,.string x.text,slV xk,slV xi]:=by have:=congrArg Array.toList e;simpa using this.symm
 rw[<-this];exact c
theorem VbM.item(V:VbM lo h0 M0 b k z2 z3 g M ks xs sk si bk bi)(A:xs.length<=1000000)(u:Blk g bv #[.int .i64 x.kind,.string x.text,slV xk,slV xi])(q:RdV M .tree x (.agg #[.int .i64 x.kind,.string x.text,slV xk,slV xi])) (t:∀m g' n,VbM lo h0 M0 b k z2 z3 g' M ks (xs++[x]) sk m bk n->g.size<=g'.size->(∀j,j<g.size->j∉bi->g'[j]?=g[j]?)->K (slV m) g'):
  XRun Tp (Au #[24,24] 24 #[slV si,.slice (Td ⟨bv,0,Te⟩) 1 1]) g K:=by
 have B:=V.bl;have o:=V.lg;have s:=V.hb;refine ORow.app zpe (by omega) V.L.ag V.items V.lg (vs:=[.int .i64 x.kind,.string x.text,slV xk,slV xi]) u (qn2 q) A λm g' p r z w f=>t m g' p ⟨⟨⟨by have:=V.L.keep.size;omega,λj y=>?_⟩,V.L.le,V.L.old,λc cs e=>?_⟩,V.box.keep (f b V.box.lt λi=>?_),V.keys.frame (λc l=>f c (V.keys.own c l).2.1 λi=>V.dj c l i) (Fr.le.refl _) (λc l=>(V.keys.own c l).2.2),r,λc l i=>?_,V.hb,V.bl,by omega,V.nB⟩ z f;rw[f j (by omega) λi=>by have:=(V.items.own j i).1;omega];exact V.L.keep.get j y;rw[f c (V.L.ag.lt e) λi=>by have:=(V.items.own c i).2.2;rw[this]at e;cases e];exact V.L.ag c cs e;have:=(V.items.own b i).1;omega;rcases w c i with h|h;exact V.dj c l h;have:=(V.keys.own c l).2.1;omega
theorem VbM.turn(V:VbM lo h0 M0 b k z2 z3 g M ks xs sk si bk bi){i:Int}{h l:Sl}(B:Blk g' b #[.int .i64 i,.string ⟨#[]⟩,slV h,slV l])(z:g'.size=g.size)(f:∀j,j≠b->g'[j]?=g[j]?):VbM lo h0 M0 b i h l g' M ks xs sk si bk bi:=by have m:=V.bl;exact⟨Later.stay V.L V.hb V.nB f z,B,V.keys.frame (λc e=>f c (by have:=(V.keys.own c e).1;omega)) (Fr.le.refl _) (λc e=>(V.keys.own c e).2.2),V.items.frame (λc e=>f c (by have:=(V.items.own c e).1;omega)) (Fr.le.refl _) (λc e=>(V.items.own c e).2.2),V.dj,V.hb,V.bl,by rw[z];exact V.lg,V.nB⟩
theorem VbM.st2(V:VbM lo h0 M0 b k z2 z3 g M ks xs sk si bk bi){K:zb->Prop}(c:∀g',VbM lo h0 M0 b k sk z3 g' M ks xs sk si bk bi->g'.size=g.size->(∀j,j≠b->g'[j]?=g[j]?)->K g'):
  XRunU Tp (Af 23 (.pointer (Td (Ad ⟨b,0,Te⟩ 2))) (slV sk)) g K:=by
 rw[zi];exact yg qky qkz V.box (by show 2<4;omega) rfl λg' B z f=>c g' (V.turn B z f) z f
theorem VbM.st3(V:VbM lo h0 M0 b k z2 z3 g M ks xs sk si bk bi){K:zb->Prop}(c:∀g',VbM lo h0 M0 b k z2 si g' M ks xs sk si bk bi->g'.size=g.size->(∀j,j≠b->g'[j]?=g[j]?)->K g'):
  XRunU Tp (Af 24 (.pointer (Td (Ad ⟨b,0,Te⟩ 3))) (slV si)) g K:=by
 rw[zi];exact yg qmb qmc V.box (by show 3<4;omega) rfl λg' B z f=>c g' (V.turn B z f) z f
theorem VbM.fin(V:VbM lo h0 M0 b k z2 z3 g M ks xs sk si bk bi)(f:ks.length<=1000000/\xs.length<=1000000):Later h0 M0 g (MxL M g (bk++bi))/\RdV (MxL M g (bk++bi)) .tree (.mk k ⟨#[]⟩ ks xs) (.agg #[.int .i64 k,.string ⟨#[]⟩,slV sk,slV si]):=by have l:=V.bl;have i:=V.hb;refine⟨Later.own V.L λc e=>?_,qf (v:=.mk k ⟨#[]⟩ ks xs) (V.keys.rd V.L.ag (λc e=>Ar _ e) f.1) (V.items.rd V.L.ag (λc e=>AC _ e) f.2)⟩;rcases Aw.1 e with h|h;have:=(V.keys.own c h).1;omega;have:=(V.items.own c h).1;omega
end
def z1s(L:List Int):List (List Int):=(Bj L.length).map λk=>(zl L k).map λi:Nat=>(i:Int)
structure RdrS (M:Fr) (rb:Nat) (Ls:List Bt) (L:List Int) (s1 s2 s3:Sl):Prop where
 at_:M rb=Td #[slV s1,slV s2,slV s3]
 r1:Rd M (.row .str) Ls [slV s1]
 r3:Rd M (.row (.row (.int .i64))) (z1s L) [slV s3]
theorem RdrS.mono{L:List Int}(H:RdrS M rb Ls L s1 s2 s3)(le:Fr.le M M'):RdrS M' rb Ls L s1 s2 s3:=⟨le _ _ H.at_,H.r1.mono le,H.r3.mono le⟩
theorem qj8{xs:List (List Int)}{s:Sl}(H:Rd M (.row (.row (.int .i64))) xs [slV s]){k:Nat}(l:k<xs.length):∃(a:Addr) (f:Sl),s.a=Td a/\(∀g,AgM M g->zc g (a.add (k*1))=Td (slV f))/\Rd M (.row (.int .i64)) xs[k] [slV f]:=by
 obtain⟨b,o,cs,m,n,h⟩:=Go.X.rowAt H l;obtain⟨f,i⟩:∃f:Sl,cut cs (o+k*sz (.row (.int .i64))) (sz (.row (.int .i64)))=[slV f]:=by obtain⟨w,e,a,c,q,_⟩:=h;exact⟨⟨a,_,c⟩,by rw[e,q];rfl⟩
 rw[i]at h;exact⟨_,f,m,λg ag=>by rw[qd];exact zjq ag n i,h⟩
theorem zk8(L:List Int):(z1s L).length=L.length:=by unfold z1s;rw[Ap,C3]
theorem RdrS.kids{L:List Int}(H:RdrS M rb Ls L s1 s2 s3)(c:n<L.length):∃(a:Addr) (sk:Sl),(s3.a=Td a/\(0:Int)<=(n:Int)/\(n:Int)<(s3.len:Int))/\(∀g,AgM M g->zc g (a.add (((n:Nat):Int).toNat*1))=Td (slV sk))/\Rd M (.row (.int .i64)) ((zl L n).map λi:Nat=>(i:Int)) [slV sk]:=by
 obtain⟨a,l,f,h,b⟩:=qj8 H.r3 (k:=n) (by rw[zk8];exact c);have e:=(rowLen H.r3).1;rw[zk8]at e;refine⟨a,l,⟨f,by omega,by omega⟩,λg ag=>by rw[Ag];exact h g ag,?_⟩;have:(z1s L)[n]'(by rw[zk8];exact c)=(zl L n).map λi:Nat=>(i:Int):=by unfold z1s;rw[CF,List.getElem_range]
 rw[this]at b;exact b
theorem RdrS.lab{L:List Int}(H:RdrS M rb Ls L s1 s2 s3)(ag:AgM M g)(b:n<Ls.length):∃a:Addr,(s1.a=Td a/\(0:Int)<=(n:Int)/\(n:Int)<(s1.len:Int))/\zc g (a.add (((n:Nat):Int).toNat*1))=Td (.string (Zk Ls n)):=by obtain⟨a,h1,x,e,c⟩:=z0q ag H.r1 b (i:=(n:Int)) rfl (L:=s1.len) rfl (Q:=λx=>x=Zk Ls n) (by unfold Zk;rw[A6,Ak b];rfl);subst c;exact⟨a,h1,e⟩
theorem RdrS.c0{L:List Int}(H:RdrS M rb Ls L s1 s2 s3)(ag:AgM M g):zc g (Ad (Ad ⟨rb,0,Te⟩ 0) 0)=Td (slV s1):=by rw[zi,zi];exact zjq ag H.at_ rfl
theorem RdrS.c2{L:List Int}(H:RdrS M rb Ls L s1 s2 s3)(ag:AgM M g):zc g (Ad ⟨rb,0,Te⟩ 2)=Td (slV s3):=by rw[zi];exact zjq ag H.at_ rfl
end
section
variable {M:Fr} {w u:Value} {x:Tr} {b:Bool} {Ls:List Bt} {k:Nat}
theorem z1t{r:Tr×Bool}(h:Y3 M [.tree,.bool] r w):∃sk si:Sl,w=.tuple #[.agg #[.int .i64 r.1.kind,.string r.1.text,slV sk,slV si],.bool r.2]/\RdV M .tree r.1 (.agg #[.int .i64 r.1.kind,.string r.1.text,slV sk,slV si]):=by
 obtain⟨vs,⟨f,rest,rfl,c,e,rfl,b⟩,rfl⟩:=h;obtain⟨sk,si,rfl,_,_⟩:=yz c;have b:e=.bool r.2:=by have:=(zfs rfl).1 b;simpa[Rd]using this
 subst b;exact⟨sk,si,rfl,c⟩
theorem qj9{r:Bt×Tr×Bool}(h:Y3 M [.str,.tree,.bool] r w):∃sk si:Sl,w=.tuple #[.string r.1,.agg #[.int .i64 r.2.1.kind,.string r.2.1.text,slV sk,slV si],.bool r.2.2]/\RdV M .tree r.2.1 (.agg #[.int .i64 r.2.1.kind,.string r.2.1.text,slV sk,slV si]):=by
 obtain⟨vs,⟨k,c,rfl,e,l,rest,rfl,f,i,rfl,b⟩,rfl⟩:=h;obtain⟨sk,si,rfl,_,_⟩:=yz f;have b:i=.bool r.2.2:=by have:=(zfs rfl).1 b;simpa[Rd]using this
 have e:k=.string r.1:=by have:=(zfs rfl).1 e;simpa[Rd]using this
 subst b;subst e;exact⟨sk,si,rfl,f⟩
theorem qk4(h:RdV M .tree x u):Y3 M [.tree,.bool] (x,b) (.tuple #[u,.bool b]):=⟨[_,_],⟨_,_,rfl,h,_,rfl,rdBool _⟩,rfl⟩
theorem qka{s:Bt}(h:RdV M .tree x u):Y3 M [.str,.tree,.bool] (s,x,b) (.tuple #[.string s,u,.bool b]):=⟨[_,_,_],⟨_,_,rfl,rdStr _,_,_,rfl,h,_,rfl,rdBool _⟩,rfl⟩
theorem zzj:RdV M .tree noT (.agg #[.int .i64 0,.string ⟨#[]⟩,slV ⟨Te,0,0⟩,slV ⟨Te,0,0⟩]):=qf (v:=noT) zf6 zf6
theorem qec{l:Bs}:(bif ((((bl l).size:Nat):Int)==0)then Ta else(!(((bl l).extract (0:Int).toNat (1:Int).toNat:Bt).toList==(⟨#[107]⟩:Bt).toList)))=!decide (l.head?=Td 107):=by
 rw[show(0:Int).toNat=0 from rfl,show(1:Int).toNat=1 from rfl,wm,zf,ze0];cases l with
 |nil=>rfl
 |cons c t=>
  have e:((((c::t).length:Nat):Int)==0)=Tc:=by rw[beq_eq_false_iff_ne,Aq];omega
  have b:(bl (((c::t).drop 0).take (1-0))=(⟨#[107]⟩:Bt))↔(c=107):=by rw[BQ,show 1-0=0+1 from rfl,CL,CZ];constructor;intro h;have:=congrArg lb h;rw[yh]at this;have f:lb (⟨#[107]⟩:Bt)=[107]:=rfl;rw[f]at this;injection this;rintro rfl;rfl
  rw[e,cond_false];congr 1;rw[AM,decide_eq_true_eq,decide_eq_true_eq,b];simp
theorem qhc{L:List Int}{rd:Nat->Tr×Bool}(h:(lb (Zk Ls k)).head?≠Td 107\/(zl L k).length≠1):rdM Ls L rd k=(⟨#[]⟩,noT,Tc):=by unfold rdM;split;rename_i j b;rw[b]at h;rw[if_neg];rcases h with h|h;exact h;exact absurd rfl h;rfl
theorem qkb{L:List Int}{rd:Nat->Tr×Bool}{k j:Nat}(h:(lb (Zk Ls k)).head?=Td 107)(b:zl L k=[j]):rdM Ls L rd k=((yc (bl (lb (Zk Ls k)).tail)).1.text,(rd j).1,(yc (bl (lb (Zk Ls k)).tail)).2&&((rd j).2&&decide ((yc (bl (lb (Zk Ls k)).tail)).1.kind=4))):=by unfold rdM;rw[b];dsimp only;rw[if_pos h]
set_option maxRecDepth 100000 in
set_option maxHeartbeats 1000000 in
theorem z1u{gl:Fr}(hg:GL gl)(hb:Brn gl){rb:Nat}{L:List Int}{s1 s2 s3:Sl}(aF:Ls.length=L.length){rd:Nat->Tr×Bool}{n:Nat}(hn:n<L.length) (H:∀j∈zl L n,∀(h:zb) (M:Fr),Fr.le gl M->AgM M h->RdrS M rb Ls L s1 s2 s3->PX Tp 105 #[.pointer (Td ⟨rb,0,Te⟩),.int .i64 (j:Int)] h M [.tree,.bool] (λr=>r=rd j))
  {h:zb} (hM:Fr.le gl M) (ag:AgM M h) (S:RdrS M rb Ls L s1 s2 s3):PX Tp 188 #[.pointer (Td ⟨rb,0,Te⟩),.int .i64 (n:Int)] h M [.str,.tree,.bool] (λr=>r=rdM Ls L rd n):=by
 apply PX.of;apply za2 (Td ⟨rb,0,Te⟩) (n:Int);intro h1;have A:Later h M h1 M:=Later.push ag _;have z1:h1.size=h.size+1:=Aj _;have B1:Blk h1 h.size #[.int .i64 0,.string ⟨#[]⟩,.slice Te 0 0,.slice Te 0 0]:=Blk.new _ _ _;clear_value h1;obtain⟨a,am,Y⟩:=S.lab A.ag (n:=n) (by omega);obtain⟨c,sk,ah,ay,af⟩:=S.kids hn;have O:=(rowLen af).1;rw[Ap]at O;obtain⟨l,hl⟩:∃l,Zk Ls n=bl l:=⟨lb (Zk Ls n),(Y4 _).symm⟩;rw[hl]at Y;have G:lb (Zk Ls n)=l:=by rw[hl,yh]
 refine⟨⟨rb,0,Te⟩,rfl,s1,S.c0 A.ag,a,am,bl l,Y,λq=>?_,⟨rb,0,Te⟩,λ_=>rfl,s3,λ_=>S.c2 A.ag,c,λ_=>ah,sk,λ_=>ay _ A.ag,λq=>?_,λq=>?_⟩;have:((bl l).size:Int)≠0:=λe=>by rw[e]at q;simp at q
 refine⟨by omega,by omega,by omega⟩;rw[qec,qmw]at q;have U:rdM Ls L rd n=(⟨#[]⟩,noT,Tc):=qhc (by
  rw[G];rcases q with h|h;exact .inl (by simpa using h);refine .inr λe=>?_
  rw[O,e]at h;simp at h)
 refine j4 (k:=0) (s:=⟨#[]⟩) (sk:=⟨Te,0,0⟩) (si:=⟨Te,0,0⟩) B1 λg f z B=>⟨_,_,_,_,B.ld (cs:=[.int .i64 0,.string ⟨#[]⟩,slV ⟨Te,0,0⟩,slV ⟨Te,0,0⟩]),M,_,Later.stay A (Ab _) (ag.none (Ab _)) f z,qka zzj,U.symm⟩
 ·rw[qec,qhl]at q;have hh:l.head?=Td 107:=by simpa using q.1
  have aA:(zl L n).length=1:=by
   have:=q.2;rw[O]at this;have:((zl L n).length:Int)=1:=by simpa using this
   omega
  obtain⟨j,hj⟩:=List.length_eq_one_iff.1 aA;rw[hj]at af;have aM:1<=(bl l).size:=by
   rw[zf];cases l with
   |nil=>simp at hh
   |cons c t=>simp
  refine⟨⟨by omega,by omega,by omega⟩,?_⟩;have ex:(bl l).extract (1:Int).toNat (((bl l).size:Nat):Int).toNat=bl l.tail:=by rw[Ag,zf,show(1:Int).toNat=1 from rfl,wm];congr 1;rw[List.drop_one,BE (by simp)]
  rw[ex];refine(z9q hg hb (s:=bl l.tail) (R:=λr=>r=yc (bl l.tail)) rfl).go (vs:=[.string (bl l.tail)]) (hM.trans A.le) A.ag (qb (a:=Arg.mk .str _) (rdStr _) qq) λw V ap r y Z hr=>?_;subst hr;obtain⟨xk,xi,rfl,aC⟩:=z1t Z;refine⟨_,_,xk,xi,_,rfl,?_⟩;have C:=A.trans y;have aL:=y.keep.size;intro aJ;refine Zb y.ag λar u aG az=>?_;have i:=u.ag;have J:=S.mono (C.le.trans u.le);obtain⟨c',ak,P,ae,m⟩:=J.kids hn;rw[hj]at m;have aa:=(rowLen m).1;obtain⟨b3,o3,e3,e4⟩:=zp0 i m (k:=0) (by simp);refine⟨⟨rb,0,Te⟩,rfl,s3,J.c2 i,c',P,ak,ae _ i,⟨b3,o3,Te⟩,⟨e3,Dz _,by rw[aa];simp⟩,(j:Int),by rw[qd];exact e4,?_⟩;refine(H j (by rw[hj];simp) ar ap (hM.trans (C.le.trans u.le)) i J).go λw aH N r x I hr=>?_;subst hr;obtain⟨E,D,rfl,ax⟩:=z1t I;refine⟨_,_,E,D,_,rfl,?_⟩;intro aE;have aB:=x.keep.size;refine Zb x.ag λb F aI au=>?_;have ab:Blk b V.size #[.int .i64 (yc (bl l.tail)).1.kind,.string (yc (bl l.tail)).1.text,slV xk,slV xi]:=(az.keep (x.keep.get _ (by omega))).keep (F.keep.get _ (by omega));have p:Later h1 M b N:=y.trans (u.trans (x.trans F));have Q:Blk b h.size #[.int .i64 0,.string ⟨#[]⟩,.slice Te 0 0,.slice Te 0 0]:=B1.keep (p.keep.get _ (by omega));have aj:N h.size=Te:=by rw[p.old _ (by omega)];exact ag.none (Ab _)
  have kc:∀g:zb,(∀j,j≠h.size->g[j]?=b[j]?)->zc g (Ad ⟨V.size,0,Te⟩ 0)=Td (.int .i64 (yc (bl l.tail)).1.kind):=λg f=>(ab.keep (f _ (by omega))).cellAdd (o:=0) (k:=0) rfl;have an:(bif (bif (yc (bl l.tail)).2 then(rd j).2 else Tc)then(decide ((yc (bl l.tail)).1.kind=4))else Tc)=((yc (bl l.tail)).2&&((rd j).2&&decide ((yc (bl l.tail)).1.kind=4))):=by cases(yc (bl l.tail)).2 <;> cases(rd j).2 <;> rfl
  have ai:((yc (bl l.tail)).1.kind==4)=decide ((yc (bl l.tail)).1.kind=4):=by rw[AM,beq_iff_eq,decide_eq_true_eq]
  have done:∀{g:zb},(∀j,j≠h.size->g[j]?=b[j]?)->g.size=b.size->∃M' r,Later h M g M'/\Y3 M' [.str,.tree,.bool] r (.tuple #[.string (yc (bl l.tail)).1.text,.agg #[.int .i64 (rd j).1.kind,.string (rd j).1.text,slV E,slV D],.bool (bif (bif (yc (bl l.tail)).2 then(rd j).2 else Tc)then((yc (bl l.tail)).1.kind==4)else Tc)])/\r=rdM Ls L rd n:=λ {g} f z=>
   ⟨N,_,Later.stay (A.trans p) (Ab _) aj f z,qka (ax.mono F.le),by rw[qkb (by rw[G];exact hh) hj,G,ai,an]⟩
  refine⟨_,ab.cellAdd (o:=0) (k:=1) rfl,_,_,E,D,au.ld (cs:=[_,_,slV E,slV D]),?_⟩;repeat' first
   |exact rfl
   |exact j4 Q λg f z B=>⟨_,_,E,D,B.ld (cs:=[_,_,slV E,slV D]),done f z⟩
   |exact j4 Q λg f z B=>⟨_,λ_=>kc g f,_,_,E,D,B.ld (cs:=[_,_,slV E,slV D]),done f z⟩
   |refine⟨_,λ_=>kc b λ_ _=>rfl,?_⟩
   |refine⟨?_,?_⟩
end
section
theorem qcu(L:List Int)(n:Nat):(zl L n).length<=L.length:=by unfold zl;exact BX (List.length_filter_le _ _) (by simp)
theorem zuk{α:Type}{p:α->Bool}{l:List α}{k:Nat}(b:k<l.length)(h:p l[k]=Tc):l.all p=Tc:=List.all_eq_false.2 ⟨_,AE b,by rw[h];simp⟩
theorem VbM.new{h0 g:zb}{M0 M:Fr}{b:Nat}{k:Int}(L:Later h0 M0 g M)(B:Blk g b #[.int .i64 k,.string ⟨#[]⟩,.slice Te 0 0,.slice Te 0 0])(h:h0.size<=b)(f:b<g.size)(i:M b=Te):VbM (b+1) h0 M0 b k ⟨Te,0,0⟩ ⟨Te,0,0⟩ g M [] [] ⟨Te,0,0⟩ ⟨Te,0,0⟩ [] []:= ⟨L,B,ORow.nil,ORow.nil,λc e=>(by cases e),h,Nat.lt_succ_self _,f,i⟩
section
variable {lo : Nat} {h0 : zb} {M0 : Fr} {b : Nat} {k : Int} {g : zb} {M : Fr} {ks : List Bt} {xs : List Tr} {sk si : Sl} {bk bi : List Nat}
theorem VbM.done(V:VbM lo h0 M0 b k sk si g M ks xs sk si bk bi)(w:ks.length<=1000000/\xs.length<=1000000){q:Tr×Bool}(u:q=(.mk k ⟨#[]⟩ ks xs,Ta)):
  ∃(e:Int) (i:Bt) (l p:Sl),zd g ⟨b,0,Te⟩ 0 [.int .i64 e,.string i,slV l,slV p]/\XRunU Tp (Af 26 (.pointer (Td ⟨b,0,Te⟩)) (.agg #[.int .i64 e,.string i,slV l,slV p])) g λc=>
   ∃(n:Int) (m:Bt) (o s:Sl),zd c ⟨b,0,Te⟩ 0 [.int .i64 n,.string m,slV o,slV s]/\∃h r,Later h0 M0 c h/\Y3 h [.tree,.bool] r (.tuple #[.agg #[.int .i64 n,.string m,slV o,slV s],.bool Ta])/\r=q:=by
 subst u;refine⟨_,_,sk,si,V.box.ld (cs:=[_,_,slV sk,slV si]),?_⟩;refine j4 V.box λx t z2 f=>⟨_,_,sk,si,f.ld (cs:=[_,_,slV sk,slV si]),?_⟩;obtain⟨L,r⟩:=(V.turn f z2 t).fin w;exact⟨_,_,L,qk4 r,rfl⟩
theorem VbM.bad{z2 z3:Sl}(V:VbM lo h0 M0 b k z2 z3 g M ks xs sk si bk bi){g':zb}{M':Fr}(L:Later g M g' M'){q:Tr×Bool}(n:q=(noT,Tc)):
  XRunU Tp (Af 26 (.pointer (Td ⟨b,0,Te⟩)) (.agg #[.int .i64 0,.string ⟨#[]⟩,.slice Te 0 0,.slice Te 0 0])) g' λc=>
   ∃(i:Int) (h:Bt) (l m:Sl),zd c ⟨b,0,Te⟩ 0 [.int .i64 i,.string h,slV l,slV m]/\∃f r,Later h0 M0 c f/\Y3 f [.tree,.bool] r (.tuple #[.agg #[.int .i64 i,.string h,slV l,slV m],.bool Tc])/\r=q:=by
 subst n;have e:=V.call L;refine j4 (k:=0) (s:=⟨#[]⟩) (sk:=⟨Te,0,0⟩) (si:=⟨Te,0,0⟩) e.box λt p z2 o=>⟨_,_,_,_,o.ld (cs:=[.int .i64 0,.string ⟨#[]⟩,slV ⟨Te,0,0⟩,slV ⟨Te,0,0⟩]),M',_,Later.stay e.L e.hb e.nB p z2,qk4 zzj,rfl⟩
end
set_option maxRecDepth 100000 in
set_option maxHeartbeats 4000000 in
theorem zwu{gl:Fr}(hg:GL gl)(hb:Brn gl){rb:Nat}{Ls:List Bt}{L:List Int}{s1 s2 s3:Sl}(ar:Ls.length=L.length)(hL:L.length<=512)(aB:zqj L L.length=Ta):∀(f n:Nat),n<f->n<L.length->∀(h:zb) (M:Fr),Fr.le gl M->AgM M h->RdrS M rb Ls L s1 s2 s3 ->
  PX Tp 105 #[.pointer (Td ⟨rb,0,Te⟩),.int .i64 (n:Int)] h M [.tree,.bool] (λr=>r=rdN Ls L f n)
 |0,n,h,_=>absurd h (CJ n)
 |f+1,n,hf,hn=>by
  intro h M hM ag S;have low:∀{i k:Nat},i∈zl L k->i<k/\i<L.length:=λ {i k} hi=>by obtain⟨h1,h2⟩:=Jz.1 hi;exact⟨(Z3 aB h1 h2).1,h1⟩
  have ih:∀j,j∈zl L n->∀(h:zb) (M:Fr),Fr.le gl M->AgM M h->RdrS M rb Ls L s1 s2 s3->PX Tp 105 #[.pointer (Td ⟨rb,0,Te⟩),.int .i64 (j:Int)] h M [.tree,.bool] (λr=>r=rdN Ls L f j):=λj D=>by obtain⟨h1,h2⟩:=low D;exact zwu hg hb ar hL aB f j (by omega) h2
  have im:∀j,j∈zl L n->∀(h:zb) (M:Fr),Fr.le gl M->AgM M h->RdrS M rb Ls L s1 s2 s3->PX Tp 188 #[.pointer (Td ⟨rb,0,Te⟩),.int .i64 (j:Int)] h M [.str,.tree,.bool] (λr=>r=rdM Ls L (rdN Ls L f) j):=λj D h M hM ag S=>by obtain⟨h1,h2⟩:=low D;exact z1u hg hb ar h2 (λi hi=>by obtain⟨h3,h4⟩:=low hi;exact zwu hg hb ar hL aB f i (by omega) h4) hM ag S
  have bC:=qcu L n;apply PX.of;apply zbu (Td ⟨rb,0,Te⟩) (n:Int);intro h1;have L1:Later h M h1 M:=Later.push ag _;have z1:h1.size=h.size+1:=Aj _;have B1:Blk h1 h.size #[.int .i64 0,.string ⟨#[]⟩,.slice Te 0 0,.slice Te 0 0]:=Blk.new _ _ _;clear_value h1;obtain⟨a,aQ,aM⟩:=S.lab L1.ag (n:=n) (by omega);have nB:M h.size=Te:=ag.none (Ab _);refine⟨⟨rb,0,Te⟩,rfl,s1,S.c0 L1.ag,a,aQ,Zk Ls n,aM,λC=>?_,λC=>⟨λhy=>?_,λhy=>?_⟩⟩;rw[ze0]at C;have C:Zk Ls n=bl [91]:=of_decide_eq_true C;rw[rdN,if_pos C];refine yg (o:=0+0) ztl (by kernel_rfl) B1 (by show 0<4;omega) rfl λh6 B6 z6 f6=>?_;have B6:Blk h6 h.size #[.int .i64 5,.string ⟨#[]⟩,.slice Te 0 0,.slice Te 0 0]:=B6;have L6:Later h M h6 M:=Later.stay L1 (Ab _) nB f6 z6;obtain⟨c,sk,aa,Q,J⟩:=S.kids hn;have N:=(rowLen J).1;rw[Ap]at N;refine⟨⟨rb,0,Te⟩,rfl,s3,S.c2 L6.ag,c,aa,sk,Q _ L6.ag,λi g=>∃(m:Nat) (M':Fr) (si:Sl) (bi:List Nat),i=(m:Int)/\m<=(zl L n).length/\(∀j (D:j<(zl L n).length),j<m->(rdN Ls L f (zl L n)[j]).2=Ta)/\VbM (h.size+1) h M h.size 5 ⟨Te,0,0⟩ si g M' [] (((zl L n).take m).map λk=>(rdN Ls L f k).1) ⟨Te,0,0⟩ si [] bi,λi _=>(zl L n).length-i.toNat,⟨0,M,⟨Te,0,0⟩,[],rfl,AW _,λj _ h=>absurd h (CJ j),VbM.new L6 B6 (Ab _) (by omega) nB⟩,?_⟩;rintro i g ⟨m,M',si,bi,rfl,U,A,V⟩;have ae:(((zl L n).take m).map λk=>(rdN Ls L f k).1).length=m:=by rw[Ap,AN,Cj U]
  refine⟨λhc=>?_,λhc=>?_⟩;have p:m<(zl L n).length:=by have:=ltT hc;omega
  have Sg:=S.mono V.L.le;obtain⟨b3,o3,e3,e4⟩:=zp0 V.L.ag (J.mono V.L.le) (k:=m) (by rw[Ap];exact p);rw[CF]at e4;refine⟨⟨b3,o3,Te⟩,⟨e3,by omega,by omega⟩,(((zl L n)[m]:Nat):Int),by rw[qd,Ag];exact e4,?_⟩;refine(ih _ (AE p) g M' (hM.trans V.L.le) V.L.ag Sg).go λw bF aV r au y hr=>?_;subst hr;obtain⟨yk,yi,rfl,af⟩:=z1t y;refine⟨_,_,yk,yi,_,rfl,?_⟩;intro bu;refine Zb au.ag λbA aC bz a7=>⟨λG=>?_,λG=>?_⟩;have I:(rdN Ls L f (zl L n)[m]).2=Tc:=by simpa using G
  refine V.bad (au.trans aC) ?_;rw[if_neg (by rw[zuk p I];simp)];have I:(rdN Ls L f (zl L n)[m]).2=Ta:=by simpa using G
  have aH:=V.call (au.trans aC);refine⟨si,by have:=aH.box.cellAdd (o:=0) (k:=3) rfl;exact this,_,_,yk,yi,a7.ld (cs:=[_,_,slV yk,slV yi]),?_⟩;intro bE;have aZ:=aH.push (.cells #[.int .i64 (rdN Ls L f (zl L n)[m]).1.kind,.string (rdN Ls L f (zl L n)[m]).1.text,slV yk,slV yi] 26);refine aZ.item (by rw[ae];omega) (Blk.new _ _ _) (af.mono aC.le) λs' g2 ak V2 z2 f2=>⟨s',rfl,?_⟩;refine V2.st3 λg3 V3 z3 f3=>⟨⟨m+1,aV,s',ak,by rw[jc p (by omega)],p,λj D h=>?_,?_⟩,by rw[jc p (by omega)];simp only[Ag];omega⟩;by_cases e:j=m;subst e;exact I;exact A j D (by omega);rw[Ay p,Bh];exact V3;have ay:m=(zl L n).length:=by have:=ltF hc;omega
  subst ay;rw[A5]at V;refine V.done ⟨AW _,by rw[Ap];omega⟩ ?_;rw[if_pos (Av.2 λx C=>?_)];obtain⟨j,D,rfl⟩:=Ct.1 C;exact A j D D
  ·rw[ze0]at C hy;have C:¬Zk Ls n=bl [91]:=of_decide_eq_false C;have hy:Zk Ls n=bl [123]:=of_decide_eq_true hy;rw[rdN,if_neg C,if_pos hy];refine yg (o:=0+0) ztl (by kernel_rfl) B1 (by show 0<4;omega) rfl λh6 B6 z6 f6=>?_;have B6:Blk h6 h.size #[.int .i64 6,.string ⟨#[]⟩,.slice Te 0 0,.slice Te 0 0]:=B6;have L6:Later h M h6 M:=Later.stay L1 (Ab _) nB f6 z6;obtain⟨c,sk,aa,Q,J⟩:=S.kids hn;have N:=(rowLen J).1;rw[Ap]at N;refine⟨⟨rb,0,Te⟩,rfl,s3,S.c2 L6.ag,c,aa,sk,Q _ L6.ag,λi g=>∃(m:Nat) (M':Fr) (sk si:Sl) (bk bi:List Nat),i=(m:Int)/\m<=(zl L n).length/\(∀j (D:j<(zl L n).length),j<m->(rdM Ls L (rdN Ls L f) (zl L n)[j]).2.2=Ta)/\VbM (h.size+1) h M h.size 6 sk si g M' (((zl L n).take m).map λk=>(rdM Ls L (rdN Ls L f) k).1) (((zl L n).take m).map λk=>(rdM Ls L (rdN Ls L f) k).2.1) sk si bk bi,λi _=>(zl L n).length-i.toNat,⟨0,M,⟨Te,0,0⟩,⟨Te,0,0⟩,[],[],rfl,AW _,λj _ h=>absurd h (CJ j),VbM.new L6 B6 (Ab _) (by omega) nB⟩,?_⟩;rintro i g ⟨m,M',tk,Y,bk,bi,rfl,U,A,V⟩;have ae:(((zl L n).take m).map λk=>(rdM Ls L (rdN Ls L f) k).1).length=m:=by rw[Ap,AN,Cj U]
   have aF:(((zl L n).take m).map λk=>(rdM Ls L (rdN Ls L f) k).2.1).length=m:=by rw[Ap,AN,Cj U]
   refine⟨λhc=>?_,λhc=>?_⟩
   ·have p:m<(zl L n).length:=by have:=ltT hc;omega
    have Sg:=S.mono V.L.le;obtain⟨b3,o3,e3,e4⟩:=zp0 V.L.ag (J.mono V.L.le) (k:=m) (by rw[Ap];exact p);rw[CF]at e4;refine⟨⟨b3,o3,Te⟩,⟨e3,by omega,by omega⟩,(((zl L n)[m]:Nat):Int),by rw[qd,Ag];exact e4,?_⟩;refine(im _ (AE p) g M' (hM.trans V.L.le) V.L.ag Sg).go λw P H r ax y hr=>?_;generalize az:rdM Ls L (rdN Ls L f) (zl L n)[m]=rr at hr;subst hr;obtain⟨yk,yi,rfl,af⟩:=qj9 y;refine⟨_,_,_,yk,yi,_,rfl,?_⟩;intro bI;refine Zb ax.ag λq aN bD be=>⟨λG=>?_,λG=>?_⟩;have I:(rdM Ls L (rdN Ls L f) (zl L n)[m]).2.2=Tc:=by rw[az];simpa using G
    refine V.bad (ax.trans aN) ?_;rw[if_neg (by rw[zuk p I];simp)]
    ·have I:(rdM Ls L (rdN Ls L f) (zl L n)[m]).2.2=Ta:=by rw[az];simpa using G
     have ai:=V.call ax;have am:=ai.call aN;have bB:=ai.lg;have bg:=am.box.cellAdd (o:=0) (k:=3) rfl;have a1:=am.box.cellAdd (o:=0) (k:=2) rfl;have F:∀c,c∈bk->c<P.size:=λc hc=>(ai.keys.own c hc).2.1;have an:h.size∉bk:=λU=>by have:=(ai.keys.own _ U).1;omega
     have a8:P.size∉bk:=λU=>by have:=F _ U;omega
     have bJ:h.size<P.size:=by omega
     have fin:∀{g:zb} {s2 s3:Sl} {b2 b3:List Nat},VbM (h.size+1) h M h.size 6 tk Y g H ((((zl L n).take m).map λk=>(rdM Ls L (rdN Ls L f) k).1)++[r.1]) ((((zl L n).take m).map λk=>(rdM Ls L (rdN Ls L f) k).2.1)++[r.2.1]) s2 s3 b2 b3 ->
       XRunU Tp (Af 23 (.pointer (Td (Ad ⟨h.size,0,Te⟩ 2))) (slV s2)) g λbn=>XRunU Tp (Af 24 (.pointer (Td (Ad ⟨h.size,0,Te⟩ 3))) (slV s3)) bn λg=>(∃(m2:Nat) (M':Fr) (sk si:Sl) (bk bi:List Nat),Aa .i64 ((m:Int)+1)=(m2:Int)/\m2<=(zl L n).length/\(∀j (D:j<(zl L n).length),j<m2->(rdM Ls L (rdN Ls L f) (zl L n)[j]).2.2=Ta)/\VbM (h.size+1) h M h.size 6 sk si g M' (((zl L n).take m2).map λk=>(rdM Ls L (rdN Ls L f) k).1) (((zl L n).take m2).map λk=>(rdM Ls L (rdN Ls L f) k).2.1) sk si bk bi)/\(zl L n).length-(Aa .i64 ((m:Int)+1)).toNat<(zl L n).length-((m:Nat):Int).toNat:=by
      intro g s2 s3 b2 b3 W;refine W.st2 λg1 W1 _ _=>W1.st3 λg2 W2 _ _=>⟨⟨m+1,H,s2,s3,b2,b3,by rw[jc p (by omega)],p,λj D h=>?_,?_⟩,by rw[jc p (by omega)];simp only[Ag];omega⟩;by_cases e:j=m;subst e;exact I;exact A j D (by omega);rw[Ay p,Bh,Bh];rw[<-az]at W2;exact W2
     refine⟨tk,a1,Y,bg,_,_,yk,yi,be.ld (cs:=[_,_,slV yk,slV yi]),?_,?_⟩;intro t;have E:Keep q.size q t:=Keep.push _ _ (Ab _);have bG:t.size=q.size+1:=Aj _;have aP:VbM (h.size+1) h M h.size 6 tk Y t H _ _ tk Y bk bi:=am.push _;have aT:Blk t q.size #[.string r.1]:=Blk.new _ _ _;clear_value t;refine⟨E.get P.size (by omega),E.get h.size (by omega),E.get h.size (by omega),?_,?_⟩;refine aP.key (by rw[ae];omega) aT λs' g2 aA W2 z2 f2=>⟨s',rfl,(f2 P.size (by omega) a8).trans (E.get P.size (by omega)),(f2 h.size (by omega) an).trans (E.get h.size (by omega)),?_⟩;intro aj;have ba:Keep g2.size g2 aj:=Keep.push _ _ (Ab _);have aY:VbM (h.size+1) h M h.size 6 tk Y aj H _ _ s' Y aA bi:=W2.push _;have bj:Blk aj g2.size #[.int .i64 r.2.1.kind,.string r.2.1.text,slV yk,slV yi]:=Blk.new _ _ _;clear_value aj;refine⟨(ba.get h.size (by omega)).trans ((f2 h.size (by omega) an).trans (E.get h.size (by omega))),?_⟩;exact aY.item (by rw[aF];omega) bj af λah g3 ak W3 _ _=>⟨ah,rfl,fin W3⟩;intro O;have aJ:Keep t.size t O:=Keep.push _ _ (Ab _);have bH:O.size=t.size+1:=Aj _;have bm:VbM (h.size+1) h M h.size 6 tk Y O H _ _ tk Y bk bi:=aP.push _;have a6:Blk O t.size #[.int .i64 r.2.1.kind,.string r.2.1.text,slV yk,slV yi]:=Blk.new _ _ _;clear_value O;have aE:O[h.size]?=q[h.size]?:=(aJ.get _ (by omega)).trans (E.get _ (by omega));refine⟨aE,aE,?_⟩;refine bm.key (by rw[ae];omega) (aT.ofKeep aJ) λs' g2 aA W2 z2 f2=>⟨s',rfl,(f2 h.size (by omega) an).trans aE,?_⟩;exact W2.item (by rw[aF];omega) (a6.keep (f2 t.size (by omega) λU=>by have:=F _ U;omega)) af λah g3 ak W3 _ _=>⟨ah,rfl,fin W3⟩;intro b;have aL:Keep q.size q b:=Keep.push _ _ (Ab _);have bq:b.size=q.size+1:=Aj _;have aI:VbM (h.size+1) h M h.size 6 tk Y b H _ _ tk Y bk bi:=am.push _;have aS:Blk b q.size #[.int .i64 r.2.1.kind,.string r.2.1.text,slV yk,slV yi]:=Blk.new _ _ _;clear_value b;have Z:b[h.size]?=q[h.size]?:=aL.get _ (by omega);refine⟨Z,Z,?_⟩;intro u;have ap:Keep b.size b u:=Keep.push _ _ (Ab _);have br:u.size=b.size+1:=Aj _;have aG:VbM (h.size+1) h M h.size 6 tk Y u H _ _ tk Y bk bi:=aI.push _;have aO:Blk u b.size #[.string r.1]:=Blk.new _ _ _;clear_value u;have ab:u[h.size]?=q[h.size]?:=(ap.get _ (by omega)).trans Z;refine⟨ab,ab,?_⟩;refine aG.key (by rw[ae];omega) aO λs' g2 aA W2 z2 f2=>⟨s',rfl,(f2 h.size (by omega) an).trans ab,?_⟩;exact W2.item (by rw[aF];omega) ((aS.ofKeep ap).keep (f2 q.size (by omega) λU=>by have:=F _ U;omega)) af λah g3 ak W3 _ _=>⟨ah,rfl,fin W3⟩
   have ay:m=(zl L n).length:=by have:=ltF hc;omega
   subst ay;rw[A5]at V;refine V.done ⟨by rw[Ap];omega,by rw[Ap];omega⟩ ?_;rw[if_pos (Av.2 λx C=>?_)];obtain⟨j,D,rfl⟩:=Ct.1 C;exact A j D D
  ·rw[ze0]at C hy;have C:¬Zk Ls n=bl [91]:=of_decide_eq_false C;have hy:¬Zk Ls n=bl [123]:=of_decide_eq_false hy;rw[rdN,if_neg C,if_neg hy];refine⟨⟨rb,0,Te⟩,rfl,s1,S.c0 L1.ag,a,aQ,Zk Ls n,aM,?_⟩;refine(z9q hg hb (s:=Zk Ls n) (R:=λr=>r=yc (Zk Ls n)) rfl).go (vs:=[.string (Zk Ls n)]) (hM.trans L1.le) L1.ag (qb (a:=Arg.mk .str _) (rdStr _) qq) λw h2 M2 r L2 y hr=>?_;subst hr;obtain⟨xk,xi,rfl,aU⟩:=z1t y;refine⟨_,_,xk,xi,_,rfl,?_⟩;have n2:M2 h.size=Te:=by rw[L2.old _ (by omega)];exact nB
   refine j4 (B1.keep (L2.keep.get _ (by omega))) λg f z B=>?_;have Lg:Later h M g M2:=Later.stay (L1.trans L2) (Ab _) n2 f z;have Sg:=S.mono Lg.le;obtain⟨c,sk,aa,Q,J⟩:=Sg.kids hn;have N:=(rowLen J).1;rw[Ap]at N;have hq:(bif (yc (Zk Ls n)).2 then(((sk.len:Nat):Int)==0)else Tc)=((yc (Zk Ls n)).2&&decide (zl L n=[])):=by
    rw[N];cases hk:zl L n with
    |nil=>cases(yc (Zk Ls n)).2 <;> rfl
    |cons a l=>
     have e:(((a::l).length:Int)==0)=Tc:=by rw[beq_eq_false_iff_ne,Aq];omega
     rw[e];cases(yc (Zk Ls n)).2 <;> simp
   have AG:∀{g':zb},(∀j,j≠h.size->g'[j]?=g[j]?)->g'.size=g.size->Later h M g' M2:=λf z=>Later.stay Lg (Ab _) n2 f z;have fin:∀{g':zb},(∀j,j≠h.size->g'[j]?=g[j]?)->g'.size=g.size->∃M' r,Later h M g' M'/\Y3 M' [.tree,.bool] r (.tuple #[.agg #[.int .i64 (yc (Zk Ls n)).1.kind,.string (yc (Zk Ls n)).1.text,slV xk,slV xi],.bool (bif (yc (Zk Ls n)).2 then(((sk.len:Nat):Int)==0)else Tc)])/\r=((yc (Zk Ls n)).1,(yc (Zk Ls n)).2&&decide (zl L n=[])):=λf z=>
    ⟨M2,_,AG f z,qk4 aU,by rw[hq]⟩
   repeat' first
    |exact rfl
    |refine⟨⟨rb,0,Te⟩,λ_=>rfl,?_⟩
    |refine⟨s3,λ_=>Sg.c2 Lg.ag,?_⟩
    |refine⟨s3,λ_=>Sg.c2 (AG f' z').ag,?_⟩
    |refine⟨c,λ_=>aa,?_⟩
    |refine⟨sk,λ_=>Q _ Lg.ag,?_⟩
    |refine⟨sk,λ_=>Q _ (AG f' z').ag,?_⟩
    |exact⟨_,_,xk,xi,B'.ld (cs:=[_,_,slV xk,slV xi]),fin f' z'⟩
    |refine⟨_,_,xk,xi,B.ld (cs:=[_,_,slV xk,slV xi]),?_⟩
    |refine j4 B λg' f' z' B'=>?_
    |refine⟨?_,?_⟩
end
end Go.X
end
section
namespace Go.X
open Go Go.Lib
section
variable {ks:List Bt} {v x y a b:Tr}
theorem qcv{ys:List Tr}(b:ks.Nodup)(c:ks.length=ys.length):(ks.map λq=>zg8 (ks.zip ys) q)=ys:=by have:=congrArg (List.map (·.2)) (zay ks ys b c);rw[A7,List.map_snd_zip (by omega)]at this;exact this
theorem zwv(h:ks.Nodup):(jr ks).Nodup:=(y8 ks).nodup_iff.2 h
theorem zk9:∀(n:Nat) (v:Tr),tsz v<=n->Qt zn v=Ta->ze (ze v)=ze v
 |0,v,h,_=>by have:=Q6 v;omega
 |n+1,v,hz,hok=>by
  rw[y5,Ao,jo,Av]at hok;obtain⟨f,m⟩:=hok;have l:∀x∈v.items,ze (ze x)=ze x:=λx b=>zk9 n x (by have:=yj b;omega) (m x b);have S:=zt0 f;have hi:∀x∈(ze v).items,ze x=x:=λx b=>by obtain⟨y,q,rfl⟩:=AJ.1 (S.ip.mem_iff.1 b);exact l y q
  have r:(ze v).items.map ze=(ze v).items:=by
   conv=>rhs;rw[<-DY (ze v).items]
   exact Cy λx b=>hi x b
  rw[y9 (ze v),S.k,r];by_cases c:v.kind=6;rw[if_pos c];obtain⟨p,i⟩:=Qo f c;have e:(ze v).keys=jr v.keys:=by rw[y9,if_pos c]
  have o:jr (ze v).keys=(ze v).keys:=by rw[e];exact Qm (y8 _)
  rw[o,qcv (by rw[e];exact zwv p) (by rw[S.kp.length_eq,S.ip.length_eq,Ap];exact i),<-S.k];generalize ze v=w;cases w;rfl;rw[if_neg c];have e:(ze v).keys=[]:=by rw[y9,if_neg c]
  rw[<-e,<-S.k];generalize ze v=w;cases w;rfl
theorem zla(h:zy v=Ta):Qt okV v=Ta/\Qt zn v=Ta:=by have e:zy v=(Zi v&&Qt okV v):=rfl;rw[e,Ao]at h;exact⟨h.2,zav (λx b=>by unfold okV at b;rw[Ao]at b;exact b.2) v h.2⟩
theorem z9r(h:Zf v=Ta):Qt zn v=Ta:=by unfold Zf at h;rw[Ao]at h;exact h.2
theorem z9s(b:zy v=Ta)(c:ji (ze v)<=512):J0 (ze v) (unz (Zj (ze v) 0)):= ⟨by rw[zaz (jw b)];exact b,zk9 _ v (Ab _) (zla b).2,c,rfl⟩
theorem zlb{α:Type}[DecidableEq α]:∀{xs ys:List α},xs.Nodup->(∀x∈xs,x∈ys)->xs.length<=ys.length
 |[],ys,_,_=>AW _
 |x::xs,ys,hn,h=>by
  rw[Ba]at hn;have f:=h x Am;have:=zlb (ys:=ys.erase x) hn.2 λy c=>by have b:y≠x:=λe=>hn.1 (e ▸ c);exact(List.mem_erase_of_ne b).2 (h y (Ae _ c))
  have i:=List.length_pos_of_mem f;rw[List.length_erase_of_mem f]at this;rw[Aq];omega
theorem qcw{xs ys:List Bt}(c:xs.Nodup)(b:ys.Nodup)(i:xs.length=ys.length)(h:∀x∈xs,x∈ys):xs.Perm ys:=by
 refine(List.perm_ext_iff_of_nodup c b).2 λz=>⟨h z,λf=>?_⟩;refine CB λe=>?_;have:=zlb (xs:=z::xs) (ys:=ys) (Ba.2 ⟨e,c⟩) λy b=>by rcases Ai.1 b with rfl|b;exact f;exact h y b
 rw[Aq]at this;omega
theorem zqs(f:Tr->Tr)(q:Bt):∀(ks:List Bt) (ys:List Tr),ks.length=ys.length->q∈ks->zg8 (ks.zip (ys.map f)) q=f (zg8 (ks.zip ys) q)
 |[],_,_,h=>by cases h
 |z::ks,[],h,_=>by simp at h
 |z::ks,y::ys,h,hk=>by rw[As,BR,BR,zg8,zg8];by_cases b:z=q;rw[if_pos b,if_pos b];rw[if_neg b,if_neg b];rcases Ai.1 hk with e|e;exact absurd e.symm b;exact zqs f q ks ys (by simpa using h) e
def zww(kb:List Bt)(ys:List Tr)(q:Tr->Tr->Bool)(k:Bt)(x:Tr):Bool:=decide (k∈kb)&&q x (zg8 (kb.zip ys) k)
noncomputable def znv(x y:Tr):Bool:=@decide (ze x=ze y) (Classical.propDecidable _)
theorem zde:znv x y=Ta↔ze x=ze y:=@decide_eq_true_iff _ (Classical.propDecidable _)
theorem z9t(h:¬ze x=ze y):znv x y=Tc:=@decide_eq_false _ (Classical.propDecidable _) h
theorem qcx(s:zn a=Ta)(r:zn b=Ta)(k:a.kind=6)(n:a.kind=b.kind)(u:a.text=b.text)(w:a.items.length=b.items.length):((a.keys.zip a.items).all λp=>zww b.keys b.items znv p.1 p.2)=Ta↔ze a=ze b:=by
 obtain⟨na,o⟩:=Qo s k;obtain⟨t,lb⟩:=Qo r (by rw[<-n];exact k);have l:=zay a.keys a.items na o;rw[y9 a,y9 b,if_pos k,if_pos (by rw[<-n];exact k),Av];have key:∀q∈a.keys,q∈b.keys->(zww b.keys b.items znv q (zg8 (a.keys.zip a.items) q)=Ta↔zg8 (a.keys.zip (a.items.map ze)) q=zg8 (b.keys.zip (b.items.map ze)) q):=λq c e=>by rw[zqs ze q _ _ o c,zqs ze q _ _ lb e];unfold zww;rw[Ao,decide_eq_true_eq,zde];exact⟨λh=>h.2,λh=>⟨e,h⟩⟩
 constructor;intro H;have c:∀q∈a.keys,zww b.keys b.items znv q (zg8 (a.keys.zip a.items) q)=Ta:=λq c=>by
  have:(q,zg8 (a.keys.zip a.items) q)∈a.keys.zip a.items:=by rw[<-l];exact AJ.2 ⟨q,c,by rw[l]⟩
  exact H _ this
 have f:∀q∈a.keys,q∈b.keys:=λq h=>by have:=c q h;unfold zww at this;rw[Ao,decide_eq_true_eq]at this;exact this.1
 have i:=qcw na t (by omega) f;rw[<-Qm i,n,u];congr 1;refine Cy λq h=>?_;have h:=(y8 _).mem_iff.1 h;exact(key q h (f q h)).1 (c q h);intro H p i;injection H with e1 e2 e3 e4;have m:a.keys.Perm b.keys:=(y8 a.keys).symm.trans (e3 ▸ y8 b.keys);rw[<-e3]at e4;rw[<-l]at i;obtain⟨q,c,rfl⟩:=AJ.1 i;exact(key q c (m.mem_iff.1 c)).2 (List.map_inj_left.1 e4 q ((y8 _).mem_iff.2 c))
theorem zzk:∀(xs ys:List Tr),xs.length=ys.length->(((xs.zip ys).all λp=>znv p.1 p.2)=Ta↔xs.map ze=ys.map ze)
 |[],[],_=>by simp
 |[],_::_,h=>by simp at h
 |_::_,[],h=>by simp at h
 |x::xs,y::ys,h=>by rw[BR,De,Ao,zzk xs ys (by simpa using h),As,As,BN];rw[zde]
theorem qcy(c:¬a.kind=6)(e:a.kind=b.kind)(f:a.text=b.text)(h:a.items.length=b.items.length):((a.items.zip b.items).all λp=>znv p.1 p.2)=Ta↔ze a=ze b:=by rw[zzk _ _ h,y9 a,y9 b,if_neg c,if_neg (by rw[<-e];exact c),e,f];simp
theorem zqt(f:zn a=Ta)(i:zn b=Ta)(h:a.kind≠b.kind\/a.text≠b.text\/a.items.length≠b.items.length):¬ze a=ze b:=λe=>by have A:=zt0 f;have B:=zt0 i;rcases h with h|h|h;exact h (by rw[<-A.k,<-B.k,e]);exact h (by rw[<-A.t,<-B.t,e]);refine h ?_;have h1:=A.ip.length_eq;have c:=B.ip.length_eq;rw[Ap]at h1 c;rw[<-h1,<-c,e]
end
end Go.X
end
section
namespace Go.X
open Go Go.X Go.Proofs Go.RowKit
section
variable {u m:Nat} {M:Fr} {w:Value}
theorem qmx:ElemT Tp 137 59 (.slice Te 0 0) 1 24:=⟨by kernel_rfl,⟨Tryz.t59,by kernel_rfl,by kernel_rfl,by kernel_rfl,by kernel_rfl⟩,rfl,by decide⟩
structure KdS (lo:Nat) (h0:zb) (M0:Fr) (kb rb:Nat) (c1 c2 c3:Sl) (g:zb) (M:Fr) (K:List (List Int)) (ss:List Sl) (bf:Nat->List Nat):Prop where
 L:Later h0 M0 g M
 kbk:Blk g kb (ss.map slV).toArray
 rbk:Blk g rb #[slV c1,slV c2,slV c3]
 ln:ss.length=K.length
 row:∀i (hi:i<K.length) (hi2:i<ss.length),ORow lo g M (.int .i64) K[i] ss[i] (bf i)
 dj:∀i j,i<K.length->j<K.length->i≠j->∀c∈bf i,c∉bf j
 hk:h0.size<=kb
 kr:kb<rb
 rl:rb<lo
 lg:lo<=g.size
 nk:M kb=Te
 nr:M rb=Te
section
variable {lo : Nat} {h0 : zb} {M0 : Fr} {kb rb : Nat} {c1 c2 c3 : Sl} {g : zb} {M : Fr} {K : List (List Int)} {ss : List Sl} {bf : Nat -> List Nat}
theorem KdS.push(S:KdS lo h0 M0 kb rb c1 c2 c3 g M K ss bf)(o:Obj):KdS lo h0 M0 kb rb c1 c2 c3 (g.push o) M K ss bf:=by have L:=Later.push S.L.ag o;exact⟨S.L.trans L,S.kbk.ofKeep L.keep,S.rbk.ofKeep L.keep,S.ln,λi hi hi2=>(S.row i hi hi2).call L,S.dj,S.hk,S.kr,S.rl,by have:=S.lg;have:=L.keep.size;omega,S.nk,S.nr⟩
theorem KdS.add(S:KdS lo h0 M0 kb rb c1 c2 c3 g M K ss bf)(o:u<K.length)(s:u<ss.length)(P:K[u].length<=1000000){bv:Nat}{x:Int}(N:Blk g bv #[.int .i64 x]){Q:zb->Prop} (D:∀g' q y,KdS lo h0 M0 kb rb c1 c2 c3 g' M (K.set u (K[u]++[x])) (ss.set u q) y->Q g'):
  XRun Tp (Au #[59,59] 59 #[slV ss[u],.slice (Td ⟨bv,0,Te⟩) 1 1]) g λv p=>∃z:Sl,v=slV z/\p[rb]?=g[rb]?/\XRunU Tp (Af 59 (.pointer (Td ((⟨kb,0,Te⟩:Addr).add (u*1)))) (slV z)) p Q:=by
 have G:=S.hk;have F:=S.kr;have H:=S.rl;have O:=S.lg;have own:∀i,i<K.length->∀c∈bf i,lo<=c/\c<g.size/\M c=Te:=λi hi=>(S.row i hi (by rw[S.ln];exact hi)).own;refine ORow.app z1i (by omega) S.L.ag (S.row u o s) O (vs:=[.int .i64 x]) N rfl P λq p C r z w f=>⟨q,rfl,f rb (by omega) (λb=>by have:=(own u o _ b).1;omega),?_⟩;rw[zi,AL,B0];have E:p[kb]?=g[kb]?:=f kb (by omega) λb=>by have:=(own u o _ b).1;omega
 have J:p[rb]?=g[rb]?:=f rb (by omega) λb=>by have:=(own u o _ b).1;omega
 have m:∀c∈C,lo<=c/\c<p.size/\M c=Te:=r.own;refine yg okF szF (S.kbk.keep E) (by simp;exact s) rfl λI U z2 t=>D I q (λj=>if j=u then C else bf j) ⟨⟨⟨by have:=S.L.keep.size;omega,λj n=>?_⟩,S.L.le,S.L.old,λc cs e=>?_⟩,?_,?_,by rw[Cz,Cz];exact S.ln,λi hi hi2=>?_,λi j hi n l c k b=>?_,G,F,H,by omega,S.nk,S.nr⟩;rw[t j (by omega),f j (by omega) λb=>by have:=(own u o _ b).1;omega];exact S.L.keep.get j n;rw[t c (λh=>by subst h;rw[S.nk]at e;cases e),f c (S.L.ag.lt e) λb=>by have:=(own u o _ b).2.2;rw[this]at e;cases e];exact S.L.ag c cs e;have e:(ss.map slV).toArray.setIfInBounds u (slV q)=((ss.set u q).map slV).toArray:=by rw[List.map_set];simp
 rw[<-e];exact U;exact(S.rbk.keep J).keep (t rb (by omega));rw[Cz]at hi hi2;by_cases e:i=u;subst e;rw[Dg,Dg];simp only[if_pos];exact r.frame (λc k=>t c (by have:=(m c k).1;omega)) (Fr.le.refl _) λc k=>(m c k).2.2;rw[List.getElem_set_ne (λh=>e h.symm),List.getElem_set_ne (λh=>e h.symm)];simp only[if_neg e];refine(S.row i hi hi2).frame (λc k=>?_) (Fr.le.refl _) λc k=>(own i hi c k).2.2;rw[t c (by have:=(own i hi c k).1;omega)];exact f c (own i hi c k).2.1 λb=>S.dj i u hi o e c k b;rw[Cz]at hi n;by_cases e:i=u;subst e;have A:¬j=i:=λh=>l h.symm;simp only[if_pos]at k;simp only[if_neg A]at b;rcases w c k with h|h;exact S.dj i j hi n l c h b;have:=(own j n c b).2.1;omega;simp only[if_neg e]at k;by_cases B:j=u;subst B;simp only[if_pos]at b;rcases w c b with h|h;exact S.dj i j hi n l c k h;have:=(own i hi c k).2.1;omega;simp only[if_neg B]at b;exact S.dj i j hi n l c k b
theorem KdS.fin(S:KdS lo h0 M0 kb rb c1 c2 c3 g M K ss bf)(r:K.length<=1000000)(h:∀x∈K,x.length<=1000000):∃M',Later h0 M0 g M'/\Fr.le M M'/\M' rb=Td #[slV c1,slV c2,slV c3]/\Rd M' (.row (.row (.int .i64))) K [slV ⟨Td ⟨kb,0,Te⟩,K.length,K.length⟩]:=by
 have k:=S.hk;have m:=S.kr;have n:=S.rl;have o:=S.lg;have own:∀i,i<K.length->∀c∈bf i,lo<=c/\c<g.size/\M c=Te:=λi hi=>(S.row i hi (by rw[S.ln];exact hi)).own;refine⟨MxL M g (kb::rb::(Bj K.length).flatMap bf),Later.own S.L λc b=>?_,zel S.L.ag _,MxL.at (by simp) S.rbk,⟨_,rfl,Td ⟨kb,0,Te⟩,K.length,rfl,⟨by omega,by omega⟩,.inr ⟨kb,0,_,rfl,MxL.at (by simp) S.kbk,λi hi=>?_⟩⟩⟩;rcases Ai.1 b with rfl|b;exact k;rcases Ai.1 b with rfl|b;omega;obtain⟨i,hi,l⟩:=Cg.1 b;have:=(own i (AU.1 hi) c l).1;omega;have hi2:i<ss.length:=by rw[S.ln];exact hi
 have e:cut (ss.map slV).toArray (0+i*sz (.row (.int .i64))) (sz (.row (.int .i64)))=[slV ss[i]]:=by
  show cut (ss.map slV).toArray (0+i*1) 1=[slV ss[i]];refine zaw rfl λq p=>?_;have f:q=0:=by omega
  subst f;simp[hi2]
 rw[e];exact(S.row i hi hi2).rd S.L.ag (λc b=>Ae _ (Ae _ (Cg.2 ⟨i,AU.2 hi,b⟩))) (h _ (AE hi))
end
def zlj(L:List Int)(m:Nat):List (List Int):=(Bj L.length).map λk:Nat=>((Bj m).filter λi=>decide (Y9 L L.length i=(k:Int))).map λi:Nat=>(i:Int)
theorem ze1(L:List Int)(m:Nat):(zlj L m).length=L.length:=by unfold zlj;rw[Ap,C3]
theorem qcz(L:List Int):zlj L L.length=z1s L:=rfl
theorem z9u(L:List Int):zlj L 0=BC L.length []:=by unfold zlj;apply List.ext_getElem;simp;intro i h1 b;simp
theorem z9v{L:List Int}(h:Y9 L L.length m<0):zlj L (m+1)=zlj L m:=by unfold zlj;refine Cy λk _=>?_;rw[CK,List.filter_append,BP,if_neg (by rw[decide_eq_true_eq];omega),List.filter_nil,AR]
theorem z9w{L:List Int}(h:Y9 L L.length m=(u:Int))(c:u<(zlj L m).length):zlj L (m+1)=(zlj L m).set u ((zlj L m)[u]++[(m:Int)]):=by apply List.ext_getElem;rw[Cz,ze1,ze1];intro i h1 f;rw[ze1]at h1;have e:∀m,(b:i<(zlj L m).length)->(zlj L m)[i]=((Bj m).filter λj=>decide (Y9 L L.length j=(i:Int))).map λj:Nat=>(j:Int):=λm b=>Az ((Ak b).symm.trans (by unfold zlj;rw[Bf,List.getElem?_range h1];rfl));rw[e];by_cases hi:u=i;subst hi;rw[Dg,e,CK,List.filter_append,BP,if_pos (decide_eq_true h),Bh];rfl;rw[List.getElem_set_ne hi,e,CK,List.filter_append,BP,if_neg (by rw[decide_eq_true_eq];omega),List.filter_nil,AR]
theorem z9x{L:List Int}:∀x∈zlj L m,x.length<=m:=λx b=>by unfold zlj at b;obtain⟨k,_,rfl⟩:=AJ.1 b;rw[Ap];exact BX (List.length_filter_le _ _) (by simp)
theorem qmy{r:List Int×Bool}(h:Y3 M [.row (.int .i64),.bool] r w):∃s:Sl,w=.tuple #[slV s,.bool r.2]/\Rd M (.row (.int .i64)) r.1 [slV s]:=by
 obtain⟨vs,⟨i,rest,rfl,f,c,rfl,b⟩,rfl⟩:=h;obtain⟨s,rfl,e⟩:=z4m f;have b:c=.bool r.2:=by have:=(zfs rfl).1 b;simpa[Rd]using this
 subst b;exact⟨s,rfl,e⟩
theorem qed{r:(List Bt×List Int)×Int}(h:Y3 M [.pair (.row .str) (.row (.int .i64)),.int .i64] r w):∃s1 s2:Sl,w=.tuple #[.agg #[slV s1,slV s2],.int .i64 r.2]/\Rd M (.row .str) r.1.1 [slV s1]/\Rd M (.row (.int .i64)) r.1.2 [slV s2]:=by obtain⟨vs,⟨f,rest,rfl,c,i,rfl,b⟩,rfl⟩:=h;obtain⟨s1,s2,rfl,h1,e⟩:=qk2 c;rw[j8 b];exact⟨s1,s2,rfl,h1,e⟩
end
end Go.X
end
section
namespace Go.X
open Go Go.X Go.Proofs Go.Lib
section
variable {gl M:Fr} {F:FuncId} {xs ys:List Tr} {h:zb}
theorem z9y(hF:zh Tp F=Ta){q:Tr->Tr->Bool}(hp:∀x∈xs,∀y∈ys,PC Tp gl F [Arg.mk .tree x,Arg.mk .tree y] [.bool] (λr=>r=q x y)){s1 s2:Sl}(hM:Fr.le gl M)(ag:AgM M h) (r1:Rd M (.row .tree) xs [slV s1]) (r2:Rd M (.row .tree) ys [slV s2]):
  PX Tp 194 #[slV s1,slV s2,.func (.func F) #[] #[]] h M [.bool] (λr=>r=(decide (xs.length=ys.length)&&(xs.zip ys).all λp=>q p.1 p.2)):=by
 obtain⟨S,n1,_⟩:=rowLen r1;obtain⟨l2,n2,_⟩:=rowLen r2;apply PX.of;apply qj s1 s2 F #[] #[];refine⟨λO=>⟨M,_,Later.refl ag,Xl.2 (rdBool _),?_⟩,λO=>?_⟩;have:¬xs.length=ys.length:=by rw[S,l2]at O;simp at O;omega
 simp[this];have aj:xs.length=ys.length:=by rw[S,l2]at O;simp at O;omega
 refine⟨λi g=>∃(k:Nat) (M':Fr),i=(k:Int)/\k<=xs.length/\Later h M g M'/\((xs.zip ys).take k).all (λp=>q p.1 p.2)=Ta,λi _=>xs.length-i.toNat,⟨0,M,rfl,AW _,Later.refl ag,by simp⟩,?_⟩;rintro i g ⟨k,M',rfl,hk,L,c⟩;refine⟨λt=>?_,λt=>?_⟩;have e:k<xs.length:=by rw[S]at t;simp at t;omega
 have N:k<ys.length:=by omega
 obtain⟨a,I,H,ea,Y,t1,t2⟩:=zd9 L.ag (r1.mono L.le) e;refine⟨a,⟨ea,by omega,by omega⟩,xs[k].kind,xs[k].text,I,H,by rw[Ag];exact Y,?_⟩;intro n;have ah:Keep g.size g n:=Keep.push _ _ (Ab _);have Z:Blk n g.size (w7 0 ⟨#[]⟩ ⟨Te,0,0⟩ ⟨Te,0,0⟩).toArray:=Blk.new _ _ _;have am:n.size=g.size+1:=Aj _;clear_value n;refine zem Z rfl _ _ _ _ λb U an f11=>?_;have C:Keep g.size g b:=⟨by omega,λj hj=>by rw[f11 j (by omega)];exact ah.get j hj⟩;have B:=L.ag.keep C;obtain⟨a2,Q,P,ai,D,t3,t4⟩:=zd9 B (r2.mono L.le) N;refine⟨a2,⟨ai,by omega,by omega⟩,ys[k].kind,ys[k].text,Q,P,by rw[Ag];exact D,?_⟩;intro m;have G:Keep b.size b m:=Keep.push _ _ (Ab _);have ab:Blk m b.size (w7 0 ⟨#[]⟩ ⟨Te,0,0⟩ ⟨Te,0,0⟩).toArray:=Blk.new _ _ _;have ap:m.size=b.size+1:=Aj _;clear_value m;refine zem ab rfl _ _ _ _ λf V ar A=>?_;have J:Blk f g.size (w7 xs[k].kind xs[k].text I H).toArray:=(U.ofKeep G).keep (A _ (by omega));have ae:Keep g.size g f:=⟨by omega,λj hj=>by rw[A j (by omega),G.get j (by omega)];exact C.get j hj⟩;have l:Later h M f M':=L.trans (Later.same L.ag ae);refine⟨xs[k].kind,xs[k].text,I,H,J.ld (cs:=w7 xs[k].kind xs[k].text I H),ys[k].kind,ys[k].text,Q,P,V.ld (cs:=w7 ys[k].kind ys[k].text Q P),hF,?_⟩;have o:=(hp xs[k] (AE e) ys[k] (AE N)).px (h:=f) (M:=M') (vs:=[.agg #[.int .i64 xs[k].kind,.string xs[k].text,slV I,slV H],.agg #[.int .i64 ys[k].kind,.string ys[k].text,slV Q,slV P]]) (hM.trans l.le) l.ag (qb (qf t1 t2) (qb (qf t3 t4) qq));refine o.go λw au s r u E hr=>?_;have hr:r=q xs[k] ys[k]:=hr;subst hr;have z:(xs.zip ys).take (k+1)=(xs.zip ys).take k++[(xs[k],ys[k])]:=by rw[Ay (by simp;omega)];simp
 refine⟨q xs[k] ys[k],zib E,λhf=>⟨s,_,l.trans u,Xl.2 (rdBool _),?_⟩,λht=>?_⟩;have ak:q xs[k] ys[k]=Tc:=by simpa using hf
 have:(xs.zip ys).all (λp=>q p.1 p.2)=Tc:=by rw[List.all_eq_false];exact⟨(xs[k],ys[k]),Ct.2 ⟨k,by simp;omega,by simp⟩,by simp[ak]⟩
 rw[this,Bool.and_false];have aa:q xs[k] ys[k]=Ta:=by simpa using ht
 rw[jc e (by omega)];refine⟨⟨k+1,s,rfl,e,l.trans u,?_⟩,by simp only[Ag];omega⟩;rw[z,Dd,c];simp[aa];have af:k=xs.length:=by rw[S]at t;simp at t;omega
 subst af;refine⟨M',_,L,Xl.2 (rdBool _),?_⟩;rw[BE (by simp;omega)]at c;rw[c];simp[aj]
theorem z9z{l:List Bt}(h:l.Nodup){i j:Nat}(hi:i<l.length)(b:j<l.length)(e:l[i]=l[j]):i=j:=by unfold List.Nodup at h;rw[List.pairwise_iff_getElem]at h;rcases Di i j with h1|h1|h1;exact absurd e (h i j hi b h1);exact h1;exact absurd e.symm (h j i b hi h1)
theorem z90{a b:Bt}(h:A3 a=A3 b):a=b:=by injection h
theorem qc0(ks:List Bt)(us:List Value)(h:ks.length=us.length):(zbt (ks.zip us)).map (·.1)=ks.map A3:=by
 unfold zbt;rw[A7];have:(ks.zip us).map (λp=>A3 p.1)=(ks.zip us).unzip.1.map A3:=by simp
 show(ks.zip us).map (λp=>A3 p.1)=_;rw[this,List.unzip_zip h]
theorem z94{ks:List Bt}(h:ks.Nodup):(ks.map A3).Nodup:=by
 induction ks with
 |nil=>simp
 |cons k ks c=>rw[Ba]at h;rw[As,Ba];refine⟨λb=>?_,c h.2⟩;obtain⟨x,f,e⟩:=AJ.1 b;exact h.1 (z90 e ▸ f)
set_option maxHeartbeats 2000000 in
theorem z96(hF:zh Tp F=Ta){q:Tr->Tr->Bool}{f kb:List Bt}{t l:List Value}(am:f.Nodup)(la:f.length=xs.length)(a6:kb.length=ys.length)(a1:t.length=xs.length)(a7:l.length=ys.length)(aV:xs.length<=1000000000000/\ys.length<=1000000000000) (hp:∀x∈xs,∀y∈ys,PC Tp gl F [Arg.mk .tree x,Arg.mk .tree y] [.bool] (λr=>r=q x y)) {z m2:Nat} (hM:Fr.le gl M) (ag:AgM M h) (w1:MapW h z (zbt (f.zip t))) (w2:MapW h m2 (zbt (kb.zip l))) (ra:∀i (h1:i<xs.length) (h2:i<t.length),RdV M .tree xs[i] t[i]) (rb:∀i (h1:i<ys.length) (h2:i<l.length),RdV M .tree ys[i] l[i]):
  PX Tp 195 #[.map (Td z),.map (Td m2),.func (.func F) #[] #[]] h M [.bool] (λr=>r=(decide (xs.length=ys.length)&&(f.zip xs).all λp=>zww kb ys q p.1 p.2)):=by
 apply PX.of;apply zq (Td z) (Td m2) F #[] #[];have L1:(zbt (f.zip t)).length=xs.length:=by unfold zbt;simp;omega
 have D:(zbt (kb.zip l)).length=ys.length:=by unfold zbt;simp;omega
 have Q:=z8l (P:=Tp) (ty:=3) mapVal.map w1;have S:=z8l (P:=Tp) (ty:=3) mapVal.map w2;rw[L1]at Q;rw[D]at S;refine⟨xs.length,Q,ys.length,S,λhx=>⟨M,_,Later.refl ag,Xl.2 (rdBool _),?_⟩,λhx=>?_⟩;have:¬xs.length=ys.length:=by simp at hx;omega
 simp[this];have aJ:xs.length=ys.length:=by simp at hx;omega
 have aU:=w1.lt;have aB:=w2.lt;have aH:((zbt (f.zip t)).map (·.1)).Nodup:=by rw[qc0 _ _ (by omega)];exact z94 am
 refine zp2 mapVal.map w1 λh4 z4 k4 aP=>⟨Td ⟨h.size,0,Te⟩,rfl,?_⟩;refine⟨λg=>∃dn M',MapIt g h.size z (zbt (f.zip t)) dn/\Later h M g M'/\h.size<g.size/\∀i (h1:i<f.length) (h2:i<xs.length),A3 f[i]∈dn->zww kb ys q f[i] xs[i]=Ta,λg=>leftN g h.size z,⟨[],M,aP,Later.same ag k4,by omega,λi _ _ hm=>(by cases hm)⟩,?_⟩;rintro g ⟨dn,M',it,L,zg,az⟩;have kg:=L.keep;refine zwl it aH (by omega) (λae=>.inl ⟨rfl,(λY=>(by cases Y)),λ_=>⟨M',_,L,Xl.2 (rdBool _),?_⟩⟩) λk u ak hk C aO ay z1 f1 aj=>.inr ⟨k,u,rfl,λ_=>?_,λY=>(by cases Y)⟩;have ap:((f.zip xs).all λp=>zww kb ys q p.1 p.2)=Ta:=by rw[Av];intro p ab;obtain⟨i,hi,e⟩:=List.getElem_of_mem ab;rw[List.length_zip,Nat.lt_min]at hi;have:=az i hi.1 hi.2 (ae (.string f[i],t[i]) (by unfold zbt;refine AJ.2 ⟨(f[i],t[i]),Ct.2 ⟨i,by simp;omega,by simp⟩,rfl⟩));rw[<-e];simpa using this
 rw[ap];simp[aJ]
 ·obtain⟨i,aF,hi2,ek,eu⟩:∃i,∃(h1:i<f.length) (h2:i<t.length),k=.string f[i]/\u=t[i]:=by unfold zbt at ak;obtain⟨p,ab,e⟩:=AJ.1 ak;obtain⟨i,hi,H⟩:=List.getElem_of_mem ab;rw[List.length_zip,Nat.lt_min]at hi;simp at H;injection e with e3 e4;exact⟨i,hi.1,hi.2,by rw[<-e3,<-H],by rw[<-e4,<-H]⟩
  subst ek;subst eu;have ar:i<xs.length:=by omega
  have af:Keep h.size h C:=⟨by omega,λj N=>by rw[f1 j (by omega)];exact kg.get j N⟩;have au:AgM M' C:=λb c e=>by obtain⟨T,mm,H⟩:=L.ag b c e;by_cases hb:b=h.size;subst hb;obtain⟨_,_,_,_,_,e3,_⟩:=it;rw[e3]at H;cases H;exact⟨T,mm,by rw[f1 b hb];exact H⟩
  refine zp3 ay ⟨_,_,rfl,?_⟩;intro I;have aQ:Keep C.size C I:=Keep.push _ _ (Ab _);have aG:Blk I C.size (w7 0 ⟨#[]⟩ ⟨Te,0,0⟩ ⟨Te,0,0⟩).toArray:=Blk.new _ _ _;have ba:I.size=C.size+1:=Aj _;clear_value I;obtain⟨ck,ci,eu,t1,t2⟩:=yz (ra i ar hi2);rw[eu];refine zem aG rfl _ _ _ _ λs aI a8 aS=>?_;have V:Keep C.size C s:=⟨by omega,λj N=>by rw[aS j (by omega)];exact aQ.get j N⟩;have aT:=au.keep V;have aL:MapW s m2 (zbt (kb.zip l)):=w2.keep ((V.get _ (by omega)).trans (af.get _ aB));have n:=We mapVal aL.at f[i] Ta;simp only[if_true]at n;obtain⟨y,J,O,hget,t3,t4,hm1⟩:∃(y:Tr) (J O:Sl),zw9 (kb.zip l) f[i] (.agg #[.int .i64 0,.string ⟨#[]⟩,.slice Te 0 0,.slice Te 0 0])=.agg #[.int .i64 y.kind,.string y.text,slV J,slV O]/\RdV M .tree y (.agg #[.int .i64 y.kind,.string y.text,slV J,slV O]) /\
    ((zdg (kb.zip l) f[i]).isSome=Ta->y∈ys)/\zww kb ys q f[i] xs[i]=((zdg (kb.zip l) f[i]).isSome&&q xs[i] y):=by
   by_cases hk:f[i]∈kb;obtain⟨j,q1,q2,q3,q4,q5⟩:=zp5 f[i] kb ys (by omega) hk;have g3:=q5 l (by omega);have N:j<l.length:=by omega
   rw[Ak N]at g3;obtain⟨J,O,ew,t3,t4⟩:=yz (rb j q2 N);refine⟨ys[j],J,O,by unfold zw9;rw[g3];exact ew,by rw[<-ew];exact rb j q2 N,λ_=>AE q2,?_⟩;rw[g3];unfold zww;rw[decide_eq_true hk,q4];rfl;have G:zdg (kb.zip l) f[i]=Te:=zty (by rw[Dt (by omega)];exact hk);refine⟨noT,⟨Te,0,0⟩,⟨Te,0,0⟩,by unfold zw9;rw[G];rfl,zzj,?_,?_⟩;rw[G];intro Y;cases Y;rw[G];unfold zww;rw[decide_eq_false hk];rfl
  rw[hget]at n;refine⟨y.kind,y.text,J,O,(zdg (kb.zip l) f[i]).isSome,n,?_⟩;intro E;have an:Keep s.size s E:=Keep.push _ _ (Ab _);have aN:Blk E s.size (w7 0 ⟨#[]⟩ ⟨Te,0,0⟩ ⟨Te,0,0⟩).toArray:=Blk.new _ _ _;have aY:E.size=s.size+1:=Aj _;clear_value E;refine zem aN rfl _ _ _ _ λm aM aZ ax=>?_;have ai:Blk m C.size (w7 xs[i].kind xs[i].text ck ci).toArray:=(aI.ofKeep an).keep (ax _ (by omega));have o:Keep C.size C m:=⟨by omega,λj N=>by rw[ax j (by omega),an.get j (by omega)];exact V.get j N⟩;have ah:Keep h.size h m:=af.trans o (by omega);have B:Later h M m M':=⟨ah,L.le,L.old,au.keep o⟩;have aA:MapIt m h.size z (zbt (f.zip t)) (.string f[i]::dn):=aO.keep (o.get _ (by omega)) (o.get _ (by omega));have U:leftN m h.size z<leftN g h.size z:=by rw[leftN.keep (o.get h.size (by omega)) (o.get z (by omega))];exact aj
  refine⟨xs[i].kind,xs[i].text,ck,ci,λ_=>ai.ld (cs:=w7 xs[i].kind xs[i].text ck ci),y.kind,y.text,J,O,λ_=>aM.ld (cs:=w7 y.kind y.text J O),?_⟩;have Z:zww kb ys q f[i] xs[i]=Tc->((f.zip xs).all λp=>zww kb ys q p.1 p.2)=Tc:=λhf=>by rw[List.all_eq_false];exact⟨(f[i],xs[i]),Ct.2 ⟨i,by simp;omega,by simp⟩,by simp[hf]⟩
  refine⟨λw G=>∃b M2,w=.bool b/\Later m M' G M2/\((zdg (kb.zip l) f[i]).isSome=Ta->b=q xs[i] y),λA=>⟨hF,?_⟩,λA=>⟨Ta,Ta,M',rfl,Later.refl B.ag,λY=>by rw[Y]at A;cases A⟩,λ_ w G ⟨b,_,e,_⟩=>⟨b,e⟩,?_⟩;have aE:(zdg (kb.zip l) f[i]).isSome=Ta:=by simpa using A
  have aa:=(hp xs[i] (AE ar) y (t4 aE)).px (h:=m) (M:=M') (vs:=[.agg #[.int .i64 xs[i].kind,.string xs[i].text,slV ck,slV ci],.agg #[.int .i64 y.kind,.string y.text,slV J,slV O]]) (hM.trans B.le) B.ag (qb (RdV.mono L.le (qf t1 t2)) (qb (RdV.mono L.le t3) qq));exact aa.go λw G M2 r D aC hr=>⟨r,zib aC,r,M2,rfl,D,λ_=>hr⟩;rintro b G ⟨b',M2,e,D,hb⟩;cases e;refine⟨λhf=>⟨M2,_,B.trans D,Xl.2 (rdBool _),?_⟩,λht=>⟨⟨_,M2,aA.keep (D.keep.get _ (by omega)) (D.keep.get _ (by omega)),B.trans D,by have:=D.keep.size;omega,λi2 h1 h2 hm=>?_⟩,?_⟩⟩;have:zww kb ys q f[i] xs[i]=Tc:=by
   rw[hm1];cases A:(zdg (kb.zip l) f[i]).isSome with
   |false=>rfl
   |true=>rw[A]at hf;rw[<-hb A];simpa using hf
  rw[Z this,Bool.and_false];rcases Ai.1 hm with e|hm;have H:=z90 e;have:i2=i:=z9z am h1 aF H;subst this;rw[hm1];cases A:(zdg (kb.zip l) f[i2]).isSome with
  |false=>rw[A]at ht;simp at ht
  |true=>rw[A]at ht;rw[<-hb A];simpa using ht
  exact az i2 h1 h2 hm;show leftN G h.size z<leftN g h.size z;rw[leftN.keep (D.keep.get h.size (by omega)) (D.keep.get z (by omega))];exact U
theorem zhc:zh Tp 109=Ta:=by kernel_rfl
set_option maxHeartbeats 1000000 in
theorem qhd:∀(n:Nat) (a b:Tr),tsz a<=n->Sm a->Sm b->Qt zn a=Ta->Qt zn b=Ta->∀{R:Bool->Prop},R (znv a b)->PC Tp gl 109 [Arg.mk .tree a,Arg.mk .tree b] [.bool] R:=by
 intro n;induction n with
 |zero=>intro a _ h;have:=Q6 a;omega
 |succ n ih=>
  intro a b hn S U oa Y R G h M vs hM ag C
  match vs,C with
  |[u1,u2],⟨E,F,_⟩=>
  have E:RdV M .tree a u1:=E;have F:RdV M .tree b u2:=F;obtain⟨sk,si,rfl,rk,ri⟩:=yz E;obtain⟨tk,I,rfl,af,z⟩:=yz F;obtain⟨li,_,_⟩:=rowLen ri;obtain⟨J,_,_⟩:=rowLen z;apply PX.of;apply zqf a.kind a.text sk si b.kind b.text tk I;intro h1 s;have k1:Keep h.size h h1:=Keep.push _ _ (Ab _);have k2:Keep h1.size h1 s:=Keep.push _ _ (Ab _);have b1:Blk h1 h.size (w7 a.kind a.text sk si).toArray:=Blk.new _ _ _;have b2:Blk s h1.size (w7 b.kind b.text tk I).toArray:=Blk.new _ _ _;have z1:h1.size=h.size+1:=Aj _;have z2:s.size=h1.size+1:=Aj _;clear_value h1 s;have f:=b1.ofKeep k2;have kk:Keep h.size h s:=k1.trans k2 (by omega);have u:Later h M s M:=Later.same ag kk;intro K5 am;have e:zn a=Ta:=Ya oa;have c:zn b=Ta:=Ya Y;have l:∀x:Bool,(x=Ta->znv a b=Tc)->(x=Tc->a.kind=b.kind/\a.text=b.text/\a.items.length=b.items.length)->K5 x s:=by
   intro x ah ab;refine am x s ⟨λi=>⟨M,_,u,Xl.2 (rdBool _),?_⟩,λi=>?_⟩;rw[ah i]at G;exact G;obtain⟨e1,e2,V⟩:=ab i;refine⟨a.kind,f.cellAdd (by rfl),λh6=>?_,λh6=>?_⟩;have m:¬a.kind=6:=by simpa using h6
   have D:znv a b=((a.items.zip b.items).all λp=>znv p.1 p.2):=by rw[AM,qcy m e1 e2 V];rw[zde]
   rw[D]at G;refine⟨si,f.cellAdd (by rfl),I,b2.cellAdd (by rfl),?_⟩;refine(z9y (gl:=gl) zhc (q:=znv) (xs:=a.items) (ys:=b.items) (λx i y P=>ih x y (by have:=yj i;omega) (S.item i) (U.item P) (Jw oa i) (Jw Y P) rfl) hM u.ag ri z).go λw au ak r L o A=>?_;have A:r=_:=A;subst A;refine⟨_,zib o,ak,_,u.trans L,Xl.2 (rdBool _),?_⟩;rw[V];simpa using G;have m:a.kind=6:=by simpa using h6
   have D:znv a b=((a.keys.zip a.items).all λp=>zww b.keys b.items znv p.1 p.2):=by rw[AM,qcx e c m e1 e2 V];rw[zde]
   rw[D]at G;obtain⟨na,la⟩:=Qo e m;obtain⟨nb,lb⟩:=Qo c (by rw[<-e1];exact m);refine⟨a.kind,a.text,sk,si,f.ld (cs:=w7 a.kind a.text sk si),b.kind,b.text,tk,I,b2.ld (cs:=w7 b.kind b.text tk I),?_⟩;refine zf9 na la S.items u.ag (qf rk ri) λap m1 ua B an ai ra w1=>⟨Td m1,rfl,B.get h1.size (by omega),?_⟩;have t:=u.ag.keep B;refine zf9 nb lb U.items t (qf af z) λae m2 ub O ar aj rb w2=>⟨Td m2,rfl,?_⟩;have N:Later h M ae M:=(u.trans (Later.same u.ag B)).trans (Later.same t O);refine(z96 (gl:=gl) zhc (q:=znv) na la lb ai aj ⟨S.items,U.items⟩ (λx i y P=>ih x y (by have:=yj i;omega) (S.item i) (U.item P) (Jw oa i) (Jw Y P) rfl) hM N.ag (w1.keep (O.get _ w1.lt)) w2 ra rb).go λw ax aa r L o A=>?_;have A:r=_:=A;subst A;refine⟨_,zib o,aa,_,N.trans L,Xl.2 (rdBool _),?_⟩;rw[V];simpa using G
  refine⟨a.kind,f.cellAdd (by rfl),b.kind,b2.cellAdd (by rfl),λQ=>l _ (λ_=>?_) (λk=>?_),λQ=>?_⟩;exact z9t (zqt e c (.inl (by simpa using Q)));rw[Q]at k;cases k;have Z:a.kind=b.kind:=by simpa using Q
  refine⟨a.text,f.cellAdd (by rfl),b.text,b2.cellAdd (by rfl),λH=>l _ (λ_=>?_) (λk=>?_),λH=>⟨si,f.cellAdd (by rfl),I,b2.cellAdd (by rfl),l _ (λk=>?_) (λk=>?_)⟩⟩;exact z9t (zqt e c (.inr (.inl (by rw[ze0]at H;simpa using H))));rw[H]at k;cases k;exact z9t (zqt e c (.inr (.inr (by rw[li,J]at k;simp at k;omega))));have:a.text=b.text:=by rw[ze0]at H;simpa using H
  exact⟨Z,this,by rw[li,J]at k;simp at k;omega⟩
theorem zwx(i:GL gl){a b:Tr}(m:Sm a)(k:Sm b){R:Bool->Prop}(h:R (Zf a&&(Zf b&&znv a b))):PC Tp gl 55 [Arg.mk .tree a,Arg.mk .tree b] [.bool] R:=by
 apply zqi;simp only[zam];refine zvw i m ⟨λr=>r=Zf b,λ_=>zvw i k rfl,λr l=>⟨λx=>x=znv a b,λc=>?_,λx e=>?_⟩⟩;cases h1:Zf a with
 |false=>rw[h1]at c;cases c
 |true=>rw[h1,cond_true]at c;have f:=l h1;rw[c]at f;exact qhd _ a b (Ab _) m k (z9r h1) (z9r f.symm) rfl
 cases h1:Zf a with
 |false=>rw[h1]at h;exact h
 |true=>
  rw[h1]at h e;have f:=l h1;subst f;simp only[cond_true,Cc]at h e ⊢;cases h3:Zf b with
  |false=>rw[h3]at h;exact h
  |true=>rw[h3]at h e;rw[cond_true,e rfl];exact h
end
end Go.X
end
section
namespace Go.X
open Go Go.X Go.Proofs Go.RowKit
section
variable {gl:Fr} {R:Bool -> Prop}
theorem qkc{a b:List Bt}(s:a.length<=1000000)(n:∀r,(r=Ta↔a=b)->R r):PC Tp gl 190 [Arg.mk (.row .str) a,Arg.mk (.row .str) b] [.bool] R:=by
 apply Qc;refine⟨λm=>n _ ⟨λh=>(by cases h),λh=>by subst h;simp at m⟩,λm=>?_⟩;have m:(a.length:Int)=b.length:=by simpa using m
 have f:a.length=b.length:=by omega
 refine⟨λi=>∃k:Nat,i=k/\k<=a.length/\∀i (h1:i<a.length) (p:i<b.length),i<k->a[i]=b[i],λi=>a.length-i.toNat,⟨0,rfl,AW _,λi _ _ h=>by omega⟩,?_⟩;rintro i ⟨k,rfl,q,o⟩;refine⟨λc=>?_,λc=>?_⟩;have c:k<a.length:=by have:=ltT c;omega
 rw[jc c (by omega)];refine⟨a[k],⟨by omega,by rw[Ag,Ak c]⟩,b[k],⟨by omega,by rw[Ag,Ak (by omega)]⟩,λl=>n _ ⟨λh=>(by cases h),λh=>?_⟩,λl=>⟨⟨k+1,rfl,c,λi h1 p t=>?_⟩,by simp only[Ag];omega⟩⟩;subst h;simp at l;by_cases e:i=k;subst e;rw[ze0]at l;simpa using l;exact o i h1 p (by omega);have c:k=a.length:=by have:=ltF c;omega
 exact n _ ⟨λ_=>zug f (Nat.le_of_eq c.symm) o,λ_=>rfl⟩
theorem qkd{a b:List Int}(s:a.length<=1000000)(n:∀r,(r=Ta↔a=b)->R r):PC Tp gl 191 [Arg.mk (.row (.int .i64)) a,Arg.mk (.row (.int .i64)) b] [.bool] R:=by
 apply Xg;refine⟨λl=>n _ ⟨λh=>(by cases h),λh=>by subst h;simp at l⟩,λl=>?_⟩;have l:(a.length:Int)=b.length:=by simpa using l
 have f:a.length=b.length:=by omega
 refine⟨λi=>∃k:Nat,i=k/\k<=a.length/\∀i (h1:i<a.length) (p:i<b.length),i<k->a[i]=b[i],λi=>a.length-i.toNat,⟨0,rfl,AW _,λi _ _ h=>by omega⟩,?_⟩;rintro i ⟨k,rfl,q,o⟩;refine⟨λc=>?_,λc=>?_⟩;have c:k<a.length:=by have:=ltT c;omega
 rw[jc c (by omega)];refine⟨a[k],⟨by omega,by rw[Ag,Ak c]⟩,b[k],⟨by omega,by rw[Ag,Ak (by omega)]⟩,λm=>n _ ⟨λh=>(by cases h),λh=>?_⟩,λm=>⟨⟨k+1,rfl,c,λi h1 p t=>?_⟩,by simp only[Ag];omega⟩⟩;subst h;simp at m;by_cases e:i=k;subst e;simpa using m;exact o i h1 p (by omega);have c:k=a.length:=by have:=ltF c;omega
 exact n _ ⟨λ_=>zug f (Nat.le_of_eq c.symm) o,λ_=>rfl⟩
theorem z97{a b:List Bt×List Int}(h1:a.1.length<=1000000)(l:a.2.length<=1000000)(k:∀r,(r=Ta↔a=b)->R r):PC Tp gl 106 [Arg.mk (.pair (.row .str) (.row (.int .i64))) a,Arg.mk (.pair (.row .str) (.row (.int .i64))) b] [.bool] R:=by apply zt6;refine qkc h1 λr e=>⟨λh=>(h=Ta↔a.2=b.2),λ_=>qkd l λr e=>e,λh c=>k _ ?_⟩;rw[qk3,e];constructor;rintro⟨f,i⟩;exact Prod.ext f ((c (e.2 f)).1 i);rintro rfl;exact⟨rfl,(c (e.2 rfl)).2 rfl⟩
theorem zul(v:Tr):(j5 v).1.1.length<=512/\(j5 v).1.2.length<=512:=by unfold j5;split;split;exact⟨AW _,AW _⟩;rename_i h;have:=Za (ze v) 0;unfold unz;simp only[Ap];omega;exact⟨AW _,AW _⟩
theorem ze2{v:Tr}{t:List Bt×List Int}(h:j5 v=(t,0)):J0 (ze v) t:=by unfold j5 at h;split at h;rename_i b;split at h;have:=congrArg Prod.snd h;exact absurd this (show¬(6:Int)=0 by decide);rename_i c;have:=congrArg D3 h;rw[<-show unz (Zj (ze v) 0)=t from this];exact z9s b (by omega);have:=congrArg Prod.snd h;exact absurd this (show¬(1:Int)=0 by decide)
theorem z98{w:Tr}{t:List Bt×List Int}(h:J0 w t):j5 w=(t,0):=by obtain⟨h1,b,c,rfl⟩:=h;unfold j5;rw[if_pos h1,b,if_neg (by omega)]
set_option maxRecDepth 100000 in
set_option maxHeartbeats 4000000 in
theorem znw(hg:GL gl)(hb:Brn gl){t:List Bt×List Int}(hs:∀s∈t.1,s.size<=65536){R:Tr×Bool->Prop}(hT:∀w,J0 w t->R (w,Ta))(hF:(∀w,¬J0 w t)->R (noT,Tc)):PC Tp gl 44 [Arg.mk (.pair (.row .str) (.row (.int .i64))) t] [.tree,.bool] R:=by
 intro h M vs hM ag ha
 match vs,ha with
 |[u],⟨hu,_⟩=>
  obtain⟨s1,s2,rfl,r1,r2⟩:=qk2 (show RdV M (.pair (.row .str) (.row (.int .i64))) t u from hu);apply PX.of;obtain⟨l1,_,_⟩:=rowLen r1;obtain⟨l2,_,_⟩:=rowLen r2;apply zqe s1 s2;intro F;have k1:Keep h.size h F:=Keep.push _ _ (Ab _);have z1:F.size=h.size+1:=Aj _;have B1:Blk F h.size #[slV s1,slV s2]:=Blk.new _ _ _;clear_value F;intro g2;have k2:Keep F.size F g2:=Keep.push _ _ (Ab _);have z2:g2.size=F.size+1:=Aj _;have R2:Blk g2 F.size #[.int .i64 0,.string ⟨#[]⟩,.slice Te 0 0,.slice Te 0 0]:=Blk.new _ _ _;clear_value g2;have B2:=B1.ofKeep k2;have L2:Later h M g2 M:=Later.same ag (k1.trans k2 (by omega));have done:∀(g:zb) (M':Fr) (x:Tr) (b:Bool) (xk xi:Sl),Later g2 M g M'->RdV M' .tree x (.agg #[.int .i64 x.kind,.string x.text,slV xk,slV xi])->R (x,b) ->
    XRunU Tp (Af 26 (.pointer (Td ⟨F.size,0,Te⟩)) (.agg #[.int .i64 x.kind,.string x.text,slV xk,slV xi])) g λg'=>∃(y1:Int) (y2:Bt) (y3 y4:Sl),zd g' ⟨F.size,0,Te⟩ 0 [.int .i64 y1,.string y2,slV y3,slV y4]/\∃M2 q,Later h M g' M2/\Y3 M2 [.tree,.bool] q (.tuple #[.agg #[.int .i64 y1,.string y2,slV y3,slV y4],.bool b])/\R q:=by
   intro g M' x b xk xi L rx hr;have nR:M' F.size=Te:=by rw[L.old _ (by omega)];exact ag.none (by omega)
   exact j4 (R2.keep (L.keep.get _ (by omega))) λg' f z B=>⟨_,_,xk,xi,B.ld (cs:=[_,_,slV xk,slV xi]),M',(x,b),Later.stay (L2.trans L) (by omega) nR f z,qk4 rx,hr⟩
  have bad:∀(g:zb) (M':Fr),Later g2 M g M'->(∀w,¬J0 w t)->XRunU Tp (Af 26 (.pointer (Td ⟨F.size,0,Te⟩)) (.agg #[.int .i64 0,.string ⟨#[]⟩,.slice Te 0 0,.slice Te 0 0])) g λg'=>∃(y1:Int) (y2:Bt) (y3 y4:Sl),zd g' ⟨F.size,0,Te⟩ 0 [.int .i64 y1,.string y2,slV y3,slV y4]/\∃M2 q,Later h M g' M2/\Y3 M2 [.tree,.bool] q (.tuple #[.agg #[.int .i64 y1,.string y2,slV y3,slV y4],.bool Tc])/\R q:=λg M' L hn=>done g M' noT Tc ⟨Te,0,0⟩ ⟨Te,0,0⟩ L zzj (hF hn);refine⟨s1,s2,B2.ld (cs:=[slV s1,slV s2]),?_⟩;refine(zgf (gl:=gl) (t:=t) (R:=λr=>r=if yb t=Ta then(zbv t.2,Ta)else([],Tc)) rfl).go (vs:=[.agg #[slV s1,slV s2]]) hM L2.ag (qb (a:=Arg.mk (.pair (.row .str) (.row (.int .i64))) t) (Y8 r1 r2) qq) λw l I r Y U hr=>?_;subst hr;obtain⟨sp,rfl,rp⟩:=qmy U;have z6:=Y.keep.size;have B6:=B2.keep (Y.keep.get h.size (by omega));refine⟨sp,_,rfl,s2,λ_=>B6.cellAdd (o:=0) (k:=1) rfl,?_⟩;by_cases C:¬(yb t=Ta/\0<t.2.length);have ai:(bif (!(if yb t=Ta then(zbv t.2,Ta)else([],Tc)).2)then Ta else(((sp.len:Nat):Int)==0))=Ta:=by
   have hl:=(rowLen rp).1;cases hr:yb t with
   |false=>rfl
   |true=>
    rw[hr]at hl;simp only[if_true,wj]at hl;have:t.2.length=0:=by rcases CX t.2.length with h|h;exact h;exact absurd ⟨hr,h⟩ C
    rw[hl,this];rfl
  rw[ai];refine⟨⟨0,0,Te⟩,λhx=>(by cases hx),0,λhx=>(by cases hx),λ_=>?_,λhx=>(by cases hx)⟩;exact bad l I Y λw Z=>C ⟨(jy Z hs).1,(jy Z hs).2.1⟩;obtain⟨hr,bE⟩:=Classical.not_not.1 C;obtain⟨q1,q2,q3⟩:=za3 hr;have P:t.2.length-1<t.2.length:=by omega
  rw[if_pos hr]at rp ⊢;have hl:=(rowLen rp).1;rw[wj]at hl;have aP:Aa .i64 (((sp.len:Nat):Int)-1)=((t.2.length-1:Nat):Int):=by rw[wrap64 (by omega) (by omega)];omega
  have a6:(bif (!(zbv t.2,Ta).2)then Ta else(((sp.len:Nat):Int)==0))=Tc:=by show(((sp.len:Nat):Int)==0)=Tc;rw[beq_eq_false_iff_ne];omega
  rw[a6,aP];obtain⟨b2,o2,e3,e4⟩:=zp0 Y.ag (r2.mono Y.le) (k:=t.2.length-1) P;have hx:t.2[t.2.length-1]=lfN t.2 (t.2.length-1):=by unfold lfN;rw[A6,Ak P];rfl
  rw[hx]at e4;refine⟨⟨b2,o2,Te⟩,λ_=>⟨e3,by omega,by omega⟩,lfN t.2 (t.2.length-1),λ_=>by rw[qd,Ag];exact e4,λy=>?_,λy=>?_⟩;refine bad l I Y λw Z=>?_;have:=(jy Z hs).2.2.1;rw[this]at y;simp at y;have bj:lfN t.2 (t.2.length-1)=0:=by simpa using y
  refine⟨s1,s2,B6.ld (cs:=[slV s1,slV s2]),?_⟩;rw[hl];refine mkZ (E:=qmx) rfl (by omega) (by omega) ⟨⟨Td ⟨l.size,0,Te⟩,t.2.length,t.2.length⟩,rfl,(Keep.push l _ (Ab _)).get h.size (by omega),?_⟩;have aC:Keep l.size l (l.push (.cells (BC t.2.length (C8 Te 0 0)).toArray 59)):=Keep.push _ _ (Ab _);have bA:(l.push (.cells (BC t.2.length (C8 Te 0 0)).toArray 59)).size=l.size+1:=Aj _;have aN:Blk (l.push (.cells (BC t.2.length (C8 Te 0 0)).toArray 59)) l.size (BC t.2.length (C8 Te 0 0)).toArray:=Blk.new _ _ _;generalize (l.push (.cells (BC t.2.length (C8 Te 0 0)).toArray 59))=g20 at aC bA aN ⊢;intro V;have aI:Keep g20.size g20 V:=Keep.push _ _ (Ab _);have bH:V.size=g20.size+1:=Aj _;have bq:Blk V g20.size #[slV s1,slV s2,slV ⟨Td ⟨l.size,0,Te⟩,t.2.length,t.2.length⟩]:=Blk.new _ _ _;clear_value V;have br:Later l I V I:=Later.same Y.ag (aC.trans aI (by omega));have nk:I l.size=Te:=Y.ag.none (Ab _);have nr:I g20.size=Te:=Y.ag.none (by omega);refine⟨λi g=>∃(m:Nat) (ss:List Sl) (bf:Nat->List Nat),i=(m:Int)/\m<=t.2.length/\KdS (g20.size+1) l I l.size g20.size s1 s2 ⟨Td ⟨l.size,0,Te⟩,t.2.length,t.2.length⟩ g I (zlj t.2 m) ss bf,λi _=>t.2.length-i.toNat,⟨0,BC t.2.length ⟨Te,0,0⟩,λ_=>[],rfl,AW _,⟨br,?_,bq,by rw[ze1,Co],λi hi hi2=>?_,λi j _ _ _ c y=>(by cases y),Ab _,by omega,Nat.lt_succ_self _,by omega,nk,nr⟩⟩,?_⟩;have:(BC t.2.length (⟨Te,0,0⟩:Sl)).map slV=BC t.2.length (C8 Te 0 0):=by rw[List.map_replicate];rfl
  rw[this];exact aN.ofKeep aI;have e:(zlj t.2 0)[i]=[]:=by have:=z9u t.2;simp only[this,List.getElem_replicate]
  rw[e,List.getElem_replicate];exact ORow.nil;rintro i g ⟨m,ss,bf,rfl,hm,S⟩;have kl:=ze1 t.2 m;refine⟨λy=>?_,λy=>?_⟩;have A:m<t.2.length:=by have:=ltT y;omega
  obtain⟨b3,o3,e5,e6⟩:=zp0 S.L.ag (rp.mono S.L.le) (k:=m) (by rw[wj];exact A);have be:(zbv t.2)[m]'(by rw[wj];exact A)=Y9 t.2 t.2.length m:=by have:=zim (L:=t.2) A;rw[Ak (by rw[wj];exact A)]at this;exact Az this
  rw[be]at e6;have ar:=jc A (by omega);refine⟨⟨b3,o3,Te⟩,⟨e5,by omega,by omega⟩,Y9 t.2 t.2.length m,by rw[qd,Ag];exact e6,λhp=>?_,λhp=>?_⟩;have hp:=of_decide_eq_true hp;obtain⟨u,hu,aJ⟩:∃u:Nat,Y9 t.2 t.2.length m=(u:Int)/\u<t.2.length:=by rcases qz t.2 t.2.length m with⟨e,_⟩|⟨p,e,p1,p2,_⟩;omega;exact⟨p,e,p2⟩
  have ap:u<(zlj t.2 m).length:=by rw[kl];exact aJ
  have aE:u<ss.length:=by rw[S.ln,kl];exact aJ
  have ay:zc g ((⟨l.size,0,Te⟩:Addr).add (u*1))=Td (slV ss[u]):=by rw[qd];exact S.kbk.cell (by simp[aE])
  rw[hu];refine⟨⟨g20.size,0,Te⟩,rfl,_,S.rbk.cellAdd (o:=0) (k:=2) rfl,⟨g20.size,0,Te⟩,rfl,_,S.rbk.cellAdd (o:=0) (k:=2) rfl,⟨l.size,0,Te⟩,⟨rfl,by omega,by show(u:Int)<((t.2.length:Nat):Int);omega⟩,ss[u],by rw[Ag];exact ay,?_⟩;intro G;have aL:Keep g.size g G:=Keep.push _ _ (Ab _);have bL:G.size=g.size+1:=Aj _;have aO:Blk G g.size #[.int .i64 (m:Int)]:=Blk.new _ _ _;have bg:KdS (g20.size+1) l I l.size g20.size s1 s2 ⟨Td ⟨l.size,0,Te⟩,t.2.length,t.2.length⟩ G I (zlj t.2 m) ss bf:=S.push _;clear_value G;have bN:=S.lg;have er:G[g20.size]?=g[g20.size]?:=aL.get _ (by omega);refine⟨by rw[qd];exact aL.get l.size (by omega),er,er,?_⟩;have bG:=z9x (L:=t.2) (m:=m) _ (AE ap);refine XRun.mono (bg.add ap aE (by omega) aO (Q:=λg'=>(∃(m2:Nat) (ss:List Sl) (bf:Nat->List Nat),Aa .i64 ((m:Int)+1)=(m2:Int)/\m2<=t.2.length/\KdS (g20.size+1) l I l.size g20.size s1 s2 ⟨Td ⟨l.size,0,Te⟩,t.2.length,t.2.length⟩ g' I (zlj t.2 m2) ss bf)/\t.2.length-(Aa .i64 ((m:Int)+1)).toNat<t.2.length-((m:Nat):Int).toNat) λg' s' aY S'=>⟨⟨m+1,_,aY,ar,A,by rw[z9w hu ap];exact S'⟩,by rw[ar];simp only[Ag];omega⟩) ?_;rintro v g37 ⟨z,rfl,fr,a1⟩;exact⟨z,rfl,⟨l.size,0,Te⟩,⟨rfl,by omega,by show(u:Int)<((t.2.length:Nat):Int);omega⟩,fr.trans er,by rw[Ag];exact a1⟩;have hp:=of_decide_eq_false hp;rw[ar];exact⟨⟨m+1,ss,bf,rfl,A,by rw[z9v (by omega)];exact S⟩,by simp only[Ag];omega⟩
  ·have aV:m=t.2.length:=by have:=ltF y;omega
   subst aV;obtain⟨M7,L7,bM,aT,aB⟩:=S.fin (by rw[kl];omega) λx hx=>by have:=z9x x hx;omega
   rw[kl,qcz]at aB;have aj:Later g2 M g M7:=Y.trans L7;have ST:RdrS M7 g20.size t.1 t.2 s1 s2 ⟨Td ⟨l.size,0,Te⟩,t.2.length,t.2.length⟩:=⟨aT,r1.mono aj.le,aB⟩;refine(zwu hg hb (rb:=g20.size) (Ls:=t.1) (L:=t.2) q1 q2 q3 t.2.length (t.2.length-1) P P g M7 (hM.trans aj.le) L7.ag ST).go λw bu bz r ak U J=>?_;obtain⟨aG,_⟩:=(z9p (Ls:=t.1) q3 q2 t.2.length (t.2.length-1) P).1;rw[<-J]at aG;obtain⟨yk,yi,rfl,aH⟩:=z1t U;refine⟨_,_,yk,yi,_,rfl,?_⟩;intro bP;refine Zb ak.ag λbn az bJ aA=>?_;refine⟨_,_,yk,yi,aA.ld (cs:=[_,_,slV yk,slV yi]),?_⟩;have af:Later g2 M bn bz:=aj.trans (ak.trans az);refine(zqo hg hb aG (R:=λq=>q=j5 r.1) rfl).go (vs:=[.agg #[.int .i64 r.1.kind,.string r.1.text,slV yk,slV yi]]) (hM.trans af.le) az.ag (qb (a:=Arg.mk .tree _) aH qq) λw N O fr D an aa=>?_;obtain⟨f1,f2,rfl,bC,aS⟩:=qed an;refine⟨f1,f2,_,rfl,?_⟩;intro ab;have a8:Keep N.size N ab:=Keep.push _ _ (Ab _);have bI:ab.size=N.size+1:=Aj _;have bm:Blk ab N.size #[.slice Te 0 0,.slice Te 0 0]:=Blk.new _ _ _;clear_value ab;refine zqn bm λae f60 ba bD=>?_;have H:Later N O ae O:=Later.stay (Later.same D.ag a8) (Ab _) (D.ag.none (Ab _)) f60 ba;have n:Later g2 M ae O:=af.trans (D.trans H);have bF:=ak.keep.size;have bO:=D.keep.size;have Bt:Blk ae h.size #[slV s1,slV s2]:=B2.keep (n.keep.get _ (by omega));have aU:=zul r.1;rw[<-aa]at aU;have ax:=z97 (gl:=gl) (a:=fr.1) (b:=t) (by omega) (by omega) (R:=λq=>(q=Ta↔fr.1=t)) λq hq=>hq;refine⟨f1,f2,λ_=>bD.ld (cs:=[slV f1,slV f2]),s1,s2,λ_=>Bt.ld (cs:=[slV s1,slV s2]),λv g'=>∃M',Later ae O g' M'/\∃b,v=.bool b/\(b=Ta↔fr.1=t),λ_=>?_,λ_=>⟨decide (fr.1=t),O,Later.refl H.ag,_,rfl,decide_eq_true_iff⟩,λ_ v g' hv=>?_,?_⟩;refine ax.go (vs:=[.agg #[slV f1,slV f2],.agg #[slV s1,slV s2]]) (hM.trans n.le) H.ag (qb (a:=Arg.mk (.pair (.row .str) (.row (.int .i64))) _) (Y8 bC aS) (qb (a:=Arg.mk (.pair (.row .str) (.row (.int .i64))) _) (Y8 (r1.mono n.le) (r2.mono n.le)) qq)) λw bQ bB q aZ au hq=>?_;exact⟨q,zib au,bB,aZ,q,by rfl,hq⟩;obtain⟨M',_,b,e,_⟩:=hv;exact⟨b,e⟩;rintro b g66 ⟨aM,am,b',e,aF⟩;cases e;have ah:=n.trans am;refine⟨λy=>?_,λy=>?_⟩;refine bad g66 aM ah λw Z=>?_;obtain⟨_,_,_,p1,_⟩:=jy Z hs;rw[p1]at J;subst J;rw[z98 Z]at aa;subst aa;have:b=Ta:=aF.2 rfl;subst this;simp at y
   ·have aQ:Blk g66 bu.size #[.int .i64 r.1.kind,.string r.1.text,slV yk,slV yi]:=(aA.keep ((D.trans H).keep.get _ (by omega))).keep (am.keep.get _ (by have:=H.keep.size;omega));refine⟨_,_,yk,yi,aQ.ld (cs:=[_,_,slV yk,slV yi]),?_⟩;rw[qhl,qhl]at y;obtain⟨⟨c1,c2⟩,c3⟩:=y;have c1:r.2=Ta:=by simpa using c1
    have c2:fr.2=0:=by simpa using c2
    have c3:b=Ta:=by simpa using c3
    have c4:=aF.1 c3;have Z:J0 (ze r.1) t:=ze2 (by rw[<-aa,<-c4,<-c2]);obtain⟨_,_,_,p1,_⟩:=jy Z hs;have a7:r.1=ze r.1:=by rw[p1]at J;exact congrArg D3 J
    refine done g66 aM r.1 Ta yk yi ah (aH.mono (az.le.trans (D.le.trans (H.le.trans am.le)))) ?_;rw[a7];exact hT _ Z
end
end Go.X
end
section
namespace Go.X
open Go Go.Proofs Go.Shelf Go.RowKit
section
def zqu:Go.Shelf.Ren:=⟨fun|189=>108|125=>193|257=>192|128=>251|129=>252|294=>242|295=>243|296=>244|297=>245|298=>246|299=>247|216=>248|300=>249|301=>250|328=>285|329=>286|330=>287|331=>288|332=>289|215=>290|343=>314|n=>n,fun|28=>59|3=>3|46=>177|0=>0|51=>236|53=>238|4=>4|183=>256|182=>255|131=>42|5=>5|9=>9|218=>281|222=>285|228=>297|229=>298|n=>n,fun|n=>n⟩
theorem zum:Go.Proofs.Lays.n189 Tp zqu:=by constructor <;> intros <;> kernel_rfl
open Go.Sort Go.RowKit in
theorem zgk(blk off cap:Nat)(c:List Int)(w:World)(h:Holds (Bn .i64) w blk off c.toArray)(b:blk<w.heap.size)(f:c.length<4611686018427387904):
  Calls Tp 108 #[.slice (Td ⟨blk,off,Te⟩) c.length cap] w λe w'=>
   e=.returned (.tuple #[])/\∃n os,w'=grow (putRow (Bn .i64) (Sort.ahead w n) blk off (c.mergeSort λx y=>decide (x<=y)).toArray) os:=Any.slices_Sort_int zum blk off cap c w h b f
open Go.RowKit Go.Sort in
theorem X0(p:Option Addr)(cap:Nat)(w:World): Calls Tp 108 #[.slice p 0 cap] w λe w'=>e=.returned (.tuple #[])/\w'=w:=Any.slices_Sort_int_none zum p cap w
end
end Go.X
end
section
namespace Go.X
open Go Go.X Go.Proofs Go.RowKit Go.Sort Go.Shelf
section
variable {h:zb} {s:Sl}
theorem bsI{x:Int}{K:Value->zb->Prop}:bsR Tp 59 1 (.int .i64 x) h K=K (.slice (Td ⟨h.size,0,Te⟩) 1 1) (h.push (.cells #[.int .i64 x] 3)):=by kernel_rfl
theorem mapII:MapTI Tp 142 3 3:=⟨by kernel_rfl,by kernel_rfl⟩
theorem z99{base:Nat}{xs:List Int}(H:Owns h base 3 1 s (xs.map (Bn .i64))):s.len=xs.length:=by have:=H.length;simp at this;omega
theorem z1v{base:Nat}{xs:List Int}(H:Owns h base 3 1 s (xs.map (Bn .i64)))(r:xs.length<=1000000):
  XC Tp 108 #[.slice s.a s.len s.cap] h λv h'=>v=.tuple #[]/\Owns h' base 3 1 s ((xs.mergeSort λx y=>decide (x<=y)).map (Bn .i64))/\h.size<=h'.size/\∀i,i<h.size->(∀p,s.a=Td p->i≠p.block)->h'[i]?=h[i]?:=by
 refine XC.of_below λB d=>?_;have f:s.len=xs.length:=z99 H;rcases H.2 with⟨l,h0⟩|⟨g,cap,k,l,q,E,G,F,D,A⟩;have I:xs=[]:=AO (by omega);subst I;rw[h0];refine(X0 s.a s.cap (mk B d h)).mono ?_;rintro e w' ⟨rfl,rfl⟩;exact⟨_,rfl,rfl,rfl,rfl,rfl,by rw[List.mergeSort_nil];exact H,Ab _,λ_ _ _=>rfl⟩;simp only[AP]at l;obtain⟨t,_,rfl⟩:=l;have c:(mk B d h).heap[g]?=Td (.cells k 3 (0,0)):=E;have o:g<(mk B d h).heap.size:=(An.1 c).1;have C:Holds (Bn .i64) (mk B d h) g 0 xs.toArray:=holds_of_blockI c (by rw[<-f];simpa using A);have u:=zgk g 0 s.cap xs (mk B d h) C o (by omega);rw[<-f]at u;rw[t];refine u.mono ?_;rintro e w' ⟨rfl,n,os,rfl⟩;have b:=grownBy_sortedI (w:=mk B d h) (g:=g) (n:=n) (os:=os) (xs.mergeSort λx y=>decide (x<=y)).toArray;refine⟨_,rfl,b.os,b.tape,b.output,rfl,?_,b.size,λi hi m=>b.block i hi λe=>m _ rfl (by simpa using e)⟩;have z:=ownsRow_sortedI (w:=mk B d h) (base:=base) (n:=n) (os:=os) (ss:=xs) (ts:=xs.mergeSort λx y=>decide (x<=y)) (by simp) q c (by rw[<-f];exact G) F (by simpa using D);rw[<-f]at z;show World.ownsRow _ base _ 1 (.slice s.a s.len s.cap) s.len _;rw[t];exact z
theorem Owns.frzI{h g:zb}{M M':Fr}(L:Later h M g M'){ks:List Int}{base:Nat}(o:Owns g base 3 1 s (ks.map (Bn .i64)))(z:h.size<=base)(C:ks.length<=1000000):
  ∃m,Later h M g m/\Rd m (.row (.int .i64)) ks [slV s]:=by
 have u:=z99 o;rcases o.2 with⟨k,h0⟩|⟨b,cap,f,k,t,w,E,D,B,p⟩;have y:ks=[]:=AO (by omega);subst y;simp only[AP]at k;refine⟨M',L,⟨_,rfl,s.a,s.cap,?_,⟨by simp,by simp⟩,.inl rfl⟩⟩;show slV s=_;unfold slV;rw[h0];rfl;simp only[AP]at k;obtain⟨r,_,n⟩:=k;have x:Blk g b f:=⟨_,w⟩;refine⟨MxL M' g [b],Later.own L (λc n=>by rw[AY.1 n];omega),⟨_,rfl,s.a,s.cap,?_,⟨by omega,by omega⟩,.inr ⟨b,0,f,r,MxL.at (by simp) x,λi hi=>?_⟩⟩⟩;show slV s=_;unfold slV;rw[u];show cut f (0+i*1) 1=[.int .i64 ks[i]];refine zaw rfl λq A=>?_
 have l:q=0:=by omega
 subst l;have e:(f.toList.take (s.len*1))[i]?=(ks.map (Bn .i64))[i]?:=by rw[p]
 rw[AK,if_pos (by omega)]at e;rw[show 0+i*1+0=i from by omega,e];simp[hi]
theorem qc1{L:List Int}{xs:List Nat}(h:xs.Perm (z1o L)):((xs.map λi:Nat=>(i:Int)).mergeSort λx y=>decide (x<=y))=(z1o L).map λi:Nat=>(i:Int):=by refine List.Perm.eq_of_pairwise (le:=λa b:Int=>decide (a<=b)=Ta) (λa b _ _ h1 e=>?_) (List.pairwise_mergeSort (λa b c h1 e=>?_) (λa b=>?_) _) (List.pairwise_map.2 ((zk4 L).imp λh=>decide_eq_true (by omega))) ((List.mergeSort_perm _ _).trans (h.map _));have:=of_decide_eq_true h1;have:=of_decide_eq_true e;omega;have:=of_decide_eq_true h1;have:=of_decide_eq_true e;exact decide_eq_true (by omega);rw[BK,decide_eq_true_eq,decide_eq_true_eq];omega
set_option maxRecDepth 100000 in
set_option maxHeartbeats 2000000 in
theorem zlc{gl:Fr}{t:List Bt×List Int}{R:List Int->Prop}(P:R (if yb t=Ta then(z1o t.2).map (λi:Nat=>(i:Int))else [])):PC Tp gl 53 [Arg.mk (.pair (.row .str) (.row (.int .i64))) t] [.row (.int .i64)] R:=by
 intro h M vs hM ag ha
 match vs,ha with
 |[u],⟨hu,_⟩=>
  obtain⟨s1,s2,rfl,r1,r2⟩:=qk2 (show RdV M (.pair (.row .str) (.row (.int .i64))) t u from hu);apply PX.of;obtain⟨l2,_,_⟩:=rowLen r2;apply zhu s1 s2;intro h1;have L1:Later h M h1 M:=Later.push ag _;have z1:h1.size=h.size+1:=Aj _;have B1:Blk h1 h.size #[slV s1,slV s2]:=Blk.new _ _ _;clear_value h1;refine⟨s1,s2,B1.ld (cs:=[slV s1,slV s2]),?_⟩;refine(zgj (gl:=gl) (t:=t) (R:=λr=>r=yb t) rfl).go (vs:=[.agg #[slV s1,slV s2]]) hM L1.ag (qb (a:=Arg.mk (.pair (.row .str) (.row (.int .i64))) t) (Y8 r1 r2) qq) λw l S r Z Y hr=>?_;subst hr;have H:=L1.trans Z;have z5:=Z.keep.size;refine⟨_,zib Y,λf=>?_,λf=>?_⟩;have f:yb t=Tc:=by simpa using f
  rw[f]at P;exact⟨S,[],H,Xl.2 ((zfs rfl).2 (zf6 (T:=.int .i64))),P⟩;have f:yb t=Ta:=by simpa using f
  rw[f,if_pos rfl]at P;obtain⟨q1,q2,q3⟩:=za3 f;obtain⟨L,hL⟩:∃L,L=t.2:=⟨_,rfl⟩;rw[<-hL]at P q2 q3 r2 l2;intro C;have k7:Keep l.size l C:=Keep.push _ _ (Ab _);have z7:C.size=l.size+1:=Aj _;have W7:MapW C l.size []:=MapW.new _;clear_value C;have B7:Blk C h.size #[slV s1,slV s2]:=(B1.keep (Z.keep.get _ (by omega))).ofKeep k7;refine⟨s2,B7.cellAdd (o:=0) (k:=1) rfl,λi g=>∃m:Nat,i=(m:Int)/\m<=L.length/\g.size=C.size/\(∀j,j≠l.size->g[j]?=C[j]?)/\MapW g l.size (z9d ((zgg L m).map (zue L))),λi _=>L.length-i.toNat,⟨0,rfl,AW _,rfl,λ_ _=>rfl,W7⟩,?_⟩;rintro i g ⟨m,rfl,hm,zg,fg,W⟩;have kg:Keep l.size l g:=⟨by omega,λj B=>by rw[fg j (by omega)];exact k7.get j B⟩;have Lg:Later l S g S:=Later.same Z.ag kg;refine⟨λE=>?_,λE=>?_⟩;have s:m<L.length:=by have:=ltT E;omega
  obtain⟨b,o,e1,e2⟩:=zp0 Lg.ag (r2.mono H.le) (k:=m) s;have hv:L[m]=lfN L m:=by unfold lfN;rw[A6,Ak s];rfl
  rw[hv]at e2;refine⟨⟨b,o,Te⟩,⟨e1,by omega,by omega⟩,lfN L m,by rw[qd,Ag];exact e2,?_⟩;refine qcr mapII W (lfN L m) (.int .i64 (m:Int)) λg' W' z' f'=>⟨⟨m+1,by rw[jc s (by omega)],s,by omega,λj B=>(f' j B).trans (fg j B),?_⟩,by rw[jc s (by omega)];simp only[Ag];omega⟩;rw[zuf]at W';exact W';have ai:m=L.length:=by have:=ltF E;omega
  subst ai;obtain⟨O,y⟩:=Xh L L.length;have G:((z9d ((zgg L L.length).map (zue L))).map (·.1))=((zgg L L.length).map (lfN L)).map (Bn .i64):=by unfold z9d;rw[A7,A7,A7];rfl
  have am:((z9d ((zgg L L.length).map (zue L))).map (·.1)).Nodup:=by rw[G];exact Df.map _ (λa b an e=>an (by injection e)) O
  refine zp2 mapII.map W λah ar af U=>⟨Td ⟨g.size,0,Te⟩,rfl,?_⟩;have ae:Keep l.size l ah:=kg.trans af (by omega);refine⟨λout A=>∃xs:List Nat,xs.Nodup/\(∀x∈xs,x∈zgg L L.length)/\MapIt A g.size l.size (z9d ((zgg L L.length).map (zue L))) (xs.reverse.map λi=>Bn .i64 (lfN L i))/\Owns A (g.size+1) 3 1 out ((xs.map λi:Nat=>(i:Int)).map (Bn .i64))/\g.size+1<=A.size/\Keep l.size l A,λ_ A=>leftN A g.size l.size,⟨[],C0,λx f=>(by cases f),U,Owns.nil _ _ _ _,by omega,ae⟩,?_⟩;rintro out A ⟨xs,F,z,it,o,au,V⟩;have ax:xs.length<=L.length:=by have:=zlb (xs:=xs) (ys:=Bj L.length) F λx f=>AU.2 ((y x).1 (z x f)).1;rwa[C3]at this
  refine zwl it am (by omega) (λN=>.inl ⟨rfl,(λE=>(by cases E)),λ_=>?_⟩) λk v D hk q aj ab z3 f3 aa=>.inr ⟨k,v,rfl,λ_=>zp3 ab ⟨k,v,rfl,?_⟩,λE=>(by cases E)⟩;have c:xs.Perm (z1o L):=by refine((List.perm_ext_iff_of_nodup F (zg9 O)).2 λp=>⟨z p,λc=>?_⟩).trans (zns L);have ap:=N (.int .i64 (lfN L p),.int .i64 (p:Int)) (by unfold z9d;rw[A7];exact AJ.2 ⟨p,c,rfl⟩);obtain⟨x,f,e⟩:=AJ.1 ap;injection e with _ e;have f:=List.mem_reverse.1 f;obtain⟨a1,a2⟩:=(y x).1 (z x f);obtain⟨b1,b2⟩:=(y p).1 c;rcases Di x p with h|h|h;exact absurd e.symm (a2 p h b1);rw[<-h];exact f;exact absurd e (b2 x h a1)
  refine XC.mono (z1v o (by rw[Ap];omega)) ?_;rintro v g4 ⟨rfl,o4,z4,f4⟩;rw[qc1 c]at o4;have Lf:Later l S g4 S:=Later.same Z.ag ⟨by have:=V.size;omega,λj B=>by rw[f4 j (by have:=V.size;omega) λp c=>by have:=o.base_le p c;omega];exact V.get j B⟩;obtain⟨M6,L6,rd⟩:=Owns.frzI Lf o4 (by omega) (by rw[Ap,c.symm.length_eq];omega);exact⟨rfl,M6,_,H.trans L6,Xl.2 ((zfs rfl).2 rd),P⟩;obtain⟨i,hi,rfl,rfl⟩:∃i,i∈zgg L L.length/\k=.int .i64 (lfN L i)/\v=.int .i64 (i:Int):=by unfold z9d at D;rw[A7]at D;obtain⟨i,hi,e⟩:=AJ.1 D;injection e with e1 e2;exact⟨i,hi,e1.symm,e2.symm⟩
  have ak:i∉xs:=λhm=>hk (AJ.2 ⟨i,List.mem_reverse.2 hm,rfl⟩);rw[bsI];have I:Keep q.size q (q.push (.cells #[.int .i64 (i:Int)] 3)):=Keep.push _ _ (Ab _);have z8:(q.push (.cells #[.int .i64 (i:Int)] 3)).size=q.size+1:=Aj _;have V8:Blk (q.push (.cells #[.int .i64 (i:Int)] 3)) q.size #[.int .i64 (i:Int)]:=Blk.new _ _ _;generalize (q.push (.cells #[.int .i64 (i:Int)] 3))=h8 at I z8 V8 ⊢;have o3:Owns q (g.size+1) 3 1 out ((xs.map λi:Nat=>(i:Int)).map (Bn .i64)):=o.keep λp c=>f3 _ (by have:=o.base_le p c;omega);have J:=o3.keepN I;have hl:=z99 o;rw[Ap]at hl;refine zbb (z1i:ElemT _ _ _ _ 1 8) J (src:=⟨Td ⟨q.size,0,Te⟩,1,1⟩) (news:=[.int .i64 (i:Int)]) (n:=h8.size) ?_ rfl (by simp[Value.oneCell']) (by simp only;omega) (by simp only;omega) (by omega) λs' h4 p1 p2 Q p4 p5=>⟨s',rfl,⟨xs++[i],?_,?_,?_,?_,by omega,?_⟩,?_⟩;refine .inr ⟨q.size,0,rfl,by omega,λi v hv=>?_⟩
  match i,hv with
  |0,hv=>cases hv;exact V8.cell rfl
  rw[Cw];exact⟨F,by simp,λa ha b hb e=>by rw[AY]at hb;subst hb;subst e;exact ak ha⟩;intro x f;rcases Aw.1 f with h|h;exact z x h;rw[AY.1 h];exact hi;rw[List.reverse_append];refine aj.keep ?_ ?_;rw[Q _ (by omega) λp c=>by have:=J.base_le p c;omega];exact I.get _ (by omega);rw[Q _ (by omega) λp c=>by have:=J.base_le p c;omega];exact I.get _ (by omega);rw[Bh,Bh];exact p2;refine⟨by have:=V.size;omega,λj B=>?_⟩;rw[Q j (by omega) λp c=>by have:=J.base_le p c;omega,I.get j (by omega),f3 j (by omega)];exact V.get j B;show leftN h4 g.size l.size<leftN A g.size l.size;rw[leftN.keep (h:=q) ?_ ?_];exact aa;rw[Q _ (by omega) λp c=>by have:=J.base_le p c;omega];exact I.get _ (by omega);rw[Q _ (by omega) λp c=>by have:=J.base_le p c;omega];exact I.get _ (by omega)
end
end Go.X
end
