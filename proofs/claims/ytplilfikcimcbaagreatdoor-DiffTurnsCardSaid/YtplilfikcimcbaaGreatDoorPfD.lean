/- A part of the proof: nothing is stated here for its own sake. -/
import Derived.Test.YtplilfikcimcbaaGreatDoorPfC
import Derived.RangeFuncCalls
import Derived.Sort.KeysCollected
import Derived.Sort.OwnSortedInts
open _root_.Go.Addr renaming add->zab
open _root_.Array renaming getD_eq_getD_getElem?->zcb,getElem?_append_left->zdg,getElem?_eq_some_iff->zat,getElem?_push->ze0,getElem?_setIfInBounds_ne->zb4,getElem?_setIfInBounds_self_of_lt->zc2,push->zdd,replicate->zc4,size->zax,size_push->zaf,size_setIfInBounds->zbg,toList->zdu
open _root_.Bool renaming and_eq_true->zam,and_true->zfe,cond_false_right->zem,eq_iff_iff->zbe,not_eq_true'->zd4,or_eq_true->zeh,true_and->zct
open _root_.Go.Builtin renaming append_->zao,firstCells->zc3,lenOf->zfn,zeroCells->zb7
open _root_.Go.Code renaming cond->zfa,region->zfj
open _root_.Go.Deferred renaming ofValue->zev
open _root_.Go.Extern.AbiNoEscape renaming same->zfp
open _root_.Go.Instr renaming entry->zes,findNow->zc8,keyThatStays->zdy,makeSlice->zbp,mapUpdate->zcz,next->zdx,range->ze5,sameNow->ze2,storeAt->zag
open _root_.Int renaming toNat_natCast->zae
open _root_.Go.IntKind renaming wrap->zaa
open _root_.List renaming all_append->zei,all_cons->zdf,all_eq_true->za7,append_assoc->za9,append_nil->zbs,cons_append->zbz,drop_drop->zdh,drop_eq_getElem_cons->zbt,eq_nil_of_length_eq_zero->zbb,exists_cons_of_ne_nil->zcw,ext_getElem?->zbd,filter_cons->zed,flatMap_append->zdt,flatMap_cons->zcd,getD_eq_getElem?_getD->zar,getElem?_eq_getElem->zai,getElem?_eq_none->zby,getElem?_eq_some_iff->za5,getElem?_map->zcc,getElem?_take->zbk,getElem_append_left->zcp,getElem_append_right->zcx,getElem_map->zb3,getElem_mem->zak,length->zcf,length_append->zah,length_cons->zaw,length_drop->zb8,length_eq_zero_iff->zds,length_map->zap,length_nil->zb5,length_pos_iff->zb9,length_replicate->zdl,length_singleton->zcu,length_take->zbl,map_append->zbc,map_congr_left->zbx,map_cons->za1,map_id->zfl,map_map->zav,map_take->ze3,mem_append->zaj,mem_append_left->zau,mem_append_right->zbf,mem_cons->zan,mem_cons_of_mem->za3,mem_cons_self->za2,mem_filter->zbv,mem_flatMap->zbw,mem_iff_getElem->zdr,mem_map->zay,mem_of_getElem?->zcg,mem_range->zbn,mem_singleton->za6,nil_append->zck,nodup_append->zb2,nodup_cons->zbq,nodup_nil->zdq,pairwise_cons->zcy,range->zaq,range_succ->zej,replicate->zcv,take_append_drop->zca,take_append_of_le_length->zdp,take_length->zba,take_of_length_le->zbu,take_succ_cons->zea,take_succ_eq_append_getElem->zal,take_take->zet,take_zero->zeu,zip_cons_cons->zdc
open _root_.List.cons renaming injEq->zc9
open _root_.Nat renaming add_mul->zcs,add_zero->zew,blt_eq->zfc,eq_of_beq_eq_true->za4,le_of_ble_eq_true->zc0,le_of_lt->zey,le_refl->zac,le_trans->zch,lt_of_lt_of_le->zdb,lt_or_ge->zb0,min_eq_left->zda,mul_le_mul->zd0,mul_one->zbm,not_lt_zero->zc5,pow_succ->ze8,zero_add->zas,zero_le->za0
open _root_.Option renaming bind_some->zcr,map_eq_some_iff->zc6
open _root_.Option.some renaming injEq->zad
open _root_.Prod.mk renaming injEq->zci
open _root_.Go.Region renaming wanted->zbr
open _root_.Go.Proofs.Tryz renaming prog->zbj
open _root_.UInt8 renaming ofNat->zc7
open _root_.Go.Utf8 renaming decode->zfk
open _root_.Go.Value renaming int->zcn,slice->zfm,string->zaz
open _root_.Go.Value.slice renaming injEq->zbo
set_option linter.unusedVariables false
set_option maxRecDepth 100000
namespace Go.X
end Go.X
namespace Go.Proofs
end Go.Proofs
open Go Go.X Go.Proofs
open _root_.Bool renaming true->Ta,false->Tc
open _root_.Option renaming some->Td,none->Te
namespace Go.X
section
theorem W9(gl:Fr)(h:Tr)(b1:Tr)(R:Bool->Prop) (H:PC Tp gl 30 [] [.bool] (λa:Bool=>PC Tp gl 12 [Arg.mk .tree (Tr.mk h.kind h.text h.keys h.items),Arg.mk PJ 120] [.bool] (λb:Bool=>∃c:Bool->Prop,(b=Ta->PC Tp gl 12 [Arg.mk .tree (Tr.mk b1.kind b1.text b1.keys b1.items),Arg.mk PJ 120] [.bool] c)/\∀d:Bool,(b=Ta->c d)->((!(bif b then d else Tc))=Ta->R a)/\((!(bif b then d else Tc))=Tc->PC Tp gl 33 [Arg.mk .tree (Tr.mk h.kind h.text h.keys h.items),Arg.mk .tree (Tr.mk b1.kind b1.text b1.keys b1.items)] [.row (.pair .str (.pair (.row .str) (.pair (.row .str) .tree))),.int .i64] (λe:(List (Bt×(List Bt)×(List Bt)×Tr))×Int=>((e.2 != 0)=Ta->∃f:Bool->Prop,((bif a then((e.1.length:Int)==0)else Tc)=Ta->PC Tp gl 49 [Arg.mk .tree (Tr.mk h.kind h.text h.keys h.items)] [.bool] f)/\∀g:Bool,((bif a then((e.1.length:Int)==0)else Tc)=Ta->f g)->∃i:Bool->Prop,(((bif a then((e.1.length:Int)==0)else Tc)&&(!(!g)))=Ta->PC Tp gl 49 [Arg.mk .tree (Tr.mk b1.kind b1.text b1.keys b1.items)] [.bool] i)/\∀j:Bool,(((bif a then((e.1.length:Int)==0)else Tc)&&(!(!g)))=Ta->i j)->R (bif (bif a then((e.1.length:Int)==0)else Tc)then(bif (!g)then Ta else(!j))else Tc))/\((e.2 != 0)=Tc->PC Tp gl 50 [Arg.mk .tree (Tr.mk h.kind h.text h.keys h.items),Arg.mk (.row (.pair .str (.pair (.row .str) (.pair (.row .str) .tree)))) e.1] [.tree,.int .i64,.int .i64] (λk:Tr×Int×Int=>∃l:Bool->Prop,((bif (bif a then(k.2.2==0)else Tc)then(k.2.1==e.1.length)else Tc)=Ta->PC Tp gl 46 [Arg.mk .tree (Tr.mk k.1.kind k.1.text k.1.keys k.1.items),Arg.mk .tree (Tr.mk b1.kind b1.text b1.keys b1.items)] [.bool] l)/\∀m:Bool,((bif (bif a then(k.2.2==0)else Tc)then(k.2.1==e.1.length)else Tc)=Ta->l m)->R (bif (bif (bif a then(k.2.2==0)else Tc)then(k.2.1==e.1.length)else Tc)then m else Tc)))))))):
  PC Tp gl 10 [Arg.mk .tree h,Arg.mk .tree b1] [.bool] R:=
 PF ⟨[],[],[],[]⟩ [.tmp 4] 69 Tryz.func10 H
theorem V4(gl:Fr)(h:List (Bt×(List Bt)×(List Bt)×Tr))(R:(List Bt)->Prop) (H:∃(a:(List Bt)->Int->Prop) (b:(List Bt)->Int->Nat),a [] 0/\∀c:List Bt,∀d:Int,a c d->((decide (d<h.length)=Ta->∃e:Bt×(List Bt)×(List Bt)×Tr,(0<=d/\h[d.toNat]?=Td e)/\PC Tp gl 75 [Arg.mk (.row .str) e.2.1] [.str,.int .i64] (λf:Bt×Int=>((c.length+zcf ([f.1]:List Bt))*16<=140737488355328/\(a (c++[f.1]) (w6 (d+1))/\b (c++[f.1]) (w6 (d+1))<b c d))))/\(decide (d<h.length)=Tc->R c))):
  PC Tp gl 41 [Arg.mk (.row (.pair .str (.pair (.row .str) (.pair (.row .str) .tree)))) h] [.row .str] R:=
 PF ⟨[],[],[(3,⟨[(3,.one (.own 9 .str)),(10,.one (.dat PJ))],[],[],[100192,100640]⟩)],[]⟩ [.tmp 2] 26 Tryz.func41 H
theorem Ss(gl:Fr)(h:Bt×(List Bt)×(List Bt)×Tr)(R:Bool->Prop) (H:PC Tp gl 77 [Arg.mk .str h.1] [.bool,.bool,.bool] (λa:Bool×Bool×Bool=>∀b:Bool->Prop,(∀c:Bool,((c=Ta->R Tc)/\(c=Tc->(a.1=Ta->PC Tp gl 49 [Arg.mk .tree (Tr.mk h.2.2.2.kind h.2.2.2.text h.2.2.2.keys h.2.2.2.items)] [.bool] (λd:Bool=>R d))/\(a.1=Tc->PC Tp gl 79 [Arg.mk .tree (Tr.mk h.2.2.2.kind h.2.2.2.text h.2.2.2.keys h.2.2.2.items)] [.bool] (λe:Bool=>R e))))->b c)->((!a.2.2)=Ta->b (!a.2.2))/\((!a.2.2)=Tc->PC Tp gl 78 [Arg.mk (.row .str) h.2.1] [.bool] (λf:Bool=>((!f)=Ta->b (!f))/\((!f)=Tc->PC Tp gl 78 [Arg.mk (.row .str) h.2.2.1] [.bool] (λg:Bool=>((!g)=Ta->b (!g))/\((!g)=Tc->b (bif (!a.2.1)then(decide ((h.2.2.1.length:Int)>0))else Tc)))))))):
  PC Tp gl 44 [Arg.mk (.pair .str (.pair (.row .str) (.pair (.row .str) .tree))) h] [.bool] R:=
 PF ⟨[],[],[],[(6,⟨[(13,.one (.dat .bool))],[],[1],[100832]⟩)]⟩ [.tmp 2] 40 Tryz.func44 H
theorem UO(gl:Fr)(c:Bt)(R:(Bool×Bool×Bool)->Prop) (H:∀a:Bool->Prop,(∀b:Bool,((b=Ta->R (Ta,Tc,Ta))/\(b=Tc->((c.toList==(⟨#[109,111,118,101]⟩:Bt).toList)=Ta->((c.toList==(⟨#[109,111,118,101]⟩:Bt).toList)=Ta->R (Tc,Ta,Ta))/\((c.toList==(⟨#[109,111,118,101]⟩:Bt).toList)=Tc->R (Tc,Tc,(c.toList==(⟨#[114,101,109,111,118,101]⟩:Bt).toList))))/\((c.toList==(⟨#[109,111,118,101]⟩:Bt).toList)=Tc->((c.toList==(⟨#[99,111,112,121]⟩:Bt).toList)=Ta->R (Tc,Ta,Ta))/\((c.toList==(⟨#[99,111,112,121]⟩:Bt).toList)=Tc->R (Tc,Tc,(c.toList==(⟨#[114,101,109,111,118,101]⟩:Bt).toList))))))->a b)->((c.toList==(⟨#[97,100,100]⟩:Bt).toList)=Ta->a (c.toList==(⟨#[97,100,100]⟩:Bt).toList))/\((c.toList==(⟨#[97,100,100]⟩:Bt).toList)=Tc->((c.toList==(⟨#[114,101,112,108,97,99,101]⟩:Bt).toList)=Ta->a (c.toList==(⟨#[114,101,112,108,97,99,101]⟩:Bt).toList))/\((c.toList==(⟨#[114,101,112,108,97,99,101]⟩:Bt).toList)=Tc->a (c.toList==(⟨#[116,101,115,116]⟩:Bt).toList)))):
  PC Tp gl 77 [Arg.mk .str c] [.bool,.bool,.bool] R:=
 PF ⟨[],[],[],[(5,⟨[(6,.one (.dat .bool))],[],[],[100384]⟩)]⟩ [.tmp 2,.tmp 3,.tmp 4] 15 Tryz.func77 H
theorem VV(gl:Fr)(b:Tr)(R:Bool->Prop) (H:R (bif (bif (b.kind==0)then(b.text.toList==(⟨#[]⟩:Bt).toList)else Tc)then((w6 ((b.keys.length:Int)+(b.items.length:Int)))==0)else Tc)):
  PC Tp gl 79 [Arg.mk .tree b] [.bool] R:=
 PF ⟨[],[],[],[]⟩ [.tmp 2] 21 Tryz.func79 H
theorem OD(gl:Fr)(c:List Bt)(R:Bt->Prop) (H:PC Tp gl 75 [Arg.mk (.row .str) c] [.str,.int .i64] (λa:Bt×Int=>PC Tp gl 125 [Arg.mk .str a.1] [.str,.int .i64] (λb:Bt×Int=>R b.1))):
  PC Tp gl 124 [Arg.mk (.row .str) c] [.str] R:=
 PF ⟨[],[],[],[]⟩ [.tmp 2] 18 Tryz.func124 H
theorem NC(gl:Fr)(h:List Tr)(R:((List ((List Bt)×List Int))×Int)->Prop) (H:∃(a:Int->Prop) (b:Int->Nat),a 0/\∀c:Int,a c->((decide (c<h.length)=Ta->∃d,(0<=c/\h[c.toNat]?=Td d)/\PC Tp gl 49 [Arg.mk .tree (Tr.mk d.kind d.text d.keys d.items)] [.bool] (λe:Bool=>((!e)=Ta->R ([],1))/\((!e)=Tc->(a (w6 (c+1))/\b (w6 (c+1))<b c))))/\(decide (c<h.length)=Tc->(decide ((h.length:Int)>64)=Ta->R ([],6))/\(decide ((h.length:Int)>64)=Tc->∃(f:(List ((List Bt)×List Int))->Int->Int->Prop) (g:(List ((List Bt)×List Int))->Int->Int->Nat),f [] 512 0/\∀i:List ((List Bt)×List Int),∀j k:Int,f i j k->((decide (k<h.length)=Ta->∃l,(0<=k/\h[k.toNat]?=Td l)/\PC Tp gl 14 [Arg.mk .tree (Tr.mk l.kind l.text l.keys l.items)] [.pair (.row .str) (.row PJ),.int .i64] (λm:((List Bt)×List Int)×Int=>((bif (m.2 != 0)then Ta else(decide ((w6 (j-(m.1.1.length:Int)))<0)))=Ta->R ([],6))/\((bif (m.2 != 0)then Ta else(decide ((w6 (j-(m.1.1.length:Int)))<0)))=Tc->((i.length+zcf ([(m.1.1,m.1.2)]:List ((List Bt)×List Int)))*48<=140737488355328/\(f (i++[(m.1.1,m.1.2)]) (w6 (j-(m.1.1.length:Int))) (w6 (k+1))/\g (i++[(m.1.1,m.1.2)]) (w6 (j-(m.1.1.length:Int))) (w6 (k+1))<g i j k)))))/\(decide (k<h.length)=Tc->R (i,0))))))):
  PC Tp gl 182 [Arg.mk (.row .tree) h] [.row (.pair (.row .str) (.row PJ)),.int .i64] R:=
 PF ⟨[],[],[(2,⟨[(14,.one (.dat PJ))],[],[],[100896]⟩),(12,⟨[(6,.one (.own 31 (.pair (.row .str) (.row PJ)))),(7,.one (.dat PJ)),(27,.one (.dat PJ))],[],[],[100384,100448,101728]⟩)],[]⟩ [.tmp 2,.tmp 3] 53 Tryz.func182 H
end
section
open Go.RowKit
variable {b:Nat} {h h':zc} {ln:Bool} {nd:Int} {l:Bs} {K:Value -> zc -> Prop}
def nU(o:Obj):Bool:=match o with
 |.cells _ T _=>!(Nat.beq T 5) && !(Nat.beq T 207)
 |_=>Ta
def Otk(h h':zc):Prop:=∀(i:Nat) (o:Obj),h[i]?=Td o->nU o=Ta->h'[i]?=Td o
theorem Otk.trans{a b c:zc}(x:Otk a b)(y:Otk b c):Otk a c:=λi o e n=>y i o (x i o e n) n
theorem Otk.keep(k:Keep h.size h h'):Otk h h':=λi o e _=>by have hi:i<h.size:=(zat.1 e).1;rw[k.get i hi];exact e
theorem Otk.ne{cs:Array Value}{m:Nat×Nat}(e:h[b]?=Td (.cells cs 207 m))(f:∀i,i≠b->h'[i]?=h[i]?):Otk h h':=λi o c n=>by by_cases hi:i=b;subst hi;rw[e]at c;cases c;cases n;rw[f i hi];exact c
theorem Otk.own{base:Nat}{sz:Nat}{s:Sl}{xs:List Value}(H:Owns h base 5 sz s xs)(f:∀i,i<h.size->(∀p,s.a=Td p->i≠p.block)->h'[i]?=h[i]?):Otk h h':=λi o c n=>by have hi:i<h.size:=(zat.1 c).1;rw[f i hi λq l k=>?_];exact c;rcases H.2 with⟨b,_⟩|⟨g,cap,e,b,_,j,_⟩;rw[l]at b;cases b;have j:h[g]?=Td (.cells e 5 (0,0)):=j;rw[l]at b;injection b with e1 _ _;injection e1 with e1;rw[k,e1]at c;rw[j]at c;cases c;cases n
theorem V0:liesAt Tp zbj.depth 207 (4 / zbj.cellsOf 207) 0 89 1=Ta:=by kernel_rfl
def Prn(h:zc)(b:Nat)(ln:Bool)(nd:Int)(l:Bs):Prop:=∃(p:Option Addr) (s:Sl),h[b]?=Td (.cells #[.pointer p,aK s,.bool ln,.int .i64 nd] 207 (0,0))/\(p=Te\/p=Td ⟨b,0,Te⟩)/\Owns h (b+1) 5 1 s (Lib.byteCells l)
theorem Prn.lt(H:Prn h b ln nd l):b<h.size:=by obtain⟨p,s,e,_⟩:=H;rcases zb0 b h.size with q|q;exact q;rw[Array.getElem?_eq_none q]at e;cases e
theorem Prn.keep(H:Prn h b ln nd l)(k:Keep h.size h h'):Prn h' b ln nd l:=by have c:=H.lt;obtain⟨p,s,e,f,i⟩:=H;exact⟨p,s,by rw[k.get b c];exact e,f,i.keepN k⟩
theorem Prn.new(h:zc)(ln:Bool)(nd:Int):Prn (h.push (.cells #[.pointer Te,.slice Te 0 0,.bool ln,.int .i64 nd] 207)) h.size ln nd []:= ⟨Te,⟨Te,0,0⟩,yc _ _,.inl rfl,Owns.nil _ _ _ _⟩
set_option maxHeartbeats 1000000 in
set_option maxRecDepth 100000 in
theorem zsp(b:Nat)(w:World)(h0:w.cell? ⟨b,0,Te⟩=Td (.pointer Te))(c:w.shape? b=Td (207,4))(i:w.frozen? ⟨b,0,Te⟩=Tc):
  Calls Tp 123 #[.pointer (Td ⟨b,0,Te⟩)] w λe w'=>e=.returned (.tuple #[])/\w'=w.setCell ⟨b,0,Te⟩ (.pointer (Td ⟨b,0,Te⟩)):=by
 obtain⟨j,h,f⟩:=zc6.1 y7;have mixed:=Tryz.mixed
 go_enter Tryz.func123,Tryz.ntmps123
 go_wp2
 rw[Lib.run_to_unsafe w ⟨b,0,Te⟩ sG vz h (by rw[f];decide) c (Nat.zero_lt_succ 3)];simp only[Result.andThen];rw[Oper.upon_value]
 go_wp2
 rw[run_callFunc_extern Tryz.func195 (by kernel_rfl) (by kernel_rfl) (by kernel_rfl) (e:=zfp) (by kernel_rfl)];rw[Lib.run_noEscape];simp only[Result.andThen];rw[Oper.upon_value]
 go_wp2
 rw[Lib.run_from_unsafe w ⟨b,0,Te⟩ vz sG h c V0];simp only[Result.andThen];rw[Oper.upon_value]
 go_wp2
 go_end0
 exact⟨rfl,rfl⟩
theorem En(H:Prn h b ln nd l)(k:∀h',Prn h' b ln nd l->Keep b h h'->h'.size=h.size->Otk h h'->K (.tuple #[]) h'):XC Tp 123 #[.pointer (Td ⟨b,0,Te⟩)] h K:=by
 have j:=H.lt;obtain⟨p,s,e,m,f⟩:=H;have c:∀B d,(mk B d h).cell? ⟨b,0,Te⟩=Td (.pointer p):=λB d=>by have:(mk B d h).heap[b]?=Td (.cells #[.pointer p,aK s,.bool ln,.int .i64 nd] 207 (0,0)):=e;simp[World.cell?,this]
 rcases m with rfl|rfl;refine XC.of_calls λB d=>(zsp b (mk B d h) (c B d) ?_ ?_).mono ?_
 have:(mk B d h).heap[b]?=Td (.cells #[.pointer Te,aK s,.bool ln,.int .i64 nd] 207 (0,0)):=e;simp[World.shape?,this];exact xU ⟨_,e⟩ B d;rintro e' w' ⟨rfl,rfl⟩;rw[Hq e];refine⟨_,rfl,rfl,rfl,rfl,?_⟩;show K _ (h.setIfInBounds b _);refine k _ ⟨_,s,?_,.inr rfl,?_⟩ ?_ (by simp) (Otk.ne e λi hi=>zb4 (Ne.symm hi));rw[zc2 j];rfl;refine f.keep λq n=>?_;have:=f.base_le q n;rw[zb4 (by omega)];exact Keep.setBlk _ (zac _);refine XC.of_calls λB d=>(Dq b (mk B d h) (c B d)).mono ?_;rintro e' w' ⟨rfl,rfl⟩;exact⟨_,rfl,rfl,rfl,rfl,k _ ⟨_,s,e,.inr rfl,f⟩ (Keep.refl _ _) rfl (Otk.keep (Keep.refl _ _))⟩
theorem De{p:Option Addr}{s t:Sl}(e:h[b]?=Td (.cells #[.pointer p,aK t,.bool ln,.int .i64 nd] 207 (0,0)))(k:p=Te\/p=Td ⟨b,0,Te⟩)(i:Owns h (b+1) 5 1 s (Lib.byteCells l)){K:zc->Prop}
  (r:∀h',Prn h' b ln nd l->Keep b h h'->h'.size=h.size->Otk h h'->K h'):XRunU Tp (zag 87 (.pointer (Td ⟨b,1,Te⟩)) (.slice s.a s.len s.cap)) h K:=by
 intro B d;obtain⟨h',n,j,f,c⟩:=Yf (P:=Tp) EY Gz e (o:=1) (v:=aK s) rfl (by simp) (by simp[aK,Value.cells,Value.oneCell']) B d;refine⟨d,h',n,r h' ⟨p,s,?_,k,?_⟩ (Keep.ne f c) f (Otk.ne e c)⟩;rw[j];rfl;refine i.keep λq m=>?_;have:=i.base_le q m;exact c _ (by omega)
theorem Q5(H:Prn h b ln nd l)(T:l.length<140737488355328)(c:UInt8)(P:∀h',Prn h' b ln nd (l++[c])->Keep b h h'->Otk h h'->K .nilIface h'):
  XC Tp 133 #[.pointer (Td ⟨b,0,Te⟩),.int .u8 (c.toNat:Int)] h K:=by
 apply j9;refine En H λf B k2 Y F=>⟨rfl,_,rfl,?_⟩;have x:=B.lt;obtain⟨p,s,e,Q,t⟩:=B;have m:=t.1;rw[Lib.byteCells_length,zbm]at m;refine⟨s,Blk.cellAdd (o:=0) (k:=1) (cs:=#[.pointer p,aK s,.bool ln,.int .i64 nd]) ⟨_,e⟩ rfl,?_⟩;intro j;have r:Keep f.size f j:=Keep.push _ _ (zac _);have U:j.size=f.size+1:=zaf _;have b5:Blk j f.size #[.int .u8 (c.toNat:Int)]:=Blk.new _ _ _;have D:j[b]?=Td (.cells #[.pointer p,aK s,.bool ln,.int .i64 nd] 207 (0,0)):=by rw[r.get b x];exact e
 have A:=t.keepN r;clear_value j;refine Zw uo A (src:=⟨Td ⟨f.size,0,Te⟩,1,1⟩) (news:=[.int .u8 (c.toNat:Int)]) (n:=j.size) ?_ rfl (by simp[Value.oneCell']) (by simp only;omega) (by simp only;omega) (by omega) λC z Z I u q4 S=>⟨C,rfl,_,rfl,?_⟩;refine .inr ⟨f.size,0,rfl,by omega,λi v w=>?_⟩
 match i,w with
 |0,w=>cases w;exact b5.cell rfl
 have M:z[b]?=Td (.cells #[.pointer p,aK s,.bool ln,.int .i64 nd] 207 (0,0)):=by rw[u b (by omega) λq y=>by have:=t.base_le q y;omega];exact D
 have E:Owns z (b+1) 5 1 C (Lib.byteCells (l++[c])):=by
  have:Lib.byteCells (l++[c])=Lib.byteCells l++[.int .u8 (c.toNat:Int)]:=by unfold Lib.byteCells;rw[zbc];rfl
  rw[this];exact I
 have G:Keep b h z:=k2.trans ⟨by omega,λi hi=>by rw[u i (by omega) λq y=>by have:=t.base_le q y;omega];exact r.get i (by omega)⟩ (zac _);refine De M Q E λO J L V N=>P O J (G.trans L (zac _)) (F.trans ((Otk.keep r).trans ((Otk.own A u).trans N)))
theorem Y6(H:Prn h b ln nd l)(t:Bs)(hl:l.length+t.length<=140737488355328)(N:∀h',Prn h' b ln nd (l++t)->Keep b h h'->Otk h h'->K (.tuple #[.int .i64 (t.length:Int),.nilIface]) h'):
  XC Tp 68 #[.pointer (Td ⟨b,0,Te⟩),.string (bl t)] h K:=by
 apply jk;refine En H λC z k2 U F=>⟨rfl,_,rfl,?_⟩;have A:=z.lt;obtain⟨p,s,e,Q,j⟩:=z;have f:=j.1;rw[Lib.byteCells_length,zbm]at f;refine⟨s,Blk.cellAdd (o:=0) (k:=1) (cs:=#[.pointer p,aK s,.bool ln,.int .i64 nd]) ⟨_,e⟩ rfl,?_⟩;have c:=zu t;refine vf uo j (x:=.string (bl t)) (m:=(bl t).size) (news:=Lib.byteCells t) (λB d=>?_) (by rw[c];omega) (by rw[c];omega) (by omega) λy u V S r Z Y=>⟨y,rfl,_,rfl,?_⟩;have:=Src.ofString (P:=Tp) (w:=mk B d C) BZ (bl t);have O:byteCells (bl t)=Lib.byteCells t:=by unfold byteCells Lib.byteCells;have:(bl t).data.toList=t:=yo t;rw[this]
 rw[O]at this;exact this;have I:u[b]?=Td (.cells #[.pointer p,aK s,.bool ln,.int .i64 nd] 207 (0,0)):=by rw[r b (by omega) λq n=>by have:=j.base_le q n;omega];exact e
 have D:Owns u (b+1) 5 1 y (Lib.byteCells (l++t)):=by
  have:Lib.byteCells (l++t)=Lib.byteCells l++Lib.byteCells t:=by unfold Lib.byteCells;rw[zbc]
  rw[this];exact S
 have J:Keep b h u:=k2.trans ⟨by omega,λi hi=>r i (by omega) λq n=>by have:=j.base_le q n;omega⟩ (zac _);refine De I Q D λM E G T L=>?_;rw[c];exact N M E (J.trans G (zac _)) (F.trans ((Otk.own j r).trans L))
theorem Vz(b:Nat)(p:Value)(ln:Bool)(nd:Int)(v:Value)(l:Bs)(w:World)(n:w.heap[b]?=Td (.cells #[p,v,.bool ln,.int .i64 nd] 207 (0,0)))(f:w.ownsRow (b+1) 5 1 v l.length (Lib.byteCells l))(h0:l≠[]):
  Calls Tp 70 #[.pointer (Td ⟨b,0,Te⟩)] w λe w'=>e=.returned (.string ⟨l.toArray⟩)/\Below (b+1) w w':=by
 have h:l.length≠0:=by simpa using h0
 obtain⟨g,cap,c,rfl,k,t,y,q,z,m⟩:∃g cap c,v=.slice (Td ⟨g,0,Te⟩) l.length cap/\b+1<=g/\w.heap[g]?=Td (.cells c 5 (0,0))/\_:=by rcases f.2 with⟨_,hz⟩|⟨g,cap,c,B,r⟩;exact absurd hz h;exact⟨g,cap,c,B,r⟩
 have c1:w.drew.cell? ⟨b,1,Te⟩=Td (.slice (Td ⟨g,0,Te⟩) l.length cap):=by have:w.drew.heap[b]?=Td (.cells #[p,.slice (Td ⟨g,0,Te⟩) l.length cap,.bool ln,.int .i64 nd] 207 (0,0)):=n;rw[Lib.cell_of_heap this];rfl
 have u:(Builtin.unsafeSliceData_ #[87] 133 #[.slice (Td ⟨g,0,Te⟩) l.length cap]).run Tp w.drew=.ok (.pointer (Td ⟨g,0,Te⟩)) w.drew:= Lib.run_unsafeSliceData_row _ _ _ _ _ _ (by omega);have o:(Builtin.unsafeString_ #[133,3] 9 #[.pointer (Td ⟨g,0,Te⟩),.int .i64 l.length]).run Tp w.drew=.ok (.string ⟨l.toArray⟩) (w.drew.freeze ⟨g,0,Te⟩ l.length):=by refine Lib.run_unsafeString_row w.drew 133 3 9 5 Tryz.underlying133 (by kernel_rfl) g c.size (by have i:w.drew.heap[g]?=Td (.cells c 5 (0,0)):=t;simp[World.shape?,i]) l h0 (by omega) (by have:maxLen=9223372036854775807:=rfl;omega) ?_;intro j x A;have:=f.cells (g:=g) rfl j (.int .u8 x.toNat) (by simp[Lib.byteCells,A]);exact this
 have mixed:=Tryz.mixed
 go_enter Tryz.func70,Tryz.ntmps70
 go_wp2
 go_region_o
 all_goals (go_wp2;go_ret;exact⟨rfl,Lib.below_freeze (Below.drew (Below.refl (b+1) w)) (p:=⟨g,0,Te⟩) k _⟩)
theorem PN(H:Prn h b ln nd l)(h0:l≠[])(k:∀h',Keep b h h'->K (.string (bl l)) h'):XC Tp 70 #[.pointer (Td ⟨b,0,Te⟩)] h K:=by obtain⟨p,s,e,m,j⟩:=H;have f:=j.1;rw[Lib.byteCells_length,zbm]at f;refine XC.of_calls λB d=>(Vz b (.pointer p) ln nd (aK s) l (mk B d h) e (by rw[f];exact j) h0).mono ?_;rintro e' w' ⟨rfl,c⟩;exact⟨_,rfl,c.os,c.tape,c.output,k _ ⟨c.size,λi hi=>c.block i (by omega)⟩⟩
end
section
open Go.Lib
section
theorem rQ{k:Nat}(h:k<10):(zc7 (48+k)).toNat=48+k:=by rw[UInt8.toNat_ofNat'];omega
theorem Zk:∀(n u:Nat),u<=n->(decDigits u).all ya=Ta/\decDigits u≠[]/\zn (decDigits u)=u/\(1<=u->(decDigits u).head?≠Td 48)
 |0,u,h=>by
  have:u=0:=by omega
  subst this;rw[decDigits,dif_pos (by omega)];exact⟨by decide,by simp,by decide,λh=>by omega⟩
 |n+1,u,h=>by by_cases b:u<10;rw[decDigits,dif_pos b];refine⟨?_,by simp,?_,λh1=>?_⟩;simp only[zdf,List.all_nil,zfe,ya,rQ b];simp;omega;simp only[zn,List.foldl_cons,List.foldl_nil,rQ b];omega;intro e;simp only[List.head?_cons,zad]at e;have:=congrArg UInt8.toNat e;rw[rQ b]at this;have k:(48:UInt8).toNat=48:=rfl;omega;rw[decDigits,dif_neg b];obtain⟨h1,i,l,j⟩:=Zk n (u / 10) (by omega);have f:u % 10<10:=Nat.mod_lt _ (by omega);refine⟨?_,by simp,?_,λ_=>?_⟩;rw[zei,h1];simp only[zdf,List.all_nil,zfe,zct,ya,rQ f];simp;omega;rw[CC,l,rQ f];omega;obtain⟨c,t,e⟩:=zcw i;have:=j (by omega);rw[e]at this ⊢;exact this
theorem JM:∀(k u:Nat),u<10 ^ (k+1)->(decDigits u).length<=k+1
 |0,u,h=>by rw[decDigits,dif_pos (by omega)];exact zac _
 |k+1,u,h=>by by_cases b:u<10;rw[decDigits,dif_pos b];simp;have:=JM k (u / 10) (by rw[ze8]at h;omega);rw[decDigits,dif_neg b,zah];simpa using this
theorem Tn{u:Nat}(h:u<=1000000):(decDigits u).length<=9:=JM 8 u (by omega)
theorem LA(u:Nat):itoa (u:Int)=decDigits u:=by unfold itoa;rw[zv (by omega)];simp
end
section
def tM(r:Nat):Prop:=r<55296\/(57344<=r/\r<=1114111)
theorem D9{x:Int}(h0:0<=x)(h1:x<256):(x.toNat.toUInt8).toNat=x.toNat:=by simp_all
theorem PO(l:Bs):tM (dec l).1:=by have h0:=(l.getD 0 0).toNat_lt;have h1:=(l.getD 1 0).toNat_lt;have c:=(l.getD 2 0).toNat_lt;have b:=(l.getD 3 0).toNat_lt;unfold tM dec decodeN;grind
def iN(x:Tr):Bool:=decide (x.kind≠7)&&zi x
mutual
theorem xH{p q:Tr->Bool}(h:∀x,p x=Ta->q x=Ta):∀v:Tr,yr p v=Ta->yr q v=Ta
 |.mk k s ks xs,hv=>by rw[yr,zam]at hv ⊢;exact⟨h _ hv.1,Dx h xs hv.2⟩
theorem Dx{p q:Tr->Bool}(h:∀x,p x=Ta->q x=Ta):∀l:List Tr,mu p l=Ta->mu q l=Ta
 |[],_=>rfl
 |x::l,hl=>by rw[mu,zam]at hl ⊢;exact⟨xH h x hl.1,Dx h l hl.2⟩
end
end
section
theorem WK(a b:Bs):iL (a++b)=iL a++iL b:=by unfold iL;rw[zdt]
theorem PP(c:UInt8):(nc c).length<=6:=by
 unfold nc;repeat' split
 all_goals simp
theorem A5:∀l:Bs,(iL l).length<=6*l.length
 |[]=>by simp[iL]
 |c::l=>by have:=A5 l;have h1:=PP c;have e:iL (c::l)=nc c++iL l:=rfl;rw[e,zah,zaw];omega
theorem LB{c:UInt8}(h:128<=c.toNat):nc c=[c]:=by
 have ne:∀n:Nat,n<128->c≠zc7 n:=λn b e=>by rw[e,UInt8.toNat_ofNat']at h;omega
 unfold nc;rw[zv (by rintro(e|e);exact ne 34 (by omega) e;exact ne 92 (by omega) e),zv (show¬c=8 from ne 8 (by omega)),zv (show¬c=12 from ne 12 (by omega)),zv (show¬c=10 from ne 10 (by omega)),zv (show¬c=13 from ne 13 (by omega)),zv (show¬c=9 from ne 9 (by omega)),zv (by omega)]
theorem IJ:∀{l:Bs},(∀c∈l,128<=c.toNat)->iL l=l
 |[],_=>rfl
 |c::l,h=>by have e:iL (c::l)=nc c++iL l:=rfl;rw[e,LB (h c za2),IJ λx b=>h x (za3 _ b)];rfl
theorem QQ{r:Nat}(h:tM r)(j:128<=r):∀c∈encodeRune (r:Int),128<=c.toNat:=by
 unfold tM at h;intro c i;unfold encodeRune at i;obtain⟨x,b,rfl⟩:=zay.1 i;have key:∀y:Int,x=y->128<=y->y<256->128<=x.toNat.toUInt8.toNat:=λy e h1 f=>by subst e;rw[D9 (by omega) f];omega
 by_cases f:r<=2047;rw[encodeRuneZ_two (by omega) (by omega)]at b;simp only[zan,List.not_mem_nil,or_false]at b;rcases b with e|e <;> exact key _ e (by omega) (by omega);by_cases k:r<=65535;rw[encodeRuneZ_three (by omega)]at b;simp only[zan,List.not_mem_nil,or_false]at b;rcases b with e|e|e <;> exact key _ e (by omega) (by omega);rw[encodeRuneZ_four (by omega) (by omega)]at b;simp only[zan,List.not_mem_nil,or_false]at b;rcases b with e|e|e|e <;> exact key _ e (by omega) (by omega)
def jT(r:Nat):Nat:=if r=34\/r=92 then r else if r=8 then 98 else if r=12 then 102 else if r=10 then 110 else if r=13 then 114 else if r=9 then 116 else 0
def zQ(k:Nat):UInt8:=zc7 (if k<10 then 48+k else 87+k)
def pN(r:Nat):Bs:=if jT r≠0 then [92,zc7 (jT r)]else if 32<=r then encodeRune (r:Int)else [92,117,48,48,zc7 (48+r / 16),zQ (r % 16)]
theorem MD:(zaq 128).all (λk=>decide (nc (zc7 k)=pN k))=Ta:=by kernel_rfl
theorem Ky{l:Bs}(h:l≠[])(j:jO (dec l)=Tc):iL (l.take (dec l).2)=pN (dec l).1:=by
 by_cases f:(dec l).1<128;obtain⟨c,t,rfl⟩:=zcw h;have k:c.toNat<128:=by
  rcases zb0 c.toNat 128 with h1|h1;exact h1;exfalso;have b:=EX h j;have q:=(Qa (c::t)).1;have o:encodeRune ((dec (c::t)).1:Int)=[((dec (c::t)).1:Int).toNat.toUInt8]:=by unfold encodeRune;rw[encodeRuneZ_one (by omega) (by omega)];rfl
  obtain⟨n,i⟩:∃n,(dec (c::t)).2=n+1:=⟨(dec (c::t)).2-1,by omega⟩;rw[o,i,zea]at b;injection b with b _;rw[<-b,D9 (by omega) (by omega)]at h1;omega
 rw[Jw k]at f ⊢;have:=za7.1 MD c.toNat (zbn.2 k);have:=zH this;rw[UInt8.ofNat_toNat]at this;rw[<-this];simp[iL];have f:128<=(dec l).1:=by omega
 have e:=EX h j;have m:jT (dec l).1=0:=by unfold jT;rw[zv (by omega),zv (by omega),zv (by omega),zv (by omega),zv (by omega),zv (by omega)]
 unfold pN;rw[zv (by rw[m];exact λh=>h rfl),zA (by omega),<-e];exact IJ (QQ (PO l) f)
end
end
section
open Go.RowKit
variable {h:zc} {it:Nat} {K:Value -> zc -> Prop} {gl:Fr} {t:Bs}
theorem QS{P:Program}{s:Bt}{p:Nat}(e:h[it]?=Td (.stringIter s p)){T:TypeId}(h1:p<s.size->K (.tuple #[.bool Ta,.int .i64 (p:Int),.int .i32 (jC s p)]) (h.setIfInBounds it (.stringIter s (iH s p))))
  (h0:s.size<=p->K (.tuple #[.bool Tc]) h):qu P (zdx (.pointer (Td ⟨it,0,Te⟩)) Ta T) h K:=by
 have f:∀(w:World),w.heap[it]?=Td (.stringIter s p)->(getObj it).run P w=.ok (.stringIter s p) w:=λw e=>by simp[getObj,Sem.run,e]
 have i:∀(w:World) (c:Obj),w.heap[it]?=Td (.stringIter s p)->(setObj it c).run P w=.ok () { w with heap:=w.heap.setIfInBounds it c }:=λw c e=>by simp[setObj,Sem.run,e]
 intro B d;by_cases b:p<s.size;have k:iD s p=Ta:=by simpa[iD,zfc]using b
 have j:iH s p=p+(zfk s p).2:=by unfold iH;rw[show Nat.blt p s.size=Ta from k];rfl
 refine⟨_,d,_,?_,h1 b⟩;unfold zdx;simp only;rw[Sem.run_bind,f (mk B d h) e];simp only[Result.andThen_ok,b,if_true];rw[Sem.run_bind,i (mk B d h) _ e,j];rfl;refine⟨_,d,h,?_,h0 (by omega)⟩;unfold zdx;simp only;rw[Sem.run_bind,f (mk B d h) e];simp only[Result.andThen_ok,b,if_false];rfl
theorem Bld.other{h h':zc}{b:Nat}{l:Bs}(H:Bld h b l){s:Bt}{p:Nat}(e:h[it]?=Td (.stringIter s p))(f:∀i,i≠it->h'[i]?=h[i]?):Bld h' b l:=by obtain⟨q,r,n,u,o⟩:=H;refine⟨q,r,?_,u,o.keep λa t=>?_⟩;rw[f b (λc=>by rw[c,e]at n;cases n)];exact n;refine f _ λc=>?_;rcases o.2 with⟨j,_⟩|⟨g,cap,m,j,_,k,_⟩;rw[t]at j;cases j;have k:h[g]?=Td (.cells m 5 (0,0)):=k;rw[t]at j;injection j with e1 _ _;injection e1 with e1;rw[e1]at c;have c:g=it:=c;rw[c,e]at k;cases k
theorem Bld.zero(h:zc):Bld (h.push (.cells #[.pointer Te,.slice Te 0 0] 89)) h.size []:= ⟨Te,⟨Te,0,0⟩,yc _ _,.inl rfl,Owns.nil _ _ _ _⟩
theorem NP{r:Nat}(y:r<=1114111)(c:K (.int .u8 (jT r:Int)) h):XC Tp 197 #[.int .i32 (r:Int)] h K:=by
 apply NB;intro w j;have i:∀n:Nat,((r:Int)==(n:Int))=decide (r=n):=λn=>by rw[zbe];simp only[beq_iff_eq,zG];omega
 have l:((r:Int)==34)=decide (r=34):=i 34;have q:((r:Int)==92)=decide (r=92):=i 92;have x:((r:Int)==8)=decide (r=8):=i 8;have t:((r:Int)==12)=decide (r=12):=i 12;have o:((r:Int)==10)=decide (r=10):=i 10;have m:((r:Int)==13)=decide (r=13):=i 13;have u:((r:Int)==9)=decide (r=9):=i 9;unfold jT at c;have fin:∀b:Bool,(b=Ta↔r=34\/r=92)->w b h:=λb k=>by
  refine j _ _ ⟨λf=>?_,λf=>?_⟩;rw[zA (k.1 f)]at c;have e:zaa .u8 (r:Int)=(r:Int):=by rcases k.1 f with rfl|rfl <;> rfl
  rw[e];exact c;rw[zv (λh=>by rw[k.2 h]at f;cases f)]at c;rw[x,t,o,m,u];refine⟨λh=>?_,λh=>?_⟩;rw[zA (zH h)]at c;exact c;rw[zv (zI h)]at c;refine⟨λh=>?_,λh=>?_⟩;rw[zA (zH h)]at c;exact c;rw[zv (zI h)]at c;refine⟨λh=>?_,λh=>?_⟩;rw[zA (zH h)]at c;exact c;rw[zv (zI h)]at c;refine⟨λh=>?_,λh=>?_⟩;rw[zA (zH h)]at c;exact c;rw[zv (zI h)]at c;refine⟨λh=>?_,λh=>?_⟩;rw[zA (zH h)]at c;exact c;rw[zv (zI h)]at c;exact c
 rw[l,q];refine⟨λf=>fin _ ?_,λf=>fin _ ?_⟩;rw[f];exact⟨λ_=>.inl (zH f),λ_=>rfl⟩;rw[zG];exact⟨.inr,λh=>h.resolve_left (zI f)⟩
theorem OS{c:Nat}(b:c<32):[92,117]++Lib.repeatL [48] (4-(ie c).length)++ie c=[92,117,48,48,zc7 (48+c / 16),zQ (c % 16)]/\((ie c).length=1\/(ie c).length=2):=by
 have:(zaq 32).all (λc=>decide ([92,117]++Lib.repeatL [48] (4-(ie c).length)++ie c=[92,117,48,48,zc7 (48+c / 16),zQ (c % 16)]/\((ie c).length=1\/(ie c).length=2)))=Ta:=by kernel_rfl
 exact zH (za7.1 this c (zbn.2 b))
set_option maxRecDepth 100000 in
set_option maxHeartbeats 4000000 in
theorem CH(hg:GL gl)(ht:t.length<=1048576){M:Fr}(hM:Fr.le gl M)(hb:Brn M)(ag:AgM M h)(Y:∀h',Keep h.size h h'->K (.tuple #[.string (bl (iO t).1),.int .i64 (iO t).2]) h'):
  XC Tp 125 #[.string (bl t)] h K:=by
 apply WM
 refine(xO hg.tabs (l:=t) (by omega) (R:=λr=>r.2=Qq t) λk=>rfl).go hM ag (zr (a:=Arg.mk .str _) (rdStr _) qj) λv f M2 r L2 U hr=>?_
 obtain⟨n,is⟩:=r
 have hr:is=Qq t:=hr
 subst hr
 obtain⟨_,⟨u1,_,rfl,aC,u2,rfl,B⟩,rfl⟩:=U
 obtain rfl:=rS aC
 have B:u2=.bool (Qq t):=by rw[Y9 rfl]at B;simpa[Rd]using B
 subst B
 refine⟨_,_,rfl,?_⟩
 unfold iO at Y
 refine⟨λq=>?_,λq=>?_⟩
 ·have:Qq t=Tc:=by simpa using q
  rw[this]at Y
  exact Y f L2.keep
 have hu:Qq t=Ta:=by simpa using q
 rw[zA hu]at Y
 intro h5
 have k5:Keep f.size f h5:=Keep.push _ _ (zac _)
 have z5:h5.size=f.size+1:=zaf _
 have B5:Bld h5 f.size []:=Bld.zero f
 clear_value h5
 have z2:=L2.keep.size
 refine Yl B5 (by simp) 34 λu B7 k7 i7=>⟨_,rfl,?_⟩
 have z7:f.size<u.size:=B7.lt
 intro D
 have k9:Keep u.size u D:=Keep.push _ _ (zac _)
 have z9:D.size=u.size+1:=zaf _
 have B9:Bld D f.size [34]:=B7.keep k9
 have e9:D[u.size]?=Td (.stringIter (bl t) 0):=yc _ _
 clear_value D
 have H:Keep h.size h D:=⟨by omega,λj I=>by rw[k9.get j (by omega),k7.get j (by omega),k5.get j (by omega),L2.keep.get j I]⟩
 refine⟨λg=>∃p,p<=t.length/\Bld g f.size (34::iL (t.take p))/\g[u.size]?=Td (.stringIter (bl t) p)/\Qq (t.drop p)=Ta/\Keep f.size D g,λg=>match g[u.size]? with
  |some (.stringIter _ p)=>t.length-p
  |_=>0,⟨0,by omega,B9,e9,hu,Keep.refl _ _⟩,?_⟩
 rintro g ⟨p,hp,Bg,eg,z,kg⟩
 have aJ:(iL (t.take p)).length<=6*t.length:=by
  have:=A5 (t.take p)
  rw[zbl]at this;omega
 refine QS eg (λP=>.inr ⟨_,_,rfl,λ_=>?_,λq=>(by cases q)⟩) (λy=>.inl ⟨rfl,λq=>(by cases q),λ_=>?_⟩)
 ·-- a rune more
  rw[zu]at P
  have hd:t.drop p≠[]:=by intro e;rw[List.drop_eq_nil_iff]at e;omega
  have F:jO (dec (t.drop p))=Tc:=by
   rw[Ju hd]at z
   cases hbd:jO (dec (t.drop p))with
   |true=>rw[hbd]at z;cases z
   |false=>rfl
  have N:Qq (t.drop (p+(dec (t.drop p)).2))=Ta:=by
   rw[Ju hd,F]at z
   rw[<-zdh];simpa using z
  have hq:=Ky hd F
  have hw:=Qa (t.drop p)
  have S:=zP hd
  rw[zb8]at S
  have G:=ZA (t.drop p)
  have o:iL (t.take (p+(dec (t.drop p)).2))=iL (t.take p)++pN (dec (t.drop p)).1:=by
   rw[<-hq,<-WK,List.take_add]
  rw[qO,nK t p P]
  generalize hr:(dec (t.drop p)).1=r at G o ⊢
  generalize hn:(dec (t.drop p)).2=n at hw S N o ⊢
  have aj:u.size<g.size:=(zat.1 eg).1
  generalize A:g.setIfInBounds u.size (.stringIter (bl t) (p+n))=h14
  have T:∀i,i≠u.size->h14[i]?=g[i]?:=λi hi=>by rw[<-A,zb4 (Ne.symm hi)]
  have ak:h14[u.size]?=Td (.stringIter (bl t) (p+n)):=by rw[<-A,zc2 aj]
  have aP:h14.size=g.size:=by rw[<-A];simp
  have C:=Bg.other eg T
  have J:Keep f.size D h14:=⟨by have:=kg.size;omega,λj I=>by rw[T j (by omega)];exact kg.get j I⟩
  have fin:∀g':zc,Bld g' f.size (34::iL (t.take p)++pN r)->Keep f.size h14 g'->Itk h14 g'->(∃p,p<=t.length/\Bld g' f.size (34::iL (t.take p))/\g'[u.size]?=Td (.stringIter (bl t) p)/\Qq (t.drop p)=Ta/\Keep f.size D g') /\
    (match g'[u.size]? with|some (.stringIter _ p)=>t.length-p|_=>0)<(match g[u.size]? with|some (.stringIter _ p)=>t.length-p|_=>0):=λg' B' k' i'=>by
   have e':=i' _ _ _ ak
   refine⟨⟨p+n,by omega,by rw[o];exact B',e',N,J.trans k' (zac _)⟩,?_⟩
   rw[e',eg]
   show t.length-(p+n)<t.length-p
   omega
  have aV:(34::iL (t.take p)).length=(iL (t.take p)).length+1:=rfl
  unfold pN at fin
  refine NP G ⟨_,rfl,λq=>?_,λq=>?_⟩
  ·have h0:jT r≠0:=by intro e;rw[e]at q;simp at q
   rw[zA h0]at fin
   have aa:jT r<256:=by
    unfold jT
    repeat' split
    all_goals omega
   have e8:((zc7 (jT r)).toNat:Int)=(jT r:Int):=by rw[UInt8.toNat_ofNat'];omega
   refine Yl C (by omega) 92 λaN ae aI aD=>⟨_,rfl,?_⟩
   rw[<-e8]
   refine Yl ae (by simp;omega) (zc7 (jT r)) λaA O ay aH=>⟨_,rfl,?_⟩
   refine fin aA ?_ (aI.trans ay (zac _)) (aD.trans aH)
   rw[za9]at O;exact O
  ·have h0:jT r=0:=by
    have:((jT r:Int) != 0)=Tc:=q
    simpa using this
   rw[zv (by rw[h0];exact λh=>h rfl)]at fin
   refine⟨λy=>?_,λb=>?_⟩
   ·have y:32<=r:=by have:=zH y;omega
    rw[zA y]at fin
    refine LX C (by omega) (by omega) (by omega) λam m aF aG aE=>⟨_,_,rfl,?_⟩
    exact fin am aF aG aE
   ·have b:r<32:=by have:=zI b;omega
    rw[zv (by omega)]at fin
    obtain⟨au,aU⟩:=OS b
    rw[io (by omega)]
    have Q:Keep h.size h h14:=⟨by have:=J.size;have:=H.size;omega,λj I=>by rw[J.get j (by omega),H.get j I]⟩
    have E:AgM M h14:=ag.keep Q
    refine KR b hb E λaS w=>⟨_,rfl,?_⟩
    have aL:(ie r).length<=4:=by omega
    rw[zu,io (by omega),show(4:Int)-((ie r).length:Int)=((4-(ie r).length:Nat):Int)from by omega]
    refine(y4 (gl:=gl) (s:=bl [48]) (c:=4-(ie r).length) (by omega) (by rw[zu];simp;omega) (R:=λx=>x=bl (Lib.repeatL [48] (4-(ie r).length))) (by rw[yo])).go hM (E.keep w) (zr (a:=Arg.mk .str _) (rdStr _) (zr (a:=Arg.mk PJ _) (Ja _ _) qj)) λv az aO x L U q=>?_
    subst q
    have U:=Ze (Y1.1 U)
    have ac:=Lib.repeatL_length [48] (4-(ie r).length)
    have hz:(Lib.repeatL [48] (4-(ie r).length)).length<=4:=by rw[ac];simp
    refine⟨_,U,?_,?_,?_⟩
    ·show j6 ((bl [92,117]).size+(bl (Lib.repeatL [48] (4-(ie r).length))).size)
     unfold j6
     rw[zu,zu];simp only[zaw,zb5];omega
    ·show j6 ((bl [92,117]++bl (Lib.repeatL [48] (4-(ie r).length))).size+(bl (ie r)).size)
     unfold j6
     rw[wj,zu,zu,zah];simp only[zaw,zb5];omega
    ·have e:((⟨#[92,117]⟩:Bt)++bl (Lib.repeatL [48] (4-(ie r).length)))++bl (ie r)=bl ([92,117]++Lib.repeatL [48] (4-(ie r).length)++ie r):=by
      show(bl [92,117]++bl (Lib.repeatL [48] (4-(ie r).length)))++bl (ie r)=_
      rw[wj,wj]
     rw[e,au]
     have aT:=w.size
     have ah:=(C.keep w).keep L.keep
     have aB:Itk h14 az:=(Itk.keep w).trans (Itk.keep L.keep)
     have aM:=C.lt
     refine EH ah _ (by simp only[zaw,zb5];omega) λaf al ai ar=>⟨_,_,rfl,?_⟩
     exact fin af al (((w.mono (m:=f.size) (by omega)).trans (L.keep.mono (m:=f.size) (by omega)) (zac _)).trans ai (zac _)) (aB.trans ar)
 ·rw[zu]at y
  have ax:p=t.length:=by omega
  subst ax
  rw[zba]at Bg
  refine Yl Bg (by rw[zba]at aJ;simp;omega) 34 λaY ab V aQ=>⟨_,rfl,?_⟩
  refine Ar ab λan Z=>⟨_,rfl,?_⟩
  refine Y an ⟨?_,λj I=>?_⟩
  ·have:=kg.size;have:=V.size;have:=Z.size;omega
  ·rw[Z.get j (by omega),V.get j (by omega),kg.get j (by omega),H.get j I]
theorem GU(j:GL gl)(i:Brn gl)(f:t.length<=1048576){R:Bt×Int->Prop}(e:R (bl (iO t).1,(iO t).2)):PC Tp gl 125 [Arg.mk .str (bl t)] [.str,.int .i64] R:=by
 intro h M vs b ag c
 match vs,c with
 |[u1],⟨a1,_⟩=>obtain rfl:=Ze (s:=bl t) a1;apply PX.of;exact CH j f b (i.mono b) ag λh' k=>⟨M,_,Later.same ag k,⟨[_,_],⟨_,_,rfl,rdStr _,_,rfl,Ja _ _⟩,rfl⟩,e⟩
end
section
open Go.Lib
def Z1(ln:Bool)(nd lv:Nat):Bs:=if ln then 10::zcv (nd*lv) 32 else []
def Qx(ln:Bool)(nd lv:Nat):List Bs->Bs
 |[]=>[]
 |p::ps=>Z1 ln nd lv++p++ps.flatMap λq=>44::(Z1 ln nd lv++q)
def jV(ln:Bool)(nd lv:Nat)(ps:List Bs):Bs:=Qx ln nd (lv+1) ps++(if ps=[]then []else Z1 ln nd lv)
def jH(ln:Bool)(k:Bt)(p:Bs):Bs:=(iO (lb k)).1++58::((if ln then [32]else [])++p)
mutual
def J5(ln:Bool)(nd:Nat):Tr->Nat->Bs
 |.mk k s ks xs,lv=>if k=1 then [110,117,108,108]else if k=4 then(iO (lb s)).1 else if k=5 then 91::jV ln nd lv (rG ln nd xs (lv+1))++[93]
  else if k=6 then 123::jV ln nd lv (List.zipWith (jH ln) ks (rG ln nd xs (lv+1)))++[125]else lb s
def rG(ln:Bool)(nd:Nat):List Tr->Nat->List Bs
 |[],_=>[]
 |x::l,lv=>J5 ln nd x lv::rG ln nd l lv
end
theorem DJ(ln:Bool)(nd:Nat)(lv:Nat):∀l:List Tr,rG ln nd l lv=l.map λx=>J5 ln nd x lv
 |[]=>rfl
 |x::l=>by rw[rG,DJ ln nd lv l];rfl
theorem oz(ln:Bool)(nd:Nat)(v:Tr)(lv:Nat):J5 ln nd v lv=if v.kind=1 then [110,117,108,108]else if v.kind=4 then(iO (lb v.text)).1 else if v.kind=5 then 91::jV ln nd lv (v.items.map λx=>J5 ln nd x (lv+1))++[93]
  else if v.kind=6 then 123::jV ln nd lv (List.zipWith (jH ln) v.keys (v.items.map λx=>J5 ln nd x (lv+1)))++[125]else lb v.text:=by
 cases v with
 |mk k s ks xs=>rw[J5,DJ]
theorem XH(ln:Bool)(nd lv:Nat)(ps:List Bs)(p:Bs):Qx ln nd lv (ps++[p])=Qx ln nd lv ps++((if ps=[]then []else [44])++(Z1 ln nd lv++p)):=by
 cases ps with
 |nil=>simp[Qx]
 |cons q b=>rw[zbz,Qx,Qx,zdt,zv (by simp)];simp[za9]
theorem Ix(ln:Bool)(nd lv:Nat){ps:List Bs}{n:Nat}(h:n<ps.length):Qx ln nd lv (ps.take (n+1))=Qx ln nd lv (ps.take n)++((if n=0 then []else [44])++(Z1 ln nd lv++ps[n])):=by rw[zal h,XH];congr 2;by_cases h0:n=0;subst h0;rfl;rw[zv h0,zv (by intro e;rw[List.take_eq_nil_iff]at e;rcases e with e|e;exact h0 e;rw[e]at h;simp at h)]
theorem E3(ln:Bool)(nd lv:Nat){ps:List Bs}:∀{n:Nat},n<=ps.length->(Qx ln nd lv (ps.take n)).length<=(Qx ln nd lv ps).length:=by
 have step:∀k n,n+k=ps.length->(Qx ln nd lv (ps.take n)).length<=(Qx ln nd lv ps).length:=by
  intro k;induction k with
  |zero=>intro n h;rw[zew]at h;subst h;rw[zba];exact zac _
  |succ k b=>intro n h;have h1:=b (n+1) (by omega);rw[Ix ln nd lv (by omega),zah]at h1;omega
 intro n h;exact step (ps.length-n) n (by omega)
theorem JU:∀n:Nat,repeatL [32] n=zcv n 32
 |0=>rfl
 |n+1=>by rw[show repeatL [32] (n+1)=[32]++repeatL [32] n from rfl,JU n];rfl
theorem JS:∀{l:List Tr} {y:Tr},y∈l->cR y<=Xj l
 |x::l,y,h=>by rw[Xj];rcases zan.1 h with rfl|h;omega;have:=JS h;omega
theorem Hp{v x:Tr}(h:x∈v.items):cR x<cR v:=by have:=JS h;rw[j8 v];omega
end
section
open Go.RowKit
variable {b:Nat} {g g':zc} {K:Value -> zc -> Prop}
structure FrP (b:Nat) (g g':zc):Prop where
 keep:Keep b g g'
 oth:Otk g g'
theorem FrP.refl(b:Nat)(g:zc):FrP b g g:=⟨Keep.refl _ _,λi o e _=>e⟩
theorem FrP.trans{g g' c:zc}(h:FrP b g g')(k:FrP b g' c):FrP b g c:=⟨h.keep.trans k.keep (zac _),h.oth.trans k.oth⟩
theorem FrP.ofKeep(k:Keep g.size g g')(c:b<=g.size):FrP b g g':=⟨k.mono c,Otk.keep k⟩
theorem FrP.blk(h:FrP b g g'){c:Nat}{cs:Array Value}(e:g[c]?=Td (.cells cs 25 (0,0))):g'[c]?=Td (.cells cs 25 (0,0)):=h.oth c _ e rfl
structure Low (gl M:Fr) (b:Nat) (g:zc):Prop where
 hM:Fr.le gl M
 ag:AgM M g
 low:∀c cs,M c=Td cs->c<b
theorem Low.frp{gl M:Fr}(L:Low gl M b g)(f:FrP b g g'):Low gl M b g':=⟨L.hM,λc cs e=>by rw[f.keep.get c (L.low c cs e)];exact L.ag c cs e,L.low⟩
theorem add0(b:Nat):zab ⟨b,0,Te⟩ 0=⟨b,0,Te⟩:=rfl
section
variable {gl M : Fr} {b N : Nat} {ln : Bool} {l : Bs} {g : zc}
theorem Pm(i:GL gl)(n:Brn gl)(H:Prn g b ln (N:Int) l)(L:Low gl M b g){t:Bs}(j:t.length<=1048576)(c:l.length+(iO t).1.length<=140737488355328)(o:∀g',Prn g' b ln (N:Int) (l++(iO t).1)->FrP b g g'->K (.tuple #[]) g'):
  XC Tp 253 #[.pointer (Td ⟨b,0,Te⟩),.string (bl t)] g K:=by
 apply Wz;refine CH i j L.hM (n.mono L.hM) L.ag λh' k=>⟨_,_,rfl,_,rfl,?_⟩;rw[add0];have f:=FrP.ofKeep k (zey H.lt);refine Y6 (H.keep k) _ c λe h q m=>⟨_,_,rfl,o e h (f.trans ⟨q,m⟩)⟩
theorem FZ(i:GL gl)(h:Brn gl)(H:Prn g b ln (N:Int) l)(L:Low gl M b g){s:Bt}(f:(lb s).length<=1048576)(c:l.length+(iO (lb s)).1.length<=140737488355328)(e:∀g',Prn g' b ln (N:Int) (l++(iO (lb s)).1)->FrP b g g'->K (.tuple #[]) g'):
  XC Tp 253 #[.pointer (Td ⟨b,0,Te⟩),.string s] g K:=by
 have:=Pm i h H L (t:=lb s) f c e;rw[jp]at this;exact this
theorem Jv(H:Prn g b ln (N:Int) l)(L:Low gl M b g){lv:Nat}(U:N<=8)(w:lv<=100)(C:l.length+(Z1 ln N lv).length<=140737488355328)(j:∀g',Prn g' b ln (N:Int) (l++Z1 ln N lv)->FrP b g g'->K (.tuple #[]) g'):
  XC Tp 307 #[.pointer (Td ⟨b,0,Te⟩),.int .i64 (lv:Int)] g K:=by
 apply Lu;obtain⟨p,s,e,z,A⟩:=H;refine⟨_,rfl,ln,Blk.cellAdd (o:=0) (k:=2) (cs:=#[.pointer p,aK s,.bool ln,.int .i64 (N:Int)]) ⟨_,e⟩ rfl,λf=>?_,λf=>?_⟩;subst f;unfold Z1 at C j;simp only[if_true,zaw,zdl]at C j;refine⟨_,rfl,?_⟩;rw[add0];refine Q5 (b:=b) (nd:=(N:Int)) ⟨p,s,e,z,A⟩ (by omega) 10 λO r P I=>⟨_,rfl,_,rfl,_,rfl,?_⟩;have t:=r;obtain⟨E,V,F,G,J⟩:=t;have D:FrP b g O:=⟨P,I⟩;have y:=L.frp D;have B:N*lv<=800:=zch (zd0 U w) (by omega);refine⟨(N:Int),Blk.cellAdd (o:=0) (k:=3) (cs:=#[.pointer E,aK V,.bool Ta,.int .i64 (N:Int)]) ⟨_,F⟩ rfl,?_⟩;rw[show((N:Int)*(lv:Int))=((N*lv:Nat):Int)from by rw[Int.natCast_mul],io (by omega)];refine(y4 (gl:=gl) (s:=bl [32]) (c:=N*lv) (by omega) (by rw[zu];simp;omega) (R:=λx=>x=bl (zcv (N*lv) 32)) (by rw[yo,JU])).go y.hM y.ag (zr (a:=Arg.mk .str _) (rdStr _) (zr (a:=Arg.mk PJ _) (Ja _ _) qj)) λv Q T x i w S=>?_;subst S;refine⟨_,Ze (Y1.1 w),?_⟩;have u:=FrP.ofKeep i.keep (zey r.lt);rw[add0];refine Y6 (r.keep i.keep) _ (by simp only[zah,zaw,zb5,zdl];omega) λm h q n=>⟨_,_,rfl,?_⟩;refine j m ?_ ((D.trans u).trans ⟨q,n⟩);rw[za9]at h;exact h;subst f;refine j g ?_ (FrP.refl _ _);have:l++Z1 Tc N lv=l:=by unfold Z1;simp
 rw[this];exact⟨p,s,e,z,A⟩
end
end
section
section
variable {h:zc} {sk si:Sl} {bk bb:List Nat} {b bv cv:Nat} {cs:Array Value} {K:Value -> zc -> Prop}
theorem OTp.row{v:Tr}{bf:Nat->List Nat}(H:OTp h v sk si bk bb b cs bf){h':zc}(k:∀c∈bb,h'[c]?=h[c]?):RowO h' si b cs 4:=by refine⟨by have:=H.hn;omega,?_⟩;rcases H.hz with⟨h0,_,i⟩|⟨e,f,j,l⟩;exact .inl ⟨by rw[H.hn.1,h0];rfl,i⟩;exact .inr ⟨f,j.keep (k b (by rw[e];simp)),l⟩
theorem Jz(x:Tr)(sk si:Sl):∀u∈zm x sk si,u.oneCell'=Ta:=by intro u b;simp[zm]at b;rcases b with rfl|rfl|rfl|rfl <;> simp[Value.oneCell',aK]
theorem LU{ks:List Bt}(H:OKeys h ks bk sk){s:Bt}(A:Blk h bv #[.string s])(w:ks.length<=1048576) (C:∀(sk':Sl) (h':zc) (o:Nat),OKeys h' (ks++[s]) [o] sk'->(o∈bk\/h.size<=o)->h.size<=h'.size->(∀c,c<h.size->c∉bk->h'[c]?=h[c]?)->K (.slice sk'.a sk'.len sk'.cap) h'):
  qu Tp (zao #[22,22] 22 #[.slice sk.a sk.len sk.cap,.slice (Td ⟨bv,0,Te⟩) 1 cv]) h K:=by
 obtain⟨l,D,E,q⟩:=H;obtain⟨b,cs,m,t,i⟩:∃b cs,RowO h sk b cs 1/\(b∈bk\/h.size<=b)/\cut cs 0 (sk.len*1)=ks.map zaz:=by rcases q with⟨rfl,rfl,h0⟩|⟨b,cs,rfl,z,f,n,B⟩;refine⟨h.size,#[],⟨by omega,.inl ⟨l,h0⟩⟩,.inr (zac _),?_⟩;rw[l];rfl;exact⟨b,cs,⟨by omega,.inr ⟨z,f,by omega⟩⟩,.inl (by simp),by rw[l,zbm];exact B⟩
 have y:∀c∈bk,c<h.size:=by intro c j;rcases q with⟨_,rfl,_⟩|⟨b,cs,rfl,_,f,_⟩;cases j;simp at j;subst j;exact f.lt
 refine oK (vs:=[.string s]) Wt m A rfl (λu r=>by simp at r;subst r;simp[Value.oneCell']) (by omega) (by omega) λx h' b' cs' N=>?_;rw[i]at N;have k:(ks++[s]).length=sk.len+1:=by simp[l]
 refine C x h' b' ⟨by rw[k];exact N.len,by rw[k];omega,by rw[k];exact N.cap,.inr ⟨b',cs',rfl,N.a,N.blk,by have:=N.size;omega,?_⟩⟩ ?_ N.grow λc j w=>N.old c j λe=>?_;rw[k];have:=N.cut;rw[zbm]at this;rw[this];simp;rcases N.new with e|e;rw[e];exact t;exact .inr e;rcases N.new with f|f;rcases t with n|n;exact w (by rw[e,f];exact n);omega;omega
theorem QX{g h:zc}{x:Tr}{bf:Nat->List Nat}(H:OTp g x sk si bk bb b cs bf)(B:∀c∈bb,h[c]?=g[c]?){w:Tr}{n m:Sl}(z:Blk h bv (zm w n m).toArray)(t:x.items.length<=1000000000) (A:∀(si':Sl) (h':zc) (b':Nat) (cs':Array Value),si'.a=Td ⟨b',0,Te⟩->si'.len=x.items.length+1->x.items.length+1<=si'.cap->Blk h' b' cs'->si'.cap*4<=cs'.size->cut cs' 0 ((x.items.length+1)*4)=cut cs 0 (x.items.length*4)++zm w n m -> ((b'=b/\b∈bb)\/h.size<=b')->h.size<=h'.size->(∀c,c<h.size->c∉bb->h'[c]?=h[c]?)->K (.slice si'.a si'.len si'.cap) h'):
  qu Tp (zao #[23,23] 23 #[.slice si.a si.len si.cap,.slice (Td ⟨bv,0,Te⟩) 1 cv]) h K:=by
 have f:=H.hn.1;obtain⟨b0,k,o⟩:∃b0,RowO h si b0 cs 4/\((b0=b/\b∈bb)\/b0=h.size):=by have i:=OTp.row H (h':=h) B;rcases H.hz with⟨h0,_,y⟩|⟨q,_⟩;exact⟨h.size,⟨i.le,.inl ⟨by rw[f,h0];rfl,y⟩⟩,.inr rfl⟩;exact⟨b,i,.inl ⟨rfl,by rw[q];simp⟩⟩
 refine oK (vs:=zm w n m) elemTree k z rfl (Jz w n m) (by omega) (by omega) λu h' b' cs' N=>?_;rw[f]at N;have j:(b'=b/\b∈bb)\/h.size<=b':=by rcases N.new with e|e;rcases o with⟨l,r⟩|l;exact .inl ⟨by rw[e,l],r⟩;exact .inr (by omega);exact .inr e
 refine A u h' b' cs' N.a N.len N.cap N.blk N.size N.cut j N.grow λc C t=>N.old c C λe=>?_;rcases j with⟨l,r⟩|l;exact t (by rw[e,l];exact r);omega
end
section
section
variable {lo hi : Nat} {g : zc} {b0 : Nat} {v : Tr} {sk si : Sl}
theorem FI:yb Tp 22=Ta:=by kernel_rfl
theorem HF:j4 Tp 22=1:=by kernel_rfl
theorem LN:yb Tp 23=Ta:=by kernel_rfl
theorem Rf:j4 Tp 23=1:=by kernel_rfl
end
end
end
section
open Go.Code
variable {ro:Option Nat} {n:Nat} {P:Program} {f:FuncId} {args:Array Value} {w:World} {o:Oper} {a:Act} {e:bR} {h:zc}
abbrev rf(ro:Option Nat):Fence:={ Fence.wide with round:=ro }
def kC(K:Act->World->Prop):Exit->Act->World->Prop
 |.normal,a,w=>K a w
 |_,_,_=>False
theorem Yo{K:Act->World->Prop}:¬LetsOut (kC K):=λ⟨_,_,h⟩=>h
theorem LI{R:Ending->World->Prop}(h:Calls P f args w R):CallsIn (rf ro) n P f args w R:=by have h1:CallsIn Fence.wide n P f args w R:=callsIn_wide.2 h;exact h1
theorem Vv{row:String}{R:Value->World->Prop}(h:Rows P row args w R):RowsIn (rf ro) n P row args w R:=by have h1:RowsIn Fence.wide n P row args w R:=λc cs _=>let ⟨v,w',r,s⟩:=h c cs;⟨v,w',r,stepsIn_wide.2 s⟩;exact h1
def Zl(o:Oper):Bool:=match o.op with
 |.defer _=>Tc
 |_=>Ta
theorem Vs(h:Zl o=Ta):∀c,o.op≠.defer c:=by intro c e;unfold Zl at h;grind
theorem DL(c:Zl o=Ta){K:Act->World->Prop}{Q:Exit->Act->World->Prop}(h:o.wp P a w K Q):o.wpIn (rf ro) n P a w K Q:=by
 refine⟨λ_ _=>trivial,?_⟩;rw[Oper.semAt_eq _ _ _ (Vs c)];unfold Oper.wp at h;generalize (execOp a.eval o).run P w=r at *;cases r with
 |ok x w'=>
  cases x with
  |enter f args=>exact⟨λb=>(by cases b),LI h⟩
  |row row args=>exact⟨λb=>(by cases b),Vv h⟩
  |value v=>exact h
  |skip=>exact h
  |defer d=>exact h
  |_=>exact h.elim
 |halt x w'=>cases x <;> first|exact h|exact h.elim
theorem qD{ro:Option Nat}{n:Nat}{P:Program}{ops:Array Oper}{K:Act->World->Prop}{Q:Exit->Act->World->Prop}: ∀(l i:List Oper) (a:Act) (w:World),l.all Zl=Ta->wpList P ops (kC K) l a w->(∀a w,K a w->wpListIn (rf ro) n P ops Q i a w)->wpListIn (rf ro) n P ops Q (l++i) a w
 |[],i,a,w,_,h,hK=>hK a w h
 |o::l,i,a,w,hd,h,hK=>by
  rw[zdf,zam]at hd;rw[zbz];unfold wpListIn;unfold wpList at h;by_cases k:zbr o (yielded ops a.tmps)=Ta;rw[zA k]at h ⊢;rcases h with h|⟨_,h⟩;have h1:=DL (ro:=ro) (n:=n) hd.1 h;have m:=Oper.wpIn_mono (λa w q=>qD l i a w hd.2 q hK) h1;refine⟨m.1,?_⟩;have b:=m.2;revert b;generalize (o.semAt (rf ro).round a.eval).run P w=r;cases r with
  |ok x w'=>
   cases x with
   |enter f args=>exact λb=>⟨b.1,CallsIn.mono b.2 λe j c=>by cases e <;> first|exact c|exact c.elim|exact(Yo c).elim⟩
   |round l f tmps assign body=>exact λb=>⟨b.1,RoundIn.mono b.2 λe j c=>by cases e <;> first|exact c|exact c.elim|exact(Yo c).elim⟩
   |_=>exact λb=>b
  |halt x w'=>cases x <;> first|exact λb=>b|exact λb=>b.elim
  exact(Yo h).elim;rw[zv k]at h ⊢;exact⟨λ_ _=>trivial,qD l i _ _ hd.2 h hK⟩
theorem tU{ro:Option Nat}{n:Nat}{P:Program}{j:Region.Mode}{ops:Array Oper}{K:Act->World->Prop}(c:∀(i:Nat) (o:Oper),ops[i]?=Td o->Zl o=Ta):∀(fuel:Nat) (listed:Array Bool) (a:Act) (w:World),wpAny P j ops (kC K) fuel listed a w->wpAnyIn (rf ro) n P j ops (kC K) fuel listed a w
 |0,_,_,_,h=>h
 |fuel+1,listed,a,w,h=>by refine⟨h.1,λi hi=>?_⟩;have b:=h.2 i hi;unfold wpOp at b;unfold wpOpIn;split at b;rename_i e;rw[e];exact tU c fuel _ _ _ b;rename_i o e;rw[e];simp only;by_cases f:zbr o (yielded ops a.tmps)=Ta;rw[zA f]at b ⊢;rcases b with b|⟨_,b⟩;exact Oper.wpIn_mono (λa w k=>tU c fuel _ a w k) (DL (c i o e) b);exact(Yo b).elim;rw[zv f]at b ⊢;exact⟨λ_ _=>trivial,tU c fuel _ _ _ b⟩
def Y7(D:List Deferred)(a:Act):Act:={ a with defers:=a.defers++D }
theorem CF{D:List Deferred}{K:Act->World->Prop}{R:Act->World->Prop}(h:o.wp P a w K (kC R)):o.wp P (Y7 D a) w (λa1 w1=>∃c,a1=Y7 D c/\K c w1) (kC λa1 w1=>∃c,a1=Y7 D c/\R c w1):=by
 unfold Oper.wp at h ⊢;have b:(Y7 D a).eval=a.eval:=rfl;rw[b];have i:∀d v,(Y7 D a).put d v=Y7 D (a.put d v):=λd v=>by cases d <;> rfl
 generalize (execOp a.eval o).run P w=r at *;cases r with
 |ok x w'=>
  cases x with
  |enter f args=>exact Calls.mono h λe j b=>by cases e with
    |returned v=>grind
    |panicked ch=>exact b
    |outgrown=>exact(Yo b).elim
  |row row args=>exact Rows.mono h λv j b=>⟨_,i _ _,b⟩
  |value v=>exact⟨_,i _ _,h⟩
  |skip=>exact⟨_,i _ _,h⟩
  |defer d=>exact⟨(Act.put { a with defers:=d::a.defers } o.dst undef),(by cases o.dst <;> rfl),(show K (Act.put { a with defers:=d::a.defers } o.dst undef) w' from h)⟩
  |_=>exact h.elim
 |halt x w'=>cases x <;> first|exact h|exact h.elim
theorem td{P:Program}{j:Region.Mode}{ops:Array Oper}{D:List Deferred}{K:Act->World->Prop}:∀(fuel:Nat) (listed:Array Bool) (a:Act) (w:World),wpAny P j ops (kC K) fuel listed a w->wpAny P j ops (kC λa1 w1=>∃c,a1=Y7 D c/\K c w1) fuel listed (Y7 D a) w
 |0,_,a,_,h=>⟨h.1,a,rfl,h.2⟩
 |fuel+1,listed,a,w,h=>by
  refine⟨λm=>⟨a,rfl,h.1 m⟩,λi hi=>?_⟩;have b:=h.2 i hi;unfold wpOp at b ⊢;have l:yielded ops (Y7 D a).tmps=yielded ops a.tmps:=rfl;split at b;exact td fuel _ _ _ b;rename_i o q;rw[l];by_cases f:zbr o (yielded ops a.tmps)=Ta;rw[zA f]at b ⊢;rcases b with b|⟨_,b⟩;exact .inl (Oper.wp_mono (λa1 w1 ⟨c,e,n⟩=>by rw[e];exact td fuel _ c w1 n) (CF b));exact(Yo b).elim;rw[zv f]at b ⊢;have k:(Y7 D a).put o.dst undef=Y7 D (a.put o.dst undef):=by cases o.dst <;> rfl
  rw[k];exact td fuel _ _ _ b
def YX(P:Program)(l:Nat)(args:Array Value)(h:zc)(K:Value->zc->Prop):Prop:=
 ∀(m:Nat) (B:World) (d:Nat),∃fn tmps assign body,(Instr.yield l args).run P (mk B d h)=.ok (.round l fn tmps assign body) (mk B d h) /\
  RoundIn (rf Te) m P l fn tmps assign body (mk B d h) λe w'=>∃v b h',e=.returned v/\w'=mk B b h'/\K v h'
def KZ(o:Oper):Bool:=match o.op with
 |.call c=>match c.callee with
  |.value x=>!(sL x)
  |_=>Tc
 |_=>Tc
def u7:List Oper->Option (List Oper×Oper×List Oper)
 |[]=>Te
 |o::l=>bif KZ o then Td ([],o,l)else match u7 l with
  |some (pre,o',post)=>Td (o::pre,o',post)
  |none=>Te
theorem Se{l:List Oper}:∀{pre b:List Oper} {o:Oper},u7 l=Td (pre,o,b)->l=pre++o::b:=by
 induction l with
 |nil=>intro pre b o h;cases h
 |cons x l c=>intro pre b o h;rw[u7]at h;grind
def uc(P:Program)(o:Oper)(e:bR)(h:zc)(K:Value->zc->Prop):Prop:=match o.op with
 |.call c=>match c.callee with
  |.value x=>match Xn e [] x with
   |some (.func (.yield l) A C)=>bif (bif (Nat.beq A.size 0)then(Nat.beq C.size 0)else Tc)then(bif known e [] c.args.toList then YX P l (c.args.map (jG e [])) h λv h'=>typed P o.type v λb=>K b h' else False)else False
   |_=>False
  |_=>False
 |_=>False
theorem Md{n m:Nat}{K:Value->zc->Prop}(H:uc P o e h K)(i:Sat n e a)(B:World)(d:Nat){next:Act->World->Prop}{Q:Exit->Act->World->Prop}
  (E:∀v w h',K v h'->next (a.put o.dst v) (mk B w h')):o.wpIn (rf Te) m P a (mk B d h) next Q:=by
 unfold uc at H;split at H;rename_i c j;split at H;rename_i x f;split at H;rename_i l A C r;obtain⟨hA,k,H⟩:A=#[]/\C=#[]/\(bif known e [] c.args.toList then YX P l (c.args.map (jG e [])) h λv h'=>typed P o.type v λq=>K q h' else False):=by simp_all
 subst hA;subst k;cases hk:known e [] c.args.toList with
 |false=>simp_all
 |true=>
  rw[hk]at H;simp only[zK]at H;obtain⟨fn,tmps,assign,body,h1,u⟩:=H (m-1) B d;have D:a.eval x=.func (.yield l) #[] #[]:=qy i (c:=[]) trivial r;have b:c.args.map a.eval=c.args.map (jG e []):=by apply Array.map_congr_left;intro y t;exact J8 i (c:=[]) trivial hk y (by simpa using t)
  have z:(o.semAt (rf Te).round a.eval).run P (mk B d h)=.ok (.round l fn tmps assign body) (mk B d h):=by show(execOp a.eval o).run P (mk B d h)=_;simp only[execOp,j,resolve,f,D,zev,Sem.run_bind,Sem.run_pure,Result.andThen_ok,invoke];rw[b];simpa using h1
  refine⟨λ_ _=>trivial,?_⟩;rw[z];refine⟨λf=>(by cases f),u.mono ?_⟩;grind [Zb]
 simp_all;simp_all;simp_all
def xJ(P:Program)(n:Nat)(f:List (Nat×Nat))(id:Nat)(ops:Array Oper)(b:Bool)(K:bR->zc->Prop)(e:bR)(h:zc):Prop:=
 match u7 ops.toList with
 |none=>regionF P n f id ops b K e h
 |some (pre,o,post)=>bif b then False else bif (pre.all Zl&&post.all Zl)then(match o.guard with
  |none=>bif xj n [] o.dst then wR P n ops (λc h1=>uc P o c h1 λv i=>wR P n ops K post (putO c o.dst [] v) i) pre e h else False
  |some _=>False)else False
theorem Uw(T:P.follows .mixedOrders=Ta){I:List (Nat×Nat)}{id:Nat}{ops:Array Oper}{c:Bool}{K:bR->zc->Prop} (H:xJ P n I id ops c K e h) (m:Nat) (B:World) (d:Nat) (F:Sat n e a) {Q:Exit->Act->World->Prop}
  (E:∀j f k h',Sat n j f->Same (xy ops.toList) a f->K j h'->Q .normal f (mk B k h')):(zfj id ops c).wpIn (rf Te) m P Q a (mk B d h):=by
 unfold xJ at H;split at H;exact wpIn_wide.2 (EA T H B d F E);rename_i pre o b z;have q:=Se z;cases c with
 |true=>grind
 |false=>
  simp only[zL]at H;cases hnd:(pre.all Zl&&b.all Zl)with
  |false=>simp_all
  |true=>
   rw[hnd]at H;simp only[zK]at H;rw[zam]at hnd;split at H;rename_i L;cases hd:xj n [] o.dst with
   |false=>simp_all
   |true=>
    rw[hd]at H;simp only[zK]at H;refine wpIn_region_list ?_;have r:∀x∈xy pre,x∈xy ops.toList:=λx O=>by rw[q,We];simp_all
    have t:∀i,o.dst=Td i->i∈xy ops.toList:=λi hi=>by rw[q,We];exact zbf _ (by simp[xy,hi])
    have C:∀x∈xy b,x∈xy ops.toList:=λx O=>by rw[q,We];refine zbf _ ?_;unfold xy;grind
    rw[q];refine qD (K:=λa1 w1=>∃l d1 h1,w1=mk B d1 h1/\Sat n l a1/\Same (xy ops.toList) a a1/\uc P o l h1 λv D=>wR P n ops K b (putO l o.dst [] v) D) pre (o::b) a _ hnd.1 (rD B pre e h a d H F λj f k h' y A M=>⟨j,k,h',rfl,y,A.mono r,M⟩) ?_;rintro a1 w1 ⟨l,d1,h1,rfl,s1,N,y⟩;unfold wpListIn;have u:zbr o (yielded ops a1.tmps)=Ta:=by simp[zbr,L]
    rw[zA u];refine Md y s1 B d1 λv d2 D A=>?_;have s2:Sat n (putO l o.dst [] v) (a1.put o.dst v):=s1.putO hd (λ_=>rfl) (λU=>absurd trivial U);rw[<-zbs b];refine qD (K:=λf w'=>Q .normal f w') b [] _ _ hnd.2 (rD B b _ _ _ _ A s2 λj f k h' J S G=>?_) λa w h=>h;exact E j f k h' J ((N.trans (Same.put a1 o.dst v t)).trans (S.mono C)) G
   simp_all
def WI(P:Program)(n:Nat)(pl:Plan):Code->Jl->bR->zc->Prop
 |.skip,Q,e,h=>Q .normal e h
 |.ret,Q,e,h=>Q .ret e h
 |.exit id,Q,e,h=>Q (.exit id) e h
 |.label _,Q,e,h=>Q .normal e h
 |.goto l,Q,e,h=>Q (.goto l) e h
 |.region id ops draw,Q,e,h=>xJ P n pl.tails id ops draw (λe h=>Q .normal e h) e h
 |.seq x y,Q,e,h=>match sQ pl.joins (y9 y)with
  |none=>WI P n pl x (mG (λe h=>WI P n pl y Q e h) Q) e h
  |some J=>FK J (λe h=>WI P n pl y Q e h) (λK=>WI P n pl x (mG K Q) e h) (Wg (xp x) e)
 |.cond c x y,Q,e,h=>match Xn e [] c with
  |some (.bool b)=>(b=Ta->WI P n pl x Q e h)/\(b=Tc->WI P n pl y Q e h)
  |_=>False
 |.block id x,Q,e,h=>WI P n pl x (mF id Q) e h
 |.loop x,Q,e,h=>match sQ pl.loops (y9 x)with
  |some J=>Ai J (λf e h=>WI P n pl x (mG f Q) e h) (Wg (xp x) e) e h
  |none=>False
 |_,_,_,_=>False
theorem Sa(hm:P.follows .mixedOrders=Ta){pl:Plan}:∀(c:Code) (Q:Jl) (e:bR) (h:zc),WI P n pl c Q e h ->
  ∀(m:Nat) (B:World) (d:Nat) (a:Act),Sat n e a->c.wpIn (rf Te) m P (JB n B (xp c) a Q) a (mk B d h):=by
 intro c;induction c with
 |skip=>exact λQ e h H m B d a f=>wpIn_skip ⟨e,d,h,rfl,f,Same.refl _ _,H⟩
 |ret=>exact λQ e h H m B d a f=>wpIn_ret ⟨e,d,h,rfl,f,Same.refl _ _,H⟩
 |exit id=>exact λQ e h H m B d a f=>wpIn_exit ⟨e,d,h,rfl,f,Same.refl _ _,H⟩
 |label l=>exact λQ e h H m B d a f=>wpIn_label ⟨e,d,h,rfl,f,Same.refl _ _,H⟩
 |goto l=>exact λQ e h H m B d a f=>wpIn_goto ⟨e,d,h,rfl,f,Same.refl _ _,H⟩
 |region id ops aj=>exact λQ e h H m B d a f=>Uw hm H m B d f λe' a' d' h' k o q3=>⟨e',d',h',rfl,k,o,q3⟩
 |seq x y A C=>
  intro Q e h H m B d a f;simp only[WI]at H;have G:∀i∈xp x,i∈xp (x.seq y):=λi hi=>zau _ hi;have O:∀i∈xp y,i∈xp (x.seq y):=λi hi=>zbf _ hi;split at H;refine wpIn_seq (wpIn_mono (A _ _ _ H m B d a f) ?_);rintro ex a1 w1 ⟨z,d1,h1,rfl,s1,u,k⟩;cases ex with
  |normal=>refine wpIn_mono (C _ _ _ k m B d1 a1 s1) ?_;rintro ex a2 w2 ⟨r,d2,t,rfl,s2,w,o⟩;exact⟨r,d2,t,rfl,s2,(u.mono G).trans (w.mono O),o⟩
  |_=>exact⟨z,d1,h1,rfl,s1,u.mono G,k⟩
  rename_i J hJ;have H':=H (ox (ju J) λvs=>λh=>WI P n pl y Q (Ya J vs++Wg (xp x) e) h) (Be λvs h L=>L);refine wpIn_seq (wpIn_mono (A _ _ _ H' m B d a f) ?_);rintro ex a1 w1 ⟨z,d1,h1,rfl,s1,u,k⟩;cases ex with
  |normal=>obtain⟨vs,q,N,L,hk⟩:=nt k;have Y:=wY L;subst Y;have S:Sat n (Ya J vs++Wg (xp x) e) a1:=X9 f s1.defers s1.size u (yg s1 N);refine wpIn_mono (C _ _ _ hk m B d1 a1 S) ?_;rintro ex a2 w2 ⟨r,d2,t,rfl,s2,w,o⟩;exact⟨r,d2,t,rfl,s2,(u.mono G).trans (w.mono O),o⟩
  |_=>exact⟨z,d1,h1,rfl,s1,u.mono G,k⟩
 |cond c x y A C=>intro Q e h H m B d a f;simp only[WI]at H;have G:∀i∈xp x,i∈xp (zfa c x y):=λi hi=>zau _ hi;have O:∀i∈xp y,i∈xp (zfa c x y):=λi hi=>zbf _ hi;split at H;rename_i b D;refine wpIn_cond_split (qy f (c:=[]) trivial D) (λT=>?_) (λab=>?_);refine wpIn_mono (A _ _ _ (H.1 T) m B d a f) ?_;rintro ex a2 w2 ⟨r,d2,t,rfl,s2,w,o⟩;exact⟨r,d2,t,rfl,s2,w.mono G,o⟩;refine wpIn_mono (C _ _ _ (H.2 ab) m B d a f) ?_;rintro ex a2 w2 ⟨r,d2,t,rfl,s2,w,o⟩;exact⟨r,d2,t,rfl,s2,w.mono O,o⟩;exact H.elim
 |block id x ih=>
  intro Q e h H m B d a f;refine wpIn_block (wpIn_mono (ih _ _ _ H m B d a f) ?_);rintro ex a1 w1 ⟨z,d1,h1,rfl,s1,u,k⟩;cases ex with
  |exit i=>simp only[mF]at k;simp only[Exit.inBlock];by_cases D:Nat.beq i id=Ta;rw[zA (za4 D)];simp only[D,zK]at k;exact⟨z,d1,h1,rfl,s1,u,k⟩;rw[zv (λhe=>D (by rw[he];simp))];simp only[D,zL]at k;exact⟨z,d1,h1,rfl,s1,u,k⟩
  |_=>exact⟨z,d1,h1,rfl,s1,u,k⟩
 |loop x ih=>
  intro Q e h H m B d a f;simp only[WI]at H;split at H;rename_i J hJ;obtain⟨I,μ,h0,E⟩:=H;obtain⟨aa,p0,ah,ai,af⟩:=nt h0;let F:=nW (ju J) I μ;let at_:Act->Option ((zc->Prop)×(zc->Nat)):=λa1=>(Xp (λi=>Td (qk a1 i)) J).bind λvs=>iY (ju J) vs F;refine wpIn_loop (λa1 w1=>∃d1 h1 vs p,w1=mk B d1 h1/\a1.defers=[]/\a1.tmps.size=n/\Same (xp x) a a1/\Xp (λi=>Td (qk a1 i)) J=Td vs/\iY (ju J) vs F=Td p/\p.1 h1) (λa1 w1=>match at_ a1 with|some p=>p.2 w1.heap|none=>0) ⟨d,h,aa,p0,rfl,f.defers,f.size,Same.refl _ _,yg f ah,ai,af⟩ ?_;rintro a1 w1 ⟨d1,h1,vs,p,rfl,U,ae,j,N,hp,hI⟩;have s1:Sat n (Ya J vs++Wg (xp x) e) a1:=X9 f U ae j N;have D:=tJ hp E h1 hI;refine wpIn_mono (ih _ _ _ D m B d1 a1 s1) ?_;rintro ex a2 w2 ⟨r,d2,t,rfl,s2,w,o⟩;cases ex with
  |normal=>
   obtain⟨Z,q,M,L,V,ac⟩:=nt o;refine⟨⟨d2,t,Z,q,rfl,s2.defers,s2.size,j.trans w,yg s2 M,L,V⟩,?_⟩;have z:at_ a1=Td p:=by simp only[at_,N,zcr];exact hp
   have r:at_ a2=Td q:=by simp only[at_,yg s2 M,zcr];exact L
   rw[z,r];exact ac
  |_=>exact⟨r,d2,t,rfl,s2,j.trans w,o⟩
  exact H.elim
 |_=>exact λQ e h H=>H.elim
def md(P:Program)(f:FuncId)(args:Array Value)(h:zc)(R:Value->zc->Prop):Prop:=
 ∀(m:Nat) (B:World) (d:Nat),CallsIn (rf Te) m P f args (mk B d h) λe w'=>∃v b h',e=.returned v/\w'=mk B b h'/\R v h'
theorem xN(u:P.follows .mixedOrders=Ta)(pl:Plan)(vs:List Value){fn:Func}{rs:List ResultVar}(q:P.funcs[f]?=Td fn)(b:Yd fn=Ta)(o:fn.results.toList=rs)(t:fn.ntmps=n)
  (hz:Nat.ble vs.length n=Ta) {R:Value->zc->Prop} (H:WI P n pl (codeOf fn) (uQ P rs R) (lj 0 vs) h):md P f vs.toArray h R:=by
 have k:fn.body=Td (codeOf fn):=by unfold Yd at b;unfold codeOf;split at b;omega;cases b
 intro m B d;subst t;refine callsIn_of_wp q k trivial ?_ rfl;have y:vs.length<=fn.ntmps:=zc0 hz;have r:Sat fn.ntmps (lj 0 vs) { tmps:=vs.toArray++zc4 (fn.ntmps-vs.toArray.size) undef,defers:=[] }:=by
  refine⟨rfl,by simp;omega,?_⟩;refine tz vs.toArray _ vs 0 λj v x=>?_;have i:j<vs.length:=by rcases zb0 j vs.length with h|h;exact h;simp_all
  simp only[zas,zcb];rw[zdg (by simpa using i)];simp[x]
 refine wpIn_mono (Sa u (codeOf fn) _ _ _ H m B d _ r) ?_;rintro ex a w ⟨A,d1,h1,rfl,s1,z,e⟩;cases ex with
 |normal=>obtain⟨v,l,c⟩:=Yc s1 o e;exact⟨s1.defers,v,c B d1,v,d1,h1,rfl,rfl,l⟩
 |ret=>obtain⟨v,l,c⟩:=Yc s1 o e;exact⟨s1.defers,v,c B d1,v,d1,h1,rfl,rfl,l⟩
 |_=>exact e.elim
end
section
variable {P:Program} {n m id:Nat} {ro:Option Nat} {e:bR} {h:zc} {a:Act}
theorem Av{P:Program}{ops:Array Oper}{D:List Deferred}{K:Act->World->Prop}:∀(l:List Oper) (a:Act) (w:World),wpList P ops (kC K) l a w->wpList P ops (kC λa1 w1=>∃b,a1=Y7 D b/\K b w1) l (Y7 D a) w
 |[],a,w,h=>⟨a,rfl,h⟩
 |o::l,a,w,h=>by
  unfold wpList at h ⊢;have j:yielded ops (Y7 D a).tmps=yielded ops a.tmps:=rfl;rw[j];by_cases c:zbr o (yielded ops a.tmps)=Ta;rw[zA c]at h ⊢;rcases h with h|⟨_,h⟩;exact .inl (Oper.wp_mono (λa1 w1 ⟨b,e,i⟩=>by rw[e];exact Av l b w1 i) (CF h));exact(Yo h).elim;rw[zv c]at h ⊢;have f:(Y7 D a).put o.dst undef=Y7 D (a.put o.dst undef):=by cases o.dst <;> rfl
  rw[f];exact Av l _ w h
def rR(P:Program)(n:Nat)(ops:Array Oper)(b:Bool)(K:bR->zc->Prop)(e:bR)(h:zc):Prop:=
 bif ops.toList.all Zl then(bif b then(bif ns Tc ops then wI P n h Ta ops (λc=>lS Tc P n ops h K (i0 Tc ops).length [] (i0 Tc ops) c h) (Jk [] (Jj Tc ops [] ops.size) ops.size) e else False)else wR P n ops K ops.toList e h)else False
theorem vS(y:P.follows .mixedOrders=Ta){D:List Deferred}{ops:Array Oper}{j:Bool}{K:bR->zc->Prop}(H:rR P n ops j K e h)(B:World)(d:Nat)(t:Sat n e a){Q:Exit->Act->World->Prop}
  (w:∀b k c h',Sat n b k->Same (xy ops.toList) a k->K b h'->Q .normal (Y7 D k) (mk B c h')):(zfj id ops j).wpIn (rf ro) m P Q (Y7 D a) (mk B d h):=by
 unfold rR at H;cases hd:ops.toList.all Zl with
 |false=>simp_all
 |true=>
  rw[hd,zK]at H;have fin:∀a1 w1,(∃f,a1=Y7 D f/\∃b c h',w1=mk B c h'/\Sat n b f/\Same (xy ops.toList) a f/\K b h')->Q .normal a1 w1:=by rintro a1 w1 ⟨f,rfl,b,c,h',rfl,l,r,q⟩;exact w b f c h' l r q
  cases j with
  |false=>refine wpIn_region_list ?_;rw[<-zbs ops.toList];exact qD _ [] _ _ hd (Av (K:=λf w1=>∃b c h',w1=mk B c h'/\Sat n b f/\Same (xy ops.toList) a f/\K b h') _ _ _ (rD B _ _ _ _ _ H t λb k c h' l r q=>⟨b,c,h',rfl,l,r,q⟩)) fin
  |true=>
   rw[zK]at H;cases hB:ns Tc ops with
   |false=>simp_all
   |true=>
    rw[hB]at H;have h0:wpAny P .any ops (kC λf w1=>∃b c h',w1=mk B c h'/\Sat n b f/\Same (xy ops.toList) a f/\K b h') ops.size (zc4 ops.size Tc) a (mk B (d+1) h):= CM B hB H t (λb k c h' l r q=>⟨b,c,h',rfl,l,r,q⟩) (d+1);refine wpIn_mono (wpIn_region_any (Q:=kC λa1 w1=>∃f,a1=Y7 D f/\∃b c h',w1=mk B c h'/\Sat n b f/\Same (xy ops.toList) a f/\K b h') y (tU (λi o z=>?_) _ _ _ _ (td _ _ _ _ h0))) λx k w' u=>?_;grind;cases x with
    |normal=>exact fin _ _ u
    |_=>exact u.elim
def WG(P:Program)(n:Nat):Code->Jl->bR->zc->Prop
 |.skip,Q,e,h=>Q .normal e h
 |.ret,Q,e,h=>Q .ret e h
 |.exit id,Q,e,h=>Q (.exit id) e h
 |.region _ ops draw,Q,e,h=>rR P n ops draw (λe h=>Q .normal e h) e h
 |.seq x y,Q,e,h=>WG P n x (mG (λe h=>WG P n y Q e h) Q) e h
 |.cond c x y,Q,e,h=>match Xn e [] c with
  |some (.bool b)=>(b=Ta->WG P n x Q e h)/\(b=Tc->WG P n y Q e h)
  |_=>False
 |.block id x,Q,e,h=>WG P n x (mF id Q) e h
 |_,_,_,_=>False
def wL(n:Nat)(B:World)(D:List Deferred)(Q:Jl):Exit->Act->World->Prop:=
 λx a w=>∃e d h b,a=Y7 D b/\w=mk B d h/\Sat n e b/\Q x e h
theorem Vk{B:World}{D:List Deferred}{Q:Jl}:∀c a w,wL n B D (mF id Q) c a w->Exit.inBlock id (wL n B D Q) c a w:=by
 rintro c a1 w1 ⟨h,d1,h1,f,rfl,rfl,s1,b⟩;cases c with
 |exit i=>simp only[mF]at b;simp only[Exit.inBlock];by_cases e:Nat.beq i id=Ta;rw[zA (za4 e)];simp only[e,zK]at b;exact⟨h,d1,h1,f,rfl,rfl,s1,b⟩;rw[zv (λj=>e (by rw[j];simp))];simp only[e,zL]at b;exact⟨h,d1,h1,f,rfl,rfl,s1,b⟩
 |_=>exact⟨h,d1,h1,f,rfl,rfl,s1,b⟩
theorem DY(A:P.follows .mixedOrders=Ta){D:List Deferred}:∀(c:Code) (Q:Jl) (e:bR) (h:zc),WG P n c Q e h ->
  ∀(B:World) (d:Nat) (a:Act),Sat n e a->c.wpIn (rf ro) m P (wL n B D Q) (Y7 D a) (mk B d h):=by
 intro c;induction c with
 |skip=>exact λQ e h H B d a f=>wpIn_skip ⟨e,d,h,a,rfl,rfl,f,H⟩
 |ret=>exact λQ e h H B d a f=>wpIn_ret ⟨e,d,h,a,rfl,rfl,f,H⟩
 |exit id=>exact λQ e h H B d a f=>wpIn_exit ⟨e,d,h,a,rfl,rfl,f,H⟩
 |region id ops q=>exact λQ e h H B d a f=>vS A H B d f λw u z h' k _ G=>⟨w,z,h',u,rfl,rfl,k,G⟩
 |seq x y j i=>
  intro Q e h H B d a f;refine wpIn_seq (wpIn_mono (j _ _ _ H B d a f) ?_);rintro ex a1 w1 ⟨C,d1,h1,r,rfl,rfl,s1,k⟩;cases ex with
  |normal=>exact i _ _ _ k B d1 r s1
  |_=>exact⟨C,d1,h1,r,rfl,rfl,s1,k⟩
 |cond c x y j i=>intro Q e h H B d a f;simp only[WG]at H;split at H;rename_i b t;have F:(Y7 D a).eval c=.bool b:=qy f (c:=[]) trivial t;exact wpIn_cond_split F (λo=>j _ _ _ (H.1 o) B d a f) (λl=>i _ _ _ (H.2 l) B d a f);exact H.elim
 |block id x E=>intro Q e h H B d a f;exact wpIn_block (wpIn_mono (E _ _ _ H B d a f) Vk)
 |_=>exact λQ e h H=>H.elim
def WL(P:Program)(n:Nat)(pl:List (Nat×iQ)):Code->Jl->bR->zc->Prop
 |.skip,Q,e,h=>Q .normal e h
 |.ret,Q,e,h=>Q .ret e h
 |.exit id,Q,e,h=>Q (.exit id) e h
 |.region _ ops draw,Q,e,h=>rR P n ops draw (λe h=>Q .normal e h) e h
 |.seq x y,Q,e,h=>WL P n pl x (mG (λe h=>WL P n pl y Q e h) Q) e h
 |.cond c x y,Q,e,h=>match Xn e [] c with
  |some (.bool b)=>(b=Ta->WL P n pl x Q e h)/\(b=Tc->WL P n pl y Q e h)
  |_=>False
 |.block id x,Q,e,h=>WL P n pl x (mF id Q) e h
 |.loop x,Q,e,h=>match sQ pl (y9 x)with
  |some J=>Ai J (λf e h=>WL P n pl x (mG f Q) e h) (Wg (xp x) e) e h
  |none=>False
 |_,_,_,_=>False
def Om(n:Nat)(B:World)(D:List Deferred)(ms:List Nat)(a1:Act)(Q:Jl):Exit->Act->World->Prop:=
 λx a w=>∃e d h b,a=Y7 D b/\w=mk B d h/\Sat n e b/\Same ms a1 b/\Q x e h
theorem WB(hm:P.follows .mixedOrders=Ta){D:List Deferred}{pl:List (Nat×iQ)}:∀(c:Code) (Q:Jl) (e:bR) (h:zc),WL P n pl c Q e h ->
  ∀(B:World) (d:Nat) (a:Act),Sat n e a->c.wpIn (rf ro) m P (Om n B D (xp c) a Q) (Y7 D a) (mk B d h):=by
 intro c;induction c with
 |skip=>exact λQ e h H B d a f=>wpIn_skip ⟨e,d,h,a,rfl,rfl,f,Same.refl _ _,H⟩
 |ret=>exact λQ e h H B d a f=>wpIn_ret ⟨e,d,h,a,rfl,rfl,f,Same.refl _ _,H⟩
 |exit id=>exact λQ e h H B d a f=>wpIn_exit ⟨e,d,h,a,rfl,rfl,f,Same.refl _ _,H⟩
 |region id ops ai=>exact λQ e h H B d a f=>vS hm H B d f λe' a' d' h' l o q3=>⟨e',d',h',a',rfl,rfl,l,o,q3⟩
 |seq x y E G=>
  intro Q e h H B d a f;have O:∀i∈xp x,i∈xp (.seq x y):=λi hi=>zaj.2 (.inl hi);have hy:∀i∈xp y,i∈xp (.seq x y):=λi hi=>zaj.2 (.inr hi);refine wpIn_seq (wpIn_mono (E _ _ _ H B d a f) ?_);rintro z a1 w1 ⟨C,d1,h1,j,rfl,rfl,s1,M,l⟩;cases z with
  |normal=>refine wpIn_mono (G _ _ _ l B d1 j s1) ?_;rintro z a2 w2 ⟨r,d2,u,t,rfl,rfl,s2,A,o⟩;exact⟨r,d2,u,t,rfl,rfl,s2,(M.mono O).trans (A.mono hy),o⟩
  |_=>exact⟨C,d1,h1,j,rfl,rfl,s1,M.mono O,l⟩
 |cond c x y E G=>intro Q e h H B d a f;have O:∀i∈xp x,i∈xp (.cond c x y):=λi hi=>zaj.2 (.inl hi);have hy:∀i∈xp y,i∈xp (.cond c x y):=λi hi=>zaj.2 (.inr hi);simp only[WL]at H;split at H;rename_i b w;have hc:(Y7 D a).eval c=.bool b:=qy f (c:=[]) trivial w;exact wpIn_cond_split hc (λS=>wpIn_mono (E _ _ _ (H.1 S) B d a f) λz a2 w2 ⟨r,d2,u,t,r1,r2,s2,A,o⟩=>⟨r,d2,u,t,r1,r2,s2,A.mono O,o⟩) (λaa=>wpIn_mono (G _ _ _ (H.2 aa) B d a f) λz a2 w2 ⟨r,d2,u,t,r1,r2,s2,A,o⟩=>⟨r,d2,u,t,r1,r2,s2,A.mono hy,o⟩);exact H.elim
 |block id x Z=>
  intro Q e h H B d a f;refine wpIn_block (wpIn_mono (Z _ _ _ H B d a f) ?_);rintro z a1 w1 ⟨C,d1,h1,j,rfl,rfl,s1,M,l⟩;cases z with
  |exit i=>simp only[mF]at l;simp only[Exit.inBlock];by_cases w:Nat.beq i id=Ta;rw[zA (za4 w)];simp only[w,zK]at l;exact⟨C,d1,h1,j,rfl,rfl,s1,M,l⟩;rw[zv (λhe=>w (by rw[he];simp))];simp only[w,zL]at l;exact⟨C,d1,h1,j,rfl,rfl,s1,M,l⟩
  |_=>exact⟨C,d1,h1,j,rfl,rfl,s1,M,l⟩
 |loop x Z=>
  intro Q e h H B d a f;simp only[WL]at H;split at H;rename_i J hJ;obtain⟨I,μ,h0,L⟩:=H;obtain⟨Y,p0,af,ah,ae⟩:=nt h0;let F:=nW (ju J) I μ;let at_:Act->Option ((zc->Prop)×(zc->Nat)):=λa1=>(Xp (λi=>Td (qk a1 i)) J).bind λvs=>iY (ju J) vs F;refine wpIn_loop (λa1 w1=>∃d1 h1 vs p j,a1=Y7 D j/\w1=mk B d1 h1/\j.defers=[]/\j.tmps.size=n/\Same (xp x) a j/\Xp (λi=>Td (qk j i)) J=Td vs/\iY (ju J) vs F=Td p/\p.1 h1) (λa1 w1=>match at_ a1 with|some p=>p.2 w1.heap|none=>0) ⟨d,h,Y,p0,a,rfl,rfl,f.defers,f.size,Same.refl _ _,yg f af,ah,ae⟩ ?_;rintro a1 w1 ⟨d1,h1,vs,p,j,rfl,rfl,T,ac,k,hv,hp,hI⟩;have s1:Sat n (Ya J vs++Wg (xp x) e) j:=X9 f T ac k hv;have w:=tJ hp L h1 hI;refine wpIn_mono (Z _ _ _ w B d1 j s1) ?_;rintro z a2 w2 ⟨r,d2,u,t,rfl,rfl,s2,A,o⟩;have va:∀(a1:Act),(λi=>Td (qk (Y7 D a1) i))=λi=>Td (qk a1 i):=λ_=>rfl;cases z with
  |normal=>
   obtain⟨V,q,N,hq,U,ab⟩:=nt o;refine⟨⟨d2,u,V,q,t,rfl,rfl,s2.defers,s2.size,k.trans A,yg s2 N,hq,U⟩,?_⟩;have C:at_ (Y7 D j)=Td p:=by simp only[at_,va,hv,zcr];exact hp
   have r:at_ (Y7 D t)=Td q:=by simp only[at_,va,yg s2 N,zcr];exact hq
   rw[C,r];exact ab
  |_=>exact⟨r,d2,u,t,rfl,rfl,s2,k.trans A,o⟩
  exact H.elim
 |_=>exact λQ e h H=>H.elim
abbrev i4:=LoopState->Option Code->Loop
def QN(rec:i4)(l:Nat)(K:Value->zc->Prop):Jl
 |.normal,_,h=>h[l]?=Td (.loop (rec .busy Te))/\K (.bool Ta) (h.setIfInBounds l (.loop (rec .ready Te)))
 |.ret,_,h=>h[l]?=Td (.loop (rec .busy Te))/\K (.bool Tc) (h.setIfInBounds l (.loop (rec .done (Td .ret))))
 |_,_,_=>False
def lW(P:Program)(n:Nat)(b bd:Code)(rec:i4)(l:Nat)(K:Value->zc->Prop)(e:bR)(h:zc):Prop:=
 WG P n b (λx c h1=>match x with
  |.normal=>h1[l]?=Td (.loop (rec .ready Te))/\WG P n bd (QN rec l K) c (h1.setIfInBounds l (.loop (rec .busy Te)))
  |_=>False) e h
theorem Dw(a:Act):Y7 [] a=a:=by unfold Y7;simp
def xY:bR->List Nat->List Value->bR
 |e,p::ps,v::vs=>xY (putO e (Td p) [] v) ps vs
 |e,_,_=>e
def sS:Array Value->List Nat->List Value->Array Value
 |t,p::ps,v::vs=>sS (t.setIfInBounds p v) ps vs
 |t,_,_=>t
theorem GW:∀(ps:List Nat) (vs:List Value) (t:Array Value),(ps.zip vs).foldl (λ(t:Array Value) (x:Tmp×Value)=>t.setIfInBounds x.1 x.2) t=sS t ps vs
 |[],_,_=>rfl
 |_::_,[],_=>rfl
 |p::ps,v::vs,t=>GW ps vs (t.setIfInBounds p v)
theorem FP{n:Nat}:∀(ps:List Nat) (vs:List Value) (e:bR) (a:Act),(∀p∈ps,xj n [] (Td p)=Ta)->Sat n e a->Sat n (xY e ps vs) { tmps:=sS a.tmps ps vs,defers:=[] }
 |[],vs,e,a,_,hs=>by have:=hs.defers;cases a;simp only at this;subst this;exact hs
 |p::ps,[],e,a,_,hs=>by have:=hs.defers;cases a;simp only at this;subst this;exact hs
 |p::ps,v::vs,e,a,h,hs=>FP ps vs _ (a.put (Td p) v) (λq b=>h q (za3 _ b)) (hs.putO (h p za2) (λ_=>rfl) (λc=>absurd trivial c))
theorem Gv(C:P.follows .mixedOrders=Ta){n l:Nat}{ps:List Nat}{f bd:Code}{fn:FuncId}{D:Nat}(y:∀p∈ps,xj n [] (Td p)=Ta) {rec:i4} (b:rec=λst N=>{ state:=st,pending:=N,fn:=fn,tmps:=a.tmps,params:=ps.toArray,assign:=f,body:=bd,defers:=D }) {vs:List Value} (V:ps.length=vs.length) (Q:Sat n e a) (I:h[l]?=Td (.loop (rec .ready Te))) {K:Value->zc->Prop}
  (H:lW P n f bd rec l K (xY e ps vs) h):YX P l vs.toArray h K:=by
 intro m B d;have x:(mk B d h).heap[l]?=Td (.loop (rec .ready Te)):=I;have A:=run_yield (P:=P) (w:=mk B d h) (args:=vs.toArray) x (by simp_all);refine⟨_,_,_,_,A,?_⟩;rw[b]at A ⊢;have s2:=FP ps vs e a y Q;have key:RoundIn (rf Te) m P l fn (sS a.tmps ps vs) f bd (mk B d h) (λe w'=>∃v J h',e=.returned v/\w'=mk B J h'/\K v h'):=by
  refine roundIn_of_wpIn (F:=rf Te) trivial ?_;have O:(rf Te).inRound l=rf (Td l):=rfl;rw[O,<-Dw { tmps:=sS a.tmps ps vs,defers:=[] }];refine wpIn_mono (DY C f _ _ _ H B d _ s2) ?_;rintro ex a1 w1 ⟨U,d1,h1,L,rfl,rfl,s1,z⟩;cases ex with
  |normal=>
   obtain⟨G,M⟩:=z;have q:(mk B d1 h1).heap[l]?=Td (.loop (rec .ready Te)):=G;have E:=run_beginRound (P:=P) q (by rw[b]);refine⟨_,E,?_⟩;have j:({ rec .ready Te with state:=.busy }:Loop)=rec .busy Te:=by rw[b]
   rw[j];refine wpIn_mono (DY C bd _ _ _ M B d1 L s1) ?_;rintro ex a2 w2 ⟨S,d2,o,Y,rfl,rfl,T,r⟩;cases ex with
   |normal=>
    obtain⟨u,t⟩:=r;have i:(mk B d2 o).heap[l]?=Td (.loop (rec .busy Te)):=u;have c:=run_endRound (P:=P) Te i;refine⟨_,_,c,.bool Ta,d2,o.setIfInBounds l (.loop (rec .ready Te)),rfl,?_,t⟩;have k:({ rec .busy Te with state:=if(Te:Option Code).isNone then .ready else .done,pending:=Te }:Loop)=rec .ready Te:=by rw[b];rfl
    rw[k];rfl
   |ret=>
    obtain⟨u,t⟩:=r;have i:(mk B d2 o).heap[l]?=Td (.loop (rec .busy Te)):=u;have c:=run_endRound (P:=P) (Td .ret) i;refine⟨_,_,c,.bool Tc,d2,o.setIfInBounds l (.loop (rec .done (Td .ret))),rfl,?_,t⟩;have k:({ rec .busy Te with state:=if(Td Code.ret:Option Code).isNone then .ready else .done,pending:=Td .ret }:Loop)=rec .done (Td .ret):=by rw[b];rfl
    rw[k];rfl
   |_=>exact r.elim
  |_=>exact z.elim
 simp_all[GW]
def lZ:Code->Code
 |.rangeFunc _ _ x _=>x
 |.seq x y=>match lZ x with
  |.skip=>lZ y
  |c=>c
 |.block _ x=>lZ x
 |_=>.skip
def lJ:Code->Code
 |.rangeFunc _ _ _ y=>y
 |.seq x y=>match lJ x with
  |.skip=>lJ y
  |c=>c
 |.block _ x=>lJ x
 |_=>.skip
def marks(c:List Nat):List Deferred:=c.map λb=>{ target:=.collected b,args:=#[] }
abbrev lu:=Exit->List Nat->bR->zc->Prop
def NA(K:List Nat->bR->zc->Prop)(Q:lu):lu
 |.normal,ds,e,h=>K ds e h
 |x,ds,e,h=>Q x ds e h
def HP(id:Nat)(Q:lu):lu
 |.exit i,ds,e,h=>bif Nat.beq i id then Q .normal ds e h else Q (.exit i) ds e h
 |x,ds,e,h=>Q x ds e h
def sC(rec:i4)(l:Nat)(N R:zc->Prop)(h:zc):Prop:=
 (h[l]?=Td (.loop (rec .ready Te))/\N (h.setIfInBounds l (.loop (rec .exhausted Te))))\/(h[l]?=Td (.loop (rec .done (Td .ret)))/\R (h.setIfInBounds l (.loop (rec .exhausted (Td .ret)))))
def Ij(P:Program)(n:Nat)(i j:Nat)(f bd:Code)(v:Value)(Q:lu)(m:List Nat)(e:bR)(h:zc):Prop:=
 bif xj n [] (Td i)&&xj n [] (Td j)then(∃g lb,v=.func (.func g) #[] lb/\zo P g=Ta/\∀rec:i4,
  (∀{l k:Value} {b:zc} {K:Value->zc->Prop},b[h.size+1]?=Td (.loop (rec .ready Te))->lW P n f bd rec (h.size+1) K (putO (putO e (Td i) [] l) (Td j) [] k) b->YX P (h.size+1) #[l,k] b K) ->
  md P g (#[.func (.yield (h.size+1)) #[] #[]]++lb) ((h.push (.deferred (Td []))).push (.loop (rec .ready Te))) λ_ o=>sC rec (h.size+1) (λc=>Q .normal (h.size::m) e c) (λc=>Q .ret (h.size::m) e c) o)else False
def IL(P:Program)(n:Nat)(i:Nat)(f bd:Code)(v:Value)(Q:lu)(k:List Nat)(e:bR)(h:zc):Prop:=
 bif xj n [] (Td i)then(∃g lb,v=.func (.func g) #[] lb/\zo P g=Ta/\∀rec:i4,
  (∀{j:Value} {b:zc} {K:Value->zc->Prop},b[h.size+1]?=Td (.loop (rec .ready Te))->lW P n f bd rec (h.size+1) K (putO e (Td i) [] j) b->YX P (h.size+1) #[j] b K) ->
  md P g (#[.func (.yield (h.size+1)) #[] #[]]++lb) ((h.push (.deferred (Td []))).push (.loop (rec .ready Te))) λ_ l=>sC rec (h.size+1) (λc=>Q .normal (h.size::k) e c) (λc=>Q .ret (h.size::k) e c) l)else False
def nT(e:bR):Nat->Nat->bR
 |0,_=>[]
 |f+1,i=>match mq e i with
  |some v=>(i,[],v)::nT e f (i+1)
  |none=>nT e f (i+1)
theorem xX{e:bR}:∀{f i:Nat} {x:Nat×qw×Value},x∈nT e f i->x.2.1=[]/\mq e x.1=Td x.2.2
 |0,_,_,h=>nomatch h
 |f+1,i,x,h=>by unfold nT at h;split at h;rename_i v b;rcases zan.1 h with rfl|h;simp_all;exact xX h;exact xX h
theorem tR(h:Sat n e a)(f i:Nat):Sat n (nT e f i) a:=⟨h.defers,h.size,λx j=>by obtain⟨k,c,v⟩:=x;obtain⟨h1,b⟩:=xX j;have h1:c=[]:=h1;subst h1;exact⟨λ_=>Yb h b,λl=>absurd trivial l⟩⟩
def WD(P:Program)(n:Nat)(pl:List (Nat×iQ)):Code->lu->List Nat->bR->zc->Prop
 |.skip,Q,f,e,h=>Q .normal f e h
 |.ret,Q,f,e,h=>Q .ret f e h
 |.exit id,Q,f,e,h=>Q (.exit id) f e h
 |.region _ ops draw,Q,f,e,h=>rR P n ops draw (λe h=>Q .normal f e h) e h
 |.seq x y,Q,f,e,h=>WD P n pl x (NA (λf e h=>WD P n pl y Q f e h) Q) f e h
 |.cond c x y,Q,f,e,h=>match Xn e [] c with
  |some (.bool b)=>(b=Ta->WD P n pl x Q f e h)/\(b=Tc->WD P n pl y Q f e h)
  |_=>False
 |.block id x,Q,f,e,h=>WD P n pl x (HP id Q) f e h
 |.rangeFunc g ps asg bd,Q,f,e,h=>match Xn e [] g,ps.toList with
  |some v,[p1,p2]=>Ij P n p1 p2 asg bd v Q f (nT e n 0) h
  |some v,[p1]=>IL P n p1 asg bd v Q f (nT e n 0) h
  |_,_=>False
 |.loop x,Q,f,e,h=>WL P n pl (.loop x) (λi e h=>Q i f e h) e h
 |_,_,_,_,_=>False
def E2(n:Nat)(B:World)(Q:lu):Exit->Act->World->Prop:=
 λx a w=>∃c e d h b,a=Y7 (marks c) b/\w=mk B d h/\Sat n e b/\Q x c e h
theorem GH(x:1<=m){ps:Array Nat}{i bd:Code}{l:FuncId}{lb:Array Value}(D:zo P l=Ta){g:Operand}{Q:lu}{j:List Nat}(z:Sat n e a)(I:(Y7 (marks j) a).eval g=.func (.func l) #[] lb) (E:∀fn (rec:i4),rec=(λst u=>{ state:=st,pending:=u,fn:=fn,tmps:=a.tmps,params:=ps,assign:=i,body:=bd,defers:=h.size }) -> md P l (#[.func (.yield (h.size+1)) #[] #[]]++lb) ((h.push (.deferred (Td []))).push (.loop (rec .ready Te))) λ_ r=>sC rec (h.size+1) (λA=>Q .normal (h.size::j) e A) (λA=>Q .ret (h.size::j) e A) r)
  (B:World) (d:Nat):(Code.rangeFunc g ps i bd).wpIn (rf Te) m P (E2 n B Q) (Y7 (marks j) a) (mk B d h):=by
 refine wpIn_rangeFunc λo _=>?_;obtain⟨rec,b⟩:∃rec:i4,rec=λst u=>{ state:=st,pending:=u,fn:=o,tmps:=a.tmps,params:=ps,assign:=i,body:=bd,defers:=h.size }:=⟨_,rfl⟩;have w:=E o rec b;refine⟨h.size+1,[{ target:=.collected h.size,args:=#[] }],mk B d ((h.push (.deferred (Td []))).push (.loop (rec .ready Te))),{ target:=.fn (.func l) lb,args:=#[.func (.yield (h.size+1)) #[] #[]] },mk B d ((h.push (.deferred (Td []))).push (.loop (rec .ready Te))),l,#[.func (.yield (h.size+1)) #[] #[]]++lb,mk B d ((h.push (.deferred (Td []))).push (.loop (rec .ready Te))),?_,?_,λ_ _=>trivial,?_,λ_=>x,?_⟩;rw[b];exact run_enterLoop_outer _ _ _ _ _;simp only[resolve,I];simp[go_sem,zev];simp only[invoke];exact X5 D _ _;have G:({ Y7 (marks j) a with defers:=[{ target:=.collected h.size,args:=#[] }]++(Y7 (marks j) a).defers }:Act)=Y7 (marks (h.size::j)) a:=by unfold Y7 marks;simp only[z.defers];rfl
 rw[G];refine CallsIn.mono (w (m-1) B d) ?_;rintro e' w' ⟨v,t,r,rfl,rfl,k⟩;rcases k with⟨f,H⟩|⟨f,F⟩;have c:(mk B t r).heap[h.size+1]?=Td (.loop (rec .ready Te)):=f;have q:=run_endLoop (P:=P) c (by simp_all);have C:({ rec .ready Te with state:=.exhausted }:Loop)=rec .exhausted Te:=by rw[b]
 have y:(rec .ready Te).pending=Te:=by rw[b]
 rw[C,y]at q;exact⟨Te,_,q,_,e,t,_,a,rfl,rfl,z,H⟩;have c:(mk B t r).heap[h.size+1]?=Td (.loop (rec .done (Td .ret))):=f;have q:=run_endLoop (P:=P) c (by simp_all);have C:({ rec .done (Td .ret)with state:=.exhausted }:Loop)=rec .exhausted (Td .ret):=by rw[b]
 have y:(rec .done (Td .ret)).pending=Td .ret:=by rw[b]
 rw[C,y]at q;exact⟨Td .ret,_,q,wpIn_ret ⟨_,e,t,_,a,rfl,rfl,z,F⟩⟩
theorem Vd(F:P.follows .mixedOrders=Ta)(E:1<=m){pl:List (Nat×iQ)}:∀(c:Code) (Q:lu) (j:List Nat) (e:bR) (h:zc),WD P n pl c Q j e h ->
  ∀(B:World) (d:Nat) (a:Act),Sat n e a->c.wpIn (rf Te) m P (E2 n B Q) (Y7 (marks j) a) (mk B d h):=by
 intro c;induction c with
 |skip=>exact λQ j e h H B d a f=>wpIn_skip ⟨j,e,d,h,a,rfl,rfl,f,H⟩
 |ret=>exact λQ j e h H B d a f=>wpIn_ret ⟨j,e,d,h,a,rfl,rfl,f,H⟩
 |exit id=>exact λQ j e h H B d a f=>wpIn_exit ⟨j,e,d,h,a,rfl,rfl,f,H⟩
 |region id ops T=>exact λQ j e h H B d a f=>vS F H B d f λe' Y d' h' k _ q2=>⟨j,e',d',h',Y,rfl,rfl,k,q2⟩
 |seq x y C u=>
  intro Q j e h H B d a f;refine wpIn_seq (wpIn_mono (C _ _ _ _ H B d a f) ?_);rintro ex a1 w1 ⟨o,A,d1,h1,r,rfl,rfl,s1,k⟩;cases ex with
  |normal=>exact u _ _ _ _ k B d1 r s1
  |_=>exact⟨o,A,d1,h1,r,rfl,rfl,s1,k⟩
 |cond c x y C u=>intro Q j e h H B d a f;simp only[WD]at H;split at H;rename_i b D;have hc:(Y7 (marks j) a).eval c=.bool b:=qy f (c:=[]) trivial D;exact wpIn_cond_split hc (λM=>C _ _ _ _ (H.1 M) B d a f) (λG=>u _ _ _ _ (H.2 G) B d a f);exact H.elim
 |block id x ih=>
  intro Q j e h H B d a f;refine wpIn_block (wpIn_mono (ih _ _ _ _ H B d a f) ?_);rintro ex a1 w1 ⟨o,A,d1,h1,r,rfl,rfl,s1,k⟩;cases ex with
  |exit i=>simp only[HP]at k;simp only[Exit.inBlock];by_cases D:Nat.beq i id=Ta;rw[zA (za4 D)];simp only[D,zK]at k;exact⟨o,A,d1,h1,r,rfl,rfl,s1,k⟩;rw[zv (λhe=>D (by rw[he];simp))];simp only[D,zL]at k;exact⟨o,A,d1,h1,r,rfl,rfl,s1,k⟩
  |_=>exact⟨o,A,d1,h1,r,rfl,rfl,s1,k⟩
 |rangeFunc g ps V bd Z aa=>
  intro Q j e h H B d a f;simp only[WD]at H;split at H;rename_i v w I S z;have l:ps=#[w,I]:=by rw[<-Array.toList_inj];exact z
  subst l;unfold Ij at H;cases hok:(xj n [] (Td w)&&xj n [] (Td I))with
  |false=>simp_all
  |true=>rw[hok]at H;rw[zam]at hok;obtain⟨gf,lb,rfl,J,N⟩:=H;exact GH E J (tR f n 0) (qy f (c:=[]) trivial S) (λfn rec q=>N rec (λ {L v2 U K} O t=>Gv F (ps:=[w,I]) (vs:=[L,v2]) (by simp_all) q rfl (tR f n 0) O t)) B d
  rename_i v w S z;have l:ps=#[w]:=by rw[<-Array.toList_inj];exact z
  subst l;unfold IL at H;cases hok:xj n [] (Td w)with
  |false=>simp_all
  |true=>rw[hok]at H;obtain⟨gf,lb,rfl,J,N⟩:=H;exact GH E J (tR f n 0) (qy f (c:=[]) trivial S) (λfn rec q=>N rec (λ {L U K} O t=>Gv F (ps:=[w]) (vs:=[L]) (by simp_all) q rfl (tR f n 0) O t)) B d
  exact H.elim
 |loop x _=>intro Q j e h H B d a f;refine wpIn_mono (WB F (.loop x) _ _ _ H B d a f) ?_;rintro ex a1 w1 ⟨A,d1,h1,r,rfl,rfl,s1,_,k⟩;exact⟨j,A,d1,h1,r,rfl,rfl,s1,k⟩
 |_=>exact λQ j e h H=>H.elim
def takeD:List Nat->(zc->Prop)->zc->Prop
 |[],K,h=>K h
 |b::ds,K,h=>h[b]?=Td (.deferred (Td []))/\takeD ds K (h.setIfInBounds b (.deferred Te))
def TS(P:Program)(rs:List ResultVar)(R:Value->zc->Prop):lu
 |.normal,ds,e,h=>takeD ds (λh'=>kQ P h' e rs λvs=>R (kN vs) h') h
 |.ret,ds,e,h=>takeD ds (λh'=>kQ P h' e rs λvs=>R (kN vs) h') h
 |_,_,_,_=>False
theorem w0{P:Program}{fn:Func}{n:Nat}{rs:List ResultVar}(i:fn.results.toList=rs){e:bR}{a:Act}(j:Sat n e a){B:World}{R:Value->zc->Prop}{D:Nat}:∀(c:List Nat) (d:Nat) (h:zc),takeD c (λh'=>kQ P h' e rs λvs=>R (kN vs) h') h ->
  LeavesInM Fence.wide D P fn a.tmps (λe w'=>∃v k h',e=.returned v/\w'=mk B k h'/\R v h') (marks c) .returning (mk B d h)
 |[],d,h,H=>by obtain⟨v,m,l⟩:=Yc j i H;exact⟨v,l B d,v,d,h,rfl,rfl,m⟩
 |b::c,d,h,⟨h1,H⟩=>by have f:(mk B d h).heap[b]?=Td (.deferred (Td [])):=h1;exact⟨by simp,.inl ⟨_,_,rfl,run_takeDeferred (P:=P) f,w0 i j c d _ H⟩⟩
theorem Hu(z:P.follows .mixedOrders=Ta)(vs:List Value){f:FuncId}{fn:Func}{rs:List ResultVar}(u:P.funcs[f]?=Td fn)(c:Yd fn=Ta)(r:fn.results.toList=rs)(y:fn.ntmps=n)(hz:Nat.ble vs.length n=Ta){R:Value->zc->Prop}{F:Prop}(H:F)(pl:List (Nat×iQ):=[])(t:F=WD P n pl (codeOf fn) (TS P rs R) [] (lj 0 vs) h):XC P f vs.toArray h R:=by
 have l:fn.body=Td (codeOf fn):=by unfold Yd at c;unfold codeOf;split at c;omega;cases c
 intro B d;refine callsIn_wide.1 (callsIn_of_wp_marks (F:=Fence.wide) (n:=1) u l trivial ?_ rfl);subst y;have C:vs.length<=fn.ntmps:=zc0 hz;have x:Sat fn.ntmps (lj 0 vs) { tmps:=vs.toArray++zc4 (fn.ntmps-vs.toArray.size) undef,defers:=[] }:=by
  refine⟨rfl,by simp;omega,?_⟩;refine tz vs.toArray _ vs 0 λj v A=>?_;have i:j<vs.length:=by rcases zb0 j vs.length with h|h;exact h;simp_all
  simp only[zas,zcb];rw[zdg (by simpa using i)];simp[A]
 have:=Vd z (m:=1) (by omega) (codeOf fn) _ [] _ _ (t ▸ H) B d _ x;rw[show marks []=[]from rfl,Dw]at this;refine wpIn_mono this ?_;rintro ex a w ⟨b,D,d1,h1,k,rfl,rfl,s1,e⟩;have o:(Y7 (marks b) k).defers=marks b:=by unfold Y7;rw[s1.defers];rfl
 have q:(Y7 (marks b) k).tmps=k.tmps:=rfl;cases ex with
 |normal=>show LeavesInM _ _ _ _ _ _ _ _ _;rw[o,q];exact w0 r s1 b d1 h1 e
 |ret=>show LeavesInM _ _ _ _ _ _ _ _ _;rw[o,q];exact w0 r s1 b d1 h1 e
 |_=>exact e.elim
end
section
open Go.RowKit
section
variable {g:zc} {i:Nat}
theorem zq{i j:Nat}{o:Obj}(h:j≠i):(g.setIfInBounds i o)[j]?=g[j]?:=zb4 (Ne.symm h)
theorem set_self{o:Obj}(h:i<g.size):(g.setIfInBounds i o)[i]?=Td o:=zc2 h
section
variable {h : zc} {M : Fr} {b2 b3 b4 b5 bc D l : Nat} {rec : i4} {s : Bs} {sl : Sl} {bs : List Nat} {g : zc}
end
end
section
section
variable {lo : Nat} {g : zc} {M : Fr} {bp : Nat} {s : Bs} {a e : Int} {O : Nat -> Prop} {K : Value -> zc -> Prop}
theorem GI:yb Tp 3=Ta:=by kernel_rfl
end
end
section
variable {g:zc}
theorem vt{M:Fr}(ag:AgM M g){xs:List Int}{s:Sl}(H:Rd M (.row PJ) xs [aK s]){k:Nat}(c:k<xs.length):∃b o,s.a=Td ⟨b,o,Te⟩/\zd g ⟨b,o+k*1,Te⟩=Td (.int .i64 xs[k]):=by obtain⟨b,o,cs,e,h,f⟩:=Go.X.rowAt H c;exact⟨b,o,e,IQ ag h f⟩
theorem ND:yb Tp 25=Ta:=by kernel_rfl
theorem MF:j4 Tp 25=4:=by kernel_rfl
theorem mY{b:Nat}{x y z w:Value}(B:Blk g b #[x,y,z,w]){k:Int}{s:Bt}{sk si:Sl}{K:zc->Prop}(f:∀g',(∀j,j≠b->g'[j]?=g[j]?)->g'.size=g.size->Blk g' b #[.int .i64 k,.string s,aK sk,aK si]->K g'):
  XRunU Tp (zag 25 (.pointer (Td ⟨b,0,Te⟩)) (.agg #[.int .i64 k,.string s,aK sk,aK si])) g K:=by
 refine Zg (vs:=[.int .i64 k,.string s,aK sk,aK si]) ND B rfl MF (zac _) (λu c=>?_) λg' e i h=>f g' h i e;simp at c;rcases c with rfl|rfl|rfl|rfl <;> rfl
section
variable {t : Bs} {lvs : List Nat} {gl : Fr}
end
end
section
theorem oq:ElemT Tp 29 3 (.int .i64 0) (sz (.int .i64)) 8:=⟨by kernel_rfl,⟨Tryz.t3,by kernel_rfl,by kernel_rfl,by kernel_rfl,by kernel_rfl⟩,rfl,by decide⟩
section
variable {lo : Nat} {g : zc} {M : Fr} {bp : Nat} {s : Bs} {a e : Int} {O J D : Nat -> Prop} {K : Value -> zc -> Prop} {HI : List Bs -> zc -> Prop} {F : FuncId} {A C : Array Value}
end
end
section
theorem Nb:ElemT Tp 22 9 (.string ⟨#[]⟩) (sz .str) 16:=⟨by kernel_rfl,⟨Tryz.t9,by kernel_rfl,by kernel_rfl,by kernel_rfl,by kernel_rfl⟩,rfl,by decide⟩
section
variable {lo : Nat} {g : zc} {M gl : Fr} {bp : Nat} {s : Bs} {a e : Int} {O : Nat -> Prop} {K : Value -> zc -> Prop}
end
end
section
theorem lA{M:Fr}{T:Ty}:Rd M (.row T) [] [aK ⟨Te,0,0⟩]:=⟨_,rfl,Te,0,rfl,⟨by simp,by simp⟩,.inl rfl⟩
end
end
end Go.X
namespace Go.X.U
section
def oh(o:Oper):Option Bool:=match o.op with
 |.fieldAddr _ _ _=>Td Ta
 |.indexAddr _ _ _=>Td Ta
 |.move _=>Td Ta
 |.assign _=>Td Ta
 |.load _ _=>Td Tc
 |.binOp _ _ _ _ _=>Td Ta
 |.call c=>match c.callee with
  |.builtin .len=>Td Ta
  |_=>Te
 |_=>Te
def pY(o:Oper):Bool:=match oh o with
 |some _=>Ta
 |none=>Tc
def jb(o:Oper):Bool:=match oh o with
 |some b=>!b
 |none=>Tc
end
end Go.X.U
namespace Go.X
section
section
theorem nh{gl:Fr}(N:GL gl){v:Tr}(E:Sm v)(I:y8 v=Ta){h:zc}{M:Fr}{u:Value}(G:Fr.le gl M)(ag:AgM M h)(D:RdV M .tree v u){K:Value->zc->Prop}
  (P:∀(h':zc) (bs:List Nat) (sk si:Sl),Keep h.size h h'->OT h' v bs (zj v.kind v.text sk si)->(∀b∈bs,h.size<=b)->K (.agg #[.int .i64 v.kind,.string v.text,aK sk,aK si]) h'):XC Tp 90 #[u] h K:=by
 have l:=D;obtain⟨sk,si,rfl,T,ri⟩:=qp D;apply Ml v.kind v.text sk si;intro h1 f;have S:h1.size=h.size+1:=zaf _;have Y:f.size=h1.size+1:=zaf _;have L:Keep h.size h h1:=Keep.push _ _ (zac _);have k2:Keep h1.size h1 f:=Keep.push _ _ (zac _);have b1:Blk h1 h.size (zj v.kind v.text sk si).toArray:=Blk.new _ _ _;have b2:Blk f h1.size (zj 0 ⟨#[]⟩ ⟨Te,0,0⟩ ⟨Te,0,0⟩).toArray:=Blk.new _ _ _;clear_value h1 f;have t:Keep h.size h f:=L.trans k2 (by omega);have z:=ag.keep t;refine⟨v.kind,v.text,sk,si,(b1.ofKeep k2).ld (cs:=zj v.kind v.text sk si),?_⟩;have c:PC Tp gl 83 [Arg.mk .tree v] [.bool] (λr=>r=y8 v):=ue N E rfl;refine c.go (vs:=[.agg #[.int .i64 v.kind,.string v.text,aK sk,aK si]]) G z (zr l qj) λw J V r m k A=>?_;have A:r=y8 v:=A;refine⟨r,Xh k,λx=>?_,λx=>?_⟩;rw[A,I]at x;cases x;refine⟨v.kind,v.text,sk,si,((b1.ofKeep k2).ofKeep m.keep).ld (cs:=zj v.kind v.text sk si),?_⟩;have j:Keep h.size h J:=t.trans m.keep (by have:=t.size;omega);refine(LR (aR v) v (zac _) E (ag.keep j) l).mono ?_;rintro w' h4 ⟨y,bs,o,n,rfl,ot,e⟩;have Z:=m.keep.size;have Q:=y.size;refine⟨v.kind,v.text,o,n,rfl,?_⟩;refine jh (((b2.ofKeep m.keep).ofKeep y)) rfl _ _ _ _ λF b5 U C=>?_;have O:Keep h.size h F:=⟨by have:=j.size;omega,λi hi=>by rw[C i (by omega),y.get i (by have:=j.size;omega)];exact j.get i hi⟩;have B:=ot.frame λb q=>C b (by have:=e b q;omega);have H:=j.size;exact⟨v.kind,v.text,o,n,b5.ld (cs:=zj v.kind v.text o n),P F bs o n O B λb q=>by have:=e b q;omega⟩
theorem OT.zero(h:zc):OT h zT [] (zj 0 ⟨#[]⟩ ⟨Te,0,0⟩ ⟨Te,0,0⟩):= OT.mk (k:=0) (s:=⟨#[]⟩) (ks:=[]) (xs:=[]) (sk:=⟨Te,0,0⟩) (si:=⟨Te,0,0⟩) (bk:=[]) (bb:=[]) (b:=0) (cs:=#[]) (bf:=λ_=>[]) ⟨rfl,by simp,by simp,.inl ⟨rfl,rfl,rfl⟩⟩ ⟨rfl,by simp,by simp⟩ (.inl ⟨rfl,rfl,rfl⟩) (λi hi=>absurd hi (by simp)) (by simp)
end
section
theorem YM(gl:Fr)(b:Bt)(R:Tr->Prop) (H:R (Tr.mk 4 b [] [])):
  PC Tp gl 98 [Arg.mk .str b] [.tree] R:=
 PF ⟨[],[],[],[]⟩ [.cell 2 25] 5 Tryz.func98 H
end
end
section
open Go.RowKit
section
def mi(k:Int)(s:Bt)(a b:Sl):Value:=.agg #[.int .i64 k,.string s,aK a,aK b]
section
variable {gl : Fr} {b2 b29 : Nat} {k2 k29 : Int} {s2 : Bt} {a2 c2 a29 c29 : Sl} {h : zc} {M : Fr}
end
end
section
variable {v:Tr} {sk si:Sl} {lv i:Nat}
section
variable {gl M : Fr} {b N : Nat} {ln : Bool}
def mM(gl M:Fr)(b N:Nat)(ln:Bool)(F:FuncId)(args:Array Value)(p:Bs):Prop:=
 ∀(l:Bs) (g:zc) (K:Value->zc->Prop),Prn g b ln (N:Int) l->Low gl M b g->l.length+p.length<=140737488355328->(∀g',Prn g' b ln (N:Int) (l++p)->FrP b g g'->K (.tuple #[]) g')->XC Tp F args g K
set_option maxRecDepth 100000 in
set_option maxHeartbeats 4000000 in
theorem Da{F:FuncId}(hF:zo Tp F=Ta)(hi:Rd M (.row .tree) v.items [aK si])(hN:N<=8)(hv:lv<=90){o c:UInt8}{ps:List Bs}(Q:ps.length=v.items.length)(U:v.items.length<=1000000) (hE:∀(i:Nat) (h:i<ps.length),mM gl M b N ln F (#[.pointer (Td ⟨b,0,Te⟩)]++#[mi v.kind v.text sk si,.int .i64 (i:Int),.int .i64 ((lv+1:Nat):Int)]++#[]) ps[i]):
  mM gl M b N ln 254 #[.pointer (Td ⟨b,0,Te⟩),mi v.kind v.text sk si,.int .i64 (lv:Int),.string (bl [o,c]),.func (.func F) #[.pointer (Td ⟨b,0,Te⟩)] #[]] (o::jV ln N lv ps++[c]):=by
 intro l g K H L V hK;have ab:=(rowLen hi).1;have J:=H.lt;have e1:(o::jV ln N lv ps++[c]).length=2+(Qx ln N (lv+1) ps).length+(if ps=[]then []else Z1 ln N lv:Bs).length:=by unfold jV;simp only[zaw,zah,zb5];omega
 rw[e1]at V;apply Xv;intro h1;have Z:Keep g.size g h1:=Keep.push _ _ (zac _);have B1:h1[g.size]?=Td (.cells #[.int .i64 v.kind,.string v.text,aK sk,aK si] 25 (0,0)):=yc _ _;clear_value h1;have f1:=FrP.ofKeep Z (zey J);have H1:=H.keep Z;refine⟨_,rfl,⟨by decide,by rw[zu];simp⟩,?_⟩;rw[add0];have eo:yf (bl [o,c]) (0:Int).toNat=(o.toNat:Int):=by rw[Yj];rfl
 have ec:yf (bl [o,c]) (1:Int).toNat=(c.toNat:Int):=by rw[Yj];rfl
 rw[eo];refine Q5 H1 (by omega) o λu H4 Y o4=>⟨_,rfl,?_⟩;have O:FrP b g u:=f1.trans ⟨Y,o4⟩;have box:∀g',FrP b u g'->Blk g' g.size #[.int .i64 v.kind,.string v.text,aK sk,aK si]:=λg' f=>⟨_,f.blk ((⟨Y,o4⟩:FrP b h1 u).blk B1)⟩;refine⟨si,Blk.cellAdd (o:=0) (k:=3) (box u (FrP.refl _ _)) rfl,?_⟩;refine⟨λi g'=>∃n:Nat,i=(n:Int)/\n<=ps.length/\Prn g' b ln (N:Int) (l++[o]++Qx ln N (lv+1) (ps.take n))/\FrP b u g',λi _=>ps.length-i.toNat,⟨0,rfl,by omega,by simpa[Qx]using H4,FrP.refl _ _⟩,?_⟩;rintro i g' ⟨n,rfl,hn,B,z⟩;have P:=O.trans z;have L':=L.frp P;have aa:=E3 ln N (lv+1) hn;have r:(l++[o]++Qx ln N (lv+1) (ps.take n)).length=l.length+1+(Qx ln N (lv+1) (ps.take n)).length:=by rw[zah,zah];rfl
 refine⟨λq=>?_,λy=>?_⟩;have q:n<ps.length:=by have:=zH q;omega
 have t:=E3 ln N (lv+1) (ps:=ps) (n:=n+1) q;have C:=Ix ln N (lv+1) q;rw[C]at t;simp only[zah]at t;intro E D;have m:∀g2,Prn g2 b ln (N:Int) (l++[o]++Qx ln N (lv+1) (ps.take n)++(if n=0 then []else [44]))->FrP b u g2->E g2:=λg2 x w=>D _ (by have L2:=L.frp (O.trans w);rw[io (by omega),show(lv:Int)+1=((lv+1:Nat):Int)from by omega];refine Jv x L2 hN (by omega) (by rw[zah,r];omega) λT G S=>⟨rfl,v.kind,v.text,sk,si,(box T (w.trans S)).ld (cs:=[_,_,aK sk,aK si]),hF,?_⟩;refine hE n q _ _ _ G (L2.frp S) (by rw[zah,zah,r];omega) λg5 H5 f5=>⟨rfl,⟨n+1,by rw[io (by omega)];omega,q,?_,w.trans (S.trans f5)⟩,?_⟩;rw[C];simpa[za9]using H5;show ps.length-(w6 ((n:Int)+1)).toNat<ps.length-(n:Int).toNat;rw[io (by omega)];omega);refine⟨λj=>?_,λj=>?_⟩;have h0:n≠0:=by have:=zH j;omega
 refine⟨_,rfl,?_⟩;rw[add0];refine Q5 B (by rw[r];rw[zv h0]at t;simp only[zaw,zb5]at t;omega) 44 λg2 x k2 o2=>⟨_,rfl,m g2 ?_ (z.trans ⟨k2,o2⟩)⟩;rw[zv h0];exact x;have h0:n=0:=by have:=zI j;omega
 refine m g' ?_ z;rw[zA h0,zbs];exact B;have y:n=ps.length:=by have:=zI y;omega
 subst y;rw[zba]at B r;intro I A;have m:∀g2,Prn g2 b ln (N:Int) (l++[o]++Qx ln N (lv+1) ps++(if ps=[]then []else Z1 ln N lv))->FrP b u g2->I g2:=λg2 x w=>A _ (by refine⟨_,rfl,⟨by decide,by rw[zu];simp⟩,?_⟩;rw[add0,ec];refine Q5 x (by rw[zah,r];omega) c λT G k3 o3=>⟨_,rfl,hK T ?_ (O.trans (w.trans ⟨k3,o3⟩))⟩;unfold jV;simpa[za9]using G);refine⟨si,Blk.cellAdd (o:=0) (k:=3) (box g' z) rfl,λj=>?_,λj=>?_⟩;have h0:ps≠[]:=λe=>by
  have:=zH j;have ac:v.items.length=0:=by rw[<-Q,e];rfl
  omega
 rw[zv h0]at V;refine Jv B L' hN (by omega) (by rw[r];omega) λg2 x w=>⟨rfl,m g2 ?_ (z.trans w)⟩;rw[zv h0];exact x;have h0:ps=[]:=by have:=zI j;apply zbb;omega
 refine m g' ?_ z;rw[zA h0,zbs];exact B
theorem Li:zo Tp 255=Ta:=by kernel_rfl
theorem Ut:zo Tp 256=Ta:=by kernel_rfl
set_option maxRecDepth 100000 in
theorem TJ(hi:Rd M (.row .tree) v.items [aK si])(h:i<v.items.length){p:Bs}(j:∀(sk' si':Sl),Rd M (.row .str) v.items[i].keys [aK sk']->Rd M (.row .tree) v.items[i].items [aK si']->mM gl M b N ln 201 #[.pointer (Td ⟨b,0,Te⟩),mi v.items[i].kind v.items[i].text sk' si',.int .i64 (lv:Int)] p):
  mM gl M b N ln 255 #[.pointer (Td ⟨b,0,Te⟩),mi v.kind v.text sk si,.int .i64 (i:Int),.int .i64 (lv:Int)] p:=by
 intro l g K H L m x;have u:=(rowLen hi).1;apply OY;intro h1;have c:Keep g.size g h1:=Keep.push _ _ (zac _);have q:Blk h1 g.size #[.int .i64 v.kind,.string v.text,aK sk,aK si]:=Blk.new _ _ _;clear_value h1;have e:=FrP.ofKeep c (zey H.lt);have f:=L.frp e;obtain⟨a,sk',si',r,z,t,w⟩:=Jt f.ag hi h;refine⟨si,Blk.cellAdd (o:=0) (k:=3) q rfl,a,⟨r,by omega,by omega⟩,_,_,sk',si',by rw[zae];exact z,?_⟩;exact j sk' si' t w l h1 _ (H.keep c) f m λg' y n=>⟨rfl,x g' y (e.trans n)⟩
set_option maxRecDepth 100000 in
theorem NI(Y:GL gl)(U:Brn gl)(D:Rd M (.row .str) v.keys [aK sk])(hi:Rd M (.row .tree) v.items [aK si])(h:i<v.items.length)(T:i<v.keys.length)(q:(lb v.keys[i]).length<=1048576){p:Bs}(hE:∀(sk' si':Sl),Rd M (.row .str) v.items[i].keys [aK sk']->Rd M (.row .tree) v.items[i].items [aK si']->mM gl M b N ln 201 #[.pointer (Td ⟨b,0,Te⟩),mi v.items[i].kind v.items[i].text sk' si',.int .i64 (lv:Int)] p):
  mM gl M b N ln 256 #[.pointer (Td ⟨b,0,Te⟩),mi v.kind v.text sk si,.int .i64 (i:Int),.int .i64 (lv:Int)] (jH ln v.keys[i] p):=by
 intro l g K H L u F;unfold jH at u F;simp only[zah,zaw]at u;have aa:=(rowLen hi).1;have C:=(rowLen D).1;apply W0;intro h1;have B:Keep g.size g h1:=Keep.push _ _ (zac _);have G:h1[g.size]?=Td (.cells #[.int .i64 v.kind,.string v.text,aK sk,aK si] 25 (0,0)):=yc _ _;clear_value h1;have E:=FrP.ofKeep B (zey H.lt);have A:=L.frp E;obtain⟨a,t,x,m,j⟩:=jP A.ag D T (i:=(i:Int)) rfl (L:=sk.len) rfl (Q:=λx=>x=v.keys[i]) rfl;subst j;refine⟨sk,Blk.cellAdd (o:=0) (k:=2) ⟨_,G⟩ rfl,a,t,v.keys[i],m,?_⟩;refine FZ Y U (H.keep B) A q (by omega) λh6 P f6=>⟨rfl,_,rfl,?_⟩;rw[add0];refine Q5 P (by simp only[zah];omega) 58 λI w k9 o9=>⟨_,rfl,?_⟩;have O:FrP b h1 I:=f6.trans ⟨k9,o9⟩;intro n f;have c:∀g2,Prn g2 b ln (N:Int) (l++(iO (lb v.keys[i])).1++[58]++(if ln then [32]else []))->FrP b h1 g2->n g2:=λg2 z y=>f _ (by have J:=A.frp y;obtain⟨a',sk',si',e1,e2,e3,e4⟩:=Jt J.ag hi h;refine⟨si,Blk.cellAdd (o:=0) (k:=3) ⟨_,y.blk G⟩ rfl,a',⟨e1,by omega,by omega⟩,_,_,sk',si',by rw[zae];exact e2,?_⟩;refine hE sk' si' e3 e4 _ g2 _ z J (by simp only[zah,zaw,zb5];omega) λg' H' f'=>⟨rfl,F g' ?_ (E.trans (y.trans f'))⟩;simpa[za9]using H');have r:=w;obtain⟨p9,V,Z,ab,S⟩:=r;refine⟨_,rfl,ln,Blk.cellAdd (o:=0) (k:=2) (cs:=#[.pointer p9,aK V,.bool ln,.int .i64 (N:Int)]) ⟨_,Z⟩ rfl,λe=>?_,λe=>?_⟩;subst e;refine⟨_,rfl,?_⟩;rw[add0];refine Q5 w (by simp only[if_true,zaw,zb5]at u;simp only[zah,zaw,zb5];omega) 32 λg2 z k2 o2=>⟨_,rfl,c g2 z (O.trans ⟨k2,o2⟩)⟩;subst e;refine c I ?_ O;simpa using w
end
end
section
section
variable {gl M : Fr} {b N : Nat} {ln : Bool}
theorem Ou{g:zc}{l:Bs}(H:Prn g b ln (N:Int) l)(s:Bt)(c:l.length+(lb s).length<=140737488355328){K:Value->zc->Prop}(e:∀g',Prn g' b ln (N:Int) (l++lb s)->Keep b g g'->Otk g g'->K (.tuple #[.int .i64 ((lb s).length:Int),.nilIface]) g'):
  XC Tp 68 #[.pointer (Td ⟨b,0,Te⟩),.string s] g K:=by
 have:=Y6 H (lb s) c e;rw[jp]at this;exact this
set_option maxRecDepth 100000 in
set_option maxHeartbeats 2000000 in
theorem Ed(S:GL gl)(J:Brn gl)(U:N<=8):∀(n:Nat) (v:Tr) (lv:Nat) (sk si:Sl),n<=1000000->aR v<=n->yr zi v=Ta->Sm v->lv+cR v<=90->Rd M (.row .str) v.keys [aK sk]->Rd M (.row .tree) v.items [aK si] ->
  mM gl M b N ln 201 #[.pointer (Td ⟨b,0,Te⟩),mi v.kind v.text sk si,.int .i64 (lv:Int)] (J5 ln N v lv)
 |0,v,lv,sk,si,_,h,_,_,_,_,_=>by have:=Qk v;omega
 |n+1,v,lv,sk,si,hn,hz,hok,hsm,hd,hk,hi=>by
  intro l g K H L m r;have f:=hok;rw[Z0,zam]at f;have q:∀(i:Nat) (h:i<v.items.length) (sk' si':Sl),Rd M (.row .str) v.items[i].keys [aK sk']->Rd M (.row .tree) v.items[i].items [aK si']->mM gl M b N ln 201 #[.pointer (Td ⟨b,0,Te⟩),mi v.items[i].kind v.items[i].text sk' si',.int .i64 ((lv+1:Nat):Int)] (J5 ln N v.items[i] (lv+1)):=λi h sk' si' h1 Y=>by
   have I:=zak h;have hs:=qo I;have Z:=Hp I;have F:yr zi v.items[i]=Ta:=by rw[wl,za7]at f;exact f.2 _ I
   exact Ed S J U n v.items[i] (lv+1) sk' si' (by omega) (by omega) F (hsm.item I) (by omega) h1 Y
  have G:v.items.length<=1000000:=by have:=wy v.items;rw[ql]at hz;omega
  rw[oz]at m r;apply Xu;intro h1;have V:Keep g.size g h1:=Keep.push _ _ (zac _);have D:Blk h1 g.size #[.int .i64 v.kind,.string v.text,aK sk,aK si]:=Blk.new _ _ _;clear_value h1;have A:=FrP.ofKeep V (zey H.lt);have B:=H.keep V;have P:=L.frp A;refine⟨v.kind,Blk.cellAdd (o:=0) (k:=0) D rfl,λj=>?_,λj=>⟨λt=>?_,λt=>⟨λw=>?_,λw=>⟨λy=>?_,λy=>?_⟩⟩⟩⟩;have j:v.kind=1:=eq_of_beq j;rw[zA j]at m r;refine⟨_,rfl,?_⟩;rw[add0];exact Y6 B [110,117,108,108] m λg' u O T=>⟨_,_,rfl,r g' u (A.trans ⟨O,T⟩)⟩;have z:v.kind≠1:=λe=>by rw[e]at j;cases j
  have t:v.kind=4:=eq_of_beq t;rw[zv z,zA t]at m r;exact⟨v.text,Blk.cellAdd (o:=0) (k:=1) D rfl,FZ S J B P hsm.text m λg' u C=>⟨rfl,r g' u (A.trans C)⟩⟩;have z:v.kind≠1:=λe=>by rw[e]at j;cases j
  have E:v.kind≠4:=λe=>by rw[e]at t;cases t
  have w:v.kind=5:=eq_of_beq w;rw[zv z,zv E,zA w]at m r;refine⟨v.kind,v.text,sk,si,D.ld (cs:=[_,_,aK sk,aK si]),?_⟩;refine Da (o:=91) (c:=93) (ps:=v.items.map λx=>J5 ln N x (lv+1)) Li hi U (by omega) (zap _) G (λi h=>?_) l h1 _ B P m λg' u C=>⟨rfl,r g' u (A.trans C)⟩;rw[zap]at h;rw[zb3];exact TJ hi h λsk' si' a1 a2=>q i h sk' si' a1 a2;have z:v.kind≠1:=λe=>by rw[e]at j;cases j
  have E:v.kind≠4:=λe=>by rw[e]at t;cases t
  have Q:v.kind≠5:=λe=>by rw[e]at w;cases w
  have y:v.kind=6:=eq_of_beq y;rw[zv z,zv E,zv Q,zA y]at m r;have aa:v.keys.length=v.items.length:=by have:=f.1;unfold zi at this;simp[y]at this;exact this.1.2
  refine⟨v.kind,v.text,sk,si,D.ld (cs:=[_,_,aK sk,aK si]),?_⟩;refine Da (o:=123) (c:=125) (ps:=List.zipWith (jH ln) v.keys (v.items.map λx=>J5 ln N x (lv+1))) Ut hi U (by omega) (by rw[List.length_zipWith,zap];omega) G (λi h=>?_) l h1 _ B P m λg' u C=>⟨rfl,r g' u (A.trans C)⟩;rw[List.length_zipWith,zap]at h;rw[List.getElem_zipWith,zb3];exact NI S J hk hi (by omega) (by omega) (hsm.key (zak _)) λsk' si' a1 a2=>q i (by omega) sk' si' a1 a2;have z:v.kind≠1:=λe=>by rw[e]at j;cases j
  have E:v.kind≠4:=λe=>by rw[e]at t;cases t
  have Q:v.kind≠5:=λe=>by rw[e]at w;cases w
  have n6:v.kind≠6:=λe=>by rw[e]at y;cases y
  rw[zv z,zv E,zv Q,zv n6]at m r;refine⟨_,rfl,v.text,Blk.cellAdd (o:=0) (k:=1) D rfl,?_⟩;rw[add0];exact Ou B v.text m λg' u O T=>⟨_,_,rfl,r g' u (A.trans ⟨O,T⟩)⟩
end
end
end
section
open Go.Lib
variable {ln:Bool} {lv:Nat}
theorem LV(ln:Bool)(nd lv:Nat)(ps:List Bs):(Qx ln nd lv ps).length<=(ps.map λp=>p.length+(1+(Z1 ln nd lv).length)).sum:=by
 cases ps with
 |nil=>exact zac _
 |cons p ps=>
  have:∀b:List Bs,(b.flatMap λq=>44::(Z1 ln nd lv++q)).length=(b.map λp=>p.length+(1+(Z1 ln nd lv).length)).sum:=by
   intro b;induction b with
   |nil=>rfl
   |cons q b c=>rw[zcd,zah,c,za1,List.sum_cons];simp;omega
  rw[Qx,zah,zah,this,za1,List.sum_cons];omega
theorem Gl{nd lv:Nat}(h:nd<=8)(b:lv<=100):(Z1 ln nd lv).length<=801:=by unfold Z1;have:nd*lv<=800:=zch (zd0 h b) (by omega);split;rw[zaw,zdl];omega;simp
theorem qW(t:Bs):(iO t).1.length<=6*t.length+2:=by unfold iO;have:=A5 t;split;simp;omega;simp
theorem v7{ln:Bool}{N:Nat}(r:N<=8):∀(n:Nat) (v:Tr) (lv:Nat),aR v<=n->Sm v->lv+cR v<=90->(J5 ln N v lv).length+10000000<=aR v*20000000
 |0,v,lv,h,_,_=>by have:=Qk v;omega
 |n+1,v,lv,hz,hsm,hd=>by
  have C:=hsm.text;have u:=Qk v;have e:∀x∈v.items,(J5 ln N x (lv+1)).length+10000000<=aR x*20000000:=λx q=>by have h1:=qo q;have t:=Hp q;exact v7 r n x (lv+1) (by omega) (hsm.item q) (by omega)
  have B:=Gl (ln:=ln) (lv:=lv) r (by omega);have z:=Gl (ln:=ln) (lv:=lv+1) r (by omega);have f:∀l:List Tr,(∀x∈l,(J5 ln N x (lv+1)).length+10000000<=aR x*20000000)->(l.map λx=>(J5 ln N x (lv+1)).length+10000000).sum<=wa l*20000000:=by
   intro l;induction l with
   |nil=>intro _;exact za0 _
   |cons x l j=>intro h;have h1:=h x za2;have t:=j λy m=>h y (za3 _ m);rw[za1,List.sum_cons,wa,zcs];omega
  have w:=f v.items e;have b:∀ps:List Bs,(ps.map λp=>p.length+(1+(Z1 ln N (lv+1)).length)).sum<=wa v.items*20000000->∀o c:UInt8,(o::jV ln N lv ps++[c]).length+10000000<=aR v*20000000:=λps A o c=>by
   have F:=LV ln N (lv+1) ps;have:(o::jV ln N lv ps++[c]).length<=2+(Qx ln N (lv+1) ps).length+(Z1 ln N lv).length:=by unfold jV;simp only[zaw,zah,zb5];split <;> simp <;> omega
   rw[ql,zcs];omega
  rw[oz];split;simp only[zaw,zb5];omega;split;have:=qW (lb v.text);omega;split;refine b _ (zch ?_ w) 91 93;rw[zav];have:∀l:List Tr,(l.map ((λp:Bs=>p.length+(1+(Z1 ln N (lv+1)).length)) ∘ λx=>J5 ln N x (lv+1))).sum<=(l.map λx=>(J5 ln N x (lv+1)).length+10000000).sum:=by
   intro l;induction l with
   |nil=>exact zac _
   |cons x l j=>simp only[za1,List.sum_cons,Function.comp];omega
  exact this _;split;refine b _ (zch ?_ w) 123 125;have:∀(ks:List Bt) (l:List Tr),(∀k∈ks,(lb k).length<=1048576)->((List.zipWith (jH ln) ks (l.map λx=>J5 ln N x (lv+1))).map λp:Bs=>p.length+(1+(Z1 ln N (lv+1)).length)).sum<=(l.map λx=>(J5 ln N x (lv+1)).length+10000000).sum:=by
   intro ks;induction ks with
   |nil=>intro l _;simp
   |cons k ks j=>
    intro l i;cases l with
    |nil=>simp
    |cons x l=>
     have h1:=j l λy m=>i y (za3 _ m);have t:=i k za2;have E:=qW (lb k);have D:(jH ln k (J5 ln N x (lv+1))).length<=(iO (lb k)).1.length+2+(J5 ln N x (lv+1)).length:=by unfold jH;rw[zah,zaw,zah];split <;> simp <;> omega
     simp only[za1,List.zipWith_cons_cons,List.sum_cons];omega
  exact this v.keys v.items λk i=>hsm.key i;omega
theorem Tq{N:Nat}{v:Tr}(h:iN v=Ta):J5 ln N v lv≠[]:=by unfold iN at h;rw[zam]at h;obtain⟨k,h⟩:=h;unfold zi at h;rw[oz];by_cases h1:v.kind=1;rw[zA h1];simp;rw[zv h1]at h ⊢;by_cases b:v.kind=4;rw[zA b];rw[b]at h;simp at h;unfold iO;rw[zA h.1.1];simp;rw[zv b];by_cases f:v.kind=5;rw[zA f];simp;rw[zv f];by_cases c:v.kind=6;rw[zA c];simp;rw[zv c];by_cases i:v.kind=2;rw[zA i]at h;simp at h;rcases h.1.1 with e|e <;> (rw[e];simp);rw[zv i]at h;by_cases j:v.kind=3;rw[zA j]at h;simp only[zam]at h;have:=h.1.1;unfold kR at this;simp only[zam,beq_iff_eq]at this;intro e;rw[e]at this;exact absurd this.1 (by decide);rw[zv j,zv b,zv f,zv c]at h;split at h;rename_i e;simp[e]at k;cases h
end
section
open Go.RowKit
variable {v:Tr} {ln:Bool} {N lv:Nat} {gl M:Fr}
def jc(v:Tr):Bt×Int:=if zh v=Ta then(bl (J5 Tc 0 v 0),0)else(⟨#[]⟩,1)
theorem Yp(h:zh v=Ta):aR v<=4096/\cR v<=32/\yr iN v=Ta/\yr zi v=Ta:=by unfold zh Zi at h;simp only[zam,zG]at h;refine⟨h.1.1,h.1.2,h.2,?_⟩;exact xH (λx b=>by rw[zam]at b;exact b.2) v h.2
theorem UW(h:zh v=Ta):J5 ln N v lv≠[]:=by have:=(Yp h).2.2.1;rw[Z0,zam]at this;exact Tq this.1
theorem Mz(o:GL gl)(n:Brn gl)(h:Sm v)(e:zh v=Ta)(f:N<=8)(y:lv<=32){g:zc}{b:Nat}(m:Fr.le gl M)(ag:AgM M g)(low:∀c cs,M c=Td cs->c<b)(H:Prn g b ln (N:Int) []) {sk si:Sl} (w:Rd M (.row .str) v.keys [aK sk]) (r:Rd M (.row .tree) v.items [aK si]) {K:Value->zc->Prop} (u:∀h',Keep b g h'->K (.string (bl (J5 ln N v lv))) h'):
  XC Tp 201 #[.pointer (Td ⟨b,0,Te⟩),mi v.kind v.text sk si,.int .i64 (lv:Int)] g λt h1=>t=.tuple #[]/\XC Tp 70 #[.pointer (Td (zab ⟨b,0,Te⟩ 0))] h1 K:=by
 obtain⟨z,A,x,q⟩:=Yp e;have j:=v7 (ln:=ln) f (aR v) v lv (zac _) h (by omega);refine Ed o n f 1000000 v lv sk si (zac _) (by omega) q h (by omega) w r [] g _ H ⟨m,ag,low⟩ (by simp only[zb5];omega) λg' i l=>⟨rfl,?_⟩;rw[add0];rw[zck]at i;exact PN i (UW e) λh' k=>u h' (l.keep.trans k (zac _))
theorem CY(s:Bt)(e:Int):J4 M [.str,.int .i64] (s,e) (.tuple #[.string s,.int .i64 e]):=⟨[_,_],⟨_,_,rfl,rdStr _,_,rfl,Ja _ _⟩,rfl⟩
set_option maxRecDepth 100000 in
theorem Gr(A:GL gl)(C:Brn gl)(B:Sm v){R:Bt×Int->Prop}(l:R (jc v)):PC Tp gl 126 [Arg.mk .tree v] [.str,.int .i64] R:=by
 intro h M vs z ag I
 match vs,I with
 |[u],⟨q,_⟩=>
  have q:RdV M .tree v u:=q;have y:=q;obtain⟨sk,si,rfl,F,H⟩:=qp q;apply PX.of;apply U4 v.kind v.text sk si;intro h1;have f:Later h M h1 M:=Later.push ag _;have s1:h1.size=h.size+1:=zaf _;have i:∀h':zc,Keep h1.size h1 h'->ze h' ⟨h.size,0,Te⟩ 0 [.int .i64 v.kind,.string v.text,aK sk,aK si]:=λh' k=>rP (h':=h') (by rw[s1]at k;exact k);clear_value h1;refine⟨v.kind,v.text,sk,si,i h1 (Keep.refl _ _),?_⟩;refine(xc A B (R:=λr=>r=zh v) rfl).go (vs:=[.agg #[.int .i64 v.kind,.string v.text,aK sk,aK si]]) (z.trans f.le) f.ag (zr (RdV.mono f.le y) qj) λw o x r b m G=>?_;subst G;refine⟨_,Xh m,λj=>?_,λj=>?_⟩;have j:zh v=Tc:=by simpa using j
  unfold jc at l;rw[zv (by rw[j];simp)]at l;exact⟨x,_,f.trans b,CY _ _,l⟩;have j:zh v=Ta:=by simpa using j
  unfold jc at l;rw[zA j]at l;intro n;have D:Prn n o.size Tc ((0:Nat):Int) []:=Prn.new o Tc 0;have t:Keep o.size o n:=Keep.push _ _ (zac _);clear_value n;have E:Later h M n x:=(f.trans b).trans (Later.same b.ag t);refine⟨v.kind,v.text,sk,si,i n (b.keep.trans t b.keep.size),?_⟩;refine Mz A C B j (N:=0) (lv:=0) (by omega) (by omega) (z.trans (f.trans b).le) E.ag (λc cs e=>b.ag.lt e) D (F.mono (f.trans b).le) (H.mono (f.trans b).le) λL J=>⟨_,rfl,x,_,?_,CY _ _,l⟩;exact(f.trans b).trans (Later.same b.ag (t.trans J (zac _)))
end
section
section
theorem yh(b:Nat)(c1:Addr)(h:zc)(R:Value->zc->Prop) (H:∃t:Option Nat,zd h c1=Td (.map t)/\qu Tp (ze5 144 (.map t)) h (λI G=>∃j:Option Addr,I=.pointer j/\∃(m:zc->Prop) (o:zc->Nat),m G/\∀l:zc,m l->(qu Tp (zdx (.pointer j) Tc 0) l (λA k=>(A=.tuple #[.bool Tc]/\(Tc=Ta->qu Tp (zes (.pointer j)) k (λz C=>∃r w:Value,z=.tuple #[r,w]/\YX Tp b #[r] C (λy f=>∃e:Bool,y=.bool e/\((!e)=Ta->R (.tuple #[]) f)/\((!e)=Tc->(m f/\o f<o l)))))/\(Tc=Tc->R (.tuple #[]) k))\/∃D B:Value,A=.tuple #[.bool Ta,D,B]/\(Ta=Ta->qu Tp (zes (.pointer j)) k (λE F=>∃q x:Value,E=.tuple #[q,x]/\YX Tp b #[q] F (λu i=>∃c:Bool,u=.bool c/\((!c)=Ta->R (.tuple #[]) i)/\((!c)=Tc->(m i/\o i<o l)))))/\(Ta=Tc->R (.tuple #[]) k))))):
  md Tp 222 #[.func (.yield b) #[] #[],.pointer (Td c1)] h R:=
 xN Tryz.mixed ⟨[],[(1,[])],[]⟩ [.func (.yield b) #[] #[],.pointer (Td c1)] (rs:=[]) (n:=14) Tryz.func222 (by kernel_rfl) (by kernel_rfl) (by kernel_rfl) (by kernel_rfl) (Eq.mp (by kernel_rfl) H)
theorem yx(j:Sl)(f:Value)(h:zc)(R:Value->zc->Prop) (H:let c:zc:=zdd h (.cells #[.slice j.a j.len j.cap] 22);∃(m:FuncId) (k:Array Value),f=.func (.func m) #[] k/\zo Tp m=Ta/\∀e:i4,(∀{q:Value} {l:zc} {o:Value->zc->Prop},l[(zax c+1)]?=Td (.loop (e .ready Te))->lW Tp 13 (lZ (codeOf Tryz.f277)) (lJ (codeOf Tryz.f277)) e (zax c+1) o (putO [(0,[],.slice j.a j.len j.cap),(1,[],f),(2,[],.pointer (Td ⟨zax h,0,Te⟩)),(4,[],.slice Te 0 0),(6,[],f)] (Td 7) [] q) l->YX Tp (zax c+1) #[q] l o)->md Tp m (#[.func (.yield (zax c+1)) #[] #[]]++k) (zdd (zdd c (.deferred (Td []))) (.loop (e .ready Te))) λ_ r=>sC e (zax c+1) (λi=>∃b:Sl,zd i ⟨zax h,0,Te⟩=Td (.slice b.a b.len b.cap)/\(i)[zax c]?=Td (.deferred (Td []))/\R (.slice b.a b.len b.cap) (Array.setIfInBounds i (zax c) (.deferred Te))) (λi=>(i)[zax c]?=Td (.deferred (Td []))/\R (.slice Te 0 0) (Array.setIfInBounds i (zax c) (.deferred Te))) r):
  XC Tp 277 #[.slice j.a j.len j.cap,f] h R:=
 Hu Tryz.mixed [.slice j.a j.len j.cap,f] (rs:=[.tmp 4]) (n:=13) Tryz.func277 (by kernel_rfl) (by kernel_rfl) (by kernel_rfl) (by kernel_rfl) H (pl:=[]) (by kernel_rfl)
theorem yy(o:Value)(t:Value)(m:Addr)(q:Value)(r:Value)(n:Bt)(rec:i4)(l:Nat)(K:Value->zc->Prop)(h:zc) (H:(h)[l]?=Td (.loop (rec .ready Te))/\let e:zc:=Array.setIfInBounds h l (.loop (rec .busy Te));∃c:Sl,zd e m=Td (.slice c.a c.len c.cap)/\let i:zc:=zdd e (.cells #[.string n] 9);qu Tp (zao #[22,22] 22 #[.slice c.a c.len c.cap,.slice (Td ⟨zax e,0,Te⟩) 1 1]) i (λj k=>∃b:Sl,j=.slice b.a b.len b.cap/\XRunU Tp (zag 22 (.pointer (Td m)) (.slice b.a b.len b.cap)) k (λf=>(f)[l]?=Td (.loop (rec .busy Te))/\K (.bool Ta) (Array.setIfInBounds f l (.loop (rec .ready Te)))))):
  lW Tp 13 (lZ (codeOf Tryz.f277)) (lJ (codeOf Tryz.f277)) rec l K [(7,[],.string n),(0,[],o),(1,[],t),(2,[],.pointer (Td m)),(4,[],q),(6,[],r)] h:=
 Eq.mp (by kernel_rfl) H
end
section
theorem Zm(j:FuncId)(i:Array Value)(k:Array Value)(h:zc)(R:Value->zc->Prop) (H:XC Tp 220 #[.func (.func j) i k] h (λb c=>∃d,b=aK d/\XC Tp 221 #[aK d] c (λe f=>e=.tuple #[]/\R (aK d) f))):
  XC Tp 161 #[.func (.func j) i k] h R:=
 XF ⟨[],[],[]⟩ [.tmp 2] 9 Tryz.func161 H
theorem yp(b:Option Nat)(h:zc)(R:Value->zc->Prop) (H:let a:=h.push (.cells #[.map b] 144);R (.func (.func 222) #[] #[.pointer (Td ⟨h.size,0,Te⟩)]) a):
  XC Tp 162 #[.map b] h R:=
 XF ⟨[],[],[]⟩ [.tmp 2] 4 Tryz.func162 H
theorem xx(f:FuncId)(e:Array Value)(i:Array Value)(h:zc)(R:Value->zc->Prop) (H:XC Tp 277 #[.slice Te 0 0,.func (.func f) e i] h (λb c=>∃d,b=aK d/\R (aK d) c)):
  XC Tp 220 #[.func (.func f) e i] h R:=
 XF ⟨[],[],[]⟩ [.tmp 2] 5 Tryz.func220 H
end
end
section
open Go.Shelf Go.RowKit
def QK:Go.Shelf.Ren:=⟨fun|190=>221|125=>114|258=>278|128=>177|129=>178|302=>324|303=>325|304=>326|305=>327|306=>328|307=>329|308=>330|309=>331|310=>332|333=>371|329=>236|330=>237|334=>372|335=>373|336=>207|344=>395|n=>n,fun|31=>22|9=>9|3=>3|46=>123|0=>0|51=>176|53=>178|4=>4|183=>168|182=>167|131=>173|5=>5|218=>245|222=>249|228=>299|229=>300|n=>n,fun|n=>n⟩
theorem F7:Go.Proofs.Lays.n190 Tp QK:=by constructor <;> intros <;> kernel_rfl
open Go.Sort Go.RowKit in
theorem Ur(blk off cap:Nat)(ss:List (List UInt8))(w:World)(f:Holds encStr w blk off ss.toArray)(b:blk<w.heap.size)(c:ss.length<4611686018427387904):
  Calls Tp 221 #[.slice (Td ⟨blk,off,Te⟩) ss.length cap] w λe w'=>
   e=.returned (.tuple #[])/\∃n os,w'=grow (putRow encStr (Sort.ahead w n) blk off (ss.mergeSort λx y=>decide (x<=y)).toArray) os:=Any.slices_Sort_string F7 blk off cap ss w f b c
open Go.RowKit Go.Sort in
theorem Jd(p:Option Addr)(cap:Nat)(w:World): Calls Tp 221 #[.slice p 0 cap] w λe w'=>e=.returned (.tuple #[])/\w'=w:=Any.slices_Sort_string_none F7 p cap w
end
section
open Go.Lib
def zl(xs:List Bt):List Bt:=((xs.map lb).mergeSort λx y=>decide (x<=y)).map bl
theorem YN{xs ys:List Bt}(h:xs.Perm ys):zl xs=zl ys:=by unfold zl;rw[mergeSort_of_perm (h.map lb)]
theorem qn(xs:List Bt):(zl xs).Perm xs:=by
 have h:=(List.mergeSort_perm (xs.map lb) λx y=>decide (x<=y)).map bl;rw[zav]at h;have e:bl ∘ lb=id:=by funext x;exact jp x
 rw[e,zfl]at h;exact h
theorem M1(xs:List Bt):(zl xs).length=xs.length:=(qn xs).length_eq
end
section
open Go.RowKit Go.Sort Go.Shelf
variable {h:zc} {xs:List Bt} {K:Value -> zc -> Prop} {c m:Nat}
theorem XC.of_below{P:Program}{f:FuncId}{args:Array Value}{R:Value->zc->Prop}(H:∀B d,Calls P f args (mk B d h) λe w'=>∃v,e=.returned v/\w'.os=B.os/\w'.tape=B.tape/\w'.output=B.output/\R v w'.heap):XC P f args h R:=by intro B d;refine(H B d).mono ?_;rintro e w' ⟨v,rfl,h1,b,i,c⟩;refine⟨v,w'.drawn,w'.heap,rfl,?_,c⟩;cases w';simp only[mk]at *;subst h1;subst b;subst i;rfl
theorem nI{base:Nat}{s:Sl}(H:Owns h base 9 1 s (xs.map zaz)):s.len=xs.length:=by have:=H.length;simp at this;omega
theorem MI(xs:List Bt):(xs.map lb).map encStr=xs.map zaz:=by rw[zav];refine zbx λx _=>?_;show zaz _=_;exact congrArg zaz (jp x)
theorem Ft{base:Nat}{s:Sl}(H:Owns h base 9 1 s (xs.map zaz))(t:xs.length<=1000000):
  XC Tp 221 #[.slice s.a s.len s.cap] h λv h'=>v=.tuple #[]/\Owns h' base 9 1 s ((zl xs).map zaz)/\h.size<=h'.size/\∀i,i<h.size->(∀p,s.a=Td p->i≠p.block)->h'[i]?=h[i]?:=by
 refine XC.of_below λB d=>?_;have k:s.len=xs.length:=nI H;have b:(xs.map lb).length=xs.length:=by simp
 have f:(zl xs).map zaz=((xs.map lb).mergeSort λx y=>decide (x<=y)).map encStr:=by unfold zl;rw[zav];rfl
 rcases H.2 with⟨q,h0⟩|⟨g,cap,m,q,o,F,E,J,C,G⟩;have D:xs=[]:=zbb (by omega);subst D;rw[h0];refine(Jd s.a s.cap (mk B d h)).mono ?_;rintro e w' ⟨rfl,rfl⟩;exact⟨_,rfl,rfl,rfl,rfl,rfl,by rw[show zl []=[]from List.Perm.eq_nil (qn [])];exact H,zac _,λ_ _ _=>rfl⟩;simp only[zbo]at q;obtain⟨z,_,rfl⟩:=q;have j:(mk B d h).heap[g]?=Td (.cells m 9 (0,0)):=F;have r:g<(mk B d h).heap.size:=(zat.1 j).1;have I:Holds encStr (mk B d h) g 0 (xs.map lb).toArray:=holds_of_block j (by rw[b,MI,<-k];simpa using G);have A:=Ur g 0 s.cap (xs.map lb) (mk B d h) I r (by rw[b];omega);rw[b,<-k]at A;rw[z];refine A.mono ?_;rintro e w' ⟨rfl,n,os,rfl⟩;have c:=grownBy_sorted (w:=mk B d h) (g:=g) (n:=n) (os:=os) ((xs.map lb).mergeSort λx y=>decide (x<=y)).toArray;refine⟨_,rfl,c.os,c.tape,c.output,rfl,?_,c.size,λi hi l=>c.block i hi λe=>l _ rfl (by simpa using e)⟩;have u:=ownsRow_sorted (w:=mk B d h) (base:=base) (n:=n) (os:=os) (ss:=xs.map lb) (ts:=(xs.map lb).mergeSort λx y=>decide (x<=y)) (by simp) o j (by rw[b,<-k];exact E) J (by simpa using C);rw[<-f,b,<-k]at u;show World.ownsRow _ base _ 1 (.slice s.a s.len s.cap) s.len _;rw[z];exact u
theorem Mm:zbj.underlying 144=Td (.map 9 25):=by kernel_rfl
theorem Lr:zo Tp 222=Ta:=by kernel_rfl
theorem CV:∀{xs ys:List Bt},xs.Nodup->(∀x∈xs,x∈ys)->xs.length<=ys.length
 |[],_,_,_=>za0 _
 |x::xs,ys,hn,hs=>by
  rw[zbq]at hn;have e:=hs x za2;obtain⟨a,b,rfl⟩:=List.append_of_mem e;have:=CV (ys:=a++b) hn.2 λy c=>by have:=hs y (za3 _ c);rw[zaj,zan]at this;rw[zaj];rcases this with h|rfl|h;exact .inl h;exact absurd c hn.1;exact .inr h
  simp only[zah,zaw]at this ⊢;omega
structure KyS (h:zc) (m:Nat) (rec:i4) (ps:List (Bt×Value)) (g:zc) (xs:List Bt) (sl:Sl):Prop where
 keep:Keep h.size h g
 d:g[h.size+1]?=Td (.deferred (Td []))
 rc:g[h.size+2]?=Td (.loop (rec .ready Te))
 box:Blk g h.size #[aK sl]
 o:Owns g (h.size+4) 9 1 sl (xs.map zaz)
 it:MapIt g (h.size+3) m (Y5 ps) (xs.reverse.map zaz)
 nd:xs.Nodup
 sub:∀x∈xs,x∈ps.map (·.1)
 gz:h.size+4<=g.size
theorem Rq(ps:List (Bt×Value)):(Y5 ps).map (·.1)=(ps.map (·.1)).map zaz:=by unfold Y5;rw[zav,zav];rfl
theorem T0{ks:List Bt}(h:ks.Nodup):(ks.map zaz).Nodup:=by
 induction ks with
 |nil=>exact zdq
 |cons k ks b=>rw[zbq]at h;rw[za1,zbq];refine⟨λc=>?_,b h.2⟩;obtain⟨x,f,e⟩:=zay.1 c;injection e with e;exact h.1 (e ▸ f)
section
variable {h : zc} {m : Nat} {rec : i4} {ps : List (Bt × Value)} {g : zc} {xs : List Bt} {sl : Sl}
set_option maxRecDepth 100000 in
theorem KyS.round(S:KyS h m rec ps g xs sl)(hm:m<h.size)(u:xs.length<=1000000){g1:zc}{k:Bt}(C:MapIt g1 (h.size+3) m (Y5 ps) ((k::xs.reverse).map zaz))(z1:g1.size=g.size)(H:∀j,j≠h.size+3->g1[j]?=g[j]?)(Y:k∉xs)(B:k∈ps.map (·.1)) {x6 U T Q:Value} (Z:∀g' E,KyS h m rec ps g' (xs++[k]) E->g'[h.size+3]?=g1[h.size+3]?->g'[m]?=g1[m]?->K (.bool Ta) g'):
  lW Tp 13 (lZ (codeOf Tryz.f277)) (lJ (codeOf Tryz.f277)) rec (h.size+2) K [(7,[],.string k),(0,[],T),(1,[],Q),(2,[],.pointer (Td ⟨h.size,0,Te⟩)),(4,[],U),(6,[],x6)] g1:=by
 apply yy;have gz:=S.gz;have ky:=S.keep.size;refine⟨by rw[H _ (by omega)];exact S.rc,?_⟩;intro c;have r:∀j,j≠h.size+2->c[j]?=g1[j]?:=λj w=>zq w;have l2:c[h.size+2]?=Td (.loop (rec .busy Te)):=set_self (by omega);have z2:c.size=g1.size:=zbg;clear_value c;have l:∀j,j≠h.size+2->j≠h.size+3->c[j]?=g[j]?:=λj a b=>(r j a).trans (H j b);have J:Blk c h.size #[aK sl]:=S.box.keep (l _ (by omega) (by omega));refine⟨sl,J.cell rfl,?_⟩;intro t;have G:Keep c.size c t:=Keep.push _ _ (zac _);have z3:t.size=c.size+1:=zaf _;have S3:Blk t c.size #[.string k]:=Blk.new _ _ _;clear_value t;have o2:Owns c (h.size+4) 9 1 sl (xs.map zaz):=S.o.keep λp q=>by have:=S.o.base_le p q;exact l _ (by omega) (by omega)
 have I:=o2.keepN G;have hl:=nI S.o;refine Zw Wt I (src:=⟨Td ⟨c.size,0,Te⟩,1,1⟩) (news:=[.string k]) (n:=t.size) ?_ rfl (by simp[Value.oneCell']) (by simp only;omega) (by simp only;omega) (by omega) λA M q1 L N q4 q5=>⟨A,rfl,?_⟩;refine .inr ⟨c.size,0,rfl,by omega,λi v z=>?_⟩
 match i,z with
 |0,z=>cases z;exact S3.cell rfl
 have y:∀j,j<h.size+4->M[j]?=c[j]?:=λj w=>by rw[N j (by omega) λp q=>by have:=I.base_le p q;omega];exact G.get j (by omega)
 refine xu sA uN (J.keep (y _ (by omega))) (by show 0<1;omega) rfl λD O u3 u2=>?_;have f:∀j,j<h.size+4->j≠h.size->D[j]?=c[j]?:=λj w h0=>(u2 j h0).trans (y j w);have V:D[h.size+2]?=Td (.loop (rec .busy Te)):=by rw[f _ (by omega) (by omega)];exact l2
 refine⟨V,Z _ A ⟨?_,?_,set_self (by omega),?_,?_,?_,?_,?_,?_⟩ ?_ ?_⟩;refine S.keep.trans ⟨by rw[zbg];omega,λj w=>?_⟩ (zac _);rw[zq (by omega),f j (by omega) (by omega),l j (by omega) (by omega)];rw[zq (by omega),f _ (by omega) (by omega),l _ (by omega) (by omega)];exact S.d;exact Blk.keep O (zq (by omega));have:Owns D (h.size+4) 9 1 A ((xs++[k]).map zaz):=by rw[zbc];exact L.keep λp q=>by have:=L.base_le p q;exact u2 _ (by omega)
 exact this.keep λp q=>by have:=this.base_le p q;exact zq (by omega)
 rw[List.reverse_append];refine C.keep ?_ ?_;rw[zq (by omega),f _ (by omega) (by omega),r _ (by omega)];rw[zq (by omega),f _ (by omega) (by omega),r _ (by omega)];rw[zb2];exact⟨S.nd,by simp,λa P b F e=>by rw[za6]at F;subst F;subst e;exact Y P⟩;intro x u;rw[zaj,za6]at u;rcases u with u|rfl;exact S.sub x u;exact B;rw[zbg];omega;rw[zq (by omega),f _ (by omega) (by omega),r _ (by omega)];rw[zq (by omega),f _ (by omega) (by omega),r _ (by omega)]
end
set_option maxRecDepth 100000 in
theorem UP{ps:List (Bt×Value)}(C:Blk h c #[.map (Td m)])(W:MapW h m (Y5 ps))(P:(ps.map (·.1)).Nodup)(hl:ps.length<=1000000) (hK:∀(h':zc) (sl:Sl) (xs:List Bt),Keep h.size h h'->Owns h' h.size 9 1 sl (xs.map zaz)->xs.Perm (ps.map (·.1))->K (.slice sl.a sl.len sl.cap) h'):
  XC Tp 277 #[.slice Te 0 0,.func (.func 222) #[] #[.pointer (Td ⟨c,0,Te⟩)]] h K:=by
 apply yx ⟨Te,0,0⟩;intro h1;have U:Keep h.size h h1:=Keep.push _ _ (zac _);have Z:h1.size=h.size+1:=zaf _;have B1:Blk h1 h.size #[aK ⟨Te,0,0⟩]:=Blk.new _ _ _;clear_value h1;have Q:=W.lt;have hc:=C.lt;refine⟨_,_,rfl,Lr,λrec M=>?_⟩;obtain⟨f,b⟩:∃f:zc,f=((h1.push (.deferred (Td []))).push (.loop (rec .ready Te))):=⟨_,rfl⟩;have T:Keep h1.size h1 f:=by rw[b];exact(Keep.push _ _ (zac _)).trans (Keep.push _ _ (by rw[zaf];omega)) (zac _)
 have z4:f.size=h1.size+2:=by rw[b,zaf,zaf]
 have O:f[h1.size]?=Td (.deferred (Td [])):=by rw[b,ze0,zv (by rw[zaf];omega)];exact yc _ _
 have N:f[h1.size+1]?=Td (.loop (rec .ready Te)):=by rw[b];have:=yc (h1.push (.deferred (Td []))) (.loop (rec .ready Te));rw[zaf]at this;exact this
 rw[<-b];clear b;have l:Keep h.size h f:=U.trans T (by omega);have G:h1.size=h.size+1:=Z;rw[G]at O N M ⊢;apply yh;refine⟨Td m,(C.keep (l.get c hc)).cell rfl,?_⟩;have W4:MapW f m (Y5 ps):=W.keep (l.get m Q);refine vI Mm W4 λh5 z5 w t=>⟨Td ⟨f.size,0,Te⟩,rfl,λg=>∃xs sl,KyS h m rec ps g xs sl,λg=>leftN g (h.size+3) m,⟨[],⟨Te,0,0⟩,?_⟩,?_⟩;have H:f.size=h.size+3:=by omega
 rw[H]at t;exact⟨l.trans w (by omega),(w.get _ (by omega)).trans O,(w.get _ (by omega)).trans N,(B1.ofKeep T).keep (w.get _ (by omega)),Owns.nil _ _ _ _,t,zdq,λx i=>(by cases i),by omega⟩;have H:f.size=h.size+3:=by omega
 rw[H];rintro g ⟨xs,sl,S⟩;have y:((Y5 ps).map (·.1)).Nodup:=by rw[Rq];exact T0 P
 have z:xs.length<=1000000:=by have h1:=CV S.nd S.sub;rw[zap]at h1;omega
 refine Bm S.it y (by omega) (λn=>.inl ⟨rfl,(λi=>by cases i),λ_=>.inl ⟨S.rc,?_⟩⟩) λk v F V g1 A u B J q=>.inr ⟨k,v,rfl,λ_=>?_,λi=>by cases i⟩;have aa:=S.gz;refine⟨sl,?_,?_,hK _ sl xs ?_ ?_ ?_⟩;exact(S.box.keep (zq (by omega))).cell rfl;rw[zq (by omega)];exact S.d;refine S.keep.trans ⟨by rw[zbg,zbg];exact zac _,λj hj=>?_⟩ (zac _);rw[zq (by omega),zq (by omega)];refine(S.o.keep λp E=>?_).base (by omega);have:=S.o.base_le p E;rw[zq (by omega),zq (by omega)];refine(List.perm_ext_iff_of_nodup S.nd P).2 λa=>⟨S.sub a,λha=>?_⟩;obtain⟨p,E,rfl⟩:=zay.1 ha;have:=n (.string p.1,p.2) (zay.2 ⟨p,E,rfl⟩);obtain⟨x,i,e⟩:=zay.1 this;injection e with e;subst e;exact List.mem_reverse.1 i;obtain⟨⟨L,vv⟩,r,e⟩:=zay.1 F;injection e with G e2;subst G;subst e2;have D:L∉xs:=λi=>V (zay.2 ⟨L,List.mem_reverse.2 i,rfl⟩);refine BS u ⟨_,_,rfl,M ?_ ?_⟩;rw[J _ (by omega)];exact S.rc;refine S.round Q z A B J D (zay.2 ⟨_,r,rfl⟩) λg' I S' Y q2=>⟨Ta,rfl,(λi=>by cases i),λ_=>⟨⟨_,I,S'⟩,?_⟩⟩;show leftN g' (h.size+3) m<_;rw[leftN.keep Y q2];exact q
theorem Vx{ps:List (Bt×Value)}(C:Blk h c #[.map (Td m)])(W:MapW h m (Y5 ps))(l:(ps.map (·.1)).Nodup)(j:ps.length<=1000000) (q:∀h' sl,Keep h.size h h'->Owns h' h.size 9 1 sl ((zl (ps.map (·.1))).map zaz)->K (.slice sl.a sl.len sl.cap) h'):
  XC Tp 161 #[.func (.func 222) #[] #[.pointer (Td ⟨c,0,Te⟩)]] h K:=by
 apply Zm;apply xx;refine UP C W l j λh1 sl xs e k b=>⟨sl,rfl,sl,rfl,?_⟩;have f:xs.length<=1000000:=by rw[b.length_eq,zap];exact j
 refine XC.mono (Ft k f) ?_;rintro v h2 ⟨rfl,r,o,n⟩;refine⟨rfl,q h2 sl ⟨zch e.size o,λi hi=>?_⟩ (by rw[<-YN b];exact r)⟩;refine(n i (zdb hi e.size) λp b=>?_).trans (e.get i hi);have:=(k.base_le p b).1;omega
end
section
open Go.Lib
def jW:List (Bt×Tr)->Bt->Tr
 |[],_=>.mk 0 (bl []) [] []
 |p::l,k=>if p.1=k then p.2 else jW l k
mutual
def zw:Tr->Tr
 |.mk k s ks xs=>if k=6 then .mk k s (zl ks) ((zl ks).map λq=>jW (ks.zip (rI xs)) q)else .mk k s [] (rI xs)
def rI:List Tr->List Tr
 |[]=>[]
 |x::l=>zw x::rI l
end
def Z2(v:Tr):Tr:=if y8 v=Ta then zw v else .mk 0 (bl []) [] []
theorem IA:∀l:List Tr,rI l=l.map zw
 |[]=>rfl
 |x::l=>by rw[rI,IA l];rfl
theorem Ad(v:Tr):zw v=if v.kind=6 then .mk v.kind v.text (zl v.keys) ((zl v.keys).map λq=>jW (v.keys.zip (v.items.map zw)) q)else .mk v.kind v.text [] (v.items.map zw):=by
 cases v with
 |mk k s ks xs=>rw[zw,IA]
theorem wM(k:Bt):∀(ks:List Bt) (ys:List Tr),ks.length=ys.length->k∈ks->∃(j:Nat) (h1:j<ks.length) (l:j<ys.length),ks[j]=k/\jW (ks.zip ys) k=ys[j]/\∀us:List Value,us.length=ks.length->il (ks.zip us) k=us[j]?
 |[],_,_,h=>by cases h
 |z::ks,[],h,_=>by simp at h
 |z::ks,y::ys,h,hk=>by
  by_cases hz:z=k;refine⟨0,by simp,by simp,hz,?_,λus b=>?_⟩;rw[zdc,jW,zA hz];rfl
  match us,b with
  |u::us,_=>rw[zdc,il,zA hz];rfl
  have c:k∈ks:=by rcases zan.1 hk with e|e;exact absurd e.symm hz;exact e
  obtain⟨j,h1,l,f,m,i⟩:=wM k ks ys (by simpa using h) c;refine⟨j+1,by simp;omega,by simp;omega,by simpa using f,?_,λus b=>?_⟩;rw[zdc,jW,zv hz,m];rfl
  match us,b with
  |u::us,b=>rw[zdc,il,zv hz,i us (by simpa using b)];rfl
end
section
open Go.RowKit
variable {ks:List Bt}
theorem Owns.frz{h g:zc}{M M':Fr}(L:Later h M g M'){s:Sl}{base:Nat}(o:Owns g base 9 1 s (ks.map zaz))(C:h.size<=base)(E:ks.length<=1000000):
  ∃k,Later h M g k/\(∀c,c<base->k c=M' c)/\Rd k (.row .str) ks [aK s]:=by
 have n:=nI o;rcases o.2 with⟨j,h0⟩|⟨b,cap,f,j,m,r,B,D,A,t⟩;have l:ks=[]:=zbb (by omega);subst l;simp only[zbo]at j;refine⟨M',L,λ_ _=>rfl,⟨_,rfl,s.a,s.cap,?_,⟨by simp,by simp⟩,.inl rfl⟩⟩;show aK s=_;unfold aK;rw[h0];rfl;simp only[zbo]at j;obtain⟨w,_,z⟩:=j;have y:Blk g b f:=⟨_,r⟩;refine⟨MxL M' g [b],⟨L.keep,L.le.trans (Jx L.ag _),λx l=>?_,MxL.ag L.ag _⟩,λc z=>?_,⟨_,rfl,s.a,s.cap,?_,⟨by omega,by omega⟩,.inr ⟨b,0,f,w,MxL.at (by simp) y,λi hi=>?_⟩⟩⟩;unfold MxL;rw[zv (by simp;omega)];exact L.old x l;unfold MxL;grind;show aK s=_;unfold aK;rw[n];show cut f (0+i*1) 1=[.string ks[i]];apply zbd;intro q;rw[zk];by_cases u:q<1;have:q=0:=by omega
 subst this;rw[zA u];have e:(f.toList.take (s.len*1))[i]?=(ks.map zaz)[i]?:=by rw[t]
 grind;simp_all
structure SrS (h:zc) (M:Fr) (r o lo:Nat) (k:Int) (s:Bt) (sk:Sl) (xs:List Tr) (g:zc) (M':Fr) (so:Sl) (bs:List Nat):Prop where
 L:Later h M g M'
 res:Blk g r #[.int .i64 0,.string ⟨#[]⟩,.slice Te 0 0,.slice Te 0 0]
 out:Blk g o #[.int .i64 k,.string s,aK sk,aK so]
 row:ORow lo g M' .tree xs so bs
 nO:M' o=Te
 nR:M' r=Te
 hr:h.size<=r
 ro:r<o
 ol:o<lo
 lg:lo<=g.size
section
variable {h : zc} {M : Fr} {r o lo : Nat} {k : Int} {s : Bt} {sk : Sl} {xs : List Tr} {g : zc} {M' : Fr} {so : Sl} {bs : List Nat}
theorem SrS.add(S:SrS h M r o lo k s sk xs g M' so bs)(hn:xs.length<=1000000){g1:zc}{w:Fr}(m:Later g M' g1 w){x:Tr}{F B:Sl}(Q:RdV w .tree x (.agg #[.int .i64 x.kind,.string x.text,aK F,aK B])){K:zc->Prop}
  (hK:∀g' so' bs',SrS h M r o lo k s sk (xs++[x]) g' w so' bs'->(∀j,j<lo->j≠o->g'[j]?=g[j]?)->K g'):
  let f:=g1.push (.cells #[.int .i64 x.kind,.string x.text,aK F,aK B] 25)
  qu Tp (zao #[23,23] 23 #[aK so,.slice (Td ⟨g1.size,0,Te⟩) 1 1]) f (λv n=>∃z:Sl,v=aK z/\XRunU Tp (zag 23 (.pointer (Td (zab ⟨o,0,Te⟩ 3))) (aK z)) n K):=by
 intro f;have D:Keep g1.size g1 f:=Keep.push _ _ (zac _);have ac:f.size=g1.size+1:=zaf _;have T:Blk f g1.size [.int .i64 x.kind,.string x.text,aK F,aK B].toArray:=Blk.new _ _ _;clear_value f;have z1:=m.keep.size;have P:=S.hr;have O:=S.ro;have A:=S.ol;have ae:=S.lg;have q:Later g M' f w:=m.trans (Later.same m.ag D);have u:=S.row.call q;have rd:Rd w .tree x [.int .i64 x.kind,.string x.text,aK F,aK B]:=by
  unfold RdV at Q;simp only[hY,if_true]at Q;obtain⟨cs,e,P⟩:=Q;injection e with e;have:cs=[.int .i64 x.kind,.string x.text,aK F,aK B]:=by have:=congrArg zdu e;simpa using this.symm
  rw[<-this];exact P
 refine ORow.app elemTree (by omega) q.ag u (by omega) T rd hn λU n bs' l aa ab E=>⟨U,rfl,?_⟩;have I:∀c∈bs,lo<=c/\c<g.size/\M' c=Te:=S.row.own;have t:∀j,j<lo->n[j]?=g[j]?:=λj G=>by rw[E j (by omega) (λV=>by grind),D.get j (by omega)];exact m.keep.get j (by omega)
 rw[zf];refine xu LN Rf (S.out.keep (t o A)) (by simp) rfl λy u1 u3 u2=>?_;have i:∀j,j<lo->j≠o->y[j]?=g[j]?:=λj G h0=>(u2 j h0).trans (t j G);have C:∀c∈bs',lo<=c/\c<n.size/\w c=Te:=l.own;have hg:=S.L.keep.size;refine hK y U bs' ⟨⟨⟨by omega,λj G=>?_⟩,S.L.le.trans m.le,λb Z=>?_,?_⟩,?_,u1,?_,?_,?_,P,O,A,by omega⟩ i;rw[i j (by omega) (by omega)];exact S.L.keep.get j G;rw[m.old b (by omega)];exact S.L.old b Z;intro c cs e;have H:=q.ag.lt e;have N:c∉bs:=λV=>by obtain⟨_,h1,Y⟩:=I c V;rw[m.old c h1,Y]at e;cases e
 have J:c≠o:=λh=>by subst h;rw[m.old c (by omega),S.nO]at e;cases e
 rw[u2 c J,E c H N];exact q.ag c cs e;exact S.res.keep (i r (by omega) (by omega));exact l.frame (λc H=>u2 c (by grind)) (Fr.le.refl _) λc H=>(C c H).2.2;rw[m.old o (by omega)];exact S.nO;rw[m.old r (by omega)];exact S.nR
theorem SrS.fin(S:SrS h M r o lo k s sk xs g M' so bs)(P:xs.length<=1000000)(J:Rd M' (.row .str) ks [aK sk]){w:Tr}(O:Tr.mk k s ks xs=w):
  ∃(E:Int) (B:Bt) (x u:Sl),ze g ⟨o,0,Te⟩ 0 [.int .i64 E,.string B,aK x,aK u]/\XRunU Tp (zag 25 (.pointer (Td ⟨r,0,Te⟩)) (.agg #[.int .i64 E,.string B,aK x,aK u])) g λi=>
   ∃(y:Int) (F:Bt) (z C:Sl),ze i ⟨r,0,Te⟩ 0 [.int .i64 y,.string F,aK z,aK C]/\∃A q,Later h M i A/\J4 A [.tree] q (.agg #[.int .i64 y,.string F,aK z,aK C])/\q=w:=by
 refine⟨k,s,sk,so,S.out.ld (cs:=[_,_,aK sk,aK so]),?_⟩;refine mY S.res λg2 t U T=>⟨k,s,sk,so,T.ld (cs:=[_,_,aK sk,aK so]),?_⟩;have V:=S.hr;have I:=S.ro;have G:=S.ol;have N:=S.lg;have n:∀c∈bs,lo<=c/\c<g.size/\M' c=Te:=S.row.own;have f:AgM M' g2:=λc cs e=>by rw[t c (λh=>by grind [nR])];exact S.L.ag c cs e
 have l:ORow lo g2 M' .tree xs so bs:=S.row.frame (λc m=>t c (by grind)) (Fr.le.refl _) λc m=>(n c m).2.2;have D:Later h M g2 M':=⟨⟨by omega,λj Q=>by rw[t j (by omega)];exact S.L.keep.get j Q⟩,S.L.le,S.L.old,f⟩;refine⟨MxL M' g2 bs,_,⟨D.keep,D.le.trans (Jx f bs),λb H=>?_,MxL.ag f bs⟩,Y1.2 (qe (v:=.mk k s ks xs) (J.mono (Jx f bs)) (l.rd f (λc m=>m) P)),O⟩;unfold MxL;rw[zv (λY=>by grind)];exact S.L.old b H
end
set_option maxRecDepth 100000 in
set_option maxHeartbeats 2000000 in
theorem Is:∀(n:Nat) (v:Tr),n<=1000000->aR v<=n->yr zi v=Ta->Sm v->∀(h:zc) (M:Fr) (u:Value),AgM M h->RdV M .tree v u->PX Tp 101 #[u] h M [.tree] (λq=>q=zw v)
 |0,v,_,hz,_,_=>by have:=Qk v;omega
 |n+1,v,hn,hz,hok,hsm=>by
  intro h M u ag hu;have aN:=hu;obtain⟨sk,si,rfl,rk,ri⟩:=qp hu;have l:=hok;rw[Z0,zam]at l;have a8:v.items.length<=1000000:=by have:=wy v.items;rw[ql]at hz;omega
  have ih:∀(i:Nat) (hi:i<v.items.length) (h:zc) (M:Fr) (u:Value),AgM M h->RdV M .tree v.items[i] u->PX Tp 101 #[u] h M [.tree] (λq=>q=zw v.items[i]):=λi hi=>by
   have hm:=zak hi;have hs:=qo hm;have aj:yr zi v.items[i]=Ta:=by rw[wl,za7]at l;exact l.2 _ hm
   exact Is n v.items[i] (by omega) (by omega) aj (hsm.item hm)
  obtain⟨li,_,_⟩:=rowLen ri;apply PX.of;apply MZ v.kind v.text sk si;intro h1;have k1:Keep h.size h h1:=Keep.push _ _ (zac _);have z1:h1.size=h.size+1:=zaf _;have B1:Blk h1 h.size #[.int .i64 v.kind,.string v.text,aK sk,aK si]:=Blk.new _ _ _;clear_value h1;intro f;have k2:Keep h1.size h1 f:=Keep.push _ _ (zac _);have z2:f.size=h1.size+1:=zaf _;have R2:Blk f h1.size #[.int .i64 0,.string ⟨#[]⟩,.slice Te 0 0,.slice Te 0 0]:=Blk.new _ _ _;clear_value f;have B2:=B1.ofKeep k2;refine⟨v.kind,B2.cellAdd (o:=0) (k:=0) rfl,v.text,B2.cellAdd (o:=0) (k:=1) rfl,?_⟩;intro h5;have k5:Keep f.size f h5:=Keep.push _ _ (zac _);have z5:h5.size=f.size+1:=zaf _;have O5:Blk h5 f.size #[.int .i64 0,.string ⟨#[]⟩,.slice Te 0 0,.slice Te 0 0]:=Blk.new _ _ _;clear_value h5;refine mY (sk:=⟨Te,0,0⟩) (si:=⟨Te,0,0⟩) O5 λh6 f6 z6 O6=>?_;have k6:Keep f.size f h6:=⟨by omega,λj G=>by rw[f6 j (by omega)];exact k5.get j G⟩;have N:Keep h.size h h6:=(k1.trans k2 (by omega)).trans k6 (by omega);have B6:=B2.ofKeep k6;have R6:=R2.ofKeep k6;have aA:=ag.keep N;refine⟨v.kind,B6.cellAdd (o:=0) (k:=0) rfl,λhx=>?_,λhx=>?_⟩;have h6:v.kind≠6:=by simpa using hx
  have hS:zw v=.mk v.kind v.text [] (v.items.map zw):=by rw[Ad,zv h6]
  refine⟨si,B6.cellAdd (o:=0) (k:=3) rfl,λi g=>∃(m:Nat) (M':Fr) (so:Sl) (bs:List Nat),i=(m:Int)/\m<=v.items.length/\SrS h M h1.size f.size (f.size+1) v.kind v.text ⟨Te,0,0⟩ ((v.items.take m).map zw) g M' so bs,λi _=>v.items.length-i.toNat,⟨0,M,⟨Te,0,0⟩,[],rfl,za0 _,⟨Later.same ag N,R6,O6,ORow.nil,ag.none (by omega),ag.none (by omega),by omega,by omega,by omega,by omega⟩⟩,?_⟩;rintro i g ⟨m,M',so,bs,rfl,hm,S⟩;have t:=S.L.ag;refine⟨λP=>?_,λP=>?_⟩;have b:m<v.items.length:=by have:=zH P;omega
  obtain⟨a,ck,ci,ea,aL,t1,t2⟩:=Jt t (ri.mono S.L.le) b;refine⟨a,⟨ea,by omega,by omega⟩,v.items[m].kind,v.items[m].text,ck,ci,by rw[zae];exact aL,?_⟩;intro D;have aF:Keep g.size g D:=Keep.push _ _ (zac _);have aY:D.size=g.size+1:=zaf _;have aC:Blk D g.size #[.int .i64 0,.string ⟨#[]⟩,.slice Te 0 0,.slice Te 0 0]:=Blk.new _ _ _;clear_value D;refine mY aC λZ aD aU aI=>?_;have ar:Keep g.size g Z:=⟨by omega,λj G=>by rw[aD j (by omega)];exact aF.get j G⟩;have a6:=S.out.lt;refine⟨so,(S.out.ofKeep ar).cellAdd (o:=0) (k:=3) rfl,v.items[m].kind,v.items[m].text,ck,ci,aI.ld (cs:=[_,_,aK ck,aK ci]),?_⟩;have an:Later g M' Z M':=Later.same t ar;refine(ih m b _ _ _ an.ag (qe t1 t2)).go λw aO O q H y hq=>?_;subst hq;obtain⟨xk,xi,rfl,y1,y2⟩:=qp (Y1.1 y);have aV:=H.keep.size;have ho:aO[f.size]?=Z[f.size]?:=H.keep.get _ (by omega);refine⟨_,_,xk,xi,rfl,by rw[zf];exact ho,?_⟩;intro ba;refine⟨by rw[zf];grind,S.add (by grind) (an.trans H) (qe y1 y2) λg' so' bs' S' _=>⟨⟨m+1,O,so',bs',by rw[je b (by omega)],b,?_⟩,?_⟩⟩;rw[zal b,zbc];exact S';grind [je];have b:m=v.items.length:=by have:=zI P;omega
  subst b;rw[zba]at S;exact S.fin (by simp_all) lA hS.symm;have V:v.kind=6:=by simpa using hx
  have hS:zw v=.mk v.kind v.text (zl v.keys) ((zl v.keys).map λq=>jW (v.keys.zip (v.items.map zw)) q):=by rw[Ad,zA V]
  have r:=l.1;have aH:v.keys.Nodup:=by unfold zi yq at r;simp[V]at r;exact r.1.1.2
  have aE:v.keys.length=v.items.length:=by unfold zi at r;simp[V]at r;exact r.1.2
  refine⟨v.kind,v.text,sk,si,B6.ld (cs:=[_,_,aK sk,aK si]),?_⟩;refine vY aH aE (by omega) aA aN λE m us ah aT br aS al=>⟨Td m,rfl,?_⟩;have bn:=ah.size;apply yp;intro B;have ab:Keep E.size E B:=Keep.push _ _ (zac _);have a7:B.size=E.size+1:=zaf _;have ay:Blk B E.size #[.map (Td m)]:=Blk.new _ _ _;clear_value B;have T:MapW B m (Y5 (v.keys.zip us)):=al.keep (ab.get m al.lt);have aB:(v.keys.zip us).map (·.1)=v.keys:=List.map_fst_zip (by omega);refine⟨_,rfl,Vx ay T (by grind) (by simp;omega) λI sl J am=>⟨sl,rfl,?_⟩⟩;rw[aB]at am;have bi:=J.size;have bj:(zl v.keys).length=v.keys.length:=M1 _;have A:Keep h6.size h6 I:=(ah.trans ab (by omega)).trans J (by omega);have af:Keep h.size h I:=N.trans A (by omega);obtain⟨O,H,F,U⟩:=Owns.frz (Later.same ag af) am (by omega) (by omega);have aQ:Blk I f.size #[.int .i64 v.kind,.string v.text,aK ⟨Te,0,0⟩,aK ⟨Te,0,0⟩]:=O6.keep (A.get _ (by omega));have au:O f.size=Te:=by rw[F _ (by omega)];exact ag.none (by omega)
  have aP:O h1.size=Te:=by rw[F _ (by omega)];exact ag.none (by omega)
  rw[zf];refine xu FI HF aQ (by simp) rfl λz ac bg C=>?_;have ax:Later h M z O:=⟨⟨by omega,λj G=>by rw[C j (by omega)];exact H.keep.get j G⟩,H.le,H.old,λc cs e=>by rw[C c (λh=>by simp_all)];exact H.ag c cs e⟩;have ae:MapW z m (Y5 (v.keys.zip us)):=T.keep ((C m (by omega)).trans (J.get m T.lt));have ai:=ae.lt;refine⟨sl,Blk.cell (o:=2) ac rfl,λi g=>∃(p:Nat) (M':Fr) (so:Sl) (bs:List Nat),i=(p:Int)/\p<=(zl v.keys).length/\SrS h M h1.size f.size z.size v.kind v.text sl (((zl v.keys).take p).map λq=>jW (v.keys.zip (v.items.map zw)) q) g M' so bs/\Fr.le O M'/\(∀j,j<z.size->j≠f.size->g[j]?=z[j]?),λi _=>(zl v.keys).length-i.toNat,⟨0,O,⟨Te,0,0⟩,[],rfl,za0 _,⟨ax,R6.keep ((C _ (by omega)).trans (A.get _ (by omega))),ac,ORow.nil,au,aP,by omega,by omega,by omega,zac _⟩,Fr.le.refl _,λ_ _ _=>rfl⟩,?_⟩;obtain⟨be,_,_⟩:=rowLen U;rintro i g ⟨p,M',so,bs,rfl,hp,S,Y,fg⟩;have t:=S.L.ag;refine⟨λP=>?_,λP=>?_⟩;have b:p<(zl v.keys).length:=by have:=zH P;omega
  obtain⟨a,aG,x,aJ,az⟩:=jP t (U.mono Y) b (i:=(p:Int)) rfl (L:=sl.len) rfl (Q:=λx=>x=(zl v.keys)[p]) rfl;subst az;refine⟨a,aG,(zl v.keys)[p],aJ,so,S.out.cellAdd (o:=0) (k:=3) rfl,?_⟩;have aM:(zl v.keys)[p]∈v.keys:=(qn v.keys).mem_iff.1 (zak b);obtain⟨j,j1,j2,e1,e2,e3⟩:=wM (zl v.keys)[p] v.keys (v.items.map zw) (by simp_all) aM;rw[zap]at j2;have ak:j<us.length:=by omega
  obtain⟨ck,ci,eu,t1,t2⟩:=qp (aS j j2 ak);have wg:MapW g m (Y5 (v.keys.zip us)):=ae.keep (fg m ai (by omega));refine⟨v.items[j].kind,v.items[j].text,ck,ci,?_,rfl,?_⟩;have:=Ye mapVal wg.at (zl v.keys)[p] Tc;have eg:jE (v.keys.zip us) (zl v.keys)[p] (.agg #[.int .i64 0,.string ⟨#[]⟩,.slice Te 0 0,.slice Te 0 0])=us[j]:=by unfold jE;rw[e3 us (by omega),zai ak];rfl
  rw[zv (by simp),eg,eu]at this;exact this;refine(ih j j2 _ _ _ t (qe (t1.mono S.L.le) (t2.mono S.L.le))).go λw aa M3 q L3 y hq=>?_;subst hq;obtain⟨xk,xi,rfl,y1,y2⟩:=qp (Y1.1 y);have bq:=L3.keep.size;have aZ:=S.lg;have ho:aa[f.size]?=g[f.size]?:=L3.keep.get _ (by omega);refine⟨_,_,xk,xi,rfl,by rw[zf];exact ho,?_⟩;intro bm;refine⟨by rw[zf];exact((Keep.push aa _ (zac _)).get f.size (by omega)).trans ho,S.add (by grind) L3 (qe y1 y2) λg' so' bs' S' f'=>⟨⟨p+1,M3,so',bs',by rw[je b (by omega)],b,?_,Y.trans L3.le,λj G h0=>(f' j G h0).trans (fg j G h0)⟩,?_⟩⟩;rw[zal b,zbc,za1,List.map_nil,e2,zb3];exact S';show(zl v.keys).length-(w6 ((p:Int)+1)).toNat<(zl v.keys).length-(p:Int).toNat;rw[je b (by omega)];omega;have b:p=(zl v.keys).length:=by have:=zI P;omega
  subst b;rw[zba]at S;exact S.fin (by simp_all) (U.mono Y) hS.symm
end
section
open Go.Lib
variable {xs ys:List Tr} {α:Type} {v:Tr}
theorem RA(h:xs.Perm ys):wa xs=wa ys:=by
 induction h with
 |nil=>rfl
 |cons x _ c=>rw[wa,wa,c]
 |swap x y l=>simp only[wa];omega
 |trans _ _ a b=>rw[a,b]
theorem PV(h:xs.Perm ys):Xj xs=Xj ys:=by
 induction h with
 |nil=>rfl
 |cons x _ c=>rw[Xj,Xj,c]
 |swap x y l=>simp only[Xj];omega
 |trans _ _ a b=>rw[a,b]
theorem Oe{xs ys:List Nat}(h:xs.Perm ys):xs.sum=ys.sum:=by
 induction h with
 |nil=>rfl
 |cons x _ c=>rw[List.sum_cons,List.sum_cons,c]
 |swap x y l=>simp only[List.sum_cons];omega
 |trans _ _ a b=>rw[a,b]
theorem Ae{p:α->Bool}{xs ys:List α}(h:xs.Perm ys):xs.all p=ys.all p:=by rw[zbe,za7,za7];exact⟨λa x b=>a x (h.mem_iff.2 b),λa x b=>a x (h.mem_iff.1 b)⟩
theorem zX:∀(ks:List Bt) (ys:List Tr),ks.Nodup->ks.length=ys.length->(ks.map λq=>(q,jW (ks.zip ys) q))=ks.zip ys
 |[],ys,_,_=>by simp
 |k::ks,[],_,h=>by simp at h
 |k::ks,y::ys,hn,h=>by rw[zbq]at hn;rw[za1,zdc];congr 1;rw[jW,zA rfl];rw[<-zX ks ys hn.2 (by simpa using h)];refine zbx λq b=>?_;have:k≠q:=λe=>hn.1 (e ▸ b);rw[jW,zv this];congr 2;exact zX ks ys hn.2 (by simpa using h)
structure SrtF (v w:Tr):Prop where
 k:w.kind=v.kind
 t:w.text=v.text
 kp:w.keys.Perm v.keys
 ip:w.items.Perm (v.items.map zw)
 zp:(w.keys.zip w.items).Perm (v.keys.zip (v.items.map zw))
theorem R0(b:zi v=Ta)(j:v.kind≠6):v.keys=[]:=by unfold zi at b;simp only[j,if_false]at b;by_cases h1:v.kind=1;simp[h1]at b;exact b.1.2;by_cases c:v.kind=2;simp[c]at b;exact b.1.2;by_cases i:v.kind=3;simp[i]at b;exact b.1.2;by_cases e:v.kind=4;simp[e]at b;exact b.1.2;by_cases h:v.kind=5;simp[h]at b;exact b.2;by_cases f:v.kind=7;simp[f]at b;exact b.1.2;simp[h1,c,i,e,h,f]at b
theorem KD(b:zi v=Ta)(c:v.kind=6):v.keys.Nodup/\v.keys.length=v.items.length:=by unfold zi yq at b;simp[c]at b;exact⟨b.1.1.2,b.1.2⟩
theorem Rp(h:zi v=Ta):SrtF v (zw v):=by
 rw[Ad];by_cases b:v.kind=6;rw[zA b];obtain⟨k,j⟩:=KD h b;have hz:=zX v.keys (v.items.map zw) k (by rw[zap];exact j);have c:=(qn v.keys).map λq=>(q,jW (v.keys.zip (v.items.map zw)) q);rw[hz]at c;have e:∀l:List Bt,l.zip (l.map λq=>jW (v.keys.zip (v.items.map zw)) q)=l.map λq=>(q,jW (v.keys.zip (v.items.map zw)) q):=by
  intro l;induction l with
  |nil=>rfl
  |cons x l i=>rw[za1,zdc,i,za1]
 refine⟨rfl,rfl,qn _,?_,?_⟩;have:=c.map (·.2);rw[zav,List.map_snd_zip (by rw[zap];omega)]at this;exact this;show((zl v.keys).zip _).Perm _;rw[e];exact c;rw[zv b];have f:=R0 h b;exact⟨rfl,rfl,by rw[f],.refl _,by rw[f]⟩
theorem Xa{a:List α}:a.isEmpty=decide (a.length=0):=by cases a <;> simp
theorem Py{a b:List Bt}(h:a.Perm b):yq a=yq b:=by unfold yq;rw[Ae h];congr 1;rw[zbe,zG,zG];exact h.nodup_iff
theorem YD{v w:Tr}(h1:w.kind=v.kind)(b:w.text=v.text)(e:w.keys.length=v.keys.length)(f:w.items.length=v.items.length)(c:yq w.keys=yq v.keys):zi w=zi v:=by unfold zi;rw[h1,b,c,Xa,Xa,Xa,Xa,e,f]
theorem H7(ln:Bool)(nd lv:Nat)(ps:List Bs):(Qx ln nd lv ps).length+(if ps=[]then 0 else 1)=(ps.map λp=>p.length+(1+(Z1 ln nd lv).length)).sum:=by
 cases ps with
 |nil=>rfl
 |cons p ps=>
  have:∀b:List Bs,(b.flatMap λq=>44::(Z1 ln nd lv++q)).length=(b.map λp=>p.length+(1+(Z1 ln nd lv).length)).sum:=by
   intro b;induction b with
   |nil=>rfl
   |cons q b c=>rw[zcd,zah,c,za1,List.sum_cons];simp;omega
  rw[Qx,zah,zah,this,za1,List.sum_cons,zv (by simp)];omega
theorem HJ{ln:Bool}{nd lv:Nat}{ps b:List Bs}(h:(ps.map zcf).Perm (b.map zcf)):(jV ln nd lv ps).length=(jV ln nd lv b).length:=by
 have e:(ps=[])↔(b=[]):=by have:=h.length_eq;rw[zap,zap]at this;rw[<-zds,<-zds,this]
 have h1:=H7 ln nd (lv+1) ps;have i:=H7 ln nd (lv+1) b;have f:=Oe (h.map λn=>n+(1+(Z1 ln nd (lv+1)).length));rw[zav,zav]at f;have f:(ps.map λp=>p.length+(1+(Z1 ln nd (lv+1)).length)).sum=(b.map λp=>p.length+(1+(Z1 ln nd (lv+1)).length)).sum:=f;unfold jV;rw[zah,zah];by_cases c:ps=[];rw[zA c]at h1 ⊢;rw[zA (e.1 c)]at i ⊢;omega;rw[zv c]at h1 ⊢;rw[zv (λq=>c (e.2 q))]at i ⊢;omega
theorem Eu{α β γ:Type}(f:α->β->γ):∀(a:List α) (b:List β),List.zipWith f a b=(a.zip b).map λp=>f p.1 p.2
 |[],_=>by simp
 |_::_,[]=>by simp
 |x::a,y::b=>by rw[List.zipWith_cons_cons,zdc,za1,Eu f a b]
structure SrtG (v:Tr):Prop where
 sz:aR (zw v)=aR v
 dp:cR (zw v)=cR v
 okv:yr iN (zw v)=yr iN v
 nok:yr zi (zw v)=Ta
 tx:∀m,hH m v->hH m (zw v)
 len:∀(ln:Bool) (N lv:Nat),(J5 ln N (zw v) lv).length=(J5 ln N v lv).length
theorem Dr{f:Tr->Tr}:∀{l:List Tr},(∀x∈l,aR (f x)=aR x)->wa (l.map f)=wa l
 |[],_=>rfl
 |x::l,h=>by rw[za1,wa,wa,h x za2,Dr λy b=>h y (za3 _ b)]
theorem Db{f:Tr->Tr}:∀{l:List Tr},(∀x∈l,cR (f x)=cR x)->Xj (l.map f)=Xj l
 |[],_=>rfl
 |x::l,h=>by rw[za1,Xj,Xj,h x za2,Db λy b=>h y (za3 _ b)]
theorem zV:∀(n:Nat) (v:Tr),aR v<=n->yr zi v=Ta->SrtG v
 |0,v,h,_=>by have:=Qk v;omega
 |n+1,v,hz,hok=>by
  rw[Z0,zam,wl,za7]at hok;obtain⟨j,e⟩:=hok;have S:=Rp j;have c:∀x∈v.items,SrtG x:=λx b=>zV n x (by have:=qo b;omega) (e x b);have i:zi (zw v)=zi v:=YD S.k S.t S.kp.length_eq (by rw[S.ip.length_eq,zap]) (Py S.kp);refine⟨?_,?_,?_,?_,λm h=>?_,λln N lv=>?_⟩;rw[ql,ql v,RA S.ip,Dr λx b=>(c x b).sz];rw[j8,j8 v,PV S.ip,Db λx b=>(c x b).dp];rw[Z0,Z0 _ v,wl,wl,Ae S.ip,List.all_map];have r:iN (zw v)=iN v:=by unfold iN;rw[i,S.k]
  rw[r];congr 1;rw[zbe,za7,za7];exact⟨λa x b=>by rw[<-(c x b).okv];exact a x b,λa x b=>by show yr iN (zw x)=Ta;rw[(c x b).okv];exact a x b⟩;rw[Z0,i,j,zct,wl,Ae S.ip,List.all_map,za7];exact λx b=>(c x b).nok;rw[Qr]at h ⊢;obtain⟨⟨h1,o,q⟩,u⟩:=h;refine⟨⟨by rw[S.t];exact h1,by rw[S.kp.length_eq];exact o,λk e=>q k (S.kp.mem_iff.1 e)⟩,Y2.2 λx b=>?_⟩;obtain⟨y,f,rfl⟩:=zay.1 (S.ip.mem_iff.1 b);exact(c y f).tx m (Y2.1 u y f);rw[oz,oz (v:=v),S.k,S.t];split;rfl;split;rfl;split;simp only[zah,zaw];congr 2;refine HJ ?_;rw[zav,zav];have h1:=S.ip.map λx=>(J5 ln N x (lv+1)).length;rw[zav]at h1;refine h1.trans ?_;have:v.items.map ((λx=>(J5 ln N x (lv+1)).length) ∘ zw)=v.items.map (zcf ∘ λx=>J5 ln N x (lv+1)):=zbx λx b=>(c x b).len ln N (lv+1);rw[this];split;simp only[zah,zaw];congr 2;refine HJ ?_;have conv:∀(ks:List Bt) (xs:List Tr),(List.zipWith (jH ln) ks (xs.map λx=>J5 ln N x (lv+1))).map zcf=(ks.zip xs).map λp=>(jH ln p.1 (J5 ln N p.2 (lv+1))).length:=by intro ks xs;rw[Eu,List.zip_map_right,zav,zav];rfl
  rw[conv,conv];have h1:=S.zp.map λp=>(jH ln p.1 (J5 ln N p.2 (lv+1))).length;refine h1.trans ?_;rw[List.zip_map_right,zav];have:(v.keys.zip v.items).map ((λp=>(jH ln p.1 (J5 ln N p.2 (lv+1))).length) ∘ Prod.map id zw)=(v.keys.zip v.items).map λp=>(jH ln p.1 (J5 ln N p.2 (lv+1))).length:=zbx λp l=>by have:=(c p.2 (List.of_mem_zip l).2).len ln N (lv+1);show(jH ln p.1 (J5 ln N (zw p.2) (lv+1))).length=_;unfold jH;simp only[zah,zaw,this]
  rw[this];rfl
theorem ZV(h:y8 v=Ta):zh (zw v)=zh v:=by unfold y8 at h;rw[zam]at h;have S:=zV (aR v) v (zac _) h.2;have e:∀w:Tr,zh w=(Zi w&&yr iN w):=λw=>rfl;rw[e,e,S.okv];unfold Zi;rw[S.sz,S.dp]
theorem GJ(h:zh v=Ta):y8 v=Ta:=by have e:zh v=(Zi v&&yr iN v):=rfl;rw[e,zam]at h;unfold y8;rw[h.1,zct];exact xH (λx b=>by unfold iN at b;rw[zam]at b;exact b.2) v h.2
theorem Nn(h:Sm v):Sm (Z2 v):=by unfold Z2;by_cases b:y8 v=Ta;rw[zA b];unfold y8 at b;rw[zam]at b;have S:=zV (aR v) v (zac _) b.2;exact⟨by rw[S.sz];exact h.sz,S.tx _ h.tx⟩;rw[zv b];exact⟨by decide,by rw[Qr];exact⟨⟨by decide,by decide,by decide⟩,trivial⟩⟩
theorem OF:zh (Z2 v)=zh v:=by
 unfold Z2;by_cases b:y8 v=Ta;rw[zA b];exact ZV b;rw[zv b];cases hr:zh v with
 |true=>exact absurd (GJ hr) b
 |false=>rfl
end
section
open Go.RowKit
set_option maxRecDepth 100000 in
section
theorem RO{gl:Fr}(U:GL gl){v:Tr}(P:Sm v){R:Tr->Prop}(o:R (Z2 v)):PC Tp gl 56 [Arg.mk .tree v] [.tree] R:=by
 intro h M vs S ag ha
 match vs,ha with
 |[u],⟨D,_⟩=>
  have D:RdV M .tree v u:=D;have A:=D;obtain⟨sk,si,rfl,rk,ri⟩:=qp D;apply PX.of;apply QV v.kind v.text sk si;intro h1;have Q:Keep h.size h h1:=Keep.push _ _ (zac _);have z1:h1.size=h.size+1:=zaf _;have B1:Blk h1 h.size #[.int .i64 v.kind,.string v.text,aK sk,aK si]:=Blk.new _ _ _;clear_value h1;intro n;have k2:Keep h1.size h1 n:=Keep.push _ _ (zac _);have z2:n.size=h1.size+1:=zaf _;have V:Blk n h1.size #[.int .i64 0,.string ⟨#[]⟩,.slice Te 0 0,.slice Te 0 0]:=Blk.new _ _ _;clear_value n;have J:=B1.ofKeep k2;have G:Keep h.size h n:=Q.trans k2 (by omega);have O:Later h M n M:=Later.same ag G;refine⟨v.kind,v.text,sk,si,J.ld (cs:=[_,_,aK sk,aK si]),?_⟩;refine(ue U P (R:=λr=>r=y8 v) rfl).go (vs:=[.agg #[.int .i64 v.kind,.string v.text,aK sk,aK si]]) S O.ag (zr A qj) λw h8 E r m t hr=>?_;subst hr;have z8:=m.keep.size;have N:=V.keep (m.keep.get h1.size (by omega));have B8:=J.keep (m.keep.get h.size (by omega));have I:E h1.size=Te:=by rw[m.old _ (by omega)];exact ag.none (by omega)
  have C:=O.trans m;have stay:∀{g g':zc} {M':Fr},Later h M g M'->M' h1.size=Te->(∀j,j≠h1.size->g'[j]?=g[j]?)->g'.size=g.size->Later h M g' M':=λ {g g' M'} L hn f z=>⟨⟨by have:=L.keep.size;omega,λj hj=>by rw[f j (by omega)];exact L.keep.get j hj⟩,L.le,L.old,λc cs e=>by rw[f c (λh=>by subst h;rw[hn]at e;cases e)];exact L.ag c cs e⟩;refine⟨_,Xh t,λb=>?_,λb=>?_⟩;have b:y8 v=Tc:=by simpa using b
  unfold Z2 at o;rw[zv (by rw[b];simp)]at o;refine mY (k:=0) (s:=⟨#[]⟩) (sk:=⟨Te,0,0⟩) (si:=⟨Te,0,0⟩) N λg f z B=>⟨_,_,_,_,B.ld (cs:=[.int .i64 0,.string ⟨#[]⟩,aK ⟨Te,0,0⟩,aK ⟨Te,0,0⟩]),?_⟩;exact⟨E,_,stay C I f z,Y1.2 (qe (v:=.mk 0 (bl []) [] []) lA lA),o⟩;have b:y8 v=Ta:=by simpa using b
  unfold Z2 at o;rw[zA b]at o;unfold y8 Zi at b;simp only[zam,zG]at b;refine⟨v.kind,v.text,sk,si,B8.ld (cs:=[_,_,aK sk,aK si]),?_⟩;refine(Is (aR v) v (by omega) (zac _) b.2 P h8 E _ m.ag (RdV.mono m.le A)).go λw Z x q i l Y=>?_;subst Y;obtain⟨H,F,rfl,T,y2⟩:=qp (Y1.1 l);have aa:=i.keep.size;refine⟨_,_,H,F,rfl,?_⟩;refine mY (N.keep (i.keep.get h1.size (by omega))) λg f z B=>⟨_,_,H,F,B.ld (cs:=[_,_,aK H,aK F]),?_⟩;have y:x h1.size=Te:=by rw[i.old _ (by omega)];exact I
  exact⟨x,_,stay (C.trans i) y f z,Y1.2 (qe T y2),o⟩
end
end
section
open Go.Lib
variable {l:List Tr} {m:Nat}
def nF(k:Bt):Bt:=bl (107::(iO (lb k)).1)
def m0(v:Tr):Bt:=if v.kind=5 then bl [91]else if v.kind=6 then bl [123]else bl (J5 Tc 0 v 0)
mutual
def iC:Tr->Nat->List (Bt×Int)
 |.mk k s ks xs,n=>(if k=6 then ia xs ks n else if k=5 then iF xs n else [])++[(m0 (.mk k s ks xs),(n:Int))]
def iF:List Tr->Nat->List (Bt×Int)
 |[],_=>[]
 |x::l,n=>iC x n++iF l (n+(iC x n).length)
def ia:List Tr->List Bt->Nat->List (Bt×Int)
 |[],_,_=>[]
 |x::l,ks,n=>iC x n++((nF ks.head!,(n:Int))::ia l ks.tail (n+(iC x n).length+1))
end
theorem WX(v:Tr)(n:Nat):iC v n=(if v.kind=6 then ia v.items v.keys n else if v.kind=5 then iF v.items n else [])++[(m0 v,(n:Int))]:=by cases v;rw[iC]
mutual
def nH:Tr->Nat
 |.mk k _ _ xs=>(if k=6 then ml 1 xs else if k=5 then ml 0 xs else 0)+1
def ml(d:Nat):List Tr->Nat
 |[]=>0
 |x::l=>nH x+d+ml d l
end
mutual
theorem rH:∀(v:Tr) (n:Nat),(iC v n).length=nH v
 |.mk k s ks xs,n=>by rw[iC,nH,zah,zcu];congr 1;split;exact CG xs ks n;split;exact G4 xs n;rfl
theorem G4:∀(l:List Tr) (n:Nat),(iF l n).length=ml 0 l
 |[],_=>by rw[iF,ml];rfl
 |x::l,n=>by rw[iF,ml,zah,rH x n,G4 l];omega
theorem CG:∀(l:List Tr) (ks:List Bt) (n:Nat),(ia l ks n).length=ml 1 l
 |[],_,_=>by rw[ia,ml];rfl
 |x::l,ks,n=>by rw[ia,ml,zah,zaw,rH x n,CG l];omega
end
theorem Ea:∀(l:List Tr) (m:List Tr) (n:Nat),iF (l++m) n=iF l n++iF m (n+(iF l n).length)
 |[],m,n=>by rw[iF];rfl
 |x::l,m,n=>by rw[zbz,iF,iF,Ea l m,za9,zah];congr 3;omega
theorem Oh(h:m<l.length)(n:Nat):iF (l.take (m+1)) n=iF (l.take m) n++iC l[m] (n+(iF (l.take m) n).length):=by rw[zal h,Ea,iF,iF,zbs]
theorem Iy:∀(l:List Tr) (m:List Tr) (ks:List Bt) (n:Nat),ia (l++m) ks n=ia l ks n++ia m (ks.drop l.length) (n+(ia l ks n).length)
 |[],m,ks,n=>by rw[ia];rfl
 |x::l,m,ks,n=>by rw[zbz,ia,ia,Iy l m,za9,zbz,zah,zaw,zaw,<-List.drop_tail];congr 4;omega
theorem z7m{ks:List Bt}(h:m<l.length)(b:m<ks.length)(n:Nat):
  ia (l.take (m+1)) ks n=ia (l.take m) ks n++(iC l[m] (n+(ia (l.take m) ks n).length)++[(nF ks[m],((n+(ia (l.take m) ks n).length:Nat):Int))]):=by
 rw[zal h,Iy,ia,ia,zbl,zda (by omega)];congr 4;rw[zbt b];rfl
def iE(X:List (Bt×Int)):List (Bt×Int):=X.take 513
theorem uk(X:List (Bt×Int)):(iE X).length<=513:=by unfold iE;rw[zbl];omega
theorem pm{X:List (Bt×Int)}(h:X.length<=513):iE X=X:=zbu h
theorem uz(X:List (Bt×Int))(f:Nat->List (Bt×Int)):iE (iE X++f (iE X).length)=iE (X++f X.length):=by
 by_cases h:X.length<=513;rw[pm h];have b:(iE X).length=513:=by unfold iE;rw[zbl];omega
 unfold iE at b ⊢;rw[zdp (Nat.le_of_eq b.symm),zdp (by omega:513<=X.length),zet];rfl
theorem HM{X:List (Bt×Int)}(h:X.length<=513)(p:Bt×Int):(if X.length<=512 then X++[p]else X)=iE (X++[p]):=by
 split;rename_i b;rw[pm (by simp;omega)];rename_i b;have:X.length=513:=by omega
 unfold iE;rw[zdp (by omega),zbu h]
end
section
open Go.RowKit
section
variable {h h' h'':zc} {M M' M'':Fr} {bs bs' b1 b2:List Nat} {b lo bv:Nat} {K:Value -> zc -> Prop}
theorem Later.own{h g:zc}(L:Later h M g M')(e:∀c∈bs,h.size<=c):Later h M g (MxL M' g bs):=by
 refine⟨L.keep,L.le.trans (Jx L.ag bs),λc f=>?_,MxL.ag L.ag bs⟩;have i:c∉bs:=λb=>by have:=e c b;omega
 rw[<-L.old c f];unfold MxL;rw[zv i]
structure Grw (h:zc) (M:Fr) (b:Nat) (bs:List Nat) (h':zc) (M':Fr) (bs':List Nat):Prop where
 grow:h.size<=h'.size
 le:Fr.le M M'
 old:∀c,c<h.size->M' c=M c
 ag:AgM M' h'
 fr:∀j,j<h.size->j≠b->j∉bs->h'[j]?=h[j]?
 nw:∀c∈bs',c∈bs\/h.size<=c
theorem Grw.refl(ag:AgM M h):Grw h M b bs h M bs:=⟨zac _,Fr.le.refl _,λ_ _=>rfl,ag,λ_ _ _ _=>rfl,λ_ c=>.inl c⟩
theorem Grw.trans{bs bs' e:List Nat}(A:Grw h M b bs h' M' bs')(B:Grw h' M' b bs' h'' M'' e):Grw h M b bs h'' M'' e:=by have m:=A.grow;refine⟨zch A.grow B.grow,A.le.trans B.le,λc f=>(B.old c (by omega)).trans (A.old c f),B.ag,λj l h0 i=>(B.fr j (by omega) h0 λk=>?_).trans (A.fr j l h0 i),λc f=>?_⟩;rcases A.nw j k with h|h;exact i h;omega;rcases B.nw c f with h|h;exact A.nw c h;exact .inr (by omega)
theorem Grw.ofCall(L:Later h M h' M')(A:Grw h' M' b bs h'' M'' bs')(l:∀c∈bs,c<h.size):Grw h M b bs h'' M'' bs':=by have f:=L.keep.size;refine⟨zch f A.grow,L.le.trans A.le,λc e=>(A.old c (by omega)).trans (L.old c e),A.ag,λj k h0 i=>(A.fr j (by omega) h0 i).trans (L.keep.get j k),λc e=>?_⟩;rcases A.nw c e with h|h;exact .inl h;exact .inr (by omega)
structure TbS (lo:Nat) (h:zc) (M:Fr) (b:Nat) (S:List (Bt×Int)) (sl sf:Sl) (b1 b2:List Nat):Prop where
 box:Blk h b #[aK sl,aK sf]
 r1:ORow lo h M .str (S.map (·.1)) sl b1
 r2:ORow lo h M (.int .i64) (S.map (·.2)) sf b2
 dj:∀c∈b1,c∉b2
 n1:b∉b1
 n2:b∉b2
 nM:M b=Te
 lb:lo<=b
def Tb(lo:Nat)(h:zc)(M:Fr)(b:Nat)(S:List (Bt×Int))(bs:List Nat):Prop:=∃sl sf b1 b2,bs=b1++b2/\TbS lo h M b S sl sf b1 b2
theorem TbS.call{S:List (Bt×Int)}{sl sf:Sl}(B:TbS lo h M b S sl sf b1 b2)(L:Later h M h' M'):TbS lo h' M' b S sl sf b1 b2:= ⟨B.box.keep (L.keep.get b B.box.lt),B.r1.call L,B.r2.call L,B.dj,B.n1,B.n2,(L.old b B.box.lt).trans B.nM,B.lb⟩
theorem Tb.call{S:List (Bt×Int)}(B:Tb lo h M b S bs)(L:Later h M h' M'):Tb lo h' M' b S bs:=by obtain⟨sl,sf,b1,b2,e,B⟩:=B;exact⟨sl,sf,b1,b2,e,B.call L⟩
theorem Tb.lt{S:List (Bt×Int)}(B:Tb lo h M b S bs):∀c∈bs,c<h.size:=by obtain⟨sl,sf,b1,b2,rfl,B⟩:=B;intro c e;rcases zaj.1 e with h|h;exact(B.r1.own c h).2.1;exact(B.r2.own c h).2.1
theorem Tb.ltb{S:List (Bt×Int)}(B:Tb lo h M b S bs):b<h.size:=by obtain⟨sl,sf,b1,b2,rfl,B⟩:=B;exact B.box.lt
structure AdM (lo:Nat) (h:zc) (M:Fr) (b:Nat) (sl sf:Sl) (b0:List Nat) (g:zc) (X:List Bt) (s1:Sl) (c1:List Nat) (Y:List Int) (s2:Sl) (c2:List Nat):Prop where
 box:Blk g b #[aK sl,aK sf]
 r1:ORow lo g M .str X s1 c1
 r2:ORow lo g M (.int .i64) Y s2 c2
 dj:∀c∈c1,c∉c2
 n1:b∉c1
 n2:b∉c2
 gr:h.size<=g.size
 bh:b<h.size
 fr:∀j,j<h.size->j≠b->j∉b0->g[j]?=h[j]?
 w1:∀c∈c1,c∈b0\/h.size<=c
 w2:∀c∈c2,c∈b0\/h.size<=c
 ag:AgM M g
 nM:M b=Te
 lb:lo<=b
section
variable {lo : Nat} {h g : zc} {M : Fr} {b : Nat} {sl sf : Sl} {b0 : List Nat} {X : List Bt} {s1 : Sl} {c1 : List Nat} {Y : List Int} {s2 : Sl} {c2 : List Nat}
theorem AdM.start{S:List (Bt×Int)}(B:TbS lo h M b S sl sf b1 b2)(ag:AgM M h):AdM lo h M b sl sf (b1++b2) h (S.map (·.1)) sl b1 (S.map (·.2)) sf b2:= ⟨B.box,B.r1,B.r2,B.dj,B.n1,B.n2,zac _,B.box.lt,λ_ _ _ _=>rfl,λc e=>.inl (zau _ e),λc e=>.inl (zbf _ e),ag,B.nM,B.lb⟩
theorem AdM.push(D:AdM lo h M b sl sf b0 g X s1 c1 Y s2 c2)(o:Obj):AdM lo h M b sl sf b0 (g.push o) X s1 c1 Y s2 c2:=by have k:Keep g.size g (g.push o):=Keep.push _ _ (zac _);have l:=D.gr;have hz:(g.push o).size=g.size+1:=zaf _;refine⟨D.box.ofKeep k,D.r1.frame (λc e=>k.get c (D.r1.own c e).2.1) (Fr.le.refl _) λc e=>(D.r1.own c e).2.2,D.r2.frame (λc e=>k.get c (D.r2.own c e).2.1) (Fr.le.refl _) λc e=>(D.r2.own c e).2.2,D.dj,D.n1,D.n2,by omega,D.bh,λj i h0 f=>(k.get j (by omega)).trans (D.fr j i h0 f),D.w1,D.w2,D.ag.keep k,D.nM,D.lb⟩
theorem AdM.lab(D:AdM lo h M b sl sf b0 g X s1 c1 Y s2 c2)(q:lo<=h.size)(m:X.length<=1000000){x:Bt}(t:Blk g bv #[.string x]) (u:∀(l:Sl) (g':zc) (n:List Nat),AdM lo h M b sl sf b0 g' (X++[x]) l n Y s2 c2->g.size<=g'.size->(∀j,j<g.size->j∉c1->g'[j]?=g[j]?)->K (aK l) g'):
  qu Tp (zao #[22,22] 22 #[aK s1,.slice (Td ⟨bv,0,Te⟩) 1 1]) g K:=by
 have y:=D.gr;refine ORow.app Nb (by omega) D.ag D.r1 (by omega) (vs:=[.string x]) t rfl m λl g' n r z w f=>u l g' n ⟨D.box.keep (f b D.box.lt D.n1),r,D.r2.frame (λc k=>f c (D.r2.own c k).2.1 λi=>D.dj c i k) (Fr.le.refl _) λc k=>(D.r2.own c k).2.2,λc k i=>?_,λi=>?_,D.n2,by omega,D.bh,λj o h0 m=>(f j (by omega) λi=>?_).trans (D.fr j o h0 m),λc k=>?_,D.w2,λc cs e=>?_,D.nM,D.lb⟩ z f;rcases w c k with h|h;exact D.dj c h i;have:=(D.r2.own c i).2.1;omega;rcases w b i with h|h;exact D.n1 h;have:=D.bh;omega;rcases D.w1 j i with h|h;exact m h;omega;rcases w c k with h|h;exact D.w1 c h;exact .inr (by omega);have k:=D.ag.lt e;rw[f c k λi=>by have:=(D.r1.own c i).2.2;rw[this]at e;cases e];exact D.ag c cs e
theorem AdM.lef(D:AdM lo h M b sl sf b0 g X s1 c1 Y s2 c2)(q:lo<=h.size)(m:Y.length<=1000000){x:Int}(t:Blk g bv #[.int .i64 x]) (u:∀(l:Sl) (g':zc) (n:List Nat),AdM lo h M b sl sf b0 g' X s1 c1 (Y++[x]) l n->g.size<=g'.size->(∀j,j<g.size->j∉c2->g'[j]?=g[j]?)->K (aK l) g'):
  qu Tp (zao #[29,29] 29 #[aK s2,.slice (Td ⟨bv,0,Te⟩) 1 1]) g K:=by
 have y:=D.gr;refine ORow.app oq (by omega) D.ag D.r2 (by omega) (vs:=[.int .i64 x]) t rfl m λl g' n r z w f=>u l g' n ⟨D.box.keep (f b D.box.lt D.n2),D.r1.frame (λc i=>f c (D.r1.own c i).2.1 λk=>D.dj c i k) (Fr.le.refl _) λc i=>(D.r1.own c i).2.2,r,λc i k=>?_,D.n1,λk=>?_,by omega,D.bh,λj o h0 m=>(f j (by omega) λk=>?_).trans (D.fr j o h0 m),D.w1,λc i=>?_,λc cs e=>?_,D.nM,D.lb⟩ z f;rcases w c k with h|h;exact D.dj c i h;have:=(D.r1.own c i).2.1;omega;rcases w b k with h|h;exact D.n2 h;have:=D.bh;omega;rcases D.w2 j k with h|h;exact m h;omega;rcases w c i with h|h;exact D.w2 c h;exact .inr (by omega);have i:=D.ag.lt e;rw[f c i λk=>by have:=(D.r2.own c k).2.2;rw[this]at e;cases e];exact D.ag c cs e
theorem Nq:yb Tp 29=Ta:=by kernel_rfl
theorem Lp:j4 Tp 29=1:=by kernel_rfl
theorem AdM.fin(D:AdM lo h M b sl sf b0 g X s1 c1 Y s2 c2){S:List (Bt×Int)}(m:X=S.map (·.1))(u:Y=S.map (·.2)){K:zc->Prop}(r:∀g' bs',Grw h M b b0 g' M bs'->Tb lo g' M b S bs'->K g'):
  XRunU Tp (zag 22 (.pointer (Td (zab (zab ⟨b,0,Te⟩ 0) 0))) (aK s1)) g λg1=>XRunU Tp (zag 29 (.pointer (Td (zab (zab ⟨b,0,Te⟩ 0) 1))) (aK s2)) g1 K:=by
 subst m;subst u;have w:=D.gr;rw[add0,add0,zf];refine xu FI HF D.box (by show 0<2;omega) rfl λg1 l y q=>?_;refine xu Nq Lp l (by show 1<2;omega) rfl λg2 t x o=>?_;have f:∀j,j≠b->g2[j]?=g[j]?:=λj k=>(o j k).trans (q j k);refine r g2 (c1++c2) ⟨by omega,Fr.le.refl _,λ_ _=>rfl,λc cs e=>?_,λj k h0 n=>(f j h0).trans (D.fr j k h0 n),λc i=>?_⟩ ⟨s1,s2,c1,c2,rfl,t,D.r1.frame (λc i=>f c λe=>D.n1 (e ▸ i)) (Fr.le.refl _) λc i=>(D.r1.own c i).2.2,D.r2.frame (λc i=>f c λe=>D.n2 (e ▸ i)) (Fr.le.refl _) λc i=>(D.r2.own c i).2.2,D.dj,D.n1,D.n2,D.nM,D.lb⟩;rw[f c λh=>by subst h;rw[D.nM]at e;cases e];exact D.ag c cs e;rcases zaj.1 i with h|h;exact D.w1 c h;exact D.w2 c h
end
end
section
variable {v:Tr} {k:Bt}
set_option maxRecDepth 100000 in
theorem Fg{lo:Nat}{h:zc}{M:Fr}{b:Nat}{S w:List (Bt×Int)}{bs:List Nat}{lab:Bt}{F:FuncId}{A C:Array Value}(hF:zo Tp F=Ta)(H:Tb lo h M b S bs)(ar:lo<=h.size)(Y:w.length<=513) (hk:XC Tp F (A++#[]++C) h λv h1=>v=.tuple #[]/\∃m E,Grw h M b bs h1 m E/\Tb lo h1 m b w E) {K:Value->zc->Prop} (hK:∀h' M' bs',Grw h M b bs h' M' bs'->Tb lo h' M' b (iE (w++[(lab,(S.length:Int))])) bs'->K (.tuple #[]) h'):
  XC Tp 94 #[.pointer (Td ⟨b,0,Te⟩),.string lab,.func (.func F) A C] h K:=by
 obtain⟨sl,sf,b1,b2,rfl,B⟩:=H;have l0:=B.r1.len;rw[zap]at l0;apply RP (Td ⟨b,0,Te⟩) lab F A C;refine⟨⟨b,0,Te⟩,rfl,sl,by rw[add0];exact B.box.cellAdd (o:=0) (k:=0) rfl,hF,XC.mono hk ?_⟩;rintro v h4 ⟨rfl,m,E,T,f,i,d1,d2,rfl,q⟩;have l1:=q.r1.len;have l2:=q.r2.len;rw[zap]at l1 l2;have au:=T.grow;refine⟨rfl,⟨b,0,Te⟩,rfl,f,by rw[add0];exact q.box.cellAdd (o:=0) (k:=0) rfl,λI=>?_,λI=>?_⟩
 ·have I:w.length<=512:=by have:=zH I;omega
  have D:=AdM.start q T.ag;have aa:=q.box.lt;have fin:∀{g:zc} {s1:Sl} {c1:List Nat} {s2:Sl} {c2:List Nat},AdM lo h4 m b f i (d1++d2) g (w.map (·.1)++[lab]) s1 c1 (w.map (·.2)++[(sl.len:Int)]) s2 c2->∃x:Addr,Td (⟨b,0,Te⟩:Addr)=Td x /\
    XRunU Tp (zag 22 (.pointer (Td (zab (zab x 0) 0))) (aK s1)) g (λg1=>∃y:Addr,Td (⟨b,0,Te⟩:Addr)=Td y/\XRunU Tp (zag 29 (.pointer (Td (zab (zab y 0) 1))) (aK s2)) g1 (λg2=>K (.tuple #[]) g2)):=by
   intro g s1 c1 s2 c2 z;refine⟨_,rfl,?_⟩;have:=z.fin (S:=w++[(lab,(sl.len:Int))]) (by simp) (by simp) (K:=λg2=>K (.tuple #[]) g2) λg' bs' T' B'=>hK g' m bs' (T.trans T') (by rw[<-HM Y,zA I,<-l0];exact B');exact XRunU.mono this λg1 h1=>⟨_,rfl,h1⟩
  refine⟨⟨b,0,Te⟩,rfl,f,by rw[add0];exact q.box.cellAdd (o:=0) (k:=0) rfl,⟨b,0,Te⟩,rfl,i,by rw[add0];exact q.box.cellAdd (o:=0) (k:=1) rfl,?_,?_⟩;intro c;have af:Keep h4.size h4 c:=Keep.push _ _ (zac _);have ay:c.size=h4.size+1:=zaf _;have Z:Blk c h4.size #[.string lab]:=Blk.new _ _ _;have t:AdM lo h4 m b f i (d1++d2) c _ _ _ _ _ _:=D.push _;clear_value c;have n:c[b]?=h4[b]?:=af.get b aa;refine⟨n,n,?_,?_⟩;refine t.lab (by omega) (by rw[zap];omega) Z λU g' c' z z' u=>⟨U,rfl,?_,?_⟩;exact(u b (by omega) t.n1).trans n;intro r;have ab:Keep g'.size g' r:=Keep.push _ _ (zac _);have ak:Blk r g'.size #[.int .i64 (sl.len:Int)]:=Blk.new _ _ _;have al:AdM lo h4 m b f i (d1++d2) r _ _ _ _ _ _:=z.push _;clear_value r;refine⟨(ab.get b z.box.lt).trans ((u b (by omega) t.n1).trans n),?_⟩;exact al.lef (by omega) (by rw[zap];omega) ak λs2 g2 c2 O _ _=>⟨s2,rfl,fin O⟩;intro j;have P:Keep c.size c j:=Keep.push _ _ (zac _);have ah:Blk j c.size #[.int .i64 (sl.len:Int)]:=Blk.new _ _ _;have Q:AdM lo h4 m b f i (d1++d2) j _ _ _ _ _ _:=t.push _;have an:j.size=c.size+1:=zaf _;clear_value j;have L:j[b]?=h4[b]?:=(P.get b (by omega)).trans n;refine⟨L,L,?_⟩;refine Q.lab (by omega) (by rw[zap];omega) (Z.ofKeep P) λU g' c' z z' u=>⟨U,rfl,(u b (by omega) Q.n1).trans L,?_⟩;have hn:c.size∉d1:=λhm=>by have:=(q.r1.own _ hm).2.1;omega
  exact z.lef (by omega) (by rw[zap];omega) (ah.keep (u _ (by omega) hn)) λs2 g2 c2 O _ _=>⟨s2,rfl,fin O⟩;intro e;have ai:Keep h4.size h4 e:=Keep.push _ _ (zac _);have am:e.size=h4.size+1:=zaf _;have aj:Blk e h4.size #[.int .i64 (sl.len:Int)]:=Blk.new _ _ _;have ae:AdM lo h4 m b f i (d1++d2) e _ _ _ _ _ _:=D.push _;clear_value e;have G:e[b]?=h4[b]?:=ai.get b aa;refine⟨G,G,?_⟩;intro l;have V:Keep e.size e l:=Keep.push _ _ (zac _);have ax:l.size=e.size+1:=zaf _;have ac:Blk l e.size #[.string lab]:=Blk.new _ _ _;have N:AdM lo h4 m b f i (d1++d2) l _ _ _ _ _ _:=ae.push _;clear_value l;have J:l[b]?=h4[b]?:=(V.get b (by omega)).trans G;refine⟨J,J,?_⟩;refine N.lab (by omega) (by rw[zap];omega) ac λU g' c' z z' u=>⟨U,rfl,(u b (by omega) N.n1).trans J,?_⟩;have hn:h4.size∉d1:=λhm=>by have:=(q.r1.own _ hm).2.1;omega
  exact z.lef (by omega) (by rw[zap];omega) ((aj.ofKeep V).keep (u _ (by omega) hn)) λs2 g2 c2 O _ _=>⟨s2,rfl,fin O⟩
 have I:¬w.length<=512:=by have:=zI I;omega
 refine hK h4 m _ T ?_;rw[<-HM Y,zv I];exact⟨f,i,d1,d2,rfl,q⟩
theorem JC{gl:Fr}(c:GL gl)(b:Brn gl)(e:Sm v){R:Bt->Prop}(f:R (jc v).1):PC Tp gl 97 [Arg.mk .tree v] [.str] R:=by apply MV;simp only[Y3];exact Gr c b e f
theorem Ef(h:iN v=Ta)(j:v.kind≠5)(i:v.kind≠6):v.items=[]/\zh v=Ta:=by
 have hi:v.items=[]:=by unfold iN zi at h;simp only[j,i,if_false]at h;by_cases h1:v.kind=1;simp[h1]at h;exact h.2;by_cases b:v.kind=2;simp[b]at h;exact h.2;by_cases f:v.kind=3;simp[f]at h;exact h.2;by_cases c:v.kind=4;simp[c]at h;exact h.2;by_cases e:v.kind=7;simp[e]at h;simp[h1,b,f,c,e]at h
 refine⟨hi,?_⟩;unfold zh Zi;rw[ql,j8,Z0,hi];simp only[zam,zG];refine⟨⟨by rw[wa];omega,by rw[Xj];omega⟩,?_,by rfl⟩;unfold iN at h;simpa using h
theorem Rc(h:Qq (lb k)=Ta):iN (.mk 4 k [] [])=Ta:=by unfold iN zi;simpa[Tr.kind,Tr.text,Tr.keys,Tr.items]using h
theorem Co(h:Qq (lb k)=Ta):zh (.mk 4 k [] [])=Ta:= (Ef (Rc h) (show¬(4:Int)=5 by decide) (show¬(4:Int)=6 by decide)).2
theorem Oq(h:iN v=Ta)(b:v.kind≠5)(c:v.kind≠6):(jc v).1=m0 v:=by unfold jc m0;rw[zA (Ef h b c).2,zv b,zv c]
theorem SB(h:Qq (lb k)=Ta):(⟨#[107]⟩:Bt)++(jc (.mk 4 k [] [])).1=nF k:=by unfold jc nF;rw[zA (Co h),oz];show bl [107]++bl (iO (lb k)).1=_;rw[wj];rfl
end
section
theorem E4{g:zc}{M:Fr}(ag:AgM M g){k:Int}{s:Bt}{sk si:Sl}{K:zc->Prop}(c:∀g',Later g M g' M->g'.size=g.size+1->Blk g' g.size #[.int .i64 k,.string s,aK sk,aK si]->K g'):
  XRunU Tp (zag 25 (.pointer (Td ⟨g.size,0,Te⟩)) (.agg #[.int .i64 k,.string s,aK sk,aK si])) (zdd g (.cells #[.int .i64 0,.string ⟨#[]⟩,.slice Te 0 0,.slice Te 0 0] 25)) K:=by
 have e:Keep g.size g (zdd g (.cells #[.int .i64 0,.string ⟨#[]⟩,.slice Te 0 0,.slice Te 0 0] 25)):=Keep.push _ _ (zac _);have i:(zdd g (.cells #[.int .i64 0,.string ⟨#[]⟩,.slice Te 0 0,.slice Te 0 0] 25)).size=g.size+1:=zaf _;have b:Blk (zdd g (.cells #[.int .i64 0,.string ⟨#[]⟩,.slice Te 0 0,.slice Te 0 0] 25)) g.size #[.int .i64 0,.string ⟨#[]⟩,.slice Te 0 0,.slice Te 0 0]:=Blk.new _ _ _;refine mY b λg' f z B=>c g' (Later.same ag ⟨by omega,λj h=>by grind⟩) (by omega) B
set_option maxRecDepth 100000 in
set_option maxHeartbeats 2000000 in
theorem Fh{gl:Fr}(hg:GL gl)(hb:Brn gl){lo:Nat}:∀(n:Nat) (v:Tr),n<=1000000->aR v<=n->yr iN v=Ta->Sm v->∀(h:zc) (M:Fr) (b:Nat) (S:List (Bt×Int)) (bs:List Nat) (u:Value),AgM M h->Fr.le gl M->Tb lo h M b S bs->lo<=h.size->S.length<=513->RdV M .tree v u ->
  XC Tp 55 #[.pointer (Td ⟨b,0,Te⟩),u] h λr h'=>r=.tuple #[]/\∃M' bs',Grw h M b bs h' M' bs'/\Tb lo h' M' b (iE (S++iC v S.length)) bs'
 |0,v,_,hz,_,_=>by have:=Qk v;omega
 |n+1,v,hn,hz,hok,hsm=>by
  intro h M b S bs u ag hM HB aM hS hu;obtain⟨sk,si,rfl,rk,ri⟩:=qp hu;have D:=hok;rw[Z0,zam]at D;have aQ:v.items.length<=1000000:=by have:=wy v.items;rw[ql]at hz;omega
  have ih:∀(i:Nat) (hi:i<v.items.length) (h:zc) (M:Fr) (S:List (Bt×Int)) (bs:List Nat) (u:Value),AgM M h->Fr.le gl M->Tb lo h M b S bs->lo<=h.size->S.length<=513->RdV M .tree v.items[i] u ->
    XC Tp 55 #[.pointer (Td ⟨b,0,Te⟩),u] h λr h'=>r=.tuple #[]/\∃M' bs',Grw h M b bs h' M' bs'/\Tb lo h' M' b (iE (S++iC v.items[i] S.length)) bs':=λi hi h M S bs u=>by
   have hm:=zak hi;have hs:=qo hm;have an:yr iN v.items[i]=Ta:=by rw[wl,za7]at D;exact D.2 _ hm
   exact Fh hg hb n v.items[i] (by omega) (by omega) an (hsm.item hm) h M b S bs u
  obtain⟨li,_,_⟩:=rowLen ri;obtain⟨lk,_,_⟩:=rowLen rk;have aP:=HB.ltb;have ax:=HB.lt;apply Ng (Td ⟨b,0,Te⟩) v.kind v.text sk si;intro h1;have k1:Keep h.size h h1:=Keep.push _ _ (zac _);have z1:h1.size=h.size+1:=zaf _;have P1:Blk h1 h.size #[.pointer (Td ⟨b,0,Te⟩)]:=Blk.new _ _ _;clear_value h1;intro h2;have k2:Keep h1.size h1 h2:=Keep.push _ _ (zac _);have z2:h2.size=h1.size+1:=zaf _;have T2:Blk h2 h1.size #[.int .i64 v.kind,.string v.text,aK sk,aK si]:=Blk.new _ _ _;clear_value h2;have P2:=P1.ofKeep k2;have aI:Keep h.size h h2:=k1.trans k2 (by omega);have L2:Later h M h2 M:=Later.same ag aI;have ae:=HB.call L2;have row:iC v S.length=(if v.kind=6 then ia v.items v.keys S.length else if v.kind=5 then iF v.items S.length else [])++[(m0 v,(S.length:Int))]:=WX v _;have fin:∀(A:List (Bt×Int)) (lab:Bt) (F:FuncId) (C:Array Value),iC v S.length=A++[(lab,(S.length:Int))]->zo Tp F=Ta -> (∀(h':zc) (M':Fr),Later h2 M h' M'->XC Tp F (#[]++#[]++C) h' λw h1=>w=.tuple #[]/\∃J y,Grw h' M' b bs h1 J y/\Tb lo h1 J b (iE (S++A)) y) ->
    ∀(h':zc) (M':Fr),Later h2 M h' M'->XC Tp 94 #[.pointer (Td ⟨b,0,Te⟩),.string lab,.func (.func F) #[] C] h' λr h3=>r=.tuple #[]/\Value.tuple #[]=Value.tuple #[]/\∃M' bs',Grw h M b bs h3 M' bs'/\Tb lo h3 M' b (iE (S++iC v S.length)) bs':=by
   intro A lab F C am hF hk h' M' L';have aS:=L'.keep.size;refine Fg hF (ae.call L') (by omega) (uk (S++A)) (hk h' M' L') λh3 M3 ah T3 B3=>⟨rfl,rfl,M3,ah,Grw.ofCall (L2.trans L') T3 ax,?_⟩;have:=uz (S++A) λ_=>[(lab,(S.length:Int))];rw[this,za9,<-am]at B3;exact B3
  refine⟨v.kind,T2.cellAdd (o:=0) (k:=0) rfl,λh5=>?_,λh5=>⟨λh6=>?_,λh6=>?_⟩⟩;have h5:v.kind=5:=by simpa using h5
  refine⟨Td ⟨b,0,Te⟩,P2.cell (o:=0) rfl,?_⟩;refine fin (iF v.items S.length) ⟨#[91]⟩ _ _ (by rw[row,zv (by omega),zA h5];unfold m0;rw[zA h5]) (by kernel_rfl) (λh' M' L'=>?_) h2 M (Later.refl L2.ag);show XC _ _ #[.pointer (Td ⟨h1.size,0,Te⟩),.pointer (Td ⟨h.size,0,Te⟩)] _ _;have z':=L'.keep.size;have T':Blk h' h1.size #[.int .i64 v.kind,.string v.text,aK sk,aK si]:=T2.keep (L'.keep.get _ (by omega));have P':Blk h' h.size #[.pointer (Td ⟨b,0,Te⟩)]:=P2.keep (L'.keep.get _ (by omega));have aj:=ae.call L';apply W5 ⟨h1.size,0,Te⟩ ⟨h.size,0,Te⟩;refine⟨si,T'.cellAdd (o:=0) (k:=3) rfl,λi g=>∃(m:Nat) (J:Fr) (y:List Nat),i=(m:Int)/\m<=v.items.length/\Grw h' M' b bs g J y/\Tb lo g J b (iE (S++iF (v.items.take m) S.length)) y,λi _=>v.items.length-i.toNat,⟨0,M',bs,rfl,za0 _,Grw.refl L'.ag,by rw[zeu,iF,zbs,pm hS];exact aj⟩,?_⟩;rintro i g ⟨m,J,y,rfl,hm,T,B⟩;have gz:=T.grow;refine⟨λhc=>?_,λhc=>?_⟩;have I:m<v.items.length:=by have:=zH hc;omega
  obtain⟨a,ck,ci,ea,af,t1,t2⟩:=Jt T.ag (ri.mono (L'.le.trans T.le)) I;refine⟨a,⟨ea,by omega,by omega⟩,v.items[m].kind,v.items[m].text,ck,ci,by rw[zae];exact af,?_⟩;intro aE;refine E4 T.ag λz G aH ai=>?_;have Pg:Blk z h.size #[.pointer (Td ⟨b,0,Te⟩)]:=P'.keep ((G.keep.get h.size (by omega)).trans (T.fr h.size (by omega) (by omega) λhm=>by grind));refine⟨Td ⟨b,0,Te⟩,Pg.cell (o:=0) rfl,v.items[m].kind,v.items[m].text,ck,ci,ai.ld (cs:=[_,_,aK ck,aK ci]),?_⟩;refine XC.mono (ih m I z J _ y _ G.ag (hM.trans (L'.le.trans T.le)) (B.call G) (by omega) (uk _) (qe t1 t2)) ?_;rintro r h19 ⟨rfl,M2,au,aA,aL⟩;refine⟨rfl,⟨m+1,M2,au,by rw[je I (by omega)],I,T.trans (Grw.ofCall G aA λc hc=>B.lt c hc),?_⟩,?_⟩;simp_all[uz,Oh];grind [je];grind
  ·have h6:v.kind=6:=by simpa using h6
   have aO:v.keys.length=v.items.length:=by have:=D.1;unfold iN zi at this;simp[h6]at this;exact this.1.2
   have aD:∀k∈v.keys,Qq (lb k)=Ta:=by have:=D.1;unfold iN zi yq at this;simp[h6]at this;exact this.1.1.1
   refine⟨Td ⟨b,0,Te⟩,P2.cell (o:=0) rfl,?_⟩;refine fin (ia v.items v.keys S.length) ⟨#[123]⟩ _ _ (by rw[row,zA h6];unfold m0;simp_all) (by kernel_rfl) (λh' M' L'=>?_) h2 M (Later.refl L2.ag);show XC _ _ #[.pointer (Td ⟨h1.size,0,Te⟩),.pointer (Td ⟨h.size,0,Te⟩)] _ _;have z':=L'.keep.size;have T':Blk h' h1.size #[.int .i64 v.kind,.string v.text,aK sk,aK si]:=T2.keep (L'.keep.get _ (by omega));have P':Blk h' h.size #[.pointer (Td ⟨b,0,Te⟩)]:=P2.keep (L'.keep.get _ (by omega));have aj:=ae.call L';apply W6 ⟨h1.size,0,Te⟩ ⟨h.size,0,Te⟩;refine⟨si,T'.cellAdd (o:=0) (k:=3) rfl,λi g=>∃(m:Nat) (J:Fr) (y:List Nat),i=(m:Int)/\m<=v.items.length/\Grw h' M' b bs g J y/\Tb lo g J b (iE (S++ia (v.items.take m) v.keys S.length)) y,λi _=>v.items.length-i.toNat,⟨0,M',bs,rfl,za0 _,Grw.refl L'.ag,by rw[zeu,ia,zbs,pm hS];exact aj⟩,?_⟩;rintro i g ⟨m,J,y,rfl,hm,T,B⟩;have gz:=T.grow;refine⟨λhc=>?_,λhc=>?_⟩
   ·have I:m<v.items.length:=by have:=zH hc;omega
    have ab:m<v.keys.length:=by omega
    have aa:=L'.le.trans T.le;obtain⟨a,ck,ci,ea,af,t1,t2⟩:=Jt T.ag (ri.mono aa) I;refine⟨a,⟨ea,by omega,by omega⟩,v.items[m].kind,v.items[m].text,ck,ci,by rw[zae];exact af,?_⟩;intro aE;refine E4 T.ag λz G aH ai=>?_;have Pg:Blk z h.size #[.pointer (Td ⟨b,0,Te⟩)]:=P'.keep ((G.keep.get h.size (by omega)).trans (T.fr h.size (by omega) (by omega) λhm=>by grind));have Tg:Blk z h1.size #[.int .i64 v.kind,.string v.text,aK sk,aK si]:=T'.keep ((G.keep.get h1.size (by omega)).trans (T.fr h1.size (by omega) (by omega) λhm=>by grind));obtain⟨a2,aF,x,ay,aC⟩:=jP G.ag (rk.mono aa) ab (i:=(m:Int)) rfl (L:=sk.len) rfl (Q:=λx=>x=v.keys[m]) rfl;subst aC;refine⟨Td ⟨b,0,Te⟩,Pg.cell (o:=0) rfl,sk,Tg.cellAdd (o:=0) (k:=2) rfl,a2,aF,v.keys[m],ay,?_⟩;have al:=aD _ (zak ab);have az:Sm (.mk 4 v.keys[m] [] []):=⟨by rw[ql];simp[wa],by rw[hH];refine⟨⟨?_,za0 _,λk hk=>by cases hk⟩,trivial⟩;have:=hsm.key (zak ab);simp_all⟩;have BB:=B.call G;have Y:∀(e:zc) (f:Fr) (kt:Bt),Later z J e f->kt=(jc (.mk 4 v.keys[m] [] [])).1->XC Tp 94 #[.pointer (Td ⟨b,0,Te⟩),.string ((⟨#[107]⟩:Bt)++kt),.func (.func 99) #[] #[.pointer (Td ⟨h.size,0,Te⟩),.pointer (Td ⟨g.size,0,Te⟩)]] e λw ak=>w=.tuple #[] /\
      (∃(q:Nat) (J:Fr) (y:List Nat),w6 ((m:Int)+1)=(q:Int)/\q<=v.items.length/\Grw h' M' b bs ak J y/\Tb lo ak J b (iE (S++ia (v.items.take q) v.keys S.length)) y)/\v.items.length-(w6 ((m:Int)+1)).toNat<v.items.length-(m:Int).toNat:=by
     rintro e f kt j rfl;rw[SB al];have aN:=j.keep.size;have P:=G.trans j;refine Fg (by kernel_rfl) (B.call P) (by omega) (uk (iE (S++ia (v.items.take m) v.keys S.length)++iC v.items[m] (iE (S++ia (v.items.take m) v.keys S.length)).length)) ?_ λh3 M3 ah T3 B3=>⟨rfl,⟨m+1,M3,ah,by rw[je I (by omega)],I,T.trans (Grw.ofCall P T3 λc hc=>B.lt c hc),?_⟩,?_⟩;show XC _ _ #[.pointer (Td ⟨h.size,0,Te⟩),.pointer (Td ⟨g.size,0,Te⟩)] _ _;apply Jc ⟨h.size,0,Te⟩ ⟨g.size,0,Te⟩;refine⟨Td ⟨b,0,Te⟩,(Pg.keep (j.keep.get _ (by omega))).cell (o:=0) rfl,v.items[m].kind,v.items[m].text,ck,ci,(ai.keep (j.keep.get _ (by omega))).ld (cs:=[_,_,aK ck,aK ci]),?_⟩;exact XC.mono (ih m I e f _ y _ j.ag (hM.trans (aa.trans j.le)) (B.call P) (by omega) (uk _) (qe (t1.mono j.le) (t2.mono j.le))) λr h' O=>⟨O.1,rfl,O.2⟩;have e1:=uz (S++ia (v.items.take m) v.keys S.length) λk=>iC v.items[m] k++[(nF v.keys[m],(k:Int))];have e2:=uz (iE (S++ia (v.items.take m) v.keys S.length)++iC v.items[m] (iE (S++ia (v.items.take m) v.keys S.length)).length) λ_=>[(nF v.keys[m],((iE (S++ia (v.items.take m) v.keys S.length)).length:Int))];rw[e2,za9,e1,za9,zah,<-z7m I ab]at B3;exact B3;grind [je]
    have ac:∀(l:zc) (t:Fr) (V U:Sl),Later z J l t->RdV t .tree (.mk 4 v.keys[m] [] []) (.agg #[.int .i64 4,.string v.keys[m],aK V,aK U])->∀{K:Value->zc->Prop},(∀e f,Later z J e f->Later l t e f->K (.string (jc (.mk 4 v.keys[m] [] [])).1) e) ->
      XC Tp 97 #[.agg #[.int .i64 4,.string v.keys[m],aK V,aK U]] l K:=λl t V U E O K hK=>by
     refine(JC hg hb az (R:=λr=>r=(jc (.mk 4 v.keys[m] [] [])).1) rfl).go (vs:=[.agg #[.int .i64 4,.string v.keys[m],aK V,aK U]]) (hM.trans (aa.trans E.le)) E.ag (zr O qj) λw e f r j N O=>?_;subst O;rw[lG N];exact hK e f (E.trans j) j
    have off:∀{K:Value->zc->Prop},(∀l t V U,Later z J l t->RdV t .tree (.mk 4 v.keys[m] [] []) (.agg #[.int .i64 4,.string v.keys[m],aK V,aK U])->K (.agg #[.int .i64 4,.string v.keys[m],aK V,aK U]) l)->XC Tp 98 #[.string v.keys[m]] z K:=λ {K} hK=>by refine(show PC Tp gl 98 [Arg.mk .str v.keys[m]] [.tree] (λr=>r=.mk 4 v.keys[m] [] [])from by apply YM;rfl).go (hM.trans aa) G.ag (zr (a:=Arg.mk .str _) (rdStr _) qj) λw l t r E N O=>?_;subst O;have O:=Y1.1 N;grind [qp]
    have Z:j6 ((⟨#[107]⟩:Bt).size+(jc (.mk 4 v.keys[m] [] [])).1.size):=by have h1:=hsm.key (zak ab);unfold jc;rw[zA (Co al),oz];show j6 ((bl [107]).size+(bl (iO (lb v.keys[m])).1).size);have:=qW (lb v.keys[m]);exact oy (by grind)
    have aJ:b<z.size:=by have:=B.ltb;omega
    have H:∀(e:zc) (f:Fr),Later z J e f->e[h.size]?=z[h.size]?:=λe f L=>L.keep.get _ (by omega);refine⟨off λl t V U E O=>⟨_,_,V,U,rfl,H l t E,?_,H l t E,?_⟩,rfl,rfl,rfl,off λl t V U E O=>⟨_,_,V,U,rfl,H l t E,?_⟩⟩;exact ac l t V U E O λe f j _=>⟨_,rfl,Z,H e f j,H e f j,Y e f _ j rfl⟩;exact ac l t V U E O λe f j _=>⟨_,rfl,Z,H e f j,Y e f _ j rfl⟩;exact ac l t V U E O λe f j _=>⟨_,rfl,Z,H e f j,Y e f _ j rfl⟩
   grind
  have h5:v.kind≠5:=by simpa using h5
  have h6:v.kind≠6:=by simpa using h6
  refine⟨Td ⟨b,0,Te⟩,P2.cell (o:=0) rfl,v.kind,v.text,sk,si,T2.ld (cs:=[_,_,aK sk,aK si]),?_⟩;refine(JC hg hb hsm (R:=λr=>r=(jc v).1) rfl).go (vs:=[.agg #[.int .i64 v.kind,.string v.text,aK sk,aK si]]) hM L2.ag (zr hu qj) λw aB aG r ar N O=>?_;subst O;rw[lG N,Oq D.1 h5 h6];refine⟨_,rfl,ar.keep.get h.size (by omega),?_⟩;refine fin [] (m0 v) _ _ (by simp_all) (by kernel_rfl) (λh' M' L'=>?_) aB aG ar;show XC _ _ #[] _ _;apply W8;exact⟨rfl,M',bs,Grw.refl L'.ag,by rw[zbs,pm hS];exact ae.call L'⟩
end
end
section
open Go.Lib
variable {n i:Nat}
def dK(L:List Int)(i:Nat):Int:=L.getD i 0
def lD(L:List Int)(j:Nat):Bool:=decide (0<=dK L j)&&decide (dK L j<=j)&&(zaq j).all λi=>!(decide (dK L j<=(i:Int))&&decide (dK L i<dK L j))
def kP(L:List Int)(j:Nat):Bool:=(zaq j).all (lD L)
def qd(t:List Bt×List Int):Bool:=decide (t.1.length=t.2.length)&&decide (t.1.length<=512)&&kP t.2 t.2.length
def iW(L:List Int)(n i:Nat):Int:=match (zaq n).find? λj=>decide (i<j)&&decide (dK L j<=(i:Int))with
 |some j=>(j:Int)
 |none=>-1
def pI(L:List Int):List Int:=(zaq L.length).map (iW L L.length)
def Xl(L:List Int)(j:Nat):List Nat:=(zaq j).filter λi=>decide (iW L j i<0)
theorem Xb{L:List Int}{j:Nat}:lD L j=Ta↔0<=dK L j/\dK L j<=j/\∀i,i<j->dK L j<=(i:Int)->dK L j<=dK L i:=by unfold lD;simp only[zam,zG,za7,zbn,zd4,Bool.and_eq_false_iff,decide_eq_false_iff_not];constructor;rintro⟨⟨h1,c⟩,e⟩;exact⟨h1,c,λi hi b=>by rcases e i hi with h|h <;> omega⟩;rintro⟨h1,c,e⟩;refine⟨⟨h1,c⟩,λi hi=>?_⟩;by_cases b:dK L j<=(i:Int);exact .inr (by have:=e i hi b;omega);exact .inl b
theorem oY{L:List Int}{j:Nat}:kP L j=Ta↔∀i,i<j->lD L i=Ta:=by unfold kP;simp only[za7,zbn]
theorem QR{L:List Int}{j:Nat}(h:kP L j=Ta)(c:lD L j=Ta):kP L (j+1)=Ta:=by rw[oY]at h ⊢;intro i hi;rcases zb0 i j with b|b;exact h i b;rw[show i=j from by omega];exact c
theorem NY{p:Nat->Bool}:∀{n j:Nat},(zaq n).find? p=Td j->j<n/\p j=Ta/\∀i,i<j->p i=Tc:=by
 intro n;induction n with
 |zero=>intro j h;simp at h
 |succ n c=>
  intro j h;rw[zej,List.find?_append]at h;cases e:(zaq n).find? p with
  |some k=>rw[e]at h;simp at h;subst h;obtain⟨h1,f,l⟩:=c e;exact⟨by omega,f,l⟩
  |none=>rw[e]at h;rw[List.find?_eq_none]at e;simp[List.find?]at h;split at h;rename_i b;simp at h;subst h;exact⟨by omega,b,λi hi=>by simpa using e i (zbn.2 hi)⟩;simp at h
theorem Q7(L:List Int)(n i:Nat):(iW L n i=-1/\∀j,i<j->j<n->(i:Int)<dK L j)\/∃p:Nat,iW L n i=(p:Int)/\i<p/\p<n/\dK L p<=(i:Int)/\∀j,i<j->j<p->(i:Int)<dK L j:=by
 unfold iW;cases e:(zaq n).find? λj=>decide (i<j)&&decide (dK L j<=(i:Int))with
 |none=>refine .inl ⟨rfl,λj h1 c=>?_⟩;rw[List.find?_eq_none]at e;have:=e j (zbn.2 c);simp[h1]at this;omega
 |some p=>obtain⟨h1,c,f⟩:=NY e;simp only[zam,zG]at c;refine .inr ⟨p,rfl,c.1,h1,c.2,λj a b=>?_⟩;have:=f j b;simp[a]at this;omega
theorem Cs{L:List Int}{n i p:Nat}(h1:i<p)(f:p<n)(l:dK L p<=(i:Int))(k:∀j,i<j->j<p->(i:Int)<dK L j):iW L n i=(p:Int):=by rcases Q7 L n i with⟨_,e⟩|⟨q,e,a,b,c,d⟩;have:=e p h1 f;omega;rw[e];rcases Nat.lt_trichotomy p q with h|h|h;have:=d p h1 h;omega;rw[h];have:=k q a h;omega
theorem I7{L:List Int}(h:∀j,i<j->j<n->(i:Int)<dK L j):iW L n i=-1:=by rcases Q7 L n i with⟨e,_⟩|⟨q,e,a,b,c,d⟩;exact e;have:=h q a b;omega
theorem Fl(L:List Int)(n i:Nat)(hi:i<n):iW L (n+1) i=if iW L n i<0/\dK L n<=(i:Int)then(n:Int)else iW L n i:=by
 rcases Q7 L n i with⟨e,h⟩|⟨p,e,a,b,c,d⟩;by_cases f:dK L n<=(i:Int);rw[zA ⟨by omega,f⟩];exact Cs hi (by omega) f λj h1 k=>h j h1 k
 rw[zv (λq=>f q.2),e];refine I7 λj h1 k=>?_;rcases zb0 j n with l|l;exact h j h1 l;rw[show j=n from by omega];omega;rw[zv (λq=>by omega),e];exact Cs a (by omega) c d
theorem IU(L:List Int)(n:Nat):iW L (n+1) n=-1:=I7 λj h1 b=>by omega
theorem Ct{L:List Int}{j:Nat}(h:kP L j=Ta):∀(k i:Nat),j-i<=k->i<j->∃r,r<j/\iW L j r=-1/\i<=r/\dK L r<=dK L i
 |0,i,hk,hi=>by omega
 |k+1,i,hk,hi=>by rcases Q7 L j i with⟨e,_⟩|⟨p,e,a,b,c,_⟩;exact⟨i,hi,e,zac _,Int.le_refl _⟩;obtain⟨r,f,l,m,n⟩:=Ct h k p (by omega) b;rw[oY]at h;have:=(Xb.1 (h p b)).2.2 i a c;exact⟨r,f,l,by omega,by omega⟩
theorem yU{L:List Int}{j i:Nat}:i∈Xl L j↔i<j/\iW L j i=-1:=by unfold Xl;rw[zbv,zbn,zG];constructor;rintro⟨a,b⟩;rcases Q7 L j i with⟨e,_⟩|⟨p,e,_⟩;exact⟨a,e⟩;omega;rintro⟨a,b⟩;exact⟨a,by omega⟩
theorem V1{L:List Int}{j:Nat}(h:kP L j=Ta)(h0:0<=dK L j)(h1:dK L j<=j)(c:∀r∈Xl L j,dK L j<=(r:Int)->dK L j<=dK L r):lD L j=Ta:=by refine Xb.2 ⟨h0,h1,λi hi l=>?_⟩;obtain⟨r,e,b,k,f⟩:=Ct h (j-i) i (zac _) hi;have:=c r (yU.2 ⟨e,b⟩) (by omega);omega
theorem QF(L:List Int)(j:Nat):Xl L (j+1)=(Xl L j).filter (λi:Nat=>decide ((i:Int)<dK L j))++[j]:=by unfold Xl;rw[zej,List.filter_append,List.filter_filter];congr 1;refine List.filter_congr λi hi=>?_;rw[zbn]at hi;rw[Fl L j i hi,zbe,zam,zG,zG,zG];by_cases b:iW L j i<0;by_cases c:dK L j<=(i:Int);rw[zA ⟨b,c⟩];omega;rw[zv (λq=>c q.2)];omega;rw[zv (λq=>b q.1)];omega;rw[zed,zA (by rw[IU];decide)];rfl
theorem Lx(L:List Int)(j:Nat):(Xl L j).Pairwise (· < ·):=by unfold Xl;exact List.Pairwise.sublist List.filter_sublist List.pairwise_lt_range
theorem Ka:∀{l:List Nat},l.Pairwise (· < ·)->∀{x:Int} {m:Nat},m<=l.length->(∀i (h:i<l.length),i<m->(l[i]:Int)<x)->(∀i (h:i<l.length),m<=i->x<=(l[i]:Int))->l.filter (λi:Nat=>decide ((i:Int)<x))=l.take m
 |[],_,x,m,_,_,_=>by simp
 |a::l,hp,x,m,hm,h1,h2=>by
  cases m with
  |zero=>rw[zeu,List.filter_eq_nil_iff];intro b c;obtain⟨i,hi,rfl⟩:=zdr.1 c;have:=h2 i hi (za0 _);simp;exact this
  |succ m=>rw[zed,zA (by have:=h1 0 (by simp) (by omega);simpa using this),zea];congr 1;exact Ka (zcy.1 hp).2 (by simpa using hm) (λi h hi=>by have:=h1 (i+1) (by simpa using h) (by omega);simpa using this) (λi h hi=>by have:=h2 (i+1) (by simpa using h) (by omega);simpa using this)
theorem SP{L:List Int}(h:i<L.length):(pI L)[i]?=Td (iW L L.length i):=by unfold pI;rw[zcc,List.getElem?_range h];rfl
theorem R5(L:List Int):(pI L).length=L.length:=by unfold pI;rw[zap,List.length_range]
end
section
open Go.RowKit
variable {M:Fr} {a b:Ty} {h g:zc} {n bo bt i:Nat} {ts:Sl} {ct:Array Value}
theorem se{x:El (.row a)×El (.row b)}{u:Value}(h:RdV M (.pair (.row a) (.row b)) x u):∃s1 s2:Sl,u=.agg #[aK s1,aK s2]/\Rd M (.row a) x.1 [aK s1]/\Rd M (.row b) x.2 [aK s2]:=by unfold RdV at h;simp only[hY,if_true]at h;obtain⟨cs,rfl,c1,c2,rfl,h1,c⟩:=h;obtain⟨f,rfl,g1⟩:=h1;obtain⟨e,rfl,g2⟩:=c;obtain⟨s1,rfl,j⟩:=Xq (M:=M) (t:=a) (xs:=x.1) ((Y9 rfl).2 ⟨f,rfl,g1⟩);obtain⟨s2,rfl,i⟩:=Xq (M:=M) (t:=b) (xs:=x.2) ((Y9 rfl).2 ⟨e,rfl,g2⟩);grind
theorem mI{x:El (.row a)×El (.row b)}{s1 s2:Sl}(h1:Rd M (.row a) x.1 [aK s1])(c:Rd M (.row b) x.2 [aK s2]):RdV M (.pair (.row a) (.row b)) x (.agg #[aK s1,aK s2]):=by unfold RdV;simp only[hY,if_true];exact⟨[_,_],rfl,[_],[_],rfl,h1,c⟩
theorem Lv(z:Value)(n:Nat):madeCells #[z] n=(zcv n z).toArray:=by apply Array.ext;simp[madeCells];intro i h1 b;simp[madeCells,Nat.mod_one]
theorem s3{t e:TypeId}{z:Value}{bytes:Nat}(E:ElemT Tp t e z 1 bytes)(hz:z.cells=#[z])(f:bytes<=1000)(m:n<=1000000){K:Value->zc->Prop}(l:K (aK ⟨Td ⟨h.size,0,Te⟩,n,n⟩) (h.push (.cells (zcv n z).toArray e))):
  qu Tp (zbp t (.int .i64 (n:Int)) (.int .i64 (n:Int))) h K:=by
 intro B d;obtain⟨i,hi,b,k,j⟩:=E.info;have o:(bytes:Int)*(n:Int)<=1000*1000000:=Int.mul_le_mul (by omega) (by omega) (by omega) (by omega);have c:=run_make (P:=Tp) (mk B d h) t e i z E.slice hi b .i64 .i64 (n:Int) (n:Int) (by omega) (Int.le_refl _) (by rw[j];omega) (by omega);rw[zae,k,zbm,hz,Lv]at c;exact⟨_,_,_,c,l⟩
theorem CR.pop{els:List (List Value)}{sl:Sl}{b:Nat}{cs:Array Value}(H:CR g 1 els sl b cs){q:Nat}(f:q<=els.length):CR g 1 (els.take q) ⟨sl.a,q,sl.cap⟩ b cs:=by have h:=H.ln;have c:=H.ro.le;refine⟨⟨by grind,?_⟩,by simp_all,λi e hi=>?_⟩;rcases H.ro.at_ with⟨h1,j⟩|h1;grind;grind;rw[zbk]at hi;split at hi;exact H.el i e hi;cases hi
structure ParI (h:zc) (n bo:Nat) (T:List Nat) (outs:List Int) (ts:Sl) (bt:Nat) (ct:Array Value) (g:zc):Prop where
 k:Keep bo h g
 out:Blk g bo (outs.map (zcn .i64)).toArray
 ln:outs.length=n
 top:CR g 1 (T.map λi:Nat=>[zcn .i64 (i:Int)]) ts bt ct
 hb:bo<bt
theorem ParI.len{T:List Nat}{outs:List Int}(S:ParI h n bo T outs ts bt ct g):ts.len=T.length:=by rw[S.top.ln,zap]
theorem ParI.cell{T:List Nat}{outs:List Int}(S:ParI h n bo T outs ts bt ct g)(hi:i<T.length):ts.a=Td ⟨bt,0,Te⟩/\zd g ⟨bt,0+i,Te⟩=Td (.int .i64 ((T[i]:Nat):Int)):=by
 have b:(T.map λi:Nat=>[zcn .i64 (i:Int)])≠[]:=λe=>by simp_all
 obtain⟨c,B⟩:=S.top.blk b;obtain⟨_,f⟩:=S.top.el i [.int .i64 ((T[i]:Nat):Int)] (by simp_all);refine⟨c,B.cell ?_⟩;have:=AD f (q:=0) (by omega);simp_all
theorem ParI.set{T:List Nat}{outs:List Int}(S:ParI h n bo T outs ts bt ct g)(hi:i<n){x:Int}{K:zc->Prop}(m:∀g',ParI h n bo T (outs.set i x) ts bt ct g'->g'.size=g.size->K g'):
  XRunU Tp (zag 3 (.pointer (Td ((⟨bo,0,Te⟩:Addr).add (i*1)))) (.int .i64 x)) g K:=by
 have c:=S.ln;have e:=S.hb;rw[zf,zas,zbm];refine xu GI (by kernel_rfl) S.out (by simp;omega) rfl λg' o f b=>m g' ⟨⟨by have:=S.k.size;omega,λj l=>(b j (by omega)).trans (S.k.get j l)⟩,?_,by simp_all,S.top.frame λ_=>b bt (by omega),e⟩ f;simp_all
theorem R8{s:Sl}{q:Nat}{i:Int}(h1:i=(q:Int)):(⟨x9 s.a 1 (0:Int).toNat ((s.cap:Nat):Int).toNat,i.toNat-(0:Int).toNat,((s.cap:Nat):Int).toNat-(0:Int).toNat⟩:Sl)=⟨s.a,q,s.cap⟩:=by simp_all[Zc]
set_option maxRecDepth 100000 in
set_option maxHeartbeats 2000000 in
theorem U9{gl:Fr}{t:List Bt×List Int}{R:List Int×Bool->Prop}(hR:R (if qd t=Ta then(pI t.2,Ta)else([],Tc))):PC Tp gl 60 [Arg.mk (.pair (.row .str) (.row PJ)) t] [.row PJ,.bool] R:=by
 intro h M vs hM ag ha
 match vs,ha with
 |[u],⟨hu,_⟩=>
  obtain⟨s1,s2,rfl,r1,r2⟩:=se (show RdV M (.pair (.row .str) (.row PJ)) t u from hu);apply PX.of;obtain⟨l1,_,_⟩:=rowLen r1;obtain⟨l2,b2,_⟩:=rowLen r2;apply Mq s1 s2;intro h1;have k1:Keep h.size h h1:=Keep.push _ _ (zac _);have z1:h1.size=h.size+1:=zaf _;have F:Blk h1 h.size #[aK s1,aK s2]:=Blk.new _ _ _;clear_value h1;have B:∀g:zc,qd t=Tc->Keep h.size h g->∃M' r,Later h M g M'/\J4 M' [.row PJ,.bool] r (.tuple #[.slice Te 0 0,.bool Tc])/\R r:=λg e k=>⟨M,([],Tc),Later.same ag k,⟨[_,_],⟨_,_,rfl,(Y9 rfl).2 lA,_,rfl,rdBool _⟩,rfl⟩,by simp_all⟩;refine⟨s1,F.cellAdd (o:=0) (k:=0) rfl,s2,F.cellAdd (o:=0) (k:=1) rfl,s1,λ_=>F.cellAdd (o:=0) (k:=0) rfl,λf=>?_,λf=>?_⟩;refine B _ ?_ k1;cases l:qd t with
  |false=>rfl
  |true=>unfold qd at l;grind
  have w:s1.len=s2.len:=by by_cases e:s1.len=s2.len;exact e;grind
  have ay:s1.len<=512:=by
   have:((s1.len:Int) != (s2.len:Int))=Tc:=by simp;omega
   rw[this]at f;have:=zI f;omega
  refine⟨s2,F.cellAdd (o:=0) (k:=1) rfl,?_⟩;refine s3 (E:=(oq:ElemT _ _ _ _ 1 8)) rfl (by omega) (by omega) ⟨⟨Td ⟨h1.size,0,Te⟩,s2.len,s2.len⟩,rfl,s2,?_,?_⟩;exact(F.keepN (n:=h1.size) (Keep.push _ _ (zac _)) (by omega)).cellAdd (o:=0) (k:=1) rfl;obtain⟨L,hL⟩:∃L,L=t.2:=⟨_,rfl⟩;have hn:L.length=s2.len:=by rw[hL,l2]
  have nr:∀m,m<L.length->lD L m=Tc->qd t=Tc:=λm hm e=>by
   cases l:qd t with
   |false=>rfl
   |true=>unfold qd at l;simp only[zam,zG]at l;rw[hL]at hm e;have:=oY.1 l.2 m hm;simp_all
  refine⟨λts j g=>∃(m:Nat) (outs:List Int) (bt:Nat) (ct:Array Value),j=(m:Int)/\m<=L.length/\kP L m=Ta/\ParI h1 L.length h1.size (Xl L m) outs ts bt ct g/\∀i,i<m->outs[i]?=Td (iW L m i),λ_ j _=>L.length-j.toNat,?_,?_⟩;refine⟨0,zcv L.length 0,h1.size+1,#[],rfl,za0 _,rfl,⟨Keep.push _ _ (zac _),?_,zdl,⟨⟨za0 _,.inl ⟨rfl,rfl⟩⟩,rfl,λi e hi=>by simp[Xl]at hi⟩,by omega⟩,λi hi=>by omega⟩;rw[List.map_replicate,hn];exact Blk.new _ _ _;rintro ts j g ⟨m,outs,bt,ct,rfl,hm,O,S,hv⟩;refine⟨λf=>?_,λf=>?_⟩;have w:m<L.length:=by have:=zH f;omega
  have H:Keep h.size h g:=k1.trans S.k (by omega);have V:AgM M g:=ag.keep H;obtain⟨b,o,e1,J⟩:=vt V r2 (k:=m) (by omega);have hx:t.2[m]'(by omega)=dK L m:=by subst hL;unfold dK;rw[zar,zai w];rfl
  rw[hx]at J;refine⟨⟨b,o,Te⟩,⟨e1,by omega,by omega⟩,dK L m,by rw[ic,zae];exact J,λh3=>?_,λh3=>?_⟩;refine B _ (nr m w ?_) H;cases e:lD L m with
  |false=>rfl
  |true=>obtain⟨a1,a2,_⟩:=Xb.1 e;grind
  have a0:0<=dK L m:=by by_cases e:dK L m<0;simp_all;omega
  have a1:dK L m<=m:=by rw[decide_eq_false (show¬dK L m<0 by omega)]at h3;have:=zI h3;omega
  generalize D:dK L m=lf at *;have hT:∀k,(U:k<(Xl L m).length)->(Xl L m)[k]<m:=λk U=>(yU.1 (zak U)).1;refine⟨λts g=>∃(q:Nat) (outs:List Int) (ct:Array Value),q<=(Xl L m).length/\ParI h1 L.length h1.size ((Xl L m).take q) outs ts bt ct g/\(∀i,i<m->outs[i]?=Td (if i∈(Xl L m).drop q then(m:Int)else iW L m i))/\∀r∈(Xl L m).drop q,lf<=(r:Int)/\lf<=dK L r,λts _=>ts.len,?_,?_⟩;exact⟨(Xl L m).length,outs,ct,zac _,by simp_all,λi hi=>by simp_all,λr l=>by simp_all⟩;rintro ts' g' ⟨q,C,A,hq,y,T,hp⟩;have az:ts'.len=q:=by rw[y.len,zbl,zda hq]
  have N:Keep h.size h g':=k1.trans y.k (by omega);have ak:=y.top.ro.le;have aA:m<=512:=by omega
  have am:q<=512:=by
   have:(Xl L m).length<=m:=by unfold Xl;exact zch (List.length_filter_le _ _) (by simp)
   omega
  obtain⟨k,U⟩:∃k,k=(Xl L m).getD (q-1) 0:=⟨_,rfl⟩;obtain⟨a,p1⟩:∃a:Addr,0<q->ts'.a=Td a/\zd g' (a.add ((q-1)*1))=Td (.int .i64 (k:Int)):=by by_cases h0:0<q;obtain⟨e3,e4⟩:=y.cell (i:=q-1) (by grind);refine⟨_,λ_=>⟨e3,?_⟩⟩;rw[zf,zbm,e4,List.getElem_take,U,zar,zai (by omega)];rfl;exact⟨⟨0,0,Te⟩,λh=>absurd h h0⟩
  have x:0<q->w6 (((ts'.len:Nat):Int)-1)=((q-1:Nat):Int):=λh0=>by rw[wrap64 (by omega) (by omega)];omega
  have ab:0<q->k<m/\k∈Xl L m/\(Xl L m).drop (q-1)=k::(Xl L m).drop q:=λh0=>by grind [zbt]
  refine⟨a,λf=>?_,(k:Int),λf=>?_,λf=>?_,λf=>?_⟩;grind;have h0:0<q:=by have:=zH f;omega
  rw[x h0,zae];exact(p1 h0).2;have h0:0<q:=by by_cases e:0<q;exact e;rw[decide_eq_false (show¬((ts'.len:Nat):Int)>0 by omega)]at f;cases f
  rw[zJ (show((ts'.len:Nat):Int)>0 by omega)]at f;have an:lf<=(k:Int):=by have:=zH f;omega
  obtain⟨aj,ar,I⟩:=ab h0;have x:=x h0;obtain⟨b3,o3,e3,e4⟩:=vt (ag.keep N) r2 (k:=k) (by omega);have ai:t.2[k]'(by omega)=dK L k:=by subst hL;unfold dK;rw[zar,zai (by omega)];rfl
  rw[ai]at e4;refine⟨a,⟨(p1 h0).1,by rw[x];omega,by rw[x];omega⟩,(k:Int),by rw[x,zae];exact(p1 h0).2,s2,(F.keepN y.k (by omega)).cellAdd (o:=0) (k:=1) rfl,⟨b3,o3,Te⟩,⟨e3,by omega,by omega⟩,dK L k,by rw[ic,zae];exact e4,λh4=>?_,λh4=>?_⟩;refine B _ (nr m w ?_) N;cases e:lD L m with
  |false=>rfl
  |true=>have:=(Xb.1 e).2.2 k aj (by omega);grind
  have h5:lf<=dK L k:=by have:=zI h4;omega
  have af:q<=ts'.cap:=by omega
  have P:(0:Int)<=0/\0<=w6 (((ts'.len:Nat):Int)-1)/\w6 (((ts'.len:Nat):Int)-1)<=((ts'.cap:Nat):Int)/\((ts'.cap:Nat):Int)<=((ts'.cap:Nat):Int):=by rw[x];omega
  have Q:∀g2,ParI h1 L.length h1.size ((Xl L m).take q) (C.set k (m:Int)) ts' bt A g2->(∃(q2:Nat) (outs:List Int) (ct:Array Value),q2<=(Xl L m).length/\ParI h1 L.length h1.size ((Xl L m).take q2) outs ⟨x9 ts'.a 1 (0:Int).toNat ((ts'.cap:Nat):Int).toNat,(w6 (((ts'.len:Nat):Int)-1)).toNat-(0:Int).toNat,((ts'.cap:Nat):Int).toNat-(0:Int).toNat⟩ bt ct g2/\(∀i,i<m->outs[i]?=Td (if i∈(Xl L m).drop q2 then(m:Int)else iW L m i))/\∀r∈(Xl L m).drop q2,lf<=(r:Int)/\lf<=dK L r)/\(w6 (((ts'.len:Nat):Int)-1)).toNat-(0:Int).toNat<ts'.len:=λg2 c=>by rw[R8 x];refine⟨⟨q-1,_,A,by omega,⟨c.k,c.out,c.ln,?_,c.hb⟩,λi hi=>?_,λr l=>?_⟩,by rw[x];omega⟩;have:=c.top.pop (q:=q-1) (by grind);grind [ze3];rw[List.getElem?_set,I];by_cases e:k=i;grind;rw[zv e,T i hi];congr 1;by_cases J:i∈(Xl L m).drop q;grind;grind;rw[I]at l;rcases zan.1 l with rfl|l;omega;grind
  refine⟨⟨h1.size,0,Te⟩,⟨rfl,by omega,by grind⟩,⟨.inl rfl,P,?_⟩,?_⟩;rw[zae];exact y.set (by omega) λg2 c _=>Q g2 c;rw[zae];exact y.set (by omega) λg2 c _=>⟨.inl rfl,P,Q g2 c⟩;have G:0<q->(k:Int)<lf:=λh0=>by grind
  have z:=Lx L m;have Y:(Xl L m).filter (λi:Nat=>decide ((i:Int)<dK L m))=(Xl L m).take q:=by
   rw[D];refine Ka z hq (λi hi ac=>?_) λi hi ac=>?_;have h0:0<q:=by omega
   have h1:=G h0;have e:k=(Xl L m)[q-1]'(by omega):=by rw[U,zar,zai (by omega)];rfl
   rcases zb0 i (q-1)with h2|h2;have:=List.pairwise_iff_getElem.1 z i (q-1) hi (by omega) h2;omega;grind;exact(hp _ (by rw[List.mem_drop_iff_getElem];exact⟨i-q,by omega,by congr 1;omega⟩)).1
  have aa:lD L m=Ta:=V1 O (by omega) (by omega) λr l ah=>by
   rw[D]at ah ⊢;have ax:r∉(Xl L m).take q:=λh=>by grind
   rw[<-zca q (Xl L m)]at l;grind
  refine⟨⟨h1.size,0,Te⟩,⟨rfl,by omega,by grind⟩,?_⟩;rw[zae];refine y.set (by omega) λg2 c z2=>?_;intro g3;have k3:Keep g2.size g2 g3:=Keep.push _ _ (zac _);have B3:Blk g3 g2.size [zcn .i64 (m:Int)].toArray:=Blk.new _ _ _;have z3:g3.size=g2.size+1:=zaf _;clear_value g3;have aB:=c.k.size;have au:=c.out.lt;have al:=c.hb;have T3:CR g3 1 (((Xl L m).take q).map λi:Nat=>[zcn .i64 (i:Int)]) ts' bt A:=c.top.frame λhx=>k3.get bt (by rcases c.top.ro.at_ with⟨e5,e6⟩|⟨_,e6,_⟩;grind;exact e6.lt);refine CR.app (E:=(oq:ElemT _ _ _ _ 1 8)) (by omega) T3 B3 rfl (by intro u hu;simp at hu;rw[hu];rfl) (by grind) λs' g4 b' c4 T4 z4 w4 l4 f4=>⟨s',rfl,⟨m+1,_,b',c4,by rw[wrap64 (by omega) (by omega)];omega,w,QR O aa,⟨⟨by omega,λj hj=>?_⟩,?_,c.ln,?_,?_⟩,λi hi=>?_⟩,?_⟩;rw[f4 j (by omega) (by omega),k3.get j (by omega)];exact c.k.get j hj;refine c.out.keep ?_;rw[f4 h1.size (by omega) (by omega),k3.get _ (by omega)];rw[QF,Y,zbc];exact T4;omega;rw[List.getElem?_set];by_cases e:m=i;subst e;rw[zA rfl,zA (by rw[y.ln];exact w),IU];rw[zv e,T i (by omega),Fl L m i (by omega),D];congr 1;have Z:i∈Xl L m↔iW L m i<0:=by rw[yU];rcases Q7 L m i with⟨e7,_⟩|⟨p,e7,_⟩;omega;omega
  by_cases J:i∈(Xl L m).drop q;grind;rw[zv J,zv];rintro⟨h6,h7⟩;have h8:=Z.2 h6;rw[<-zca q (Xl L m)]at h8;grind;grind [je,zae];have ae:m=L.length:=by have:=zI f;omega
  subst ae;have l:qd t=Ta:=by unfold qd;simp only[zam,zG];exact⟨⟨by omega,by omega⟩,by simp_all⟩
  rw[l]at hR;have H:Keep h.size h g:=k1.trans S.k (by omega);have V:AgM M g:=ag.keep H;have ho:outs=pI t.2:=by rw[<-hL];apply zbd;intro i;by_cases hi:i<L.length;rw[hv i hi,SP hi];rw[zby (by rw[S.ln];omega),zby (by rw[R5];omega)]
  refine⟨MxL M g [h1.size],(outs,Ta),MxL.later ag H (by simp_all),⟨[_,_],⟨_,_,rfl,(Y9 rfl).2 ⟨_,rfl,Td ⟨h1.size,0,Te⟩,s2.len,?_,⟨?_,?_⟩,.inr ⟨h1.size,0,_,rfl,MxL.at (by simp) S.out,λi hi=>?_⟩⟩,_,rfl,rdBool _⟩,rfl⟩,by grind⟩;show zfm _ _ _=zfm _ _ _;rw[S.ln,hn];show outs.length<=_;rw[S.ln];omega;show outs.length<=_;rw[S.ln];omega;show cut (outs.map (zcn .i64)).toArray (0+i*1) 1=[zcn .i64 outs[i]];refine uq rfl λq hq=>?_;simp_all
end
section
open Go.ChangeMaps
variable {P:Program} {kt:TypeId}
def nz(l:List (Int×Value))(k:Int):Option Value:=match l with
 |[]=>Te
 |p::l=>if p.1=k then Td p.2 else nz l k
def mC(l:List (Int×Value))(k:Int)(v:Value):List (Int×Value):=match l with
 |[]=>[(k,v)]
 |p::l=>if p.1=k then(k,v)::l else p::mC l k v
def lz(l:List (Int×Value)):List (Value×Value):=l.map λp=>(zcn .i64 p.1,p.2)
structure MapTI (P:Program) (t kt et:TypeId):Prop where
 map:P.underlying t=Td (.map kt et)
 key:P.underlying kt=Td (.int .i64)
theorem Ew(k:Int):∀(f:List MapEntry) (l:List (Int×Value)) (i:Nat),f.map (λe=>(e.key,e.val))=l.map (λp=>(zcn .i64 p.1,p.2)) ->
  (nz l k=Te/\zc8 (.int .i64) (.int .i64 k) f i=Td Te)\/(∃j v e,nz l k=Td v/\f[j]?=Td e/\e.key=.int .i64 k/\e.val=v/\zc8 (.int .i64) (.int .i64 k) f i=Td (Td (i+j,v)) /\ ∀w,(f.modify j λe=>{ e with key:=.int .i64 k,val:=w }).map (λe=>(e.key,e.val))=(mC l k w).map λp=>(zcn .i64 p.1,p.2))
 |[],l,i,h=>by
  have:l=[]:=by cases l <;> simp_all
  subst this;exact .inl ⟨rfl,rfl⟩
 |e::f,l,i,h=>by
  cases l with
  |nil=>simp at h
  |cons p l=>
   simp only[za1,zc9,zci]at h;obtain⟨⟨h1,m⟩,n⟩:=h;by_cases c:p.1=k;refine .inr ⟨0,p.2,e,by simp[nz,c],rfl,by rw[h1,c],m,?_,λw=>?_⟩;have b:(k==p.1)=Ta:=by simpa using c.symm
   simp[zc8,ze2,h1,m,b];simp[mC,c,n];have b:(k==p.1)=Tc:=by simpa using λe=>c e.symm
   rcases Ew k f l (i+1) n with⟨g1,g2⟩|⟨j,v,t,g1,g2,u,o,r,q⟩;refine .inl ⟨by simp[nz,c,g1],?_⟩;simp[zc8,ze2,h1,b,g2];refine .inr ⟨j+1,v,t,by simp[nz,c,g1],by simpa using g2,u,o,?_,λw=>?_⟩;simp[zc8,ze2,h1,b,r];omega;simp[mC,c,h1,m,q w]
theorem QB(c:P.underlying kt=Td (.int .i64))(b:Bool)(k:Int)(h:zc):QExec P (Instr.checkKey b 10000 kt (.int .i64 k)) h ():=by intro B d;have e:=QExec.underlying (h:=h) c B d;unfold Instr.checkKey;simp_all
theorem JZ(c:P.underlying kt=Td (.int .i64))(k:Int)(b:List MapEntry)(r:Option (Nat×Value))(h:zc)(e:zc8 (.int .i64) (.int .i64 k) b 0=Td r):
  QExec P (Instr.findKey kt (.int .i64 k) b) h r:=by
 intro B d;have f:=QExec.underlying (h:=h) c B d;unfold Instr.findKey;simp_all
theorem O3{l:List (Int×Value)}{k:Int}{v:Value}(g:nz l k=Te):mC l k v=l++[(k,v)]:=by
 induction l with
 |nil=>rfl
 |cons p l c=>simp only[nz]at g;split at g;cases g;rename_i b;simp[mC,b,c g]
theorem Pj{t kt et:TypeId}(T:MapTI P t kt et){h:zc}{m:Nat}{l:List (Int×Value)}(H:MapW h m (lz l))(k:Int)(v:Value){K:zc->Prop}
  (y:∀h':zc,MapW h' m (lz (mC l k v))->h'.size=h.size->(∀i,i≠m->h'[i]?=h[i]?)->K h'):XRunU P (zcz t (.map (Td m)) (.int .i64 k) v) h K:=by
 have f:=H.lt;obtain⟨b,c,h1,r,M,J⟩:=H;intro B d;have C:=QExec.underlying (h:=h) T.map B d;have x:=Q3 (P:=P) h1 B d;have D:=QB T.key Tc k h B d;have n:∀o:Obj,(setObj m o).run P (mk B d h)=.ok () (mk B d (h.setIfInBounds m o)):=by intro o;have:(mk B d h).heap[m]?=Td (.map b c):=h1;simp[setObj,Sem.run,this];rfl
 unfold zcz;rcases Ew k b.toList l 0 r with⟨g1,g2⟩|⟨j,O,e,g1,g2,I,L,G,E⟩;refine⟨d,h.setIfInBounds m (.map (b.push { key:=.int .i64 k,val:=v,born:=c }) (c+1)),?_,y _ ⟨b.push { key:=.int .i64 k,val:=v,born:=c },c+1,by simp[f],?_,?_,?_⟩ (by simp) (λi hi=>by grind)⟩;rw[Sem.run_bind,C];simp only[Result.andThen_ok,Sem.run_bind,x,D];rw[JZ T.key k b.toList Te h g2 B d];simp_all;rw[O3 g1];unfold lz at r ⊢;simp[r];grind;grind;have A:j<b.size:=by have:=(za5.1 g2).1;simpa using this
 have w:((b.modify j λe=>{ e with key:=.int .i64 k,val:=v }).toList.map (·.born))=b.toList.map (·.born):=by apply zbd;intro i;simp only[Array.toList_modify,zcc,List.getElem?_modify];by_cases F:j=i;simp_all;simp_all
 refine⟨d,_,?_,y (h.setIfInBounds m (.map (b.modify j λe=>{ e with key:=.int .i64 k,val:=v }) c)) ⟨b.modify j λe=>{ e with key:=.int .i64 k,val:=v },c,by simp[f],?_,?_,?_⟩ (by simp) (λi hi=>by grind)⟩;rw[Sem.run_bind,C];simp only[Result.andThen_ok,Sem.run_bind,x,D];rw[JZ T.key k b.toList _ h G B d];simp only[Result.andThen_ok,zas];have q:((b[j]?).map (·.key)).getD (.int .i64 k)=.int .i64 k:=by
  have:b[j]?=Td e:=by simpa using g2
  rw[this];exact I
 rw[q];have N:zdy (.int .i64 k) (.int .i64 k)=pure (.int .i64 k):=by unfold zdy;rw[zA (by show((IntKind.i64==IntKind.i64)&&(k==k))=Ta;simp)]
 simp_all;have:=E v;unfold lz;grind;intro z u;have:z.born∈((b.modify j λe=>{ e with key:=.int .i64 k,val:=v }).toList.map (·.born)):=zay.2 ⟨z,u,rfl⟩;grind;simp_all
end
section
open Go.Lib
section
def Xc(L:List Int):List Nat:=(zaq L.length).filter λi=>(zaq L.length).all λj=>decide (j<=i)||decide (dK L j≠dK L i)
theorem Cb{L:List Int}{i:Nat}:i∈Xc L↔i<L.length/\∀j,i<j->j<L.length->dK L j≠dK L i:=by unfold Xc;rw[zbv,zbn,za7];refine and_congr_right λ_=>⟨λh j h1 c=>?_,λh j b=>?_⟩;have:=h j (zbn.2 c);simp only[zeh,zG]at this;rcases this with h|h;omega;exact h;simp only[zeh,zG];by_cases e:j<=i;exact .inl e;exact .inr (h j (by omega) (zbn.1 b))
theorem D8(L:List Int):(Xc L).Pairwise (· < ·):=by unfold Xc;exact List.Pairwise.sublist List.filter_sublist List.pairwise_lt_range
def lM(L:List Int)(m:Nat):List Nat->List Nat
 |[]=>[m]
 |p::P=>if dK L p=dK L m then m::P else p::lM L m P
def ko(L:List Int):Nat->List Nat
 |0=>[]
 |m+1=>lM L m (ko L m)
def mX(L:List Int)(i:Nat):Int×Value:=(dK L i,.int .i64 (i:Int))
theorem HO(L:List Int)(m:Nat):∀P:List Nat,mC (P.map (mX L)) (dK L m) (.int .i64 (m:Int))=(lM L m P).map (mX L)
 |[]=>rfl
 |p::P=>by rw[za1,mC,lM];by_cases h:dK L p=dK L m;rw[zA h,zA (show(mX L p).1=dK L m from h),za1];rfl;rw[zv h,zv (show¬(mX L p).1=dK L m from h),za1,HO L m P]
theorem yE{L:List Int}{m:Nat}:∀{P:List Nat},(P.map (dK L)).Nodup->∀i,i∈lM L m P↔i=m\/(i∈P/\dK L i≠dK L m)
 |[],_,i=>by simp[lM]
 |p::P,hn,i=>by rw[za1,zbq]at hn;rw[lM];by_cases h:dK L p=dK L m;rw[zA h,zan,zan];refine or_congr_right ⟨λhi=>⟨.inr hi,λe=>hn.1 ?_⟩,λhi=>?_⟩;rw[h,<-e];exact List.mem_map_of_mem hi;rcases hi.1 with rfl|b;exact absurd h hi.2;exact b;rw[zv h,zan,zan,yE hn.2 i];constructor;rintro(rfl|rfl|b);exact .inr ⟨.inl rfl,h⟩;exact .inl rfl;exact .inr ⟨.inr b.1,b.2⟩;rintro(rfl|⟨rfl|b,c⟩);exact .inr (.inl rfl);exact .inl rfl;exact .inr (.inr ⟨b,c⟩)
theorem EO{L:List Int}{m:Nat}:∀{P:List Nat},(P.map (dK L)).Nodup->((lM L m P).map (dK L)).Nodup
 |[],_=>by simp[lM]
 |p::P,hn=>by have i:=hn;rw[za1,zbq]at hn;rw[lM];by_cases h:dK L p=dK L m;rw[zA h,za1,zbq,<-h];exact hn;rw[zv h,za1,zbq];refine⟨λb=>?_,EO hn.2⟩;obtain⟨q,c,e⟩:=zay.1 b;rcases(yE hn.2 q).1 c with rfl|⟨f,_⟩;exact h e.symm;exact hn.1 (e ▸ List.mem_map_of_mem f)
theorem vN(L:List Int):∀m,((ko L m).map (dK L)).Nodup/\∀i,i∈ko L m↔i<m/\∀j,i<j->j<m->dK L j≠dK L i
 |0=>⟨zdq,λi=>by simp[ko]⟩
 |m+1=>by
  obtain⟨h1,k⟩:=vN L m;refine⟨EO h1,λi=>?_⟩;rw[ko,yE h1,k];constructor;rintro(rfl|⟨⟨a,b⟩,c⟩);exact⟨by omega,λj _ _=>by omega⟩;refine⟨by omega,λj h l=>?_⟩;rcases zb0 j m with f|f;exact b j h f;rw[show j=m from by omega];exact λe=>c e.symm
  rintro⟨a,b⟩;rcases zb0 i m with f|f;exact .inr ⟨⟨f,λj h l=>b j h (by omega)⟩,λe=>b m f (by omega) e.symm⟩;exact .inl (by omega)
theorem Eb{α β:Type}{f:α->β}{l:List α}(h:(l.map f).Nodup):l.Nodup:=by
 induction l with
 |nil=>exact zdq
 |cons x l c=>rw[za1,zbq]at h;exact zbq.2 ⟨λb=>h.1 (List.mem_map_of_mem b),c h.2⟩
theorem Tt(L:List Int):(ko L L.length).Perm (Xc L):=by obtain⟨h1,b⟩:=vN L L.length;refine(List.perm_ext_iff_of_nodup (Eb h1) ((D8 L).imp λh=>Nat.ne_of_lt h)).2 λi=>?_;rw[b,Cb]
end
section
variable {n:Nat}
def OkX(n:Nat)(X:List (Bt×Int)):Prop:=∀j (h:j<X.length),(n:Int)<=X[j].2/\X[j].2<=((n+j:Nat):Int)/\∀i (hi:i<X.length),i<j->X[j].2<=((n+i:Nat):Int)->X[j].2<=X[i].2
theorem OkX.nil(n:Nat):OkX n []:=λj h=>absurd h (zc5 j)
theorem OkX.app{X Y:List (Bt×Int)}(k:OkX n X)(l:OkX (n+X.length) Y):OkX n (X++Y):=by intro j h;rw[zah]at h;by_cases h1:j<X.length;rw[zcp h1];obtain⟨a,b,c⟩:=k j h1;refine⟨a,b,λi hi e f=>?_⟩;rw[zcp (by omega)];exact c i (by omega) e f;rw[zcx (by omega)];obtain⟨a,b,c⟩:=l (j-X.length) (by omega);refine⟨by omega,by omega,λi hi e f=>?_⟩;by_cases m:i<X.length;omega;rw[zcx (by omega)];exact c (i-X.length) (by omega) (by omega) (by omega)
theorem OkX.root{X:List (Bt×Int)}(h:OkX n X)(s:Bt):OkX n (X++[(s,(n:Int))]):=by
 intro j k;rw[zah,zcu]at k;by_cases h1:j<X.length;rw[zcp h1];obtain⟨a,b,c⟩:=h j h1;refine⟨a,b,λi hi e f=>?_⟩;rw[zcp (by omega)];exact c i (by omega) e f;have:j=X.length:=by omega
 subst this;rw[zcx (zac _)];refine⟨by simp,by simp;omega,λi hi e f=>?_⟩;rw[zcp (by omega)];have:=(h i (by omega)).1;simp;exact this
mutual
theorem zO:∀(v:Tr) (n:Nat),OkX n (iC v n)
 |.mk k s ks xs,n=>by rw[iC];refine OkX.root ?_ _;split;exact Dd xs ks n;split;exact Ir xs n;exact OkX.nil n
theorem Ir:∀(l:List Tr) (n:Nat),OkX n (iF l n)
 |[],n=>by rw[iF];exact OkX.nil n
 |x::l,n=>by rw[iF];exact(zO x n).app (Ir l _)
theorem Dd:∀(l:List Tr) (ks:List Bt) (n:Nat),OkX n (ia l ks n)
 |[],_,n=>by rw[ia];exact OkX.nil n
 |x::l,ks,n=>by rw[ia];have h1:=(zO x n).root (nF ks.head!);have b:=h1.app (Y:=ia l ks.tail (n+(iC x n).length+1)) (by rw[zah,zcu,<-Nat.add_assoc];exact Dd l _ _);rw[za9]at b;exact b
end
def sy(X:List (Bt×Int)):List Bt×List Int:=(X.map (·.1),X.map (·.2))
theorem PI{w:Tr}(h:nH w<=512):qd (sy (iC w 0))=Ta:=by
 have l:=rH w 0;unfold qd sy;simp only[zam,zG,zap];refine⟨⟨by simp,by omega⟩,oY.2 λj f=>Xb.2 ?_⟩;have e:∀i (hi:i<(iC w 0).length),dK ((iC w 0).map (·.2)) i=(iC w 0)[i].2:=λi hi=>by unfold dK;rw[zar,zcc,zai hi];rfl
 obtain⟨a,b,c⟩:=zO w 0 j f;rw[e j f];refine⟨by omega,by omega,λi hi k=>?_⟩;rw[e i (by omega)];exact c i (by omega) hi (by omega)
end
end
section
open Go.RowKit
section
variable {g:zc} {b:Nat} {v:Tr}
theorem Lt:yb Tp 31=Ta:=by kernel_rfl
theorem WJ:j4 Tp 31=2:=by kernel_rfl
theorem Sv{x y:Value}(B:Blk g b #[x,y]){s1 s2:Sl}{K:zc->Prop}(f:∀g',(∀j,j≠b->g'[j]?=g[j]?)->g'.size=g.size->Blk g' b #[aK s1,aK s2]->K g'):
  XRunU Tp (zag 31 (.pointer (Td ⟨b,0,Te⟩)) (.agg #[aK s1,aK s2])) g K:=by
 refine Zg (vs:=[aK s1,aK s2]) Lt B rfl WJ (zac _) (λu c=>?_) λg' e i h=>f g' h i e;simp at c;rcases c with rfl|rfl <;> rfl
theorem Later.stay{h g g':zc}{M M':Fr}(L:Later h M g M')(l:h.size<=b)(k:M' b=Te)(f:∀j,j≠b->g'[j]?=g[j]?)(z:g'.size=g.size):Later h M g' M':= ⟨⟨by have:=L.keep.size;omega,λj i=>by rw[f j (by omega)];exact L.keep.get j i⟩,L.le,L.old,λc cs e=>by rw[f c (λh=>by subst h;rw[k]at e;cases e)];exact L.ag c cs e⟩
def Qo(v:Tr):(List Bt×List Int)×Int:=if zh v=Ta then(if 512<nH (zw v)then(([],[]),6)else(sy (iC (zw v) 0),0))else(([],[]),1)
theorem Ly(h:zh v=Ta):Z2 v=zw v:=by unfold Z2;rw[zA (GJ h)]
set_option maxRecDepth 100000 in
set_option maxHeartbeats 1000000 in
theorem OE{gl:Fr}(Y:GL gl)(hb:Brn gl)(hv:Sm v){R:(List Bt×List Int)×Int->Prop}(D:R (Qo v)):PC Tp gl 14 [Arg.mk .tree v] [.pair (.row .str) (.row PJ),.int .i64] R:=by
 intro h M vs hM ag ha
 match vs,ha with
 |[u],⟨Q,_⟩=>
  have Q:RdV M .tree v u:=Q;have I:=Q;obtain⟨sk,si,rfl,rk,ri⟩:=qp Q;apply PX.of;apply TO v.kind v.text sk si;intro h1;have k1:Keep h.size h h1:=Keep.push _ _ (zac _);have z1:h1.size=h.size+1:=zaf _;have B1:Blk h1 h.size #[.int .i64 v.kind,.string v.text,aK sk,aK si]:=Blk.new _ _ _;clear_value h1;intro y;have k2:Keep h1.size h1 y:=Keep.push _ _ (zac _);have z2:y.size=h1.size+1:=zaf _;have R2:Blk y h1.size #[.slice Te 0 0,.slice Te 0 0]:=Blk.new _ _ _;clear_value y;have B2:=B1.ofKeep k2;have aa:Keep h.size h y:=k1.trans k2 (by omega);have L2:Later h M y M:=Later.same ag aa;have done:∀(g:zc) (M':Fr) (t:List Bt×List Int) (e:Int) (s1 s2:Sl),Later y M g M'->Rd M' (.row .str) t.1 [aK s1]->Rd M' (.row PJ) t.2 [aK s2]->R (t,e) ->
    XRunU Tp (zag 31 (.pointer (Td ⟨h1.size,0,Te⟩)) (.agg #[aK s1,aK s2])) g λg'=>∃S U:Sl,ze g' ⟨h1.size,0,Te⟩ 0 [aK S,aK U]/\∃M2 q,Later h M g' M2/\J4 M2 [.pair (.row .str) (.row PJ),.int .i64] q (.tuple #[.agg #[aK S,aK U],.int .i64 e])/\R q:=by
   intro g M' t e s1 s2 L S U P;have nR:M' h1.size=Te:=by rw[L.old _ (by omega)];exact ag.none (by omega)
   refine Sv (R2.keep (L.keep.get _ (by omega))) λg' f z B=>⟨s1,s2,B.ld (cs:=[aK s1,aK s2]),M',(t,e),Later.stay (L2.trans L) (by omega) nR f z,⟨[_,_],⟨_,_,rfl,mI S U,_,rfl,Ja _ _⟩,rfl⟩,P⟩
  refine⟨v.kind,v.text,sk,si,B2.ld (cs:=[_,_,aK sk,aK si]),?_⟩;refine(xc Y hv (R:=λr=>r=zh v) rfl).go (vs:=[.agg #[.int .i64 v.kind,.string v.text,aK sk,aK si]]) hM L2.ag (zr I qj) λw C M8 r J x P=>?_;subst P;refine⟨_,Xh x,λA=>?_,λA=>?_⟩
  ·have A:zh v=Tc:=by simpa using A
   unfold Qo at D;rw[zv (by rw[A];simp)]at D;exact done C M8 ([],[]) 1 ⟨Te,0,0⟩ ⟨Te,0,0⟩ J lA lA D
  have A:zh v=Ta:=by simpa using A
  unfold Qo at D;rw[zA A]at D;have z8:=J.keep.size;intro m;have ab:Keep C.size C m:=Keep.push _ _ (zac _);have ae:m.size=C.size+1:=zaf _;have V:Blk m C.size #[.slice Te 0 0,.slice Te 0 0]:=Blk.new _ _ _;clear_value m;have l:Later y M m M8:=J.trans (Later.same J.ag ab);refine⟨v.kind,v.text,sk,si,(B2.keep (l.keep.get _ (by omega))).ld (cs:=[_,_,aK sk,aK si]),?_⟩;refine(RO Y hv (R:=λr=>r=Z2 v) rfl).go (vs:=[.agg #[.int .i64 v.kind,.string v.text,aK sk,aK si]]) (hM.trans l.le) l.ag (zr (I.mono l.le) qj) λw N E r i x P=>?_;subst P;have H:=Y1.1 x;obtain⟨xk,xi,rfl,y1,y2⟩:=qp H;refine⟨_,_,xk,xi,rfl,?_⟩;have hs:=Ly A;have ac:zh (Z2 v)=Ta:=by rw[OF];exact A
  obtain⟨q1,q2,q3,q4⟩:=Yp ac;have af:=i.keep.size;have nB:E C.size=Te:=by rw[i.old _ (by omega)];exact J.ag.none (by omega)
  have HB:Tb C.size N E C.size [] []:=⟨⟨Te,0,0⟩,⟨Te,0,0⟩,[],[],rfl,V.keep (i.keep.get _ (by omega)),ORow.nil,ORow.nil,λc b=>(by cases b),λb=>(by cases b),λb=>(by cases b),nB,zac _⟩;refine XC.mono (Fh Y hb (aR (Z2 v)) (Z2 v) (by omega) (zac _) q3 (Nn hv) N E C.size [] [] _ i.ag (hM.trans (l.le.trans i.le)) HB (by omega) (za0 _) H) ?_;rintro w h25 ⟨rfl,F,bs,T,s1,s2,b1,b2,rfl,B⟩;rw[zck,zb5,hs]at B;have ah:=T.grow;have O:Later y M h25 F:=by have hk:=l.keep;refine⟨⟨by omega,λj hj=>?_⟩,l.le.trans (i.le.trans T.le),λc b=>?_,T.ag⟩;rw[T.fr j (by omega) (by omega) (by simp),i.keep.get j (by omega)];exact hk.get j hj;rw[T.old c (by omega),i.old c (by omega)];exact l.old c b
  have n:=B.r1.len;rw[zap]at n;have ai:=rH (zw v) 0;refine⟨rfl,s1,by rw[add0];exact B.box.cellAdd (o:=0) (k:=0) rfl,λb=>?_,λb=>?_⟩
  ·have b:=zH b;have:512<nH (zw v):=by unfold iE at n;rw[zbl]at n;omega
   rw[zA this]at D;exact done h25 F ([],[]) 6 ⟨Te,0,0⟩ ⟨Te,0,0⟩ O lA lA D
  ·have b:=zI b;have:¬512<nH (zw v):=by unfold iE at n;rw[zbl]at n;omega
   rw[zv this]at D;have G:=pm (X:=iC (zw v) 0) (by omega);rw[G]at B;refine⟨s1,s2,by rw[add0];exact B.box.ld (cs:=[aK s1,aK s2]),?_⟩;have own:∀c∈b1++b2,y.size<=c:=λc b=>by rcases zaj.1 b with h|h;have:=(B.r1.own c h).1;omega;have:=(B.r2.own c h).1;omega
   have Z:Later y M h25 (MxL F h25 (b1++b2)):=Later.own O own;exact done h25 _ (sy (iC (zw v) 0)) 0 s1 s2 Z (B.r1.rd T.ag (λc b=>zau _ b) (by rw[zap];omega)) (B.r2.rd T.ag (λc b=>zbf _ b) (by rw[zap];omega)) D
end
section
variable {x y:Bool} {a b:Int}
theorem OO(a b:Bt):(a.toList==b.toList)=decide (a=b):=by rw[Qb,Qb,zbe,beq_iff_eq,zG,oN]
theorem WY:(bif x then Ta else y)=Ta↔x=Ta\/y=Ta:=by simp
theorem Kh:(bif x then Ta else y)=Tc↔x=Tc/\y=Tc:=by simp
theorem Ud:(bif x then y else Tc)=Ta↔x=Ta/\y=Ta:=by simp
theorem Uc:(bif x then y else Tc)=Tc↔x=Tc\/y=Tc:=by grind
theorem m8(h:decide (a<b)=Ta):a<b:=zH h
theorem mO(h:decide (a<b)=Tc):¬a<b:=zI h
theorem jy{t:List Bt×List Int}(h:qd t=Ta):t.1.length=t.2.length/\t.2.length<=512/\kP t.2 t.2.length=Ta:=by unfold qd at h;grind
abbrev jQ:Ty:=.pair (.row .str) (.row PJ)
theorem vP{gl:Fr}{t:List Bt×List Int}{R:Bool->Prop}(b:R (qd t)):PC Tp gl 21 [Arg.mk (.pair (.row .str) (.row PJ)) t] [.bool] R:=by apply YR;refine U9 (t:=t) (R:=λr=>R r.2) ?_;grind
end
end
section
open Go.Shelf Go.RowKit
def MM:Go.Shelf.Ren:=⟨fun|189=>64|125=>114|257=>113|128=>177|129=>178|294=>168|295=>169|296=>170|297=>171|298=>172|299=>173|216=>174|300=>175|301=>176|328=>235|329=>236|330=>237|331=>238|332=>239|215=>240|343=>294|n=>n,fun|28=>29|3=>3|46=>123|0=>0|51=>176|53=>178|4=>4|183=>168|182=>167|131=>173|5=>5|9=>9|218=>245|222=>249|228=>299|229=>300|n=>n,fun|n=>n⟩
theorem EV:Go.Proofs.Lays.n189 Tp MM:=by constructor <;> intros <;> kernel_rfl
open Go.Sort Go.RowKit in
theorem ZX(blk off cap:Nat)(c:List Int)(w:World)(h:Holds (zcn .i64) w blk off c.toArray)(b:blk<w.heap.size)(f:c.length<4611686018427387904):
  Calls Tp 64 #[.slice (Td ⟨blk,off,Te⟩) c.length cap] w λe w'=>
   e=.returned (.tuple #[])/\∃n os,w'=grow (putRow (zcn .i64) (Sort.ahead w n) blk off (c.mergeSort λx y=>decide (x<=y)).toArray) os:=Any.slices_Sort_int EV blk off cap c w h b f
open Go.RowKit Go.Sort in
theorem Xw(p:Option Addr)(cap:Nat)(w:World): Calls Tp 64 #[.slice p 0 cap] w λe w'=>e=.returned (.tuple #[])/\w'=w:=Any.slices_Sort_int_none EV p cap w
end
section
open Go.Lib
section
def p7(b:List Bt)(i:Nat):Bt:=b.getD i ⟨#[]⟩
end
section
theorem Fo{α:Type}[DecidableEq α]:∀{xs ys:List α},xs.Nodup->(∀x∈xs,x∈ys)->xs.length<=ys.length
 |[],ys,_,_=>za0 _
 |x::xs,ys,hn,h=>by
  rw[zbq]at hn;have f:=h x za2;have:=Fo (ys:=ys.erase x) hn.2 λy c=>by have b:y≠x:=λe=>hn.1 (e ▸ c);exact(List.mem_erase_of_ne b).2 (h y (za3 _ c))
  have i:=List.length_pos_of_mem f;rw[List.length_erase_of_mem f]at this;rw[zaw];omega
end
end
section
open Go.RowKit Go.Sort Go.Shelf
variable {h:zc}
theorem SK{x:Int}{K:Value->zc->Prop}:Bq Tp 29 1 (.int .i64 x) h K=K (.slice (Td ⟨h.size,0,Te⟩) 1 1) (h.push (.cells #[.int .i64 x] 3)):=by kernel_rfl
theorem mapII:MapTI Tp 79 3 3:=⟨by kernel_rfl,by kernel_rfl⟩
theorem yO{base:Nat}{s:Sl}{xs:List Int}(H:Owns h base 3 1 s (xs.map (zcn .i64))):s.len=xs.length:=by have:=H.length;simp at this;omega
theorem U6{base:Nat}{s:Sl}{xs:List Int}(H:Owns h base 3 1 s (xs.map (zcn .i64)))(q:xs.length<=1000000):
  XC Tp 64 #[.slice s.a s.len s.cap] h λv h'=>v=.tuple #[]/\Owns h' base 3 1 s ((xs.mergeSort λx y=>decide (x<=y)).map (zcn .i64))/\h.size<=h'.size/\∀i,i<h.size->(∀p,s.a=Td p->i≠p.block)->h'[i]?=h[i]?:=by
 refine XC.of_below λB d=>?_;have f:s.len=xs.length:=yO H;rcases H.2 with⟨m,h0⟩|⟨g,cap,k,m,l,C,A,G,z,D⟩;have F:xs=[]:=zbb (by omega);subst F;rw[h0];refine(Xw s.a s.cap (mk B d h)).mono ?_;rintro e w' ⟨rfl,rfl⟩;exact⟨_,rfl,rfl,rfl,rfl,rfl,by rw[List.mergeSort_nil];exact H,zac _,λ_ _ _=>rfl⟩;simp only[zbo]at m;obtain⟨t,_,rfl⟩:=m;have c:(mk B d h).heap[g]?=Td (.cells k 3 (0,0)):=C;have o:g<(mk B d h).heap.size:=(zat.1 c).1;have E:Holds (zcn .i64) (mk B d h) g 0 xs.toArray:=holds_of_blockI c (by rw[<-f];simpa using D);have u:=ZX g 0 s.cap xs (mk B d h) E o (by omega);rw[<-f]at u;rw[t];refine u.mono ?_;rintro e w' ⟨rfl,n,os,rfl⟩;have b:=grownBy_sortedI (w:=mk B d h) (g:=g) (n:=n) (os:=os) (xs.mergeSort λx y=>decide (x<=y)).toArray;refine⟨_,rfl,b.os,b.tape,b.output,rfl,?_,b.size,λi hi j=>b.block i hi λe=>j _ rfl (by simpa using e)⟩;have r:=ownsRow_sortedI (w:=mk B d h) (base:=base) (n:=n) (os:=os) (ss:=xs) (ts:=xs.mergeSort λx y=>decide (x<=y)) (by simp) l c (by rw[<-f];exact A) G (by simpa using z);rw[<-f]at r;show World.ownsRow _ base _ 1 (.slice s.a s.len s.cap) s.len _;rw[t];exact r
theorem Owns.frzI{h g:zc}{M M':Fr}(L:Later h M g M'){s:Sl}{ks:List Int}{base:Nat}(o:Owns g base 3 1 s (ks.map (zcn .i64)))(B:h.size<=base)(D:ks.length<=1000000):
  ∃l,Later h M g l/\Rd l (.row PJ) ks [aK s]:=by
 have r:=yO o;rcases o.2 with⟨j,h0⟩|⟨b,cap,f,j,n,t,A,C,z,w⟩;have u:ks=[]:=zbb (by omega);subst u;simp only[zbo]at j;refine⟨M',L,⟨_,rfl,s.a,s.cap,?_,⟨by simp,by simp⟩,.inl rfl⟩⟩;show aK s=_;unfold aK;rw[h0];rfl;simp only[zbo]at j;obtain⟨x,_,m⟩:=j;have y:Blk g b f:=⟨_,t⟩;refine⟨MxL M' g [b],Later.own L (λc m=>by rw[za6.1 m];omega),⟨_,rfl,s.a,s.cap,?_,⟨by omega,by omega⟩,.inr ⟨b,0,f,x,MxL.at (by simp) y,λi hi=>?_⟩⟩⟩;show aK s=_;unfold aK;rw[r];show cut f (0+i*1) 1=[.int .i64 ks[i]];refine uq rfl λq E=>?_
 have k:q=0:=by omega
 subst k;have e:(f.toList.take (s.len*1))[i]?=(ks.map (zcn .i64))[i]?:=by rw[w]
 rw[zbk,zA (by omega)]at e;rw[show 0+i*1+0=i from by omega,e];simp[hi]
theorem Kt{L:List Int}{xs:List Nat}(h:xs.Perm (Xc L)):((xs.map λi:Nat=>(i:Int)).mergeSort λx y=>decide (x<=y))=(Xc L).map λi:Nat=>(i:Int):=by refine List.Perm.eq_of_pairwise (le:=λa b:Int=>decide (a<=b)=Ta) (λa b _ _ h1 e=>?_) (List.pairwise_mergeSort (λa b c h1 e=>?_) (λa b=>?_) _) (List.pairwise_map.2 ((D8 L).imp λh=>zJ (by omega))) ((List.mergeSort_perm _ _).trans (h.map _));have:=zH h1;have:=zH e;omega;have:=zH h1;have:=zH e;exact zJ (by omega);rw[zeh,zG,zG];omega
set_option maxRecDepth 100000 in
set_option maxHeartbeats 2000000 in
theorem GK{gl:Fr}{t:List Bt×List Int}{R:List Int->Prop}(hR:R (if qd t=Ta then(Xc t.2).map (λi:Nat=>(i:Int))else [])):PC Tp gl 28 [Arg.mk (.pair (.row .str) (.row PJ)) t] [.row PJ] R:=by
 intro h M vs hM ag ha
 match vs,ha with
 |[u],⟨hu,_⟩=>
  obtain⟨s1,s2,rfl,r1,r2⟩:=se (show RdV M (.pair (.row .str) (.row PJ)) t u from hu);apply PX.of;obtain⟨l2,_,_⟩:=rowLen r2;apply Mk s1 s2;intro h1;have L1:Later h M h1 M:=Later.push ag _;have z1:h1.size=h.size+1:=zaf _;have B1:Blk h1 h.size #[aK s1,aK s2]:=Blk.new _ _ _;clear_value h1;refine⟨s1,s2,B1.ld (cs:=[aK s1,aK s2]),?_⟩;refine(vP (gl:=gl) (t:=t) (R:=λr=>r=qd t) rfl).go (vs:=[.agg #[aK s1,aK s2]]) hM L1.ag (zr (a:=Arg.mk (.pair (.row .str) (.row PJ)) t) (mI r1 r2) qj) λw l P r Q Z hr=>?_;subst hr;have E:=L1.trans Q;have z5:=Q.keep.size;refine⟨_,Xh Z,λc=>?_,λc=>?_⟩;have c:qd t=Tc:=by simpa using c
  rw[c]at hR;exact⟨P,[],E,Y1.2 ((Y9 rfl).2 (lA (T:=.int .i64))),hR⟩;have c:qd t=Ta:=by simpa using c
  rw[c,zA rfl]at hR;obtain⟨q1,q2,q3⟩:=jy c;obtain⟨L,hL⟩:∃L,L=t.2:=⟨_,rfl⟩;rw[<-hL]at hR q2 q3 r2 l2;intro G;have k7:Keep l.size l G:=Keep.push _ _ (zac _);have z7:G.size=l.size+1:=zaf _;have W7:MapW G l.size []:=MapW.new _;clear_value G;have B7:Blk G h.size #[aK s1,aK s2]:=(B1.keep (Q.keep.get _ (by omega))).ofKeep k7;refine⟨s2,B7.cellAdd (o:=0) (k:=1) rfl,λi g=>∃m:Nat,i=(m:Int)/\m<=L.length/\g.size=G.size/\(∀j,j≠l.size->g[j]?=G[j]?)/\MapW g l.size (lz ((ko L m).map (mX L))),λi _=>L.length-i.toNat,⟨0,rfl,za0 _,rfl,λ_ _=>rfl,W7⟩,?_⟩;rintro i g ⟨m,rfl,hm,zg,fg,W⟩;have kg:Keep l.size l g:=⟨by omega,λj B=>by rw[fg j (by omega)];exact k7.get j B⟩;have Lg:Later l P g P:=Later.same Q.ag kg;refine⟨λD=>?_,λD=>?_⟩;have y:m<L.length:=by have:=m8 D;omega
  obtain⟨b,o,e1,e2⟩:=vt Lg.ag (r2.mono E.le) (k:=m) y;have V:L[m]=dK L m:=by unfold dK;rw[zar,zai y];rfl
  rw[V]at e2;refine⟨⟨b,o,Te⟩,⟨e1,by omega,by omega⟩,dK L m,by rw[ic,zae];exact e2,?_⟩;refine Pj mapII W (dK L m) (.int .i64 (m:Int)) λg' W' z' f'=>⟨⟨m+1,by rw[je y (by omega)],y,by omega,λj B=>(f' j B).trans (fg j B),?_⟩,by rw[je y (by omega)];simp only[zae];omega⟩;rw[HO]at W';exact W';have ac:m=L.length:=by have:=mO D;omega
  subst ac;obtain⟨ab,z⟩:=vN L L.length;have C:((lz ((ko L L.length).map (mX L))).map (·.1))=((ko L L.length).map (dK L)).map (zcn .i64):=by unfold lz;rw[zav,zav,zav];rfl
  have af:((lz ((ko L L.length).map (mX L))).map (·.1)).Nodup:=by rw[C];exact List.Pairwise.map _ (λa b ai e=>ai (by injection e)) ab
  refine vI mapII.map W λae ar ak U=>⟨Td ⟨g.size,0,Te⟩,rfl,?_⟩;have al:Keep l.size l ae:=kg.trans ak (by omega);refine⟨λout g2=>∃xs:List Nat,xs.Nodup/\(∀x∈xs,x∈ko L L.length)/\MapIt g2 g.size l.size (lz ((ko L L.length).map (mX L))) (xs.reverse.map λi=>zcn .i64 (dK L i))/\Owns g2 (g.size+1) 3 1 out ((xs.map λi:Nat=>(i:Int)).map (zcn .i64))/\g.size+1<=g2.size/\Keep l.size l g2,λ_ g2=>leftN g2 g.size l.size,⟨[],zdq,λx c=>(by cases c),U,Owns.nil _ _ _ _,by omega,al⟩,?_⟩;rintro out g2 ⟨xs,I,A,it,o,au,S⟩;have an:xs.length<=L.length:=by have:=Fo (xs:=xs) (ys:=zaq L.length) I λx c=>zbn.2 ((z x).1 (A x c)).1;rwa[List.length_range]at this
  refine Bm it af (by omega) (λO=>.inl ⟨rfl,(λD=>(by cases D)),λ_=>?_⟩) λk v H hk q am Y z3 f3 aa=>.inr ⟨k,v,rfl,λ_=>BS Y ⟨k,v,rfl,?_⟩,λD=>(by cases D)⟩;have f:xs.Perm (Xc L):=by refine((List.perm_ext_iff_of_nodup I (Eb ab)).2 λp=>⟨A p,λf=>?_⟩).trans (Tt L);have aj:=O (.int .i64 (dK L p),.int .i64 (p:Int)) (by unfold lz;rw[zav];exact zay.2 ⟨p,f,rfl⟩);obtain⟨x,c,e⟩:=zay.1 aj;injection e with _ e;have c:=List.mem_reverse.1 c;obtain⟨a1,a2⟩:=(z x).1 (A x c);obtain⟨b1,b2⟩:=(z p).1 f;rcases Nat.lt_trichotomy x p with h|h|h;exact absurd e.symm (a2 p h b1);rw[<-h];exact c;exact absurd e (b2 x h a1)
  refine XC.mono (U6 o (by rw[zap];omega)) ?_;rintro v g4 ⟨rfl,o4,z4,f4⟩;rw[Kt f]at o4;have Lf:Later l P g4 P:=Later.same Q.ag ⟨by have:=S.size;omega,λj B=>by rw[f4 j (by have:=S.size;omega) λp f=>by have:=o.base_le p f;omega];exact S.get j B⟩;obtain⟨M6,L6,rd⟩:=Owns.frzI Lf o4 (by omega) (by rw[zap,f.symm.length_eq];omega);exact⟨rfl,M6,_,E.trans L6,Y1.2 ((Y9 rfl).2 rd),hR⟩;obtain⟨i,hi,rfl,rfl⟩:∃i,i∈ko L L.length/\k=.int .i64 (dK L i)/\v=.int .i64 (i:Int):=by unfold lz at H;rw[zav]at H;obtain⟨i,hi,e⟩:=zay.1 H;injection e with e1 e2;exact⟨i,hi,e1.symm,e2.symm⟩
  have ah:i∉xs:=λhm=>hk (zay.2 ⟨i,List.mem_reverse.2 hm,rfl⟩);rw[SK];have F:Keep q.size q (q.push (.cells #[.int .i64 (i:Int)] 3)):=Keep.push _ _ (zac _);have z8:(q.push (.cells #[.int .i64 (i:Int)] 3)).size=q.size+1:=zaf _;have V8:Blk (q.push (.cells #[.int .i64 (i:Int)] 3)) q.size #[.int .i64 (i:Int)]:=Blk.new _ _ _;generalize (q.push (.cells #[.int .i64 (i:Int)] 3))=h8 at F z8 V8 ⊢;have o3:Owns q (g.size+1) 3 1 out ((xs.map λi:Nat=>(i:Int)).map (zcn .i64)):=o.keep λp f=>f3 _ (by have:=o.base_le p f;omega);have J:=o3.keepN F;have hl:=yO o;rw[zap]at hl;refine Zw (oq:ElemT _ _ _ _ 1 8) J (src:=⟨Td ⟨q.size,0,Te⟩,1,1⟩) (news:=[.int .i64 (i:Int)]) (n:=h8.size) ?_ rfl (by simp[Value.oneCell']) (by simp only;omega) (by simp only;omega) (by omega) λs' h4 p1 p2 N p4 p5=>⟨s',rfl,⟨xs++[i],?_,?_,?_,?_,by omega,?_⟩,?_⟩;refine .inr ⟨q.size,0,rfl,by omega,λi v V=>?_⟩
  match i,V with
  |0,V=>cases V;exact V8.cell rfl
  rw[zb2];exact⟨I,by simp,λa ha b hb e=>by rw[za6]at hb;subst hb;subst e;exact ah ha⟩;intro x c;rcases zaj.1 c with h|h;exact A x h;rw[za6.1 h];exact hi;rw[List.reverse_append];refine am.keep ?_ ?_;rw[N _ (by omega) λp f=>by have:=J.base_le p f;omega];exact F.get _ (by omega);rw[N _ (by omega) λp f=>by have:=J.base_le p f;omega];exact F.get _ (by omega);rw[zbc,zbc];exact p2;refine⟨by have:=S.size;omega,λj B=>?_⟩;rw[N j (by omega) λp f=>by have:=J.base_le p f;omega,F.get j (by omega),f3 j (by omega)];exact S.get j B;show leftN h4 g.size l.size<leftN g2 g.size l.size;rw[leftN.keep (h:=q) ?_ ?_];exact aa;rw[N _ (by omega) λp f=>by have:=J.base_le p f;omega];exact F.get _ (by omega);rw[N _ (by omega) λp f=>by have:=J.base_le p f;omega];exact F.get _ (by omega)
end
section
open Go.Lib
section
variable {gl:Fr}
theorem GZ:zo Tp 84=Ta:=by kernel_rfl
theorem uE(a b:Bt):(a.toList==b.toList)=decide (a=b):=by rw[zbe];simp only[ByteArray.toList_eq,beq_iff_eq,zG];constructor;intro h;cases a;cases b;simpa using h;intro h;rw[h]
theorem HU{v:Tr}(h:zi v=Ta)(b:v.kind=6):v.keys.Nodup/\v.keys.length=v.items.length:=by refine⟨?_,Yn h b⟩;unfold zi at h;simp[b]at h;have:=h.1.1;unfold yq at this;rw[zam]at this;simpa using this.2
set_option maxHeartbeats 1000000 in
theorem Sp:∀(n:Nat) (a b:Tr),aR a<=n->Sm a->Sm b->yr zi a=Ta->yr zi b=Ta->∀{R:Bool->Prop},R (ji a b)->PC Tp gl 84 [Arg.mk .tree a,Arg.mk .tree b] [.bool] R:=by
 intro n;induction n with
 |zero=>intro a _ h;have:=Qk a;omega
 |succ n ih=>
  intro a b hn P N Q ob R D h M vs hM ag u
  match vs,u with
  |[u1,u2],⟨z,o,_⟩=>
  have z:RdV M .tree a u1:=z;have o:RdV M .tree b u2:=o;obtain⟨sk,si,rfl,rk,ri⟩:=qp z;obtain⟨tk,F,rfl,Y,t⟩:=qp o;obtain⟨li,_,_⟩:=rowLen ri;obtain⟨J,_,_⟩:=rowLen t;apply PX.of;apply OJ a.kind a.text sk si b.kind b.text tk F;intro h1 l;have k1:Keep h.size h h1:=Keep.push _ _ (zac _);have k2:Keep h1.size h1 l:=Keep.push _ _ (zac _);have b1:Blk h1 h.size (zj a.kind a.text sk si).toArray:=Blk.new _ _ _;have b2:Blk l h1.size (zj b.kind b.text tk F).toArray:=Blk.new _ _ _;have z1:h1.size=h.size+1:=zaf _;have z2:l.size=h1.size+1:=zaf _;clear_value h1 l;have c:=b1.ofKeep k2;have kk:Keep h.size h l:=k1.trans k2 (by omega);have C:Later h M l M:=Later.same ag kk;intro K5 aa;have k:∀x:Bool,(x=Ta->ji a b=Tc)->(x=Tc->a.kind=b.kind/\a.text=b.text/\a.items.length=b.items.length)->K5 x l:=by
   intro x ah T;refine aa x l ⟨λf=>⟨M,_,C,Y1.2 (rdBool _),?_⟩,λf=>?_⟩;rw[ah f]at D;exact D;obtain⟨e1,e2,S⟩:=T f;have Z:ji a b=(if a.kind=6 then kH a.keys a.items b else kM a.items b.items):=by rw[Wx];simp[e1,e2,S]
   rw[Z]at D;refine⟨a.kind,c.cellAdd (by rfl),λh6=>?_,λh6=>?_⟩;have e:¬a.kind=6:=by simpa using h6
   rw[zv e,wE _ _ S]at D;refine⟨si,c.cellAdd (by rfl),F,b2.cellAdd (by rfl),?_⟩;refine(VM (gl:=gl) GZ (q:=ji) (xs:=a.items) (ys:=b.items) (λx f y H=>ih x y (by have:=qo f;omega) (P.item f) (N.item H) (qf Q f) (qf ob H) rfl) hM C.ag ri t).go λw aj ae r L j A=>?_;have A:r=_:=A;subst A;refine⟨_,Xh j,ae,_,C.trans L,Y1.2 (rdBool _),?_⟩;rw[S];simpa using D;have e:a.kind=6:=by simpa using h6
   rw[zA e,wK _ _ _ (Yn (qt Q) e)]at D;obtain⟨na,la⟩:=HU (qt Q) e;obtain⟨nb,lb⟩:=HU (qt ob) (by rw[<-e1];exact e);refine⟨a.kind,a.text,sk,si,c.ld (cs:=zj a.kind a.text sk si),b.kind,b.text,tk,F,b2.ld (cs:=zj b.kind b.text tk F),?_⟩;refine vY na la P.items C.ag (qe rk ri) λal m1 ua B am af ra w1=>⟨Td m1,rfl,B.get h1.size (by omega),?_⟩;have m:=C.ag.keep B;refine vY nb lb N.items m (qe Y t) λac m2 ub G ak ab rb w2=>⟨Td m2,rfl,?_⟩;have I:Later h M ac M:=(C.trans (Later.same C.ag B)).trans (Later.same m G);refine(TA (gl:=gl) GZ (q:=ji) na la lb af ab ⟨P.items,N.items⟩ (λx f y H=>ih x y (by have:=qo f;omega) (P.item f) (N.item H) (qf Q f) (qf ob H) rfl) hM I.ag (w1.keep (G.get _ w1.lt)) w2 ra rb).go λw ai V r L j A=>?_;have A:r=_:=A;subst A;refine⟨_,Xh j,V,_,I.trans L,Y1.2 (rdBool _),?_⟩;rw[S];simpa using D
  refine⟨a.kind,c.cellAdd (by rfl),b.kind,b2.cellAdd (by rfl),λO=>k _ (λ_=>?_) (λi=>?_),λO=>?_⟩;rw[Wx];have:¬a.kind=b.kind:=by simpa using O
  simp[this];rw[O]at i;cases i;have U:a.kind=b.kind:=by simpa using O
  refine⟨a.text,c.cellAdd (by rfl),b.text,b2.cellAdd (by rfl),λE=>k _ (λ_=>?_) (λi=>?_),λE=>⟨si,c.cellAdd (by rfl),F,b2.cellAdd (by rfl),k _ (λi=>?_) (λi=>?_)⟩⟩;rw[Wx];have:¬a.text=b.text:=by rw[uE]at E;simpa using E
  simp[this];rw[E]at i;cases i;rw[Wx];have:¬a.items.length=b.items.length:=by rw[li,J]at i;simp at i;omega
  simp[this];have:a.text=b.text:=by rw[uE]at E;simpa using E
  exact⟨U,this,by rw[li,J]at i;simp at i;omega⟩
theorem wD(l:GL gl){a b:Tr}(i:Sm a)(k:Sm b){R:Bool->Prop}(h:R (y8 a&&(y8 b&&ji a b))):PC Tp gl 46 [Arg.mk .tree a,Arg.mk .tree b] [.bool] R:=by
 apply Lc;simp only[Y3];refine ue l i ⟨λr=>r=y8 b,λ_=>ue l k rfl,λr j=>⟨λx=>x=ji a b,λe=>?_,λx f=>?_⟩⟩;cases h1:y8 a with
 |false=>rw[h1]at e;cases e
 |true=>rw[h1,zK]at e;have c:=j h1;rw[e]at c;exact Sp _ a b (zac _) i k (sq h1) (sq c.symm) rfl
 cases h1:y8 a with
 |false=>rw[h1]at h;exact h
 |true=>
  rw[h1]at h f;have c:=j h1;subst c;simp only[zK,zct]at h f ⊢;cases h3:y8 b with
  |false=>rw[h3]at h;exact h
  |true=>rw[h3]at h f;rw[zK,f rfl];exact h
end
section
variable {M gl:Fr} {o:cK} {R:Bool -> Prop}
abbrev X0:Ty:=.pair .str (.pair (.row .str) (.pair (.row .str) .tree))
def zy(s:Bt)(sp sf:Sl)(v:Tr)(sk si:Sl):List Value:=[.string s,aK sp,aK sf,.int .i64 v.kind,.string v.text,aK sk,aK si]
theorem ma{u:Value}(h:RdV M X0 o u):∃sp sf sk si:Sl,u=.agg (zy o.1 sp sf o.2.2.2 sk si).toArray/\RdV M (.row .str) o.2.1 (aK sp)/\RdV M (.row .str) o.2.2.1 (aK sf)/\RdV M .tree o.2.2.2 (.agg (zm o.2.2.2 sk si).toArray):=by
 unfold RdV at h;simp only[hY,if_true]at h;obtain⟨cs,rfl,c1,c2,rfl,h1,z,C,rfl,m,B,i,rfl,n,r⟩:=h;have h1:c1=[.string o.1]:=h1;subst h1;obtain⟨A,w,a2,e,t,g2⟩:=m;obtain⟨y,q,j,c,k,x⟩:=n;subst w;subst q;subst t;subst k;have b:RdV M .tree o.2.2.2 (.agg i.toArray):=by unfold RdV;simp only[hY,if_true];exact⟨_,rfl,r⟩
 obtain⟨sk,si,f,_⟩:=qp b;have l:i=zm o.2.2.2 sk si:=by injection f with f;exact congrArg zdu f
 subst l;refine⟨⟨a2,o.2.1.length,e⟩,⟨j,o.2.2.1.length,c⟩,sk,si,rfl,?_,?_,b⟩;rw[Y9 rfl];exact⟨_,rfl,a2,e,rfl,g2⟩;rw[Y9 rfl];exact⟨_,rfl,j,c,rfl,x⟩
theorem VF{v:Tr}(i:v.keys.length<=1000000000)(hi:v.items.length<=1000000000000)(h:R (ng v)):PC Tp gl 79 [Arg.mk .tree v] [.bool] R:=by
 apply VV;have e:(bif (bif ((v.kind:Int)==0)then((v.text:Bt).toList==((⟨#[]⟩:Bt):Bt).toList)else Tc)then((w6 (((zcf v.keys:Nat):Int)+((zcf v.items:Nat):Int)):Int)==0)else Tc)=ng v:=by rw[io (by omega),zbe];unfold ng;simp only[zem,zam,beq_iff_eq,zG,ByteArray.toList_eq,lb];constructor;rintro⟨⟨h1,b⟩,c⟩;exact⟨h1,b,zbb (by omega),zbb (by omega)⟩;rintro⟨h1,b,c,f⟩;exact⟨⟨h1,b⟩,by rw[c,f];rfl⟩
 rw[e];exact h
theorem xF(s:Bt)(a:Array UInt8):(s.toList==(⟨a⟩:Bt).toList)=decide (lb s=a.toList):=by rw[zbe];simp[ByteArray.toList_eq,lb]
structure OpS (o:cK):Prop where
 p:SL o.2.1
 f:SL o.2.2.1
 v:Sm o.2.2.2
theorem TI{s:Bt}{R:Bool×Bool×Bool->Prop}(h:R (xb (lb s))):PC Tp gl 77 [Arg.mk .str s] [.bool,.bool,.bool] R:=by
 apply UO;simp only[xF];unfold xb mS wq nn mV oA Y4 at h;intro K i;have c:(lb s=[97,100,100]\/lb s=[114,101,112,108,97,99,101]\/lb s=[116,101,115,116])->K Ta:=λe=>i Ta ⟨λ_=>by rw[zA e]at h;exact h,(λe=>by cases e)⟩;have j:¬(lb s=[97,100,100]\/lb s=[114,101,112,108,97,99,101]\/lb s=[116,101,115,116])->K Tc:=λe=>i Tc ⟨(λe=>by cases e),λ_=>by rw[zv e]at h;refine⟨λh1=>⟨λ_=>?_,λb=>?_⟩,λh1=>⟨λb=>?_,λb=>?_⟩⟩;rw[zA (.inl (by simpa using h1))]at h;exact h;rw[h1]at b;cases b;rw[zA (.inr (by simpa using b))]at h;exact h;rw[zv (λf=>by rcases f with f|f <;> simp_all)]at h;exact h⟩;refine⟨λh1=>?_,λh1=>⟨λb=>?_,λb=>?_⟩⟩;rw[h1];exact c (.inl (by simpa using h1));rw[b];exact c (.inr (.inl (by simpa using b)));cases h3:decide (lb s=#[116,101,115,116].toList)with
 |true=>exact c (.inr (.inr (by simpa using h3)))
 |false=>exact j (by rintro(f|f|f) <;> simp_all)
theorem DU(m:GL gl)(b:OpS o)(h:R (qm o)):PC Tp gl 44 [Arg.mk X0 o] [.bool] R:=by
 apply Ss;refine TI ?_;simp only[Y3];intro K t;have j:qm o=Tc->K Ta:=λu=>t Ta ⟨λ_=>by rw[u]at h;exact h,(λr=>by cases r)⟩;refine⟨λh1=>?_,λh1=>?_⟩;rw[h1];exact j (by unfold qm;simp at h1;simp[h1]);have n:(xb (lb o.1)).2.2=Ta:=by simpa using h1
 refine Aj m b.p ⟨λc=>?_,λc=>?_⟩;rw[c];exact j (by unfold qm;simp at c;simp[c]);have k:wn o.2.1=Ta:=by simpa using c
 refine Aj m b.f ⟨λi=>?_,λi=>?_⟩;rw[i];exact j (by unfold qm;simp at i;simp[i]);have q:wn o.2.2.1=Ta:=by simpa using i
 have e:(bif (!(xb (lb o.1)).2.1)then(decide (((zcf o.2.2.1:Nat):Int)>0))else Tc)=!((xb (lb o.1)).2.1||decide (o.2.2.1=[])):=by
  rw[zbe];cases(xb (lb o.1)).2.1 with
  |true=>simp
  |false=>simp[zb9]
 rw[e];cases h4:((xb (lb o.1)).2.1||decide (o.2.2.1=[]))with
 |false=>exact j (by unfold qm;rw[h4];simp)
 |true=>
  have w:qm o=(bif (xb (lb o.1)).1 then zh o.2.2.2 else ng o.2.2.2):=by unfold qm;rw[n,k,q,h4];rfl
  rw[w]at h;refine t Tc ⟨(λr=>by cases r),λ_=>⟨λl=>?_,λl=>?_⟩⟩;rw[l]at h;exact xc m b.v h;rw[l]at h;exact VF (by have:=b.v.keys;omega) b.v.items h
theorem EF{sp sf sk si:Sl}(f:RdV M (.row .str) o.2.1 (aK sp))(c:RdV M (.row .str) o.2.2.1 (aK sf))(b:RdV M .tree o.2.2.2 (.agg (zm o.2.2.2 sk si).toArray)):RdV M X0 o (.agg (zy o.1 sp sf o.2.2.2 sk si).toArray):=by
 rw[Y9 rfl]at f c;unfold RdV at b ⊢;simp only[hY,if_true]at b ⊢;obtain⟨cs,e,b⟩:=b;have e:zm o.2.2.2 sk si=cs:=by injection e with e;simpa using congrArg zdu e
 subst e;exact⟨zy o.1 sp sf o.2.2.2 sk si,rfl,[.string o.1],_,rfl,rfl,[aK sp],_,rfl,f,[aK sf],_,rfl,c,b⟩
end
end
section
open Go.RowKit
variable {g:zc} {ks:List Bt} {bs:List Nat} {c:Nat}
def OPath(g:zc)(ks:List Bt)(bs:List Nat)(s:Sl):Prop:=
 s.len=ks.length/\ks.length<=s.cap/\ks.length<=140737488355328/\((ks=[]/\bs=[])\/∃b cs,bs=[b]/\s.a=Td ⟨b,0,Te⟩/\Blk g b cs/\cut cs 0 ks.length=ks.map zaz)
theorem OPath.frame{g g':zc}{s:Sl}(H:OPath g ks bs s)(f:∀b∈bs,g'[b]?=g[b]?):OPath g' ks bs s:=by obtain⟨h1,h,j,i⟩:=H;refine⟨h1,h,j,i.imp id ?_⟩;rintro⟨b,cs,rfl,c,k,e⟩;exact⟨b,cs,rfl,c,k.keep (f b (by simp)),e⟩
theorem OPath.nil:OPath g [] [] ⟨Te,0,0⟩:=⟨rfl,zac _,by simp,.inl ⟨rfl,rfl⟩⟩
theorem OPath.rd{M:Fr}{s:Sl}(H:OPath g ks bs s)(h:∀b∈bs,∀cs,Blk g b cs->M b=Td cs):Rd M (.row .str) ks [aK s]:=by
 obtain⟨h1,f,j,m⟩:=H;refine⟨_,rfl,s.a,s.cap,by rw[aK,h1],⟨j,f⟩,?_⟩;rcases m with⟨h0,_⟩|⟨b,cs,rfl,k,n,l⟩;exact .inl h0;refine .inr ⟨b,0,cs,k,h b (by simp) cs n,λi hi=>?_⟩;have e:(cut cs 0 ks.length)[i]?=Td (zaz ks[i]):=by rw[l,zcc,zai hi];rfl
 rw[zk,zA hi,zas]at e;show cut cs (0+i*1) 1=[.string ks[i]];apply zbd;intro q;rw[zk];by_cases c:q<1;have:q=0:=by omega
 subst this;rw[zA c,show 0+i*1+0=i by omega,e];rfl;rw[zv c,zby (by simp;omega)]
structure DAx where
 sp:Sl
 bp:List Nat
 sk:Sl
 si:Sl
 bv:List Nat
abbrev DA:=List (cK×DAx)
def dC(p:cK×DAx):List Value:=zy p.1.1 p.2.sp ⟨Te,0,0⟩ p.1.2.2.2 p.2.sk p.2.si
def dO(p:cK×DAx)(c:Nat):Prop:=c∈p.2.bp\/c∈p.2.bv
def iq(na:DA)(sl:Sl)(b c:Nat):Prop:=(sl.cap≠0/\c=b)\/∃p∈na,dO p c
structure DI (lo:Nat) (g:zc) (M:Fr) (p:cK×DAx):Prop where
 path:OPath g p.1.2.1 p.2.bp p.2.sp
 frm:p.1.2.2.1=[]
 val:OT g p.1.2.2.2 p.2.bv (zm p.1.2.2.2 p.2.sk p.2.si)
 own:∀c,dO p c->lo<=c/\c<g.size/\M c=Te
 dj:∀c∈p.2.bp,c∉p.2.bv
structure DStp (lo:Nat) (g:zc) (M:Fr) (na:DA) (sl:Sl) (b:Nat) (cs:Array Value):Prop where
 cr:CR g 7 (na.map dC) sl b cs
 lb:sl.cap≠0->lo<=b/\b<g.size/\M b=Te
 nd:∀p∈na,DI lo g M p
 dj:∀(i j:Nat) (p p':cK×DAx) (c:Nat),na[i]?=Td p->na[j]?=Td p'->dO p c->dO p' c->i=j
 nb:∀p∈na,¬dO p b
section
variable {lo : Nat} {g g' : zc} {M M' : Fr} {na : DA} {sl : Sl} {b : Nat} {cs : Array Value} {p : cK × DAx}
theorem DI.frame(H:DI lo g M p)(hz:g.size<=g'.size)(f:∀c,dO p c->g'[c]?=g[c]?)(e:∀c,dO p c->M' c=Te):DI lo g' M' p:= ⟨H.path.frame λc b=>f c (.inl b),H.frm,H.val.frame λc b=>f c (.inr b),λc b=>⟨(H.own c b).1,by have:=(H.own c b).2.1;omega,e c b⟩,H.dj⟩
theorem DStp.len(H:DStp lo g M na sl b cs):sl.len=na.length:=by rw[H.cr.ln,zap]
theorem DStp.own(H:DStp lo g M na sl b cs)(h:iq na sl b c):lo<=c/\c<g.size/\M c=Te:=by rcases h with⟨h1,rfl⟩|⟨p,e,h⟩;exact H.lb h1;exact(H.nd p e).own c h
theorem DStp.frame(H:DStp lo g M na sl b cs)(hz:g.size<=g'.size)(f:∀c,iq na sl b c->g'[c]?=g[c]?)(j:∀c,iq na sl b c->M' c=Te):DStp lo g' M' na sl b cs:=by refine⟨H.cr.frame λh=>f b (.inl ⟨?_,rfl⟩),λh=>by have:=H.lb h;exact⟨this.1,by omega,j b (.inl ⟨h,rfl⟩)⟩,λp e=>(H.nd p e).frame hz (λc i=>f c (.inr ⟨p,e,i⟩)) λc i=>j c (.inr ⟨p,e,i⟩),H.dj,H.nb⟩;rcases h with h|h;have:=H.cr.ln;have k:=H.cr.ro.le;have:=zb9.2 h;omega;exact h
theorem DStp.nil:DStp lo g M [] ⟨Te,0,0⟩ b cs:= ⟨⟨⟨zac _,.inl ⟨rfl,rfl⟩⟩,rfl,λi e h=>(by cases h)⟩,λh=>absurd rfl h,λp f=>(by cases f),λi j p k c h=>(by cases h),λp f=>(by cases f)⟩
theorem Ms(p:cK×DAx):∀u∈dC p,u.oneCell'=Ta:=by intro u b;unfold dC zy aK at b;simp at b;rcases b with rfl|rfl|rfl|rfl|rfl|rfl|rfl <;> rfl
theorem DStp.push{t e:TypeId}{N:Value}{bytes:Nat}(E:ElemT Tp t e N 7 bytes)(A:bytes<=1000){ty:TypeId}(ag:AgM M g)(H:DStp lo g M na sl b cs)(J:DI lo g M p)(ap:∀c,dO p c->¬iq na sl b c)(O:lo<=g.size){bv cv:Nat}(P:Blk g bv (dC p).toArray)(B:na.length<=1000000){K:Value->zc->Prop} (L:∀(n:Sl) (g':zc) (b':Nat) (cs':Array Value),DStp lo g' M (na++[p]) n b' cs'->g.size<=g'.size->(∀c,iq (na++[p]) n b' c->iq na sl b c\/dO p c\/g.size<=c)->(∀j,j<g.size->¬iq na sl b j->g'[j]?=g[j]?)->K (.slice n.a n.len n.cap) g'):
  qu Tp (zao #[t,t] ty #[.slice sl.a sl.len sl.cap,.slice (Td ⟨bv,0,Te⟩) 1 cv]) g K:=by
 have z:∀c,g.size<=c->M c=Te:=by
  intro c k;cases e:M c with
  |none=>rfl
  |some cs=>have:=ag.lt e;omega
 refine CR.app E A H.cr P rfl (Ms _) (by rw[zap];exact B) λn g' b' cs' C G x w I=>?_;have l:iq na sl b b'\/g.size<=b':=by rcases x with⟨u,Q⟩|u;exact .inl (.inl ⟨by have:=H.cr.ro.le;omega,u⟩);exact .inr u
 have y:∀q∈na++[p],¬dO q b':=λq f k=>by rcases zaj.1 f with f|f;rcases x with⟨u,_⟩|u;rw[u]at k;exact H.nb q f k;have:=((H.nd q f).own b' k).2.1;omega;rw[za6.1 f]at k;rcases l with h|h;exact ap b' k h;have:=(J.own b' k).2.1;omega
 have r:∀q∈na++[p],DI lo g M q:=λq f=>by rcases zaj.1 f with f|f;exact H.nd q f;rw[za6.1 f];exact J
 refine L n g' b' cs' ⟨by rw[zbc];exact C,λ_=>?_,λq f=>?_,?_,y⟩ G (λc k=>?_) (λj D B=>I j D λe=>?_);rcases l with h|h;have:=H.own h;exact⟨this.1,w,this.2.2⟩;exact⟨by omega,w,z b' h⟩;exact(r q f).frame G (λc k=>I c ((r q f).own c k).2.1 λe=>y q f (e ▸ k)) λc k=>((r q f).own c k).2.2
 intro i j q F c hi D k o;have key:∀(i:Nat) (q:cK×DAx),(na++[p])[i]?=Td q->na[i]?=Td q\/(i=na.length/\q=p):=λi q hi=>by
  rw[List.getElem?_append]at hi;split at hi;exact .inl hi;rename_i h;cases h0:i-na.length with
  |zero=>rw[h0]at hi;exact .inr ⟨by omega,by simpa using hi.symm⟩
  |succ m=>rw[h0]at hi;simp at hi
 rcases key i q hi with h1|⟨h1,rfl⟩ <;> rcases key j F D with h2|⟨h2,rfl⟩;exact H.dj i j q F c h1 h2 k o;exact absurd (.inr ⟨q,zcg h1,k⟩) (ap c o);exact absurd (.inr ⟨F,zcg h2,o⟩) (ap c k);omega;rcases k with⟨_,rfl⟩|⟨q,f,k⟩;rcases l with h|h;exact .inl h;exact .inr (.inr h);rcases zaj.1 f with f|f;exact .inl (.inr ⟨q,f,k⟩);rw[za6.1 f]at k;exact .inr (.inl k);subst e;rcases l with h|h;exact B h;omega
def mQ(na:DA)(sl:Sl)(b:Nat):List Nat:=(if sl.cap=0 then []else [b])++na.flatMap λp=>p.2.bp++p.2.bv
theorem uT:c∈mQ na sl b↔iq na sl b c:=by unfold mQ iq dO;rw[zaj,zbw];simp only[zaj];by_cases h:sl.cap=0;simp[h];simp[h]
theorem DStp.rd(H:DStp lo g M na sl b cs)(ag:AgM M g)(A:na.length<=1000000):Rd (MxL M g (mQ na sl b)) (.row X0) (na.map (·.1)) [aK sl]:=by
 have w:=H.len;have z:=H.cr.ro.le;refine⟨_,rfl,sl.a,sl.cap,by rw[aK,w,zap],⟨by rw[zap];omega,by rw[zap];omega⟩,?_⟩;by_cases h0:na=[];subst h0;exact .inl rfl;obtain⟨y,j⟩:=H.cr.blk (by simpa using h0);have n:=zb9.2 h0;refine .inr ⟨b,0,cs,y,MxL.at (uT.2 (.inl ⟨by omega,rfl⟩)) j,λi hi=>?_⟩;have f:i<na.length:=by simpa using hi
 have u:na[i]?=Td na[i]:=zai f;have k:na[i]∈na:=zak f;have e:=(H.cr.el i (dC na[i]) (by rw[zcc,u];rfl)).2;have l:sz X0=7:=rfl;rw[l,zas,e,zb3];have D:=H.nd _ k;have t:Rd (MxL M g (mQ na sl b)) (.row .str) na[i].1.2.1 [aK na[i].2.sp]:=D.path.rd λc m cs' j=>MxL.at (uT.2 (.inr ⟨_,k,.inl m⟩)) j;have x:Rd (MxL M g (mQ na sl b)) (.row .str) na[i].1.2.2.1 [aK ⟨Te,0,0⟩]:=by rw[D.frm];exact⟨_,rfl,Te,0,rfl,⟨by simp,by simp⟩,.inl rfl⟩
 have q:RdV (MxL M g (mQ na sl b)) .tree na[i].1.2.2.2 (.agg (zm na[i].1.2.2.2 na[i].2.sk na[i].2.si).toArray):=by unfold RdV;simp only[hY,if_true];exact⟨_,rfl,D.val.rd λc m cs' j=>MxL.at (uT.2 (.inr ⟨_,k,.inr m⟩)) j⟩
 have:=EF (M:=MxL M g (mQ na sl b)) (o:=na[i].1) (sf:=⟨Te,0,0⟩) ((Y9 rfl).2 t) ((Y9 rfl).2 x) q;unfold RdV at this;simp only[hY,if_true]at this;obtain⟨cs',h,r⟩:=this;have h:zy na[i].1.1 na[i].2.sp ⟨Te,0,0⟩ na[i].1.2.2.2 na[i].2.sk na[i].2.si=cs':=by injection h with h;simpa using congrArg zdu h
 subst h;exact r
end
end
section
open Go.Sort Go.Lib
theorem Ib{P:Program}{t e:TypeId}{z:Value}{sz bytes:Nat}(T:ElemT P t e z sz bytes){ty:TypeId}{h:zc}{p:Addr}{n N:Nat}{olds:List Value}(E:olds.length=n*sz)(k:∀j v,olds[j]?=Td v->zd h (p.add j)=Td v) {src:Sl} {news:List Value} (I:Arr N h src.a news) (F:news.length=src.len*sz) (f:(n+src.len)*bytes<=140737488355328) (C:n+src.len<=4611686018427387904) {K:Value->zc->Prop} (h0:src.len=0->K (.slice (Td p) n n) h) (D:∀(c:Nat) (h':zc) (l:Array Value),0<src.len->n+src.len<=c->Blk h' h.size l->l.toList.take (olds++news).length=olds++news->Keep h.size h h'->K (.slice (Td ⟨h.size,0,Te⟩) (n+src.len) c) h'):
  qu P (zao #[t,t] ty #[.slice (Td p) n n,.slice src.a src.len src.cap]) h K:=by
 intro B d;obtain⟨i,hi,hz,r,x⟩:=T.info;have A:=T.slice;subst r x;by_cases y:src.len=0;refine⟨_,d,h,?_,h0 y⟩;rw[y];generalize src.a=q;cases q <;> simp[zao,run_underlying A,sizeOf,typeInfo,hi,zfn,zc3,loadCells,loadCellsFrom,storeCells];rcases I with m|⟨b,o,m,M,L⟩;subst m;have:=Nat.mul_pos (Nat.pos_of_ne_zero y) T.pos;grind;rw[m];have G:=run_append_grow (P:=P) (ty:=ty) (w:=mk B d h) t e i z A hi hz p n n olds E (λj v J=>k j v J) ⟨b,o,Te⟩ src.len src.cap news F (λj u H=>by rw[zf];exact L j u H) (by omega) (by omega) (growslice_fits (by omega) f);refine⟨_,_,_,G,D _ _ (olds.toArray++news.toArray++zb7 z.cells (grownCap (mk B d h) (n+src.len) n e-(n+src.len))) (by omega) (grownCap_ge _ _ _ _) (Blk.new h _ e) ?_ (Keep.push _ _ (zac _))⟩;grind
end
end Go.X
