/- A part of the proof: nothing is stated here for its own sake. -/
import Derived.Test.YtbploiccompocaaGreatDoorPjE
import Derived.Lib.AppendZerosOnto
import Derived.Lib.Overlaps
open _root_.Go.Addr renaming add->Aj
open _root_.Array renaming ext'->EL,getElem?_eq_some_iff->Ac,getElem?_push->BM,getElem?_setIfInBounds_ne->AL,getElem?_toList->A0,size_push->Ak,toList->Dk
open _root_.Bool renaming and_eq_true->AI,and_false->EI,cond_false_right->Bg,eq_iff_iff->AB,true_and->Bi
open _root_.Go.Builtin renaming append_->Au,clear_->Eb,copy_->Dp,firstCells->CC,len_->CV,zeroCells->Bv
open _root_.Go.Instr renaming keyThatStays->Eo,lookup->Eg,mapUpdate->C4,next->E7,range->E3,storeAt->Ai
open _root_.Int renaming toNat_natCast->Ad,toNat_zero->C3
open _root_.Go.IntKind renaming wrap->Aa
open _root_.List renaming all_append->CR,all_eq_true->AQ,append_assoc->AP,append_nil->Bf,cons_append->A5,drop_drop->Cd,drop_eq_getElem_cons->AE,drop_eq_nil_of_le->A6,drop_length->Cw,drop_take->Ew,drop_zero->A2,eq_nil_of_length_eq_zero->Av,ext_getElem?->A7,getD_eq_getElem?_getD->Bl,getElem?_append_left->Bo,getElem?_append_right->Bj,getElem?_drop->AJ,getElem?_eq_getElem->Am,getElem?_eq_none->Bu,getElem?_eq_some_iff->Az,getElem?_map->B5,getElem?_take->AF,getElem_mem->As,getElem_of_mem->Bc,length->Bb,length_append->Ao,length_cons->Ay,length_drop->AY,length_nil->Dh,length_pos_iff->A3,length_take->AR,map_append->BF,map_cons->Dq,map_map->EJ,mem_append->An,mem_cons->Af,mem_cons_self->Ar,mem_flatMap->BA,mem_map->BN,mem_of_getElem?->CF,mem_of_mem_drop->Cp,mem_of_mem_take->BI,mem_singleton->Be,nil_append->BP,nodup_append->A9,nodup_cons->CQ,range->BJ,size_toArray->DZ,take_append_drop->Br,take_length->AD,take_of_length_le->AX,take_succ_cons->BV,take_succ_eq_append_getElem->Ag,take_take->Ex,take_zero->Cz
open _root_.List.cons renaming injEq->Cq
open _root_.Nat renaming add_mul->BH,le_refl->Ae,lt_or_ge->AZ,min_eq_left->C5,mul_le_mul_right->AM,mul_one->Cg,one_mul->Dj,sub_zero->Ca,succ_mul->DI,zero_add->AH,zero_le->CY,zero_mul->Di
open _root_.Option renaming bind_some->Cu
open _root_.Option.some renaming inj->Ax
open _root_.Go.Proofs.Tryz renaming prog->AK,underlying9->Bh
open _root_.Go.Value renaming agg->E6,string->AU
open _root_.Go.Value.slice renaming injEq->AO
set_option linter.unusedVariables false
set_option maxRecDepth 100000
namespace Go.X
end Go.X
namespace Go.Proofs
end Go.Proofs
open Go Go.X Go.Proofs
section
namespace Go.X
section
theorem zlc(b:Int)(c:Bt)(d:Sl)(e:Sl)(l1:Sl)(h:zb)(R:Value->zb->Prop)
  (H:let f:=h.push (.cells #[.int .i64 b,.string c,slV d,slV e] 25);let g:=f.push (.cells #[.int .i64 0,.string (⟨#[]⟩:Bt),.slice none 0 0,.slice none 0 0] 25);∃i j k l,ze g ⟨h.size,0,none⟩ 0 [.int .i64 i,.string j,slV k,slV l]/\XC Tp 21 #[.agg #[.int .i64 i,.string j,slV k,slV l]] g (λm n=>∃o,m=.bool o/\((!o)=true->XRunU Tp (Ai 25 (.pointer (some ⟨f.size,0,none⟩)) (.agg #[.int .i64 0,.string (⟨#[]⟩:Bt),.slice none 0 0,.slice none 0 0])) n (λp=>∃q r s t,ze p ⟨f.size,0,none⟩ 0 [.int .i64 q,.string r,slV s,slV t]/\R (.tuple #[.agg #[.int .i64 q,.string r,slV s,slV t],.int .i64 0,.int .i64 1]) p))/\((!o)=false->∃u v w x,ze n ⟨h.size,0,none⟩ 0 [.int .i64 u,.string v,slV w,slV x]/\XC Tp 32 #[.agg #[.int .i64 u,.string v,slV w,slV x]] n (λy z=>∃A B C D,y=.agg #[.int .i64 A,.string B,slV C,slV D]/\let E:=z.push (.cells #[.int .i64 A,.string B,slV C,slV D] 59);∃(F:Int->zb->Prop) (G:Int->zb->Nat),F 0 E/\∀I:Int,∀J:zb,F I J->((decide (I<l1.len)=true->∃L,(l1.a=some L/\0<=I/\I<l1.len)/\∃M N O P Q S T,ze J (L.add (I.toNat*7)) 0 [.string M,slV N,slV O,.int .i64 P,.string Q,slV S,slV T]/\let U:=J.push (.cells #[.string (⟨#[]⟩:Bt),.slice none 0 0,.slice none 0 0,.int .i64 0,.string (⟨#[]⟩:Bt),.slice none 0 0,.slice none 0 0] 38);XRunU Tp (Ai 38 (.pointer (some ⟨J.size,0,none⟩)) (.agg #[.string M,slV N,slV O,.int .i64 P,.string Q,slV S,slV T])) U (λV=>∃W X Y Z aa ab ac,ze V ⟨J.size,0,none⟩ 0 [.string W,slV X,slV Y,.int .i64 Z,.string aa,slV ab,slV ac]/\XC Tp 33 #[.pointer (some ⟨z.size,0,none⟩),.agg #[.string W,slV X,slV Y,.int .i64 Z,.string aa,slV ab,slV ac]] V (λad ae=>∃af,ad=.int .i64 af/\((af != 0)=true->XRunU Tp (Ai 25 (.pointer (some ⟨f.size,0,none⟩)) (.agg #[.int .i64 0,.string (⟨#[]⟩:Bt),.slice none 0 0,.slice none 0 0])) ae (λag=>∃ah ai aj ak,ze ag ⟨f.size,0,none⟩ 0 [.int .i64 ah,.string ai,slV aj,slV ak]/\R (.tuple #[.agg #[.int .i64 ah,.string ai,slV aj,slV ak],.int .i64 I,.int .i64 af]) ag))/\((af != 0)=false->(F (Aa .i64 (I+1)) ae/\G (Aa .i64 (I+1)) ae<G I J)))))/\(decide (I<l1.len)=false->∃al,some ⟨z.size,0,none⟩=some al/\∃am an ao ap,ze J (Aj al 0) 0 [.int .i64 am,.string an,slV ao,slV ap]/\XRunU Tp (Ai 25 (.pointer (some ⟨f.size,0,none⟩)) (.agg #[.int .i64 am,.string an,slV ao,slV ap])) J (λaq=>∃ar au av aw,ze aq ⟨f.size,0,none⟩ 0 [.int .i64 ar,.string au,slV av,slV aw]/\R (.tuple #[.agg #[.int .i64 ar,.string au,slV av,slV aw],.int .i64 (l1.len:Int),.int .i64 0]) aq))))))):
  XC Tp 13 #[.agg #[.int .i64 b,.string c,.slice d.a d.len d.cap,.slice e.a e.len e.cap],.slice l1.a l1.len l1.cap] h R:=
 XF ⟨[],[(5,[(21,.one (.int .i64))])],[]⟩ [.cell 4 25,.tmp 5,.tmp 6] 41 Tryz.func13 H
theorem zf1(d0:Option Addr)(b:Bt)(c:Sl)(d:Sl)(e:Int)(f:Bt)(g:Sl)(i:Sl)(h:zb)(R:Value->zb->Prop)
  (H:let j:=h.push (.cells #[.string b,slV c,slV d,.int .i64 e,.string f,slV g,slV i] 38);∃k l m n o p q,ze j ⟨h.size,0,none⟩ 0 [.string k,slV l,slV m,.int .i64 n,.string o,slV p,slV q]/\XC Tp 17 #[.agg #[.string k,slV l,slV m,.int .i64 n,.string o,slV p,slV q]] j (λr s=>∃t,r=.bool t/\((!t)=true->R (.int .i64 1) s)/\((!t)=false->∀u:Value->zb->Prop,(∀v:Value,∀w:zb,(∃x y z A B C D,ze w ⟨h.size,0,none⟩ 0 [.string x,slV y,slV z,.int .i64 A,.string B,slV C,slV D]/\qb9 Tp v #[.agg #[.string x,slV y,slV z,.int .i64 A,.string B,slV C,slV D]] (λE F=>XC Tp E F w (λG I=>∃J,G=.int .i64 J/\((J != 0)=true->R (.int .i64 J) I)/\((J != 0)=false->∃L,d0=some L/\∃M N O P,ze I (Aj L 0) 0 [.int .i64 M,.string N,slV O,slV P]/\XC Tp 21 #[.agg #[.int .i64 M,.string N,slV O,slV P]] I (λQ S=>∃T,Q=.bool T/\((!T)=true->R (.int .i64 1) S)/\((!T)=false->R (.int .i64 0) S))))))->u v w)->∃U,zk s (Aj ⟨h.size,0,none⟩ 0)=some (.string U)/\((U.toList==(⟨#[114,101,109,111,118,101]⟩:Bt).toList)=true->u (.func (.func 60) #[.pointer d0] #[]) s)/\((U.toList==(⟨#[114,101,109,111,118,101]⟩:Bt).toList)=false->((U.toList==(⟨#[114,101,112,108,97,99,101]⟩:Bt).toList)=true->u (.func (.func 61) #[.pointer d0] #[]) s)/\((U.toList==(⟨#[114,101,112,108,97,99,101]⟩:Bt).toList)=false->((U.toList==(⟨#[109,111,118,101]⟩:Bt).toList)=true->u (.func (.func 62) #[.pointer d0] #[]) s)/\((U.toList==(⟨#[109,111,118,101]⟩:Bt).toList)=false->((U.toList==(⟨#[99,111,112,121]⟩:Bt).toList)=true->u (.func (.func 63) #[.pointer d0] #[]) s)/\((U.toList==(⟨#[99,111,112,121]⟩:Bt).toList)=false->((U.toList==(⟨#[116,101,115,116]⟩:Bt).toList)=true->u (.func (.func 64) #[.pointer d0] #[]) s)/\((U.toList==(⟨#[116,101,115,116]⟩:Bt).toList)=false->u (.func (.func 59) #[.pointer d0] #[]) s)))))))):
  XC Tp 33 #[.pointer d0,.agg #[.string b,.slice c.a c.len c.cap,.slice d.a d.len d.cap,.int .i64 e,.string f,.slice g.a g.len g.cap,.slice i.a i.len i.cap]] h R:=
 XF ⟨[],[],[(15,[(5,.one (.raw))])]⟩ [.tmp 4] 46 Tryz.func33 H
theorem zet(d0:Option Addr)(b:Bt)(c:Sl)(d:Sl)(e:Int)(f:Bt)(g:Sl)(i:Sl)(h:zb)(R:Value->zb->Prop)
  (H:let j:=h.push (.cells #[.string b,slV c,slV d,.int .i64 e,.string f,slV g,slV i] 38);∃k,zk j (Aj ⟨h.size,0,none⟩ 1)=some (slV k)/\∃l m n o,ze j (Aj ⟨h.size,0,none⟩ 3) 0 [.int .i64 l,.string m,slV n,slV o]/\XC Tp 32 #[.agg #[.int .i64 l,.string m,slV n,slV o]] j (λp q=>∃r s t u,p=.agg #[.int .i64 r,.string s,slV t,slV u]/\Keep j.size j q/\XC Tp 101 #[.pointer d0,slV k,.agg #[.int .i64 r,.string s,slV t,slV u]] q (λv w=>∃x,v=.int .i64 x/\R (.int .i64 x) w))):
  XC Tp 59 #[.pointer d0,.agg #[.string b,.slice c.a c.len c.cap,.slice d.a d.len d.cap,.int .i64 e,.string f,.slice g.a g.len g.cap,.slice i.a i.len i.cap]] h R:=
 XF ⟨[(1,2000)],[],[]⟩ [.tmp 4] 12 Tryz.func59 H
theorem zaf(d0:Option Addr)(b:Bt)(c:Sl)(d:Sl)(e:Int)(f:Bt)(g:Sl)(i:Sl)(h:zb)(R:Value->zb->Prop)
  (H:let j:=h.push (.cells #[.string b,slV c,slV d,.int .i64 e,.string f,slV g,slV i] 38);∃k,zk j (Aj ⟨h.size,0,none⟩ 1)=some (slV k)/\XC Tp 102 #[.pointer d0,slV k] j (λl m=>∃n:Option Addr,l=.pointer n/\(n.isNone=true->R (.int .i64 8) m)/\(n.isNone=false->∃o,zk m (Aj ⟨h.size,0,none⟩ 1)=some (slV o)/\XC Tp 103 #[.pointer d0,slV o] m (λp q=>∃r,p=.int .i64 r/\R (.int .i64 r) q)))):
  XC Tp 60 #[.pointer d0,.agg #[.string b,.slice c.a c.len c.cap,.slice d.a d.len d.cap,.int .i64 e,.string f,.slice g.a g.len g.cap,.slice i.a i.len i.cap]] h R:=
 XF ⟨[],[],[]⟩ [.tmp 4] 14 Tryz.func60 H
theorem Xf(d0:Option Addr)(b:Bt)(c:Sl)(d:Sl)(e:Int)(f:Bt)(g:Sl)(i:Sl)(h:zb)(R:Value->zb->Prop)
  (H:let j:=h.push (.cells #[.string b,slV c,slV d,.int .i64 e,.string f,slV g,slV i] 38);∃k,zk j (Aj ⟨h.size,0,none⟩ 1)=some (slV k)/\XC Tp 102 #[.pointer d0,slV k] j (λl m=>∃n:Option Addr,l=.pointer n/\(n.isNone=true->R (.int .i64 8) m)/\(n.isNone=false->∃o p q r,ze m (Aj ⟨h.size,0,none⟩ 3) 0 [.int .i64 o,.string p,slV q,slV r]/\XC Tp 32 #[.agg #[.int .i64 o,.string p,slV q,slV r]] m (λs t=>∃u v w x,s=.agg #[.int .i64 u,.string v,slV w,slV x]/\∃y,n=some y/\XRunU Tp (Ai 25 (.pointer (some y)) (.agg #[.int .i64 u,.string v,slV w,slV x])) t (λz=>R (.int .i64 0) z))))):
  XC Tp 61 #[.pointer d0,.agg #[.string b,.slice c.a c.len c.cap,.slice d.a d.len d.cap,.int .i64 e,.string f,.slice g.a g.len g.cap,.slice i.a i.len i.cap]] h R:=
 XF ⟨[],[],[]⟩ [.tmp 4] 17 Tryz.func61 H
theorem zcy(d0:Option Addr)(b:Bt)(c:Sl)(d:Sl)(e:Int)(f:Bt)(g:Sl)(i:Sl)(h:zb)(R:Value->zb->Prop)
  (H:let j:=h.push (.cells #[.string b,slV c,slV d,.int .i64 e,.string f,slV g,slV i] 38);∃k,zk j (Aj ⟨h.size,0,none⟩ 2)=some (slV k)/\XC Tp 102 #[.pointer d0,slV k] j (λl m=>∃n:Option Addr,l=.pointer n/\∃o,zk m (Aj ⟨h.size,0,none⟩ 2)=some (slV o)/\(n.isNone=true->R (.int .i64 8) m)/\(n.isNone=false->∃p,zk m (Aj ⟨h.size,0,none⟩ 1)=some (slV p)/\∃q,(decide ((p.len:Int)>=(o.len:Int))=true->zk m (Aj ⟨h.size,0,none⟩ 1)=some (slV q))/\((none:Option Value)=none\/∃v,(some (.int .i64 (o.len:Int)):Option Value)=some v)/\(decide ((p.len:Int)>=(o.len:Int))=true->(0<=(0:Int)/\(0:Int)<=(o.len:Int)/\(o.len:Int)<=(q.cap:Int)/\(q.cap:Int)<=(q.cap:Int)))/\∃r,(decide ((p.len:Int)>=(o.len:Int))=true->zk m (Aj ⟨h.size,0,none⟩ 2)=some (slV r))/\∃s,(decide ((p.len:Int)>=(o.len:Int))=true->XC Tp 104 #[.slice (Yw q.a 1 ((0:Int).toNat) ((q.cap:Int).toNat)) ((o.len:Int).toNat-(0:Int).toNat) ((q.cap:Int).toNat-(0:Int).toNat),slV r] m (λt u=>t=.bool s/\u=m))/\((bif (decide ((p.len:Int)>=(o.len:Int)))then s else false)=true->∃w,zk m (Aj ⟨h.size,0,none⟩ 1)=some (slV w)/\(decide ((w.len:Int)>(o.len:Int))=true->R (.int .i64 1) m)/\(decide ((w.len:Int)>(o.len:Int))=false->R (.int .i64 0) m))/\((bif (decide ((p.len:Int)>=(o.len:Int)))then s else false)=false->∃x,n=some x/\∃y z A B,ze m x 0 [.int .i64 y,.string z,slV A,slV B]/\XC Tp 32 #[.agg #[.int .i64 y,.string z,slV A,slV B]] m (λC D=>∃E F G I,C=.agg #[.int .i64 E,.string F,slV G,slV I]/\let J:=D.push (.cells #[.int .i64 0,.string (⟨#[]⟩:Bt),.slice none 0 0,.slice none 0 0] 25);XRunU Tp (Ai 25 (.pointer (some ⟨D.size,0,none⟩)) (.agg #[.int .i64 E,.string F,slV G,slV I])) J (λL=>∃M,zk L (Aj ⟨h.size,0,none⟩ 2)=some (slV M)/\XC Tp 103 #[.pointer d0,slV M] L (λN O=>∃P,N=.int .i64 P/\((P != 0)=true->R (.int .i64 P) O)/\((P != 0)=false->∃Q,zk O (Aj ⟨h.size,0,none⟩ 1)=some (slV Q)/\∃S T U V,ze O ⟨D.size,0,none⟩ 0 [.int .i64 S,.string T,slV U,slV V]/\XC Tp 101 #[.pointer d0,slV Q,.agg #[.int .i64 S,.string T,slV U,slV V]] O (λW X=>∃Y,W=.int .i64 Y/\R (.int .i64 Y) X))))))))):
  XC Tp 62 #[.pointer d0,.agg #[.string b,.slice c.a c.len c.cap,.slice d.a d.len d.cap,.int .i64 e,.string f,.slice g.a g.len g.cap,.slice i.a i.len i.cap]] h R:=
 XF ⟨[],[],[]⟩ [.tmp 4] 55 Tryz.func62 H
theorem zcz(d0:Option Addr)(b:Bt)(c:Sl)(d:Sl)(e:Int)(f:Bt)(g:Sl)(i:Sl)(h:zb)(R:Value->zb->Prop)
  (H:let j:=h.push (.cells #[.string b,slV c,slV d,.int .i64 e,.string f,slV g,slV i] 38);∃k,zk j (Aj ⟨h.size,0,none⟩ 2)=some (slV k)/\XC Tp 102 #[.pointer d0,slV k] j (λl m=>∃n:Option Addr,l=.pointer n/\(n.isNone=true->R (.int .i64 8) m)/\(n.isNone=false->∃o,zk m (Aj ⟨h.size,0,none⟩ 1)=some (slV o)/\∃p,n=some p/\∃q r s t,ze m p 0 [.int .i64 q,.string r,slV s,slV t]/\XC Tp 32 #[.agg #[.int .i64 q,.string r,slV s,slV t]] m (λu v=>∃w x y z,u=.agg #[.int .i64 w,.string x,slV y,slV z]/\Keep m.size m v/\XC Tp 101 #[.pointer d0,slV o,.agg #[.int .i64 w,.string x,slV y,slV z]] v (λA B=>∃C,A=.int .i64 C/\R (.int .i64 C) B))))):
  XC Tp 63 #[.pointer d0,.agg #[.string b,.slice c.a c.len c.cap,.slice d.a d.len d.cap,.int .i64 e,.string f,.slice g.a g.len g.cap,.slice i.a i.len i.cap]] h R:=
 XF ⟨[(4,2000)],[],[]⟩ [.tmp 4] 20 Tryz.func63 H
theorem zc0(d0:Option Addr)(b:Bt)(c:Sl)(d:Sl)(e:Int)(f:Bt)(g:Sl)(i:Sl)(h:zb)(R:Value->zb->Prop)
  (H:let j:=h.push (.cells #[.string b,slV c,slV d,.int .i64 e,.string f,slV g,slV i] 38);∃k,zk j (Aj ⟨h.size,0,none⟩ 1)=some (slV k)/\XC Tp 102 #[.pointer d0,slV k] j (λl m=>∃n:Option Addr,l=.pointer n/\(n.isNone=true->R (.int .i64 8) m)/\(n.isNone=false->∃o,n=some o/\∃p q r s,ze m o 0 [.int .i64 p,.string q,slV r,slV s]/\∃t u v w,ze m (Aj ⟨h.size,0,none⟩ 3) 0 [.int .i64 t,.string u,slV v,slV w]/\∃x,(∀y:zb,Keep m.size m y->XC Tp 105 #[.agg #[.int .i64 p,.string q,slV r,slV s],.agg #[.int .i64 t,.string u,slV v,slV w]] y (λz A=>z=.bool x/\Keep y.size y A))/\∀B:zb,Keep m.size m B->((!x)=true->R (.int .i64 9) B)/\((!x)=false->R (.int .i64 0) B)))):
  XC Tp 64 #[.pointer d0,.agg #[.string b,.slice c.a c.len c.cap,.slice d.a d.len d.cap,.int .i64 e,.string f,.slice g.a g.len g.cap,.slice i.a i.len i.cap]] h R:=
 XF ⟨[(4,1000)],[],[]⟩ [.tmp 4] 21 Tryz.func64 H
theorem zg8(d0:Option Addr)(aN:Sl)(b:Int)(c:Bt)(d:Sl)(e:Sl)(h:zb)(R:Value->zb->Prop)
  (H:let f:=h.push (.cells #[.int .i64 b,.string c,slV d,slV e] 25);(((aN.len:Int)==0)=true->∃g i j k,ze f ⟨h.size,0,none⟩ 0 [.int .i64 g,.string i,slV j,slV k]/\∃l,d0=some l/\XRunU Tp (Ai 25 (.pointer (some (Aj l 0))) (.agg #[.int .i64 g,.string i,slV j,slV k])) f (λm=>R (.int .i64 0) m))/\(((aN.len:Int)==0)=false->∃n,(aN.a=some n/\0<=(Aa .i64 ((aN.len:Int)-1))/\(Aa .i64 ((aN.len:Int)-1))<(aN.len:Int))/\∃o,zk f (n.add ((Aa .i64 ((aN.len:Int)-1)).toNat*1))=some (.string o)/\((none:Option Value)=none\/∃v,(some (.int .i64 (Aa .i64 ((aN.len:Int)-1))):Option Value)=some v)/\(0<=(0:Int)/\(0:Int)<=(Aa .i64 ((aN.len:Int)-1))/\(Aa .i64 ((aN.len:Int)-1))<=(aN.cap:Int)/\(aN.cap:Int)<=(aN.cap:Int))/\XC Tp 102 #[.pointer d0,.slice (Yw aN.a 1 ((0:Int).toNat) ((aN.cap:Int).toNat)) ((Aa .i64 ((aN.len:Int)-1)).toNat-(0:Int).toNat) ((aN.cap:Int).toNat-(0:Int).toNat)] f (λp q=>∃r:Option Addr,p=.pointer r/\(r.isNone=true->R (.int .i64 8) q)/\(r.isNone=false->∃s,r=some s/\∃t,zk q (Aj s 0)=some (.int .i64 t)/\((t==5)=true->∃u w x y,ze q ⟨h.size,0,none⟩ 0 [.int .i64 u,.string w,slV x,slV y]/\XC Tp 133 #[.pointer r,.string o,.agg #[.int .i64 u,.string w,slV x,slV y]] q (λz A=>∃B,z=.int .i64 B/\R (.int .i64 B) A))/\((t==5)=false->∃C,r=some C/\∃D,zk q (Aj C 0)=some (.int .i64 D)/\((D != 6)=true->R (.int .i64 8) q)/\((D != 6)=false->∃E,r=some E/\∃F G I J,ze q E 0 [.int .i64 F,.string G,slV I,slV J]/\XC Tp 134 #[.agg #[.int .i64 F,.string G,slV I,slV J],.string o] q (λL M=>∃N,L=.int .i64 N/\(decide (N>=0)=true->∃O,r=some O/\∃P,zk M (Aj O 3)=some (slV P)/\∃Q S T U,ze M ⟨h.size,0,none⟩ 0 [.int .i64 Q,.string S,slV T,slV U]/\∃V,(P.a=some V/\0<=N/\N<P.len)/\XRunU Tp (Ai 25 (.pointer (some (V.add (N.toNat*4)))) (.agg #[.int .i64 Q,.string S,slV T,slV U])) M (λW=>R (.int .i64 0) W))/\(decide (N>=0)=false->∃X,r=some X/\∃Y,zk M (Aj X 2)=some (slV Y)/\∃Z,r=some Z/\∃aa,zk M (Aj Z 3)=some (slV aa)/\∃ab ac ad ae,ze M ⟨h.size,0,none⟩ 0 [.int .i64 ab,.string ac,slV ad,slV ae]/\∃af,r=some af/\∃ag,r=some ag/\(let ah:=M.push (.cells #[.string o] 9);(ah)[(⟨h.size,0,none⟩:Addr).block]?=(M)[(⟨h.size,0,none⟩:Addr).block]?/\(ah)[((Aj Z 3):Addr).block]?=(M)[((Aj Z 3):Addr).block]?/\(ah)[((Aj X 2):Addr).block]?=(M)[((Aj X 2):Addr).block]?/\(XRun Tp (Au #[22,22] 22 #[slV Y,.slice (some ⟨M.size,0,none⟩) 1 1]) ah (λai aj=>∃ak,ai=slV ak/\(aj)[(⟨h.size,0,none⟩:Addr).block]?=(M)[(⟨h.size,0,none⟩:Addr).block]?/\(aj)[((Aj Z 3):Addr).block]?=(M)[((Aj Z 3):Addr).block]?/\let al:=aj.push (.cells #[.int .i64 ab,.string ac,slV ad,slV ae] 25);(al)[((Aj Z 3):Addr).block]?=(M)[((Aj Z 3):Addr).block]?/\XRun Tp (Au #[23,23] 23 #[slV aa,.slice (some ⟨aj.size,0,none⟩) 1 1]) al (λam an=>∃ao,am=slV ao/\XRunU Tp (Ai 22 (.pointer (some (Aj af 2))) (slV ak)) an (λap=>XRunU Tp (Ai 23 (.pointer (some (Aj ag 3))) (slV ao)) ap (λaq=>R (.int .i64 0) aq)))))/\(let ar:=ah.push (.cells #[.int .i64 ab,.string ac,slV ad,slV ae] 25);(ar)[((Aj Z 3):Addr).block]?=(M)[((Aj Z 3):Addr).block]?/\(ar)[((Aj X 2):Addr).block]?=(M)[((Aj X 2):Addr).block]?/\XRun Tp (Au #[22,22] 22 #[slV Y,.slice (some ⟨M.size,0,none⟩) 1 1]) ar (λau av=>∃aw,au=slV aw/\(av)[((Aj Z 3):Addr).block]?=(M)[((Aj Z 3):Addr).block]?/\XRun Tp (Au #[23,23] 23 #[slV aa,.slice (some ⟨ah.size,0,none⟩) 1 1]) av (λax ay=>∃az,ax=slV az/\XRunU Tp (Ai 22 (.pointer (some (Aj af 2))) (slV aw)) ay (λaA=>XRunU Tp (Ai 23 (.pointer (some (Aj ag 3))) (slV az)) aA (λaB=>R (.int .i64 0) aB))))))/\(let aC:=M.push (.cells #[.int .i64 ab,.string ac,slV ad,slV ae] 25);(aC)[((Aj Z 3):Addr).block]?=(M)[((Aj Z 3):Addr).block]?/\(aC)[((Aj X 2):Addr).block]?=(M)[((Aj X 2):Addr).block]?/\let aD:=aC.push (.cells #[.string o] 9);(aD)[((Aj Z 3):Addr).block]?=(M)[((Aj Z 3):Addr).block]?/\(aD)[((Aj X 2):Addr).block]?=(M)[((Aj X 2):Addr).block]?/\XRun Tp (Au #[22,22] 22 #[slV Y,.slice (some ⟨aC.size,0,none⟩) 1 1]) aD (λaE aF=>∃aG,aE=slV aG/\(aF)[((Aj Z 3):Addr).block]?=(M)[((Aj Z 3):Addr).block]?/\XRun Tp (Au #[23,23] 23 #[slV aa,.slice (some ⟨M.size,0,none⟩) 1 1]) aF (λaH aI=>∃aJ,aH=slV aJ/\XRunU Tp (Ai 22 (.pointer (some (Aj af 2))) (slV aG)) aI (λaL=>XRunU Tp (Ai 23 (.pointer (some (Aj ag 3))) (slV aJ)) aL (λaM=>R (.int .i64 0) aM))))))))))))):
  XC Tp 101 #[.pointer d0,.slice aN.a aN.len aN.cap,.agg #[.int .i64 b,.string c,.slice d.a d.len d.cap,.slice e.a e.len e.cap]] h R:=
 XF ⟨[(14,7),(16,6000)],[],[]⟩ [.tmp 6] 83 Tryz.func101 H
theorem zjw(d0:Option Addr)(O:Sl)(h:zb)(R:Value->zb->Prop)
  (H:∃b,d0=some b/\∃(c:Option Addr->Int->zb->Prop) (d:Option Addr->Int->zb->Nat),c (some (Aj b 0)) 0 h/\∀e:Option Addr,∀f:Int,∀g:zb,c e f g->((decide (f<O.len)=true->∃i,(O.a=some i/\0<=f/\f<O.len)/\∃j,zk g (i.add (f.toNat*1))=some (.string j)/\∃k,e=some k/\∃l m n o,ze g k 0 [.int .i64 l,.string m,slV n,slV o]/\XC Tp 134 #[.agg #[.int .i64 l,.string m,slV n,slV o],.string j] g (λp q=>∃r,p=.int .i64 r/\(decide (r<0)=true->R (.pointer none) q)/\(decide (r<0)=false->∃s,e=some s/\∃t,zk q (Aj s 3)=some (slV t)/\∃u,(t.a=some u/\0<=r/\r<t.len)/\(c (some (u.add (r.toNat*4))) (Aa .i64 (f+1)) q/\d (some (u.add (r.toNat*4))) (Aa .i64 (f+1)) q<d e f g))))/\(decide (f<O.len)=false->R (.pointer e) g))):
  XC Tp 102 #[.pointer d0,.slice O.a O.len O.cap] h R:=
 XF ⟨[],[(3,[(5,.one (.ptr)),(14,.one (.int .i64))])],[]⟩ [.tmp 4] 33 Tryz.func102 H
theorem zc1(d0:Option Addr)(O:Sl)(h:zb)(R:Value->zb->Prop)
  (H:(((O.len:Int)==0)=true->R (.int .i64 1) h)/\(((O.len:Int)==0)=false->∃b,(O.a=some b/\0<=(Aa .i64 ((O.len:Int)-1))/\(Aa .i64 ((O.len:Int)-1))<(O.len:Int))/\∃c,zk h (b.add ((Aa .i64 ((O.len:Int)-1)).toNat*1))=some (.string c)/\((none:Option Value)=none\/∃v,(some (.int .i64 (Aa .i64 ((O.len:Int)-1))):Option Value)=some v)/\(0<=(0:Int)/\(0:Int)<=(Aa .i64 ((O.len:Int)-1))/\(Aa .i64 ((O.len:Int)-1))<=(O.cap:Int)/\(O.cap:Int)<=(O.cap:Int))/\XC Tp 102 #[.pointer d0,.slice (Yw O.a 1 ((0:Int).toNat) ((O.cap:Int).toNat)) ((Aa .i64 ((O.len:Int)-1)).toNat-(0:Int).toNat) ((O.cap:Int).toNat-(0:Int).toNat)] h (λd e=>∃f:Option Addr,d=.pointer f/\∃g,f=some g/\∃i j k l,ze e g 0 [.int .i64 i,.string j,slV k,slV l]/\XC Tp 134 #[.agg #[.int .i64 i,.string j,slV k,slV l],.string c] e (λm n=>∃o,m=.int .i64 o/\∃p,f=some p/\∃q,zk n (Aj p 3)=some (slV q)/\XC Tp 135 #[slV q,.int .i64 o,.int .i64 (Aa .i64 (o+1))] n (λr s=>∃t,r=slV t/\∃u,f=some u/\XRunU Tp (Ai 23 (.pointer (some (Aj u 3))) (slV t)) s (λw=>∃x,f=some x/\∃y,zk w (Aj x 0)=some (.int .i64 y)/\((y==6)=true->∃z,f=some z/\∃A,zk w (Aj z 2)=some (slV A)/\XC Tp 136 #[slV A,.int .i64 o,.int .i64 (Aa .i64 (o+1))] w (λB C=>∃D,B=slV D/\∃E,f=some E/\XRunU Tp (Ai 22 (.pointer (some (Aj E 2))) (slV D)) C (λF=>R (.int .i64 0) F)))/\((y==6)=false->R (.int .i64 0) w))))))):
  XC Tp 103 #[.pointer d0,.slice O.a O.len O.cap] h R:=
 XF ⟨[],[],[]⟩ [.tmp 4] 56 Tryz.func103 H
theorem zjx(v0:Option Addr)(O:Bt)(b:Int)(c:Bt)(d:Sl)(e:Sl)(h:zb)(R:Value->zb->Prop)
  (H:let f:=h.push (.cells #[.int .i64 b,.string c,slV d,slV e] 25);XC Tp 145 #[.string O] f (λg i=>∃j k,g=.tuple #[.int .i64 j,.bool k]/\∀l:Int->zb->Prop,(∀m:Int,∀n:zb,(∃o,v0=some o/\∃p,zk n (Aj o 3)=some (slV p)/\∃q r s t,ze n ⟨h.size,0,none⟩ 0 [.int .i64 q,.string r,slV s,slV t]/\∃u,v0=some u/\let v:=n.push (.cells #[.int .i64 q,.string r,slV s,slV t] 25);Keep n.size n v/\XC Tp 164 #[slV p,.int .i64 m,.slice (some ⟨n.size,0,none⟩) 1 1] v (λw x=>∃y,w=slV y/\XRunU Tp (Ai 23 (.pointer (some (Aj u 3))) (slV y)) x (λz=>R (.int .i64 0) z)))->l m n)->((O.toList==(⟨#[45]⟩:Bt).toList)=true->∃A,v0=some A/\∃B,zk i (Aj A 3)=some (slV B)/\l (B.len:Int) i)/\((O.toList==(⟨#[45]⟩:Bt).toList)=false->∃C,((!(!k))=true->v0=some C)/\∃D,((!(!k))=true->zk i (Aj C 3)=some (slV D))/\((bif (!k)then true else(decide (j>D.len)))=true->R (.int .i64 8) i)/\((bif (!k)then true else(decide (j>D.len)))=false->l j i)))):
  XC Tp 133 #[.pointer v0,.string O,.agg #[.int .i64 b,.string c,.slice d.a d.len d.cap,.slice e.a e.len e.cap]] h R:=
 XF ⟨[(6,5000)],[],[(6,[(7,.one (.int .i64))])]⟩ [.tmp 6] 45 Tryz.func133 H
theorem xt(s0:Sl)(i1:Int)(j2:Int)(h:zb)(R:Value->zb->Prop)
  (H:((some (.int .i64 (s0.len:Int)):Option Value)=none\/∃v,(some (.int .i64 j2):Option Value)=some v)/\(0<=i1/\i1<=j2/\j2<=s0.len/\(s0.len:Int)<=(s0.cap:Int))/\((i1==j2)=true->R (slV s0) h)/\((i1==j2)=false->((none:Option Value)=none\/∃v,(some (.int .i64 i1):Option Value)=some v)/\(0<=(0:Int)/\(0:Int)<=i1/\i1<=s0.cap/\(s0.cap:Int)<=(s0.cap:Int))/\((none:Option Value)=none\/∃v,(none:Option Value)=some v)/\(0<=j2/\j2<=s0.len/\(s0.len:Int)<=(s0.cap:Int)/\(s0.cap:Int)<=(s0.cap:Int))/\XRun Tp (Au #[23,23] 23 #[.slice (Yw s0.a 4 ((0:Int).toNat) ((s0.cap:Int).toNat)) (i1.toNat-(0:Int).toNat) ((s0.cap:Int).toNat-(0:Int).toNat),.slice (Yw s0.a 4 j2.toNat ((s0.cap:Int).toNat)) ((s0.len:Int).toNat-j2.toNat) ((s0.cap:Int).toNat-j2.toNat)]) h (λb c=>∃d,b=slV d/\((none:Option Value)=none\/∃v,(some (.int .i64 (s0.len:Int)):Option Value)=some v)/\(0<=(d.len:Int)/\(d.len:Int)<=(s0.len:Int)/\(s0.len:Int)<=(d.cap:Int)/\(d.cap:Int)<=(d.cap:Int))/\XRun Tp (Eb #[23] 0 #[.slice (Yw d.a 4 ((d.len:Int).toNat) ((d.cap:Int).toNat)) ((s0.len:Int).toNat-(d.len:Int).toNat) ((d.cap:Int).toNat-(d.len:Int).toNat)]) c (λe f=>e=.tuple #[]/\R (slV d) f)))):
  XC Tp 135 #[.slice s0.a s0.len s0.cap,.int .i64 i1,.int .i64 j2] h R:=
 XF ⟨[(5,6)],[],[]⟩ [.tmp 6] 33 Tryz.func135 H
theorem Qq(s0:Sl)(i1:Int)(j2:Int)(h:zb)(R:Value->zb->Prop)
  (H:((some (.int .i64 (s0.len:Int)):Option Value)=none\/∃v,(some (.int .i64 j2):Option Value)=some v)/\(0<=i1/\i1<=j2/\j2<=s0.len/\(s0.len:Int)<=(s0.cap:Int))/\((i1==j2)=true->R (slV s0) h)/\((i1==j2)=false->((none:Option Value)=none\/∃v,(some (.int .i64 i1):Option Value)=some v)/\(0<=(0:Int)/\(0:Int)<=i1/\i1<=s0.cap/\(s0.cap:Int)<=(s0.cap:Int))/\((none:Option Value)=none\/∃v,(none:Option Value)=some v)/\(0<=j2/\j2<=s0.len/\(s0.len:Int)<=(s0.cap:Int)/\(s0.cap:Int)<=(s0.cap:Int))/\XRun Tp (Au #[22,22] 22 #[.slice (Yw s0.a 1 ((0:Int).toNat) ((s0.cap:Int).toNat)) (i1.toNat-(0:Int).toNat) ((s0.cap:Int).toNat-(0:Int).toNat),.slice (Yw s0.a 1 j2.toNat ((s0.cap:Int).toNat)) ((s0.len:Int).toNat-j2.toNat) ((s0.cap:Int).toNat-j2.toNat)]) h (λb c=>∃d,b=slV d/\((none:Option Value)=none\/∃v,(some (.int .i64 (s0.len:Int)):Option Value)=some v)/\(0<=(d.len:Int)/\(d.len:Int)<=(s0.len:Int)/\(s0.len:Int)<=(d.cap:Int)/\(d.cap:Int)<=(d.cap:Int))/\XRun Tp (Eb #[22] 0 #[.slice (Yw d.a 1 ((d.len:Int).toNat) ((d.cap:Int).toNat)) ((s0.len:Int).toNat-(d.len:Int).toNat) ((d.cap:Int).toNat-(d.len:Int).toNat)]) c (λe f=>e=.tuple #[]/\R (slV d) f)))):
  XC Tp 136 #[.slice s0.a s0.len s0.cap,.int .i64 i1,.int .i64 j2] h R:=
 XF ⟨[(5,6)],[],[]⟩ [.tmp 6] 33 Tryz.func136 H
theorem xu(s0:Sl)(i1:Int)(v2:Sl)(h:zb)(R:Value->zb->Prop)
  (H:((none:Option Value)=none\/∃v,(none:Option Value)=some v)/\(0<=i1/\i1<=s0.len/\(s0.len:Int)<=(s0.cap:Int)/\(s0.cap:Int)<=(s0.cap:Int))/\(((v2.len:Int)==0)=true->R (.slice s0.a s0.len s0.cap) h)/\(((v2.len:Int)==0)=false->((i1==s0.len)=true->XRun Tp (Au #[23,23] 23 #[.slice s0.a s0.len s0.cap,.slice v2.a v2.len v2.cap]) h (λb c=>∃d:Sl,b=.slice d.a d.len d.cap/\R (.slice d.a d.len d.cap) c))/\((i1==s0.len)=false->((decide ((Aa .i64 ((s0.len:Int)+(v2.len:Int)))>(s0.cap:Int)))=true->((none:Option Value)=none\/∃v,(some (.int .i64 i1):Option Value)=some v)/\(0<=(0:Int)/\(0:Int)<=i1/\i1<=s0.cap/\(s0.cap:Int)<=(s0.cap:Int))/\XRun Tp (Au #[23,3] 23 #[.slice (Yw s0.a 4 ((0:Int).toNat) ((s0.cap:Int).toNat)) (i1.toNat-(0:Int).toNat) ((s0.cap:Int).toNat-(0:Int).toNat),.int .i64 (Aa .i64 ((Aa .i64 ((s0.len:Int)+(v2.len:Int)))-i1))]) h (λe f=>∃g:Sl,e=.slice g.a g.len g.cap/\((none:Option Value)=none\/∃v,(none:Option Value)=some v)/\(0<=i1/\i1<=g.len/\(g.len:Int)<=(g.cap:Int)/\(g.cap:Int)<=(g.cap:Int))/\XRun Tp (Dp #[23,23] 3 #[.slice (Yw g.a 4 i1.toNat ((g.cap:Int).toNat)) ((g.len:Int).toNat-i1.toNat) ((g.cap:Int).toNat-i1.toNat),.slice v2.a v2.len v2.cap]) f (λi j=>∃k,i=.int .i64 k/\((none:Option Value)=none\/∃v,(none:Option Value)=some v)/\(0<=(Aa .i64 (i1+(v2.len:Int)))/\(Aa .i64 (i1+(v2.len:Int)))<=(g.len:Int)/\(g.len:Int)<=(g.cap:Int)/\(g.cap:Int)<=(g.cap:Int))/\((none:Option Value)=none\/∃v,(none:Option Value)=some v)/\(0<=i1/\i1<=s0.len/\(s0.len:Int)<=(s0.cap:Int)/\(s0.cap:Int)<=(s0.cap:Int))/\XRun Tp (Dp #[23,23] 3 #[.slice (Yw g.a 4 ((Aa .i64 (i1+(v2.len:Int))).toNat) ((g.cap:Int).toNat)) ((g.len:Int).toNat-(Aa .i64 (i1+(v2.len:Int))).toNat) ((g.cap:Int).toNat-(Aa .i64 (i1+(v2.len:Int))).toNat),.slice (Yw s0.a 4 i1.toNat ((s0.cap:Int).toNat)) ((s0.len:Int).toNat-i1.toNat) ((s0.cap:Int).toNat-i1.toNat)]) j (λl m=>∃n,l=.int .i64 n/\R (.slice g.a g.len g.cap) m))))/\((decide ((Aa .i64 ((s0.len:Int)+(v2.len:Int)))>(s0.cap:Int)))=false->((none:Option Value)=none\/∃v,(some (.int .i64 (Aa .i64 ((s0.len:Int)+(v2.len:Int)))):Option Value)=some v)/\(0<=(0:Int)/\(0:Int)<=(Aa .i64 ((s0.len:Int)+(v2.len:Int)))/\(Aa .i64 ((s0.len:Int)+(v2.len:Int)))<=(s0.cap:Int)/\(s0.cap:Int)<=(s0.cap:Int))/\((none:Option Value)=none\/∃v,(none:Option Value)=some v)/\(0<=(Aa .i64 (i1+(v2.len:Int)))/\(Aa .i64 (i1+(v2.len:Int)))<=((Aa .i64 ((s0.len:Int)+(v2.len:Int))).toNat-(0:Int).toNat:Int)/\(((Aa .i64 ((s0.len:Int)+(v2.len:Int))).toNat-(0:Int).toNat:Int):Int)<=((s0.cap:Int).toNat-(0:Int).toNat:Int)/\((s0.cap:Int).toNat-(0:Int).toNat:Int)<=((s0.cap:Int).toNat-(0:Int).toNat:Int))/\qe0 Tp 196 #[.slice v2.a v2.len v2.cap,.slice (Yw (Yw s0.a 4 ((0:Int).toNat) ((s0.cap:Int).toNat)) 4 ((Aa .i64 (i1+(v2.len:Int))).toNat) (((s0.cap:Int).toNat-(0:Int).toNat:Int).toNat)) ((((Aa .i64 ((s0.len:Int)+(v2.len:Int))).toNat-(0:Int).toNat:Int):Int).toNat-(Aa .i64 (i1+(v2.len:Int))).toNat) (((s0.cap:Int).toNat-(0:Int).toNat:Int).toNat-(Aa .i64 (i1+(v2.len:Int))).toNat)] h (λo p=>∃q,o=.bool q/\((!q)=true->((none:Option Value)=none\/∃v,(none:Option Value)=some v)/\(0<=(Aa .i64 (i1+(v2.len:Int)))/\(Aa .i64 (i1+(v2.len:Int)))<=((Aa .i64 ((s0.len:Int)+(v2.len:Int))).toNat-(0:Int).toNat:Int)/\(((Aa .i64 ((s0.len:Int)+(v2.len:Int))).toNat-(0:Int).toNat:Int):Int)<=((s0.cap:Int).toNat-(0:Int).toNat:Int)/\((s0.cap:Int).toNat-(0:Int).toNat:Int)<=((s0.cap:Int).toNat-(0:Int).toNat:Int))/\((none:Option Value)=none\/∃v,(none:Option Value)=some v)/\(0<=i1/\i1<=((Aa .i64 ((s0.len:Int)+(v2.len:Int))).toNat-(0:Int).toNat:Int)/\(((Aa .i64 ((s0.len:Int)+(v2.len:Int))).toNat-(0:Int).toNat:Int):Int)<=((s0.cap:Int).toNat-(0:Int).toNat:Int)/\((s0.cap:Int).toNat-(0:Int).toNat:Int)<=((s0.cap:Int).toNat-(0:Int).toNat:Int))/\XRun Tp (Dp #[23,23] 3 #[.slice (Yw (Yw s0.a 4 ((0:Int).toNat) ((s0.cap:Int).toNat)) 4 ((Aa .i64 (i1+(v2.len:Int))).toNat) (((s0.cap:Int).toNat-(0:Int).toNat:Int).toNat)) ((((Aa .i64 ((s0.len:Int)+(v2.len:Int))).toNat-(0:Int).toNat:Int):Int).toNat-(Aa .i64 (i1+(v2.len:Int))).toNat) (((s0.cap:Int).toNat-(0:Int).toNat:Int).toNat-(Aa .i64 (i1+(v2.len:Int))).toNat),.slice (Yw (Yw s0.a 4 ((0:Int).toNat) ((s0.cap:Int).toNat)) 4 i1.toNat (((s0.cap:Int).toNat-(0:Int).toNat:Int).toNat)) ((((Aa .i64 ((s0.len:Int)+(v2.len:Int))).toNat-(0:Int).toNat:Int):Int).toNat-i1.toNat) (((s0.cap:Int).toNat-(0:Int).toNat:Int).toNat-i1.toNat)]) p (λr s=>∃t,r=.int .i64 t/\((none:Option Value)=none\/∃v,(none:Option Value)=some v)/\(0<=i1/\i1<=((Aa .i64 ((s0.len:Int)+(v2.len:Int))).toNat-(0:Int).toNat:Int)/\(((Aa .i64 ((s0.len:Int)+(v2.len:Int))).toNat-(0:Int).toNat:Int):Int)<=((s0.cap:Int).toNat-(0:Int).toNat:Int)/\((s0.cap:Int).toNat-(0:Int).toNat:Int)<=((s0.cap:Int).toNat-(0:Int).toNat:Int))/\XRun Tp (Dp #[23,23] 3 #[.slice (Yw (Yw s0.a 4 ((0:Int).toNat) ((s0.cap:Int).toNat)) 4 i1.toNat (((s0.cap:Int).toNat-(0:Int).toNat:Int).toNat)) ((((Aa .i64 ((s0.len:Int)+(v2.len:Int))).toNat-(0:Int).toNat:Int):Int).toNat-i1.toNat) (((s0.cap:Int).toNat-(0:Int).toNat:Int).toNat-i1.toNat),.slice v2.a v2.len v2.cap]) s (λu w=>∃x,u=.int .i64 x/\R (.slice (Yw s0.a 4 ((0:Int).toNat) ((s0.cap:Int).toNat)) ((Aa .i64 ((s0.len:Int)+(v2.len:Int))).toNat-(0:Int).toNat) ((s0.cap:Int).toNat-(0:Int).toNat)) w)))/\((!q)=false->((none:Option Value)=none\/∃v,(none:Option Value)=some v)/\(0<=(s0.len:Int)/\(s0.len:Int)<=((Aa .i64 ((s0.len:Int)+(v2.len:Int))).toNat-(0:Int).toNat:Int)/\(((Aa .i64 ((s0.len:Int)+(v2.len:Int))).toNat-(0:Int).toNat:Int):Int)<=((s0.cap:Int).toNat-(0:Int).toNat:Int)/\((s0.cap:Int).toNat-(0:Int).toNat:Int)<=((s0.cap:Int).toNat-(0:Int).toNat:Int))/\XRun Tp (Dp #[23,23] 3 #[.slice (Yw (Yw s0.a 4 ((0:Int).toNat) ((s0.cap:Int).toNat)) 4 ((s0.len:Int).toNat) (((s0.cap:Int).toNat-(0:Int).toNat:Int).toNat)) ((((Aa .i64 ((s0.len:Int)+(v2.len:Int))).toNat-(0:Int).toNat:Int):Int).toNat-(s0.len:Int).toNat) (((s0.cap:Int).toNat-(0:Int).toNat:Int).toNat-(s0.len:Int).toNat),.slice v2.a v2.len v2.cap]) p (λy z=>∃A,y=.int .i64 A/\((none:Option Value)=none\/∃v,(none:Option Value)=some v)/\(0<=i1/\i1<=((Aa .i64 ((s0.len:Int)+(v2.len:Int))).toNat-(0:Int).toNat:Int)/\(((Aa .i64 ((s0.len:Int)+(v2.len:Int))).toNat-(0:Int).toNat:Int):Int)<=((s0.cap:Int).toNat-(0:Int).toNat:Int)/\((s0.cap:Int).toNat-(0:Int).toNat:Int)<=((s0.cap:Int).toNat-(0:Int).toNat:Int))/\XC Tp 197 #[.slice (Yw (Yw s0.a 4 ((0:Int).toNat) ((s0.cap:Int).toNat)) 4 i1.toNat (((s0.cap:Int).toNat-(0:Int).toNat:Int).toNat)) ((((Aa .i64 ((s0.len:Int)+(v2.len:Int))).toNat-(0:Int).toNat:Int):Int).toNat-i1.toNat) (((s0.cap:Int).toNat-(0:Int).toNat:Int).toNat-i1.toNat),.int .i64 (v2.len:Int)] z (λB C=>B=.tuple #[]/\R (.slice (Yw s0.a 4 ((0:Int).toNat) ((s0.cap:Int).toNat)) ((Aa .i64 ((s0.len:Int)+(v2.len:Int))).toNat-(0:Int).toNat) ((s0.cap:Int).toNat-(0:Int).toNat)) C)))))))):
  XC Tp 164 #[.slice s0.a s0.len s0.cap,.int .i64 i1,.slice v2.a v2.len v2.cap] h R:=
 XF ⟨[(11,8),(15,8)],[],[]⟩ [.tmp 6] 95 Tryz.func164 H
theorem zoz(b:Int)(c:Bt)(d:Sl)(e:Sl)(f:Int)(g:Bt)(i:Sl)(j:Sl)(h:zb)(R:Value->zb->Prop)
  (H:let k:=h.push (.cells #[.int .i64 b,.string c,slV d,slV e] 25);let l:=k.push (.cells #[.int .i64 f,.string g,slV i,slV j] 25);∀m:Bool->zb->Prop,(∀n:Bool,∀o:zb,((n=true->R (.bool false) o)/\(n=false->∃p,zk o (Aj ⟨h.size,0,none⟩ 0)=some (.int .i64 p)/\((p != 6)=true->∃q,zk o (Aj ⟨h.size,0,none⟩ 3)=some (slV q)/\∃r,zk o (Aj ⟨k.size,0,none⟩ 3)=some (slV r)/\XC Tp 165 #[slV q,slV r,.func (.func 137) #[] #[]] o (λs t=>∃u,s=.bool u/\R (.bool u) t))/\((p != 6)=false->∃v w x y,ze o ⟨h.size,0,none⟩ 0 [.int .i64 v,.string w,slV x,slV y]/\∃z A B C,ze o ⟨k.size,0,none⟩ 0 [.int .i64 z,.string A,slV B,slV C]/\XC Tp 125 #[.agg #[.int .i64 v,.string w,slV x,slV y]] o (λD E=>∃F:Option Nat,D=.map F/\Keep o.size o E/\XC Tp 125 #[.agg #[.int .i64 z,.string A,slV B,slV C]] E (λG I=>∃J:Option Nat,G=.map J/\XC Tp 166 #[.map F,.map J,.func (.func 137) #[] #[]] I (λL M=>∃N,L=.bool N/\R (.bool N) M))))))->m n o)->∃O,zk l (Aj ⟨h.size,0,none⟩ 0)=some (.int .i64 O)/\∃P,zk l (Aj ⟨k.size,0,none⟩ 0)=some (.int .i64 P)/\((O != P)=true->m (O != P) l)/\((O != P)=false->∃Q,zk l (Aj ⟨h.size,0,none⟩ 1)=some (.string Q)/\∃S,zk l (Aj ⟨k.size,0,none⟩ 1)=some (.string S)/\((!(Q.toList==S.toList))=true->m (!(Q.toList==S.toList)) l)/\((!(Q.toList==S.toList))=false->∃T,zk l (Aj ⟨h.size,0,none⟩ 3)=some (slV T)/\∃U,zk l (Aj ⟨k.size,0,none⟩ 3)=some (slV U)/\m ((T.len:Int) != (U.len:Int)) l))):
  XC Tp 137 #[.agg #[.int .i64 b,.string c,.slice d.a d.len d.cap,.slice e.a e.len e.cap],.agg #[.int .i64 f,.string g,.slice i.a i.len i.cap,.slice j.a j.len j.cap]] h R:=
 XF ⟨[(7,2000)],[],[(4,[(5,.one (.bool))])]⟩ [.tmp 4] 37 Tryz.func137 H
theorem zg9(b:Int)(c:Bt)(d:Sl)(e:Sl)(h:zb)(R:Value->zb->Prop)
  (H:let f:=h.push (.cells #[.int .i64 b,.string c,slV d,slV e] 25);∃g,zk f (Aj ⟨h.size,0,none⟩ 2)=some (slV g)/\let i:=f.push (.map #[] 0);∃j,zk i (Aj ⟨h.size,0,none⟩ 2)=some (slV j)/\∃(k:Int->zb->Prop) (l:Int->zb->Nat),k 0 i/\∀m:Int,∀n:zb,k m n->((decide (m<j.len)=true->∃o,(j.a=some o/\0<=m/\m<j.len)/\∃p,zk n (o.add (m.toNat*1))=some (.string p)/\∃q,zk n (Aj ⟨h.size,0,none⟩ 3)=some (slV q)/\∃r,(q.a=some r/\0<=m/\m<q.len)/\∃s t u v,ze n (r.add (m.toNat*4)) 0 [.int .i64 s,.string t,slV u,slV v]/\XRunU Tp (C4 137 (.map (some f.size)) (.string p) (.agg #[.int .i64 s,.string t,slV u,slV v])) n (λw=>(k (Aa .i64 (m+1)) w/\l (Aa .i64 (m+1)) w<l m n)))/\(decide (m<j.len)=false->R (.map (some f.size)) n))):
  XC Tp 125 #[.agg #[.int .i64 b,.string c,.slice d.a d.len d.cap,.slice e.a e.len e.cap]] h R:=
 XF ⟨[],[(3,[(13,.one (.int .i64))])],[]⟩ [.tmp 2] 27 Tryz.func125 H
theorem yl(O:Sl)(Z:Sl)(aa:FuncId)(ae:Array Value)(ac:Array Value)(h:zb)(R:Value->zb->Prop)
  (H:(((O.len:Int) != (Z.len:Int))=true->R (.bool false) h)/\(((O.len:Int) != (Z.len:Int))=false->∃(b:Int->zb->Prop) (c:Int->zb->Nat),b 0 h/\∀d:Int,∀e:zb,b d e->((decide (d<O.len)=true->∃f,(O.a=some f/\0<=d/\d<O.len)/\∃g i j k,ze e (f.add (d.toNat*4)) 0 [.int .i64 g,.string i,slV j,slV k]/\let l:=e.push (.cells #[.int .i64 0,.string (⟨#[]⟩:Bt),.slice none 0 0,.slice none 0 0] 25);XRunU Tp (Ai 25 (.pointer (some ⟨e.size,0,none⟩)) (.agg #[.int .i64 g,.string i,slV j,slV k])) l (λm=>∃n,(Z.a=some n/\0<=d/\d<Z.len)/\∃o p q r,ze m (n.add (d.toNat*4)) 0 [.int .i64 o,.string p,slV q,slV r]/\let s:=m.push (.cells #[.int .i64 0,.string (⟨#[]⟩:Bt),.slice none 0 0,.slice none 0 0] 25);XRunU Tp (Ai 25 (.pointer (some ⟨m.size,0,none⟩)) (.agg #[.int .i64 o,.string p,slV q,slV r])) s (λt=>∃u v w x,ze t ⟨e.size,0,none⟩ 0 [.int .i64 u,.string v,slV w,slV x]/\∃y z A B,ze t ⟨m.size,0,none⟩ 0 [.int .i64 y,.string z,slV A,slV B]/\qp Tp aa=true/\XC Tp aa (ae++#[.agg #[.int .i64 u,.string v,slV w,slV x],.agg #[.int .i64 y,.string z,slV A,slV B]]++ac) t (λC D=>∃E,C=.bool E/\((!E)=true->R (.bool false) D)/\((!E)=false->(b (Aa .i64 (d+1)) D/\c (Aa .i64 (d+1)) D<c d e))))))/\(decide (d<O.len)=false->R (.bool true) e)))):
  XC Tp 165 #[.slice O.a O.len O.cap,.slice Z.a Z.len Z.cap,.func (.func aa) ae ac] h R:=
 XF ⟨[],[(4,[(17,.one (.int .i64))])],[]⟩ [.tmp 6] 32 Tryz.func165 H
theorem zld(b:Int)(c:Bt)(d:Sl)(e:Sl)(h:zb)(R:Value->zb->Prop)
  (H:let f:=h.push (.cells #[.int .i64 b,.string c,slV d,slV e] 25);∃g i j k,ze f ⟨h.size,0,none⟩ 0 [.int .i64 g,.string i,slV j,slV k]/\XC Tp 44 #[.agg #[.int .i64 g,.string i,slV j,slV k]] f (λl m=>∃n,l=.bool n/\∃o p q r,(n=true->ze m ⟨h.size,0,none⟩ 0 [.int .i64 o,.string p,slV q,slV r])/\∃s:Value->zb->Prop,(n=true->XC Tp 45 #[.agg #[.int .i64 o,.string p,slV q,slV r],.func (.func 46) #[] #[]] m (λt u=>∃v,t=.bool v/\s (.bool v) u))/\(n=false->∃w,s (.bool w) m)/\(n=true->∀x y,s x y->∃z,x=.bool z)/\∀A:Bool,∀B,s (.bool A) B->R (.bool (bif n then A else false)) B)):
  XC Tp 21 #[.agg #[.int .i64 b,.string c,.slice d.a d.len d.cap,.slice e.a e.len e.cap]] h R:=
 XF ⟨[],[],[]⟩ [.tmp 2] 9 Tryz.func21 H
theorem zrk(b:Int)(c:Bt)(d:Sl)(e:Sl)(ac:Bt)(h:zb)(R:Value->zb->Prop)
  (H:let f:=h.push (.cells #[.int .i64 b,.string c,slV d,slV e] 25);let g:=f.push (.cells #[.int .i64 0,.string (⟨#[]⟩:Bt),.slice none 0 0,.slice none 0 0] 25);∃i j k l,ze g ⟨h.size,0,none⟩ 0 [.int .i64 i,.string j,slV k,slV l]/\XC Tp 42 #[.agg #[.int .i64 i,.string j,slV k,slV l]] g (λm n=>∃o,m=.bool o/\∃p,((!(!o))=true->zk n (Aj ⟨h.size,0,none⟩ 0)=some (.int .i64 p))/\((bif (!o)then true else(p != 6))=true->XRunU Tp (Ai 25 (.pointer (some ⟨f.size,0,none⟩)) (.agg #[.int .i64 0,.string (⟨#[]⟩:Bt),.slice none 0 0,.slice none 0 0])) n (λq=>∃r s t u,ze q ⟨f.size,0,none⟩ 0 [.int .i64 r,.string s,slV t,slV u]/\R (.tuple #[.agg #[.int .i64 r,.string s,slV t,slV u],.bool false]) q))/\((bif (!o)then true else(p != 6))=false->∃v w x y,ze n ⟨h.size,0,none⟩ 0 [.int .i64 v,.string w,slV x,slV y]/\XC Tp 125 #[.agg #[.int .i64 v,.string w,slV x,slV y]] n (λz A=>∃B:Option Nat,z=.map B/\∃C D E F G,QExec Tp (Eg 137 (.map B) (.string ac) true) A (.tuple #[.agg #[.int .i64 C,.string D,slV E,slV F],.bool G])/\let I:=A.push (.cells #[.int .i64 0,.string (⟨#[]⟩:Bt),.slice none 0 0,.slice none 0 0] 25);XRunU Tp (Ai 25 (.pointer (some ⟨A.size,0,none⟩)) (.agg #[.int .i64 C,.string D,slV E,slV F])) I (λJ=>∃L M N O,ze J ⟨A.size,0,none⟩ 0 [.int .i64 L,.string M,slV N,slV O]/\XC Tp 58 #[.agg #[.int .i64 L,.string M,slV N,slV O]] J (λP Q=>∃S T U V,P=.agg #[.int .i64 S,.string T,slV U,slV V]/\XRunU Tp (Ai 25 (.pointer (some ⟨f.size,0,none⟩)) (.agg #[.int .i64 S,.string T,slV U,slV V])) Q (λW=>∃X Y Z aa,ze W ⟨f.size,0,none⟩ 0 [.int .i64 X,.string Y,slV Z,slV aa]/\R (.tuple #[.agg #[.int .i64 X,.string Y,slV Z,slV aa],.bool G]) W))))))):
  XC Tp 92 #[.agg #[.int .i64 b,.string c,.slice d.a d.len d.cap,.slice e.a e.len e.cap],.string ac] h R:=
 XF ⟨[],[],[]⟩ [.cell 4 25,.tmp 5] 27 Tryz.func92 H
theorem qb(aH:Option Nat)(aG:Option Nat)(aD:FuncId)(aF:Array Value)(aE:Array Value)(h:zb)(R:Value->zb->Prop)
  (H:∃b,QExec Tp (CV #[137] 3 #[.map aH]) h (.int .i64 b)/\∃c,QExec Tp (CV #[137] 3 #[.map aG]) h (.int .i64 c)/\((b != c)=true->R (.bool false) h)/\((b != c)=false->XRun Tp (E3 137 (.map aH)) h (λd e=>∃f:Option Addr,d=.pointer f/\∃(g:zb->Prop) (i:zb->Nat),g e/\∀j:zb,g j->(XRun Tp (E7 (.pointer f) false 0) j (λk l=>(k=.tuple #[.bool false]/\(false=true->XRun Tp (Instr.entry (.pointer f)) l (λm n=>∃o p:Value,m=.tuple #[o,p]/\let q:=n.push (.cells #[.int .i64 0,.string (⟨#[]⟩:Bt),.slice none 0 0,.slice none 0 0] 25);XRunU Tp (Ai 25 (.pointer (some ⟨n.size,0,none⟩)) p) q (λr=>∃s t u v w,QExec Tp (Eg 137 (.map aG) o true) r (.tuple #[.agg #[.int .i64 s,.string t,slV u,slV v],.bool w])/\let x:=r.push (.cells #[.int .i64 0,.string (⟨#[]⟩:Bt),.slice none 0 0,.slice none 0 0] 25);XRunU Tp (Ai 25 (.pointer (some ⟨r.size,0,none⟩)) (.agg #[.int .i64 s,.string t,slV u,slV v])) x (λy=>∃z A B C,((!(!w))=true->ze y ⟨n.size,0,none⟩ 0 [.int .i64 z,.string A,slV B,slV C])/\∃D E F G,((!(!w))=true->ze y ⟨r.size,0,none⟩ 0 [.int .i64 D,.string E,slV F,slV G])/\∃I:Value->zb->Prop,((!(!w))=true->qp Tp aD=true/\XC Tp aD (aF++#[.agg #[.int .i64 z,.string A,slV B,slV C],.agg #[.int .i64 D,.string E,slV F,slV G]]++aE) y (λJ L=>∃M,J=.bool M/\I (.bool M) L))/\((!(!w))=false->∃N,I (.bool N) y)/\((!(!w))=true->∀O P,I O P->∃Q,O=.bool Q)/\∀S:Bool,∀T,I (.bool S) T->((bif (!w)then true else(!S))=true->R (.bool false) T)/\((bif (!w)then true else(!S))=false->(g T/\i T<i j))))))/\(false=false->R (.bool true) l))\/∃U V:Value,k=.tuple #[.bool true,U,V]/\(true=true->XRun Tp (Instr.entry (.pointer f)) l (λW X=>∃Y Z:Value,W=.tuple #[Y,Z]/\let aa:=X.push (.cells #[.int .i64 0,.string (⟨#[]⟩:Bt),.slice none 0 0,.slice none 0 0] 25);XRunU Tp (Ai 25 (.pointer (some ⟨X.size,0,none⟩)) Z) aa (λab=>∃ac ad ae af ag,QExec Tp (Eg 137 (.map aG) Y true) ab (.tuple #[.agg #[.int .i64 ac,.string ad,slV ae,slV af],.bool ag])/\let ah:=ab.push (.cells #[.int .i64 0,.string (⟨#[]⟩:Bt),.slice none 0 0,.slice none 0 0] 25);XRunU Tp (Ai 25 (.pointer (some ⟨ab.size,0,none⟩)) (.agg #[.int .i64 ac,.string ad,slV ae,slV af])) ah (λai=>∃aj ak al am,((!(!ag))=true->ze ai ⟨X.size,0,none⟩ 0 [.int .i64 aj,.string ak,slV al,slV am])/\∃an ao ap aq,((!(!ag))=true->ze ai ⟨ab.size,0,none⟩ 0 [.int .i64 an,.string ao,slV ap,slV aq])/\∃ar:Value->zb->Prop,((!(!ag))=true->qp Tp aD=true/\XC Tp aD (aF++#[.agg #[.int .i64 aj,.string ak,slV al,slV am],.agg #[.int .i64 an,.string ao,slV ap,slV aq]]++aE) ai (λau av=>∃aw,au=.bool aw/\ar (.bool aw) av))/\((!(!ag))=false->∃ax,ar (.bool ax) ai)/\((!(!ag))=true->∀ay az,ar ay az->∃aA,ay=.bool aA)/\∀aB:Bool,∀aC,ar (.bool aB) aC->((bif (!ag)then true else(!aB))=true->R (.bool false) aC)/\((bif (!ag)then true else(!aB))=false->(g aC/\i aC<i j))))))/\(true=false->R (.bool true) l)))))):
  XC Tp 166 #[.map aH,.map aG,.func (.func aD) aF aE] h R:=
 XF ⟨[],[(4,[])],[]⟩ [.tmp 6] 38 Tryz.func166 H
theorem Q0(O:Sl)(Z:Sl)(h:zb)(R:Value->zb->Prop)
  (H:(((O.len:Int) != (Z.len:Int))=true->R (.bool false) h)/\(((O.len:Int) != (Z.len:Int))=false->∃(b:Int->zb->Prop) (c:Int->zb->Nat),b 0 h/\∀d:Int,∀e:zb,b d e->((decide (d<O.len)=true->∃f,(O.a=some f/\0<=d/\d<O.len)/\∃g,zk e (f.add (d.toNat*1))=some (.string g)/\∃i,(Z.a=some i/\0<=d/\d<Z.len)/\∃j,zk e (i.add (d.toNat*1))=some (.string j)/\((!(g.toList==j.toList))=true->R (.bool false) e)/\((!(g.toList==j.toList))=false->(b (Aa .i64 (d+1)) e/\c (Aa .i64 (d+1)) e<c d e)))/\(decide (d<O.len)=false->R (.bool true) e)))):
  XC Tp 104 #[.slice O.a O.len O.cap,.slice Z.a Z.len Z.cap] h R:=
 XF ⟨[],[(4,[(13,.one (.int .i64))])],[]⟩ [.tmp 4] 26 Tryz.func104 H
end
section
variable {gl M:Fr} {v:Tr} {h:zb} {D:List Nat} {rb:Nat}
theorem zo0(hg:GL gl){s:Bt}(hs:(lb s).length<=1048576){R:Int->Prop}(h:R (qu v s)):PC Tp gl 134 [Arg.mk .tree v,Arg.mk .str s] [.int .i64] R:=by
 apply zlb
 unfold qu at h
 refine⟨λh6=>?_,λh6=>?_⟩
 ·have O:v.kind=6:=by simpa using h6
  rw[if_pos O]at h
  exact zbf h
 ·have O:v.kind≠6:=by simpa using h6
  rw[if_neg O]at h
  have hi:=zjr hg (l:=lb s) hs (R:=λr=>r=zek (lb s)) rfl
  rw[Jc]at hi
  refine hi.mono λr hr=>?_
  subst hr
  refine⟨λhx=>?_,λhx=>?_⟩
  ·have Z:((zek (lb s)).2=true/\v.kind=5)/\(zek (lb s)).1<v.items.length:=by simpa using hx
   rw[if_pos Z.1.2,if_pos ⟨Z.1.1,Z.2⟩]at h;exact h
  ·by_cases h5:v.kind=5
   ·rw[if_pos h5,if_neg (λhc=>by simp[hc.1,h5,hc.2]at hx)]at h;exact h
   ·rw[if_neg h5]at h;exact h
theorem zag(ag:AgM M h)(bs:List Nat):Fr.le M (MxL M h bs):=by
 intro b c e
 unfold MxL
 split
 ·obtain⟨T,m,e'⟩:=ag b c e
  rw[e']
 ·exact e
theorem Plc.ld{p:Addr}{x:Tr}{T:Tr->Tr}(H:Plc h D rb p x T):∃(sk si:Sl) (bx:List Nat),ze h p 0 (zh x sk si)/\OT h x bx (zh x sk si)/\(∀c∈bx,c∈D)/\p.spot=none/\(p.block=rb\/p.block∈D)/\p.block∉bx:=by
 obtain⟨b,o,cs,bx,rfl,hb,ho,ot,aa,O,Z,ae,ac,af⟩:=H
 obtain⟨sk,si,e⟩:=ot.cells
 have e':cut cs o 4=zh x sk si:=e
 rw[e']at ot
 exact⟨sk,si,bx,zol hb (vs:=zh x sk si) (o:=o) (i:=0) e',ot,Z,rfl,O,aa⟩
theorem Plc.keepK{h h':zb}{p:Addr}{x:Tr}{T:Tr->Tr}(H:Plc h D rb p x T)(O:rb<h.size)(k:Keep h.size h h'):Plc h' D rb p x T:=by
 have hD:∀c∈D,c<h.size:=by
  obtain⟨b,o,cs,bx,_,_,_,_,_,_,_,_,Z,_⟩:=H
  exact Z
 exact H.keep (λc hc=>k.get c (by
  rcases hc with rfl|hc
  ·exact O
  ·exact hD c hc)) k.size
set_option maxHeartbeats 1000000 in
theorem qa7(hg:GL gl)(hv:Sm v)(ho:Yf zv v=true){p:List Bt}(hp:SL p){u2:Value}(hM:Fr.le gl M)(ag:AgM M h)(hD:Doc h rb v D)(ay:RdV M (.row .str) p u2){K:Value->zb->Prop}
  (au:yj v p=none->∀h',Keep h.size h h'->K (.pointer none) h')
  (aj:∀x,yj v p=some x->Sm x->Yf zv x=true->∀h' pa,Keep h.size h h'->Plc h' D rb pa x (λy=>zae v p y)->K (.pointer (some pa)) h'):
  XC Tp 102 #[.pointer (some ⟨rb,0,none⟩),u2] h K:=by
 obtain⟨sp,rfl,rp⟩:=zit ay
 obtain⟨ak,aD,aC⟩:=rowLen rp
 have aA:=hp.n
 have aG:=hD.lt rb (.inl rfl)
 apply zjw (some ⟨rb,0,none⟩) sp
 refine⟨⟨rb,0,none⟩,rfl,λpl i g=>∃(k:Nat) (pa:Addr) (x:Tr) (T:Tr->Tr),i=(k:Int)/\k<=p.length/\pl=some pa/\Keep h.size h g/\Plc g D rb pa x T/\Sm x/\Yf zv x=true/\yj v p=yj x (p.drop k)/\(yj v p≠none->∀y,T (zae x (p.drop k) y)=zae v p y),λ_ i _=>p.length-i.toNat,⟨0,_,v,id,rfl,by omega,rfl,Keep.refl _ _,?_,hv,ho,by simp,λ_ y=>by simp⟩,?_⟩
 ·rw[zm];exact hD.plc
 rintro pl i g ⟨k,pa,x,T,rfl,hk,rfl,kg,plc,hx,af,hf,hT⟩
 have zg:=kg.size
 refine⟨λhc=>?_,λhc=>?_⟩
 ·have O:k<p.length:=by rw[ak]at hc;simp at hc;omega
  have Z:p.drop k=p[k]::p.drop (k+1):=AE O
  rw[Z]at hf hT
  have agg:=ag.keep kg
  refine zkr agg rp O rfl rfl ?_
  obtain⟨sk,si,bx,an,ot,aE,_⟩:=Plc.ld plc
  refine⟨pa,rfl,x.kind,x.text,sk,si,an,?_⟩
  have az:PC Tp gl 134 [Arg.mk .tree x,Arg.mk .str p[k]] [.int .i64] (λr=>r=qu x p[k]):=zo0 hg (hp.s _ (As O)) rfl
  refine az.go (vs:=[.agg #[.int .i64 x.kind,.string x.text,slV sk,slV si],.string p[k]]) (hM.trans (zag agg bx)) (MxL.ag agg bx) (qn ot.rdv (qn (rdStr _) y0)) λw ah aB r ac am hr=>?_
  have hr:r=qu x p[k]:=hr
  subst hr
  have aF:=ac.keep.size
  have ai:Keep h.size h ah:=kg.trans ac.keep zg
  refine⟨qu x p[k],qeo am,λap=>?_,λal=>?_⟩
  ·refine au ?_ ah ai
   rw[hf,zhn (by simpa using ap)]
  ·rcases zel (jl af) p[k]with e|⟨j,e,hj⟩
   ·rw[e]at al;simp at al
   ·have ae:=Plc.keepK plc (by omega) ac.keep
    obtain⟨xi,aa,f1,f2,f3,f4⟩:=ae.step hj
    rw[e]
    refine⟨pa,rfl,xi,f1,aa,⟨f2,by omega,by omega⟩,?_⟩
    rw[y5 O (by omega),Ad]
    have hm:=As hj
    rw[Yt e hj]at hf
    refine⟨⟨k+1,aa.add (j*4),x.items[j],_,rfl,by omega,rfl,ai,f4,hx.item hm,jk af hm,hf,λar y=>?_⟩,by simp only[Ad];omega⟩
    have:=hT ar y
    rw[zvj e hj]at this
    exact this
 ·have O:k=p.length:=by rw[ak]at hc;simp at hc;omega
  subst O
  rw[Cw,J6]at hf
  refine aj x hf hx af g pa kg ?_
  have ax:T=λy=>zae v p y:=funext λy=>by
   have:=hT (by rw[hf];exact λh=>by cases h) y
   rw[Cw]at this
   exact this
  rw[<-ax];exact plc
end
end Go.X
end
section
namespace Go.X
open Go Go.RowKit
section
variable {cs:Array Value} {o n b k:Nat} {h:zb} {P:Program} {t e ty:TypeId} {z:Value} {K:Value -> zb -> Prop}
theorem xc(h:o+n<=cs.size):(cut cs o n).length=n:=by unfold cut;simp;omega
theorem zo1(H:Blk h b cs):Arr h.size h (some ⟨b,o,none⟩) (cut cs o n):=by
 refine .inr ⟨b,o,rfl,H.lt,λi v hv=>H.cell ?_⟩
 rw[zu]at hv
 split at hv
 ·rw[<-A0];exact hv
 ·cases hv
theorem zjy(H:Blk h b cs){vs:List Value}(hl:o+vs.length<=cs.size)(h1:∀u∈vs,u.oneCell'=true)(B:World)(d:Nat):
  ∃h',(storeCells ⟨b,o,none⟩ vs 0).run P (mk B d h)=.ok () (mk B d h')/\Blk h' b (upd cs o vs)/\h'.size=h.size/\∀j,j≠b->h'[j]?=h[j]?:=by
 obtain⟨T,e⟩:=H
 obtain⟨h',r1,r2,r3,r4⟩:=zqb (P:=P) e hl h1 B d
 exact⟨h',r1,⟨T,r2⟩,r3,r4⟩
theorem z8h{sz bytes:Nat}(T:ElemT P t e z sz bytes){s:Sl}(ha:s.a=some ⟨b,0,none⟩)(hb:Blk h b cs)(hc:s.cap*sz<=cs.size)(hl:s.len<=s.cap)(h1:∀u∈cut cs 0 (s.len*sz),u.oneCell'=true)(hk:k<s.len)
  (hK:∀h':zb,Blk h' b (upd cs (k*sz) (cut cs ((k+1)*sz) ((s.len-(k+1))*sz)))->h'.size=h.size->(∀j,j≠b->h'[j]?=h[j]?)->K (.slice s.a (s.len-1) s.cap) h'):
  XRun P (Au #[t,t] ty #[.slice s.a k s.cap,.slice (Yw s.a sz (k+1) s.cap) (s.len-(k+1)) (s.cap-(k+1))]) h K:=by
 intro B d
 have m1:s.len*sz<=s.cap*sz:=AM _ hl
 have m2:(k+1)*sz+(s.len-(k+1))*sz=s.len*sz:=by rw[<-BH];congr 1;omega
 have m3:(k+1)*sz=k*sz+sz:=DI _ _
 have ac:(cut cs ((k+1)*sz) ((s.len-(k+1))*sz)).length=(s.len-(k+1))*sz:=xc (by omega)
 have O:∀u∈cut cs ((k+1)*sz) ((s.len-(k+1))*sz),u.oneCell'=true:=λu hu=>h1 u (by
  unfold cut at hu ⊢
  rw[A2,List.take_drop,m2]at *
  exact Cp hu)
 have Z:Arr h.size h (Yw s.a sz (k+1) s.cap) (cut cs ((k+1)*sz) ((s.len-(k+1))*sz)):=by
  unfold Yw
  by_cases aa:s.cap=k+1
  ·have h0:s.len-(k+1)=0:=by omega
   rw[h0,Di];exact .inl (by unfold cut;simp)
  ·rw[if_neg aa,ha]
   have:(Option.map (λx=>Aj x ((k+1)*sz)) (some (⟨b,0,none⟩:Addr)))=some ⟨b,(k+1)*sz,none⟩:=by simp[zm]
   rw[this];exact zo1 hb
 have hS:=zih (P:=P) (s:=⟨Yw s.a sz (k+1) s.cap,s.len-(k+1),s.cap-(k+1)⟩) Z ac T.pos O T.slice B d
 obtain⟨h',r1,r2,r3,r4⟩:=zjy (P:=P) hb (o:=k*sz) (vs:=cut cs ((k+1)*sz) ((s.len-(k+1))*sz)) (by rw[ac];omega) O B d
 have hr:=Qa (P:=P) (ty:=ty) T (s:=⟨s.a,k,s.cap⟩) (h':=h') hS (by simp only;omega) (λp hp=>by
  simp only at hp ⊢
  rw[ha]at hp
  cases hp
  rw[zm,AH];exact r1) (λhn=>by simp only at hn;rw[ha]at hn;cases hn)
 refine⟨_,d,h',hr,?_⟩
 have:=hK h' r2 r3 r4
 rw[show k+(s.len-(k+1))=s.len-1 by omega]
 exact this
theorem zrl{sz n k:Nat}(hn:n*sz<=cs.size)(hk:k<n){c2:Array Value}(h2:∀q,q<(n-1)*sz->c2.toList[q]?=(upd cs (k*sz) (cut cs ((k+1)*sz) ((n-(k+1))*sz))).toList[q]?):
  cut c2 0 ((n-1)*sz)=(cut cs 0 (n*sz)).take (k*sz)++(cut cs 0 (n*sz)).drop ((k+1)*sz):=by
 have m2:(k+1)*sz+(n-(k+1))*sz=n*sz:=by rw[<-BH];congr 1;omega
 have m3:(k+1)*sz=k*sz+sz:=DI _ _
 have m4:(n-1)*sz=k*sz+(n-(k+1))*sz:=by rw[<-BH];congr 1;omega
 have Z:(cut cs ((k+1)*sz) ((n-(k+1))*sz)).length=(n-(k+1))*sz:=xc (by omega)
 have hu:k*sz+(cut cs ((k+1)*sz) ((n-(k+1))*sz)).length<=cs.size:=by rw[Z];omega
 have O:(cut cs 0 (n*sz)).length=n*sz:=xc (by omega)
 apply A7
 intro q
 rw[zu]
 split
 ·rename_i hq
  rw[AH,h2 q hq,jz hu,Z]
  split
  ·rename_i aa
   rw[Bo (by rw[AR,O];omega),AF,if_pos aa,zu,if_pos (by omega),AH]
  ·rename_i aa
   rw[if_pos (by omega),Bj (by rw[AR,O];omega),AR,O,C5 (by omega),AJ,zu,zu,if_pos (by omega),if_pos (by omega)]
   congr 1;omega
 ·rename_i hq
  rw[Bu]
  rw[Ao,AR,AY,O];omega
theorem zv0{sz bytes:Nat}(T:ElemT P t e z sz bytes)(Z:∀v∈(Bv z.cells 1).toList,v.oneCell'=true)(O:(Bv z.cells 1).toList.length=1*sz){a:Option Addr}{n cap:Nat}(ha:a=some ⟨b,0,none⟩)(hb:Blk h b cs)(hc:cap*sz<=cs.size)(hn:n+1<=cap)
  (hK:∀(h':zb) (cs':Array Value),Blk h' b cs'->cs'.size=cs.size->(∀q,q<n*sz->cs'.toList[q]?=cs.toList[q]?)->h'.size=h.size->(∀j,j≠b->h'[j]?=h[j]?)->K (.tuple #[]) h'):
  XRun P (Eb #[t] ty #[.slice (Yw a sz n cap) (n+1-n) (cap-n)]) h K:=by
 have e1:Yw a sz n cap=some ⟨b,n*sz,none⟩:=by
  unfold Yw
  rw[if_neg (by omega),ha];simp[zm]
 have e2:n+1-n=1:=by omega
 rw[e1,e2]
 obtain⟨X,hX⟩:=hb
 have m1:(n+1)*sz<=cap*sz:=AM _ hn
 have m2:(n+1)*sz=n*sz+sz:=DI _ _
 refine zy5 T hX (n:=1) (by rw[Dj];omega) Z O (λh' q1 q2 q3=>?_) (by omega)
 have hl:n*sz+(Bv z.cells 1).toList.length<=cs.size:=by rw[O];omega
 refine hK h' (upd cs (n*sz) (Bv z.cells 1).toList) ⟨X,by rw[q1];unfold upd;rw[O]⟩ (jm hl) (λq hq=>?_) q2 q3
 rw[jz hl,if_pos hq]
end
section
variable {P:Program} {t e ty:TypeId} {z:Value} {h:zb} {b m:Nat} {cs:Array Value} {K:Value -> zb -> Prop} {vs:List Value}
theorem zo2{sz bytes:Nat}(T:ElemT P t e z sz bytes){b o ac af:Nat}(hb:Blk h b cs){b2 o2 Z aa:Nat}{O:Array Value}(ai:Blk h b2 O)(hm:m=Nat.min Z ac)(h2:o2+m*sz<=O.size)(ae:o+m*sz<=cs.size)(h1:∀u∈cut O o2 (m*sz),u.oneCell'=true)
  (hK:∀h':zb,Blk h' b (upd cs o (cut O o2 (m*sz)))->h'.size=h.size->(∀j,j≠b->h'[j]?=h[j]?)->K (.int .i64 (m:Int)) h'):
  XRun P (Dp #[t,t] ty #[.slice (some ⟨b,o,none⟩) ac af,.slice (some ⟨b2,o2,none⟩) Z aa]) h K:=by
 intro B d
 obtain⟨i,hi,hz,ah,aj⟩:=T.info
 have hl:(cut O o2 (m*sz)).length=m*sz:=xc h2
 have hf:=run_firstCells_some (P:=P) (mk B d h) sz m ⟨b2,o2,none⟩ Z aa (cut O o2 (m*sz)) hl (λj u hu=>by
  rw[zm]
  rw[zu]at hu
  split at hu
  ·exact ai.cell (by rw[<-A0];exact hu)
  ·cases hu)
 obtain⟨h',r1,r2,r3,r4⟩:=zjy (P:=P) hb (o:=o) (vs:=cut O o2 (m*sz)) (by rw[hl];exact ae) h1 B d
 refine⟨.int .i64 (m:Int),d,h',?_,hK h' r2 r3 r4⟩
 simp[Dp,run_underlying T.slice,Builtin.lenOf,sizeOf,typeInfo,hi,ah,<-hm,hf,r1,goInt]
structure RowO (h:zb) (s:Sl) (b:Nat) (cs:Array Value) (sz:Nat):Prop where
 le:s.len<=s.cap
 at_:(s.len=0/\s.cap=0)\/(s.a=some ⟨b,0,none⟩/\Blk h b cs/\s.cap*sz<=cs.size)
structure RowN (h h':zb) (s':Sl) (b b':Nat) (cs':Array Value) (sz n:Nat) (cells:List Value):Prop where
 a:s'.a=some ⟨b',0,none⟩
 len:s'.len=n
 cap:n<=s'.cap
 blk:Blk h' b' cs'
 size:s'.cap*sz<=cs'.size
 cut:cut cs' 0 (n*sz)=cells
 new:b'=b\/h.size<=b'
 grow:h.size<=h'.size
 old:∀j,j<h.size->j≠b'->h'[j]?=h[j]?
theorem qa8{n m:Nat}(hl:n+vs.length<=cs.size)(hm:m=n+vs.length):cut (upd cs n vs) 0 m=cut cs 0 n++vs:=by
 subst hm
 have O:(cut cs 0 n).length=n:=xc (by omega)
 apply A7
 intro q
 rw[zu]
 split
 ·rename_i hq
  rw[AH,jz hl]
  split
  ·rename_i h1
   rw[Bo (by rw[O];exact h1),zu,if_pos h1,AH]
  ·rename_i h1
   rw[Bj (by rw[O];omega),O]
 ·rename_i hq
  rw[Bu]
  rw[Ao,O];omega
theorem zo3{sz bytes:Nat}(T:ElemT P t e z sz bytes){s:Sl}(H:RowO h s b cs sz){bv cv:Nat}(hv:Blk h bv vs.toArray)(Z:vs.length=sz)(h1:∀u∈vs,u.oneCell'=true)(hb:(s.len+1)*bytes<=140737488355328)(hm:s.len+1<=140737488355328)
  (hK:∀(s':Sl) (h':zb) (b':Nat) (cs':Array Value),RowN h h' s' b b' cs' sz (s.len+1) (cut cs 0 (s.len*sz)++vs)->K (.slice s'.a s'.len s'.cap) h'):
  XRun P (Au #[t,t] ty #[.slice s.a s.len s.cap,.slice (some ⟨bv,0,none⟩) 1 cv]) h K:=by
 intro B d
 have ae:Arr h.size h (some ⟨bv,0,none⟩) vs:=by
  have:=zo1 hv (o:=0) (n:=vs.length)
  rw[show cut vs.toArray 0 vs.length=vs by unfold cut;simp]at this
  exact this
 have hS:∀B d,Src P sz t (.slice (some ⟨bv,0,none⟩) 1 cv) 1 vs (mk B d h):=λB d=>zih (P:=P) (s:=⟨some ⟨bv,0,none⟩,1,cv⟩) ae (by simp[Z]) T.pos h1 T.slice B d
 have m0:(s.len+1)*sz=s.len*sz+sz:=DI _ _
 by_cases hr:s.len+1<=s.cap
 ·rcases H.at_ with⟨_,h0⟩|⟨ha,aa,hc⟩
  ·omega
  have m1:(s.len+1)*sz<=s.cap*sz:=AM _ hr
  obtain⟨h',r1,r2,r3,r4⟩:=zjy (P:=P) aa (o:=s.len*sz) (vs:=vs) (by rw[Z];omega) h1 B d
  have af:=Qa (P:=P) (ty:=ty) T (s:=s) (h':=h') (hS B d) hr (λp hp=>by
   rw[ha]at hp
   cases hp
   rw[zm,AH];exact r1) (λhn=>by rw[ha]at hn;cases hn)
  refine⟨_,d,h',af,hK ⟨s.a,s.len+1,s.cap⟩ h' b _ ⟨ha,rfl,hr,r2,by rw[jm (by rw[Z];omega)];exact hc,qa8 (by rw[Z];omega) (by rw[Z];exact m0),.inl rfl,by omega,λj hj ac=>r4 j ac⟩⟩
 ·have O:Arr h.size h s.a (cut cs 0 (s.len*sz))/\(cut cs 0 (s.len*sz)).length=s.len*sz:=by
   rcases H.at_ with⟨h0,_⟩|⟨ha,aa,hc⟩
   ·rw[h0,Di];exact⟨.inl (by unfold cut;simp),by unfold cut;simp⟩
   ·have m1:s.len*sz<=s.cap*sz:=AM _ H.le
    rw[ha];exact⟨zo1 aa,xc (by omega)⟩
  obtain⟨c,blk,q1,q2,q3,q4,q5⟩:=Wr (P:=P) (ty:=ty) (base:=0) T O.2 (λB d=>Qj O.1 O.2 T.pos B d) hS hb hm (CY _) (by omega) B d
  refine⟨_,d+1,_,q1,hK ⟨some ⟨h.size,0,none⟩,s.len+1,c⟩ _ h.size blk ⟨rfl,rfl,q2,Blk.new _ _ _,by rw[q4];exact Ae _,by unfold cut;rw[A2];exact q5,.inr (Ae _),by simp,λj hj ac=>by rw[BM,if_neg (by omega)]⟩⟩
end
end Go.X
end
section
namespace Go.X
section
variable {h:zb} {b k c m bv:Nat} {cs c2:Array Value} {K:Value -> zb -> Prop} {vs X:List Value}
theorem zrm:(∀v∈(Bv (E6 #[.int .i64 0,.string ⟨#[]⟩,.slice none 0 0,.slice none 0 0]).cells 1).toList,v.oneCell'=true)/\(Bv (E6 #[.int .i64 0,.string ⟨#[]⟩,.slice none 0 0,.slice none 0 0]).cells 1).toList.length=1*4:=by decide +kernel
theorem zv1:(∀v∈(Bv (AU ⟨#[]⟩).cells 1).toList,v.oneCell'=true)/\(Bv (AU ⟨#[]⟩).cells 1).toList.length=1*1:=by decide +kernel
theorem ztl{s:Sl}(ha:s.a=some ⟨b,0,none⟩)(hb:Blk h b cs)(hc:s.cap*4<=cs.size)(hl:s.len<=s.cap)(h1:∀u∈cut cs 0 (s.len*4),u.oneCell'=true)(hk:k<s.len)(Z:s.len<=140737488355328)
  (hK:∀(h':zb) (cs':Array Value),Blk h' b cs'->cs'.size=cs.size->h'.size=h.size->(∀j,j≠b->h'[j]?=h[j]?)->cut cs' 0 ((s.len-1)*4)=(cut cs 0 (s.len*4)).take (k*4)++(cut cs 0 (s.len*4)).drop ((k+1)*4)->K (.slice s.a (s.len-1) s.cap) h'):
  XC Tp 135 #[slV s,.int .i64 (k:Int),.int .i64 ((k+1:Nat):Int)] h K:=by
 apply xt s (k:Int) ((k+1:Nat):Int)
 refine⟨.inr ⟨_,rfl⟩,⟨by omega,by omega,by omega,by omega⟩,λhx=>?_,λ_=>⟨.inl rfl,⟨by omega,by omega,by omega,by omega⟩,.inl rfl,⟨by omega,by omega,by omega,by omega⟩,?_⟩⟩
 ·simp at hx;omega
 ·simp only[Ad,C3,Ca,Yk]
  refine z8h elemTree ha hb hc hl h1 hk λh2 b2 z2 f2=>⟨⟨s.a,s.len-1,s.cap⟩,rfl,.inr ⟨_,rfl⟩,⟨by simp only;omega,by simp only;omega,by simp only;omega,by simp only;omega⟩,?_⟩
  simp only[Ad]
  have m1:s.len*4<=s.cap*4:=AM _ hl
  have O:(upd cs (k*4) (cut cs ((k+1)*4) ((s.len-(k+1))*4))).size=cs.size:=jm (by rw[xc (by omega)];omega)
  have e:s.len=s.len-1+1:=by omega
  rw[show s.len-(s.len-1)=s.len-1+1-(s.len-1)by omega]
  refine zv0 elemTree zrm.1 zrm.2 ha b2 (by rw[O];exact hc) (by omega) λh3 c3 b3 s3 q3 z3 f3=>⟨rfl,?_⟩
  exact hK h3 c3 b3 (by rw[s3,O]) (by omega) (λj hj=>(f3 j hj).trans (f2 j hj)) (zrl (by omega) hk q3)
theorem zx2{s:Sl}(ha:s.a=some ⟨b,0,none⟩)(hb:Blk h b cs)(hc:s.cap*1<=cs.size)(hl:s.len<=s.cap)(h1:∀u∈cut cs 0 (s.len*1),u.oneCell'=true)(hk:k<s.len)(Z:s.len<=140737488355328)
  (hK:∀(h':zb) (cs':Array Value),Blk h' b cs'->cs'.size=cs.size->h'.size=h.size->(∀j,j≠b->h'[j]?=h[j]?)->cut cs' 0 ((s.len-1)*1)=(cut cs 0 (s.len*1)).take (k*1)++(cut cs 0 (s.len*1)).drop ((k+1)*1)->K (.slice s.a (s.len-1) s.cap) h'):
  XC Tp 136 #[slV s,.int .i64 (k:Int),.int .i64 ((k+1:Nat):Int)] h K:=by
 apply Qq s (k:Int) ((k+1:Nat):Int)
 refine⟨.inr ⟨_,rfl⟩,⟨by omega,by omega,by omega,by omega⟩,λhx=>?_,λ_=>⟨.inl rfl,⟨by omega,by omega,by omega,by omega⟩,.inl rfl,⟨by omega,by omega,by omega,by omega⟩,?_⟩⟩
 ·simp at hx;omega
 ·simp only[Ad,C3,Ca,Yk]
  refine z8h zfw ha hb hc hl h1 hk λh2 b2 z2 f2=>⟨⟨s.a,s.len-1,s.cap⟩,rfl,.inr ⟨_,rfl⟩,⟨by simp only;omega,by simp only;omega,by simp only;omega,by simp only;omega⟩,?_⟩
  simp only[Ad]
  have m1:s.len*1<=s.cap*1:=AM _ hl
  have O:(upd cs (k*1) (cut cs ((k+1)*1) ((s.len-(k+1))*1))).size=cs.size:=jm (by rw[xc (by omega)];omega)
  rw[show s.len-(s.len-1)=s.len-1+1-(s.len-1)by omega]
  refine zv0 zfw zv1.1 zv1.2 ha b2 (by rw[O];exact hc) (by omega) λh3 c3 b3 s3 q3 z3 f3=>⟨rfl,?_⟩
  exact hK h3 c3 b3 (by rw[s3,O]) (by omega) (λj hj=>(f3 j hj).trans (f2 j hj)) (zrl (by omega) hk q3)
theorem zjz{a:Option Addr}(ha:a=some ⟨b,0,none⟩)(h:k<c):Yw a 4 k c=some ⟨b,k*4,none⟩:=by
 unfold Yw
 rw[if_neg (by omega),ha];simp[zm]
theorem zv2{P vs X:List Value}{k q:Nat}(hP:P.length=k*4)(hv:vs.length=4):(P++vs++X)[q]?=if q<k*4 then P[q]? else if q<(k+1)*4 then vs[q-k*4]? else X[q-(k+1)*4]?:=by
 split
 ·rw[AP,Bo (by omega)]
 ·split
  ·rw[AP,Bj (by omega),hP,Bo (by omega)]
  ·rw[Bj (by rw[Ao];omega),Ao,hP,hv]
   congr 1;omega
theorem zx3(hv:vs.length=4)(hl:(k+1)*4+X.length<=c2.size)(hm:m=(k+1)*4+X.length):cut (upd (upd c2 ((k+1)*4) X) (k*4) vs) 0 m=cut c2 0 (k*4)++vs++X:=by
 subst hm
 have hs:=jm hl
 have hP:(cut c2 0 (k*4)).length=k*4:=xc (by omega)
 apply A7
 intro q
 rw[zu,zv2 hP hv]
 split
 ·rw[AH,jz (by rw[hs,hv];omega),hv]
  split
  ·rw[jz hl,if_pos (by omega),zu,if_pos (by assumption),AH]
  ·by_cases h2:q<(k+1)*4
   ·rw[if_pos (by omega),if_pos h2]
   ·rw[if_neg (by omega),if_neg h2,jz hl,if_neg (by omega),if_pos (by omega)]
 ·rw[if_neg (by omega),if_neg (by omega),Bu (by omega)]
theorem zx4(hv:vs.length=4)(hl:(k+1)*4+X.length<=c2.size)(hm:m=(k+1)*4+X.length):cut (upd (upd c2 (k*4) vs) ((k+1)*4) X) 0 m=cut c2 0 (k*4)++vs++X:=by
 subst hm
 have O:k*4+vs.length<=c2.size:=by omega
 have hs:=jm O
 have hP:(cut c2 0 (k*4)).length=k*4:=xc (by omega)
 apply A7
 intro q
 rw[zu,zv2 hP hv]
 split
 ·rw[AH,jz (by rw[hs];omega)]
  by_cases h1:q<k*4
  ·rw[if_pos (by omega),if_pos h1,jz O,if_pos h1,zu,if_pos h1,AH]
  ·rw[if_neg h1]
   by_cases h2:q<(k+1)*4
   ·rw[if_pos h2,if_pos h2,jz O,if_neg h1,if_pos (by omega)]
   ·rw[if_neg h2,if_neg h2,if_pos (by omega)]
 ·rw[if_neg (by omega),if_neg (by omega),Bu (by omega)]
theorem ztm{vs cs:Array Value}(hv:Blk h bv vs)(hb:Blk h b cs)(aa:0<cs.size)(Z:bv≠b){o l c:Nat}(hK:K (.bool false) h):
  qe0 Tp 196 #[.slice (some ⟨bv,0,none⟩) 1 1,.slice (some ⟨b,o,none⟩) l c] h K:=by
 intro B d
 obtain⟨T1,e1⟩:=hv
 obtain⟨T2,e2⟩:=hb
 refine⟨.bool false,d,h,?_,hK⟩
 obtain⟨i,hi,hz,O,ac⟩:=elemTree.info
 rw[run_callFunc_extern Tryz.func196 (by kernel_rfl) (by kernel_rfl) (by kernel_rfl) (e:=Extern.SlicesOverlaps.overlaps #[23,23] #[4]) (by kernel_rfl),
  Lib.run_overlaps_apart (mk B d h) 23 4 25 elemTree.slice 4 (λw=>by simp[Go.sizeOf,typeInfo,hi,O]) ⟨bv,0,none⟩ ⟨b,o,none⟩ 1 1 l c Z T1 T2 vs.size cs.size (by
   show(match h[bv]? with
    |some (.cells c elem _)=>some (elem,c.size)
    |_=>none)=_
   rw[e1]) (by
   show(match h[b]? with
    |some (.cells c elem _)=>some (elem,c.size)
    |_=>none)=_
   rw[e2]) (by omega) (by
   show(match h[bv]? with
    |some (.cells _ _ (lo,hi))=>decide (lo<=0)&&decide (0<hi)
    |_=>false)=_
   rw[e1];simp) (by
   show(match h[bv]? with
    |some (.cells _ _ (lo,hi))=>decide (lo<=vs.size)&&decide (vs.size<hi)
    |_=>false)=_
   rw[e1];simp)]
 rfl
set_option maxHeartbeats 1000000 in
theorem z2h{s:Sl}(H:RowO h s b cs 4)(h1:∀u∈cut cs 0 (s.len*4),u.oneCell'=true)(hv:Blk h bv vs.toArray)(Z:vs.length=4)(ai:∀u∈vs,u.oneCell'=true)(O:bv≠b)(aE:(s.len+1)*72<=140737488355328)(hk:k<=s.len)
  (hK:∀(s':Sl) (h':zb) (b':Nat) (cs':Array Value),RowN h h' s' b b' cs' 4 (s.len+1) ((cut cs 0 (s.len*4)).take (k*4)++vs++(cut cs 0 (s.len*4)).drop (k*4))->K (slV s') h'):
  XC Tp 164 #[slV s,.int .i64 (k:Int),.slice (some ⟨bv,0,none⟩) 1 1] h K:=by
 have aF:=H.le
 apply xu s (k:Int) ⟨some ⟨bv,0,none⟩,1,1⟩
 simp only
 have w1:Aa .i64 (((s.len:Nat):Int)+((1:Nat):Int))=((s.len+1:Nat):Int):=y5 (n:=s.len+1) (by omega) (by omega)
 have w2:Aa .i64 ((k:Int)+((1:Nat):Int))=((k+1:Nat):Int):=y5 (n:=k+1) (by omega) (by omega)
 refine⟨.inl trivial,⟨by omega,by omega,by omega,by omega⟩,λhx=>by simp at hx,λ_=>⟨λhx=>?_,λhx=>?_⟩⟩
 ·have al:k=s.len:=by simp at hx;omega
  subst al
  refine zo3 elemTree H hv Z ai (by omega) (by omega) λs' h' b' cs' N=>⟨s',rfl,?_⟩
  refine hK s' h' b' cs' ?_
  have af:(cut cs 0 (s.len*4)).length<=s.len*4:=by unfold cut;simp;omega
  rw[AX af,A6 af,Bf]
  exact N
 ·have al:k<s.len:=by(have:k≠s.len:=by simp at hx;omega);omega
  rcases H.at_ with⟨h0,_⟩|⟨ha,hb,hc⟩
  ·omega
  have af:(cut cs 0 (s.len*4)).length=s.len*4:=xc (by omega)
  have t1:(cut cs 0 (s.len*4)).take (k*4)=cut cs 0 (k*4):=by
   unfold cut;rw[A2,Ex,C5 (by omega)]
  have t2:(cut cs 0 (s.len*4)).drop (k*4)=cut cs (k*4) ((s.len-k)*4):=by
   unfold cut;rw[A2,Ew];congr 1;omega
  rw[w1,w2]
  have ac:∀u∈cut cs (k*4) ((s.len-k)*4),u.oneCell'=true:=λu hu=>h1 u (Cp (t2 ▸ hu))
  refine⟨λhg=>?_,λhg=>?_⟩
  ·have ak:s.cap<s.len+1:=by simp at hg;omega
   simp only[Ad,C3,Ca,Yk]
   have w3:Aa .i64 (((s.len+1:Nat):Int)-(k:Int))=((s.len+1-k:Nat):Int):=by rw[w64 (by omega)];omega
   rw[w3]
   refine⟨.inr ⟨_,rfl⟩,⟨by omega,by omega,by omega,by omega⟩,?_⟩
   intro B d
   obtain⟨i,hi,hz,am,an⟩:=elemTree.info
   have ae:(CC i.size k (.slice s.a k s.cap)).run Tp (mk B d h).drew=.ok (cut cs 0 (k*4)).toArray (mk B d h).drew:=by
    rw[am]
    exact Qj (s:=⟨s.a,k,s.cap⟩) (n:=h.size) (by rw[ha];exact zo1 hb) (xc (by simp only;omega)) (by omega) B (d+1)
   have hr:=Lib.run_append_grow_zeros (P:=Tp) (mk B d h) 23 3 23 25 i _ .i64 .i64 elemTree.slice (by kernel_rfl) hi hz s.a k s.cap (cut cs 0 (k*4)) ae (s.len+1-k) (by omega) (by rw[am];omega) (by omega) (by omega) (by rw[an];omega) (by rw[an];exact growslice_fits (by omega) (by omega))
   have ar:=grownCap_ge (mk B d h) (k+(s.len+1-k)) s.cap 25
   generalize grownCap (mk B d h) (k+(s.len+1-k)) s.cap 25=c at *
   rw[show k+(s.len+1-k)=s.len+1 by omega]at hr ar
   refine⟨_,d+1,_,hr,⟨some ⟨h.size,0,none⟩,s.len+1,c⟩,rfl,.inl trivial,⟨by omega,by simp only;omega,by simp only;omega,by simp only;omega⟩,?_⟩
   simp only
   generalize au:(cut cs 0 (k*4)).toArray++Bv (E6 #[.int .i64 0,.string ⟨#[]⟩,.slice none 0 0,.slice none 0 0]).cells (s.len+1-k)++Bv (E6 #[.int .i64 0,.string ⟨#[]⟩,.slice none 0 0,.slice none 0 0]).cells (c-(s.len+1))=blk
   have ap:∀m,(Bv (E6 #[.int .i64 0,.string ⟨#[]⟩,.slice none 0 0,.slice none 0 0]).cells m).size=m*4:=λm=>by rw[size_zeroCells,elemTree.zero]
   have hP:(cut cs 0 (k*4)).length=k*4:=xc (by omega)
   have ay:blk.size=c*4:=by
    rw[<-au,Array.size_append,Array.size_append,ap,ap];simp only[DZ,hP];omega
   have ax:cut blk 0 (k*4)=cut cs 0 (k*4):=by
    rw[<-au]
    unfold cut
    rw[A2,Array.toList_append,Array.toList_append,AP]
    rw[show((List.take (k*4) (List.drop 0 cs.toList)).toArray).toList=cut cs 0 (k*4)from rfl,List.take_append,AX (by omega),hP,Nat.sub_self,Cz,Bf];rfl
   have bN:Blk (h.push (.cells blk 25)) h.size blk:=Blk.new _ _ _
   have kN:Keep h.size h (h.push (.cells blk 25)):=Keep.push _ _ (Ae _)
   show XRun Tp _ (h.push (.cells blk 25)) _
   have sN:(h.push (.cells blk 25)).size=h.size+1:=Ak _
   generalize h.push (.cells blk 25)=hN at *
   rw[zjz (a:=some ⟨h.size,0,none⟩) rfl (show k<c by omega),zjz (a:=some ⟨h.size,0,none⟩) rfl (show k+1<c by omega),zjz ha (show k<s.cap by omega)]
   have aC:=hv.ofKeep kN
   have cv:cut vs.toArray 0 (1*4)=vs:=by unfold cut;rw[A2];exact AX (by simp[Z])
   refine zo2 elemTree bN aC (m:=1) (by show _=min _ _;omega) (by simp[Z]) (by omega) (by rw[cv];exact ai) λh8 b8 z8 f8=>⟨1,rfl,.inl trivial,⟨by omega,by omega,by omega,by omega⟩,.inl trivial,⟨by omega,by omega,by omega,by omega⟩,?_⟩
   rw[cv]at b8
   have aD:=hb.lt
   have az:Blk h8 b cs:=(hb.ofKeep kN).keep (f8 b (by omega))
   have s8:(upd blk (k*4) vs).size=blk.size:=jm (by omega)
   have hX:(cut cs (k*4) ((s.len-k)*4)).length=(s.len-k)*4:=xc (by omega)
   refine zo2 elemTree b8 az (m:=s.len-k) (by show _=min _ _;omega) (by omega) (by rw[s8];omega) ac λaj aa aB ah=>⟨((s.len-k:Nat):Int),rfl,?_⟩
   refine hK ⟨some ⟨h.size,0,none⟩,s.len+1,c⟩ aj h.size _ ⟨rfl,rfl,ar,aa,by rw[jm (by rw[s8,hX];omega),s8,ay];exact Ae _,?_,.inr (Ae _),by omega,λj hj O=>by rw[ah j O,f8 j O];exact kN.get j hj⟩
   rw[t1,t2,zx4 Z (by rw[hX];omega) (by rw[hX];omega),ax]
  ·have ak:s.len+1<=s.cap:=by simp at hg;omega
   simp only[Ad,C3,Ca,Yk,Int.cast_ofNat_Int,Int.sub_zero]
   rw[zjz ha (show k<s.cap by omega),zjz ha (show k+1<s.cap by omega)]
   refine⟨.inr ⟨_,rfl⟩,⟨by omega,by omega,by omega,by omega⟩,.inl trivial,⟨by omega,by omega,by omega,by omega⟩,?_⟩
   refine ztm hv hb (by omega) O ⟨false,rfl,λ_=>⟨.inl trivial,⟨by omega,by omega,by omega,by omega⟩,.inl trivial,⟨by omega,by omega,by omega,by omega⟩,?_⟩,λhx=>by cases hx⟩
   have hX:(cut cs (k*4) ((s.len-k)*4)).length=(s.len-k)*4:=xc (by omega)
   refine zo2 elemTree hb hb (m:=s.len-k) (by show _=min _ _;omega) (by omega) (by omega) ac λh8 b8 z8 f8=>⟨((s.len-k:Nat):Int),rfl,.inl trivial,⟨by omega,by omega,by omega,by omega⟩,?_⟩
   have s8:(upd cs ((k+1)*4) (cut cs (k*4) ((s.len-k)*4))).size=cs.size:=jm (by rw[hX];omega)
   have aA:Blk h8 bv vs.toArray:=hv.keep (f8 bv O)
   have cv:cut vs.toArray 0 (1*4)=vs:=by unfold cut;rw[A2];exact AX (by simp[Z])
   refine zo2 elemTree b8 aA (m:=1) (by show _=min _ _;omega) (by simp[Z]) (by rw[s8];omega) (by rw[cv];exact ai) λaj aa aB ah=>⟨1,rfl,?_⟩
   rw[cv]at aa
   refine hK ⟨s.a,s.len+1,s.cap⟩ aj b _ ⟨ha,rfl,ak,aa,by rw[jm (by rw[s8];omega),s8];exact hc,?_,.inl rfl,by omega,λj hj O=>(ah j O).trans (f8 j O)⟩
   rw[t1,t2,zx3 Z (by rw[hX];omega) (by rw[hX];omega)]
end
section
variable {h:zb} {cs0 cs:Array Value} {o:Nat} {a b c d v:Value} {sk si:Sl} {bk bb:List Nat}
structure PlcP (h:zb) (D:List Nat) (rb:Nat) (p:Addr) (x:Tr) (T:Tr->Tr) (pb o:Nat) (cs0:Array Value) (sk si:Sl) (bk bb:List Nat) (b:Nat) (cs:Array Value) (bf:Nat->List Nat):Prop where
 ad:p=⟨pb,o,none⟩
 blk:Blk h pb cs0
 fit:o+4<=cs0.size
 cell:cut cs0 o 4=zh x sk si
 tr:OTp h x sk si bk bb b cs bf
 pin:pb=rb\/pb∈D
 nk:pb∉bk
 nb:pb∉bb
 nf:∀i,i<x.items.length->pb∉bf i
 ik:∀c∈bk,c∈D
 ib:∀c∈bb,c∈D
 jf:∀i,i<x.items.length->∀c∈bf i,c∈D
 rn:rb∉D
 lt:∀c∈D,c<h.size
 put:∀(h':zb) (x':Tr) (cells':List Value) (b':List Nat),(∀c,c≠pb->c∉bk->c∉bb->(∀i,i<x.items.length->c∉bf i)->(c=rb\/c∈D)->h'[c]?=h[c]?)->Blk h' pb (upd cs0 o cells')->OT h' x' b' cells'->(∀c∈b',(c∈bk\/c∈bb\/∃i,i<x.items.length/\c∈bf i)\/(c≠rb/\c∉D)) ->
   ∃D',Doc h' rb (T x') D'/\∀c∈D',c∈D\/c∈b'
theorem Plc.parts{D:List Nat}{rb:Nat}{p:Addr}{x:Tr}{T:Tr->Tr}(H:Plc h D rb p x T):∃pb o cs0 sk si bk bb b cs bf,PlcP h D rb p x T pb o cs0 sk si bk bb b cs bf:=by
 obtain⟨pb,o,cs0,bx,rfl,hb,ho,ot,Z,aa,O,ah,ae,ai⟩:=H
 obtain⟨sk,si,bk,bb,b,cs,bf,e,P,rfl⟩:=ot.p
 refine⟨pb,o,cs0,sk,si,bk,bb,b,cs,bf,rfl,hb,ho,e,P,aa,λhm=>Z (jq.2 (.inl hm)),λhm=>Z (jq.2 (.inr (.inl hm))),λi hi hm=>Z (jq.2 (.inr (.inr ⟨i,hi,hm⟩))),λc hc=>O c (jq.2 (.inl hc)),λc hc=>O c (jq.2 (.inr (.inl hc))),λi hi c hc=>O c (jq.2 (.inr (.inr ⟨i,hi,hc⟩))),ah,ae,λh' x' cells' b' hf ac aj af=>?_⟩
 exact ai h' x' cells' b' (λc h1 h2 h3=>hf c h1 (λhm=>h2 (jq.2 (.inl hm))) (λhm=>h2 (jq.2 (.inr (.inl hm)))) (λi hi hm=>h2 (jq.2 (.inr (.inr ⟨i,hi,hm⟩)))) h3) ac aj λc hc=>(af c hc).imp jq.2 id
theorem z2i(hf:o+4<=cs0.size)(e:cut cs0 o 4=[a,b,c,d]):upd cs0 (o+3) [v]=upd cs0 o [a,b,c,v]:=by
 apply EL
 apply A7
 intro q
 rw[jz (by simp;omega),jz (by simp;omega)]
 simp only[Ay,Dh]
 have hq:∀j,j<4->cs0.toList[o+j]?=[a,b,c,d][j]?:=λj hj=>by rw[<-e,zu,if_pos hj]
 by_cases h1:q<o
 ·rw[if_pos (by omega),if_pos h1]
 ·rw[if_neg h1]
  by_cases h2:q<o+3
  ·rw[if_pos h2,if_pos (by omega)]
   have:=hq (q-o) (by omega)
   rw[show o+(q-o)=q by omega]at this
   rw[this]
   rcases(show q-o=0\/q-o=1\/q-o=2 by omega)with e|e|e <;> rw[e] <;> rfl
  ·rw[if_neg h2]
   by_cases h3:q<o+4
   ·rw[if_pos (by omega),if_pos (by omega),show q-(o+3)=0 by omega,show q-o=3 by omega];rfl
   ·rw[if_neg (by omega),if_neg (by omega)]
theorem z8i(hf:o+4<=cs0.size)(e:cut cs0 o 4=[a,b,c,d]):upd cs0 (o+2) [v]=upd cs0 o [a,b,v,d]:=by
 apply EL
 apply A7
 intro q
 rw[jz (by simp;omega),jz (by simp;omega)]
 simp only[Ay,Dh]
 have hq:∀j,j<4->cs0.toList[o+j]?=[a,b,c,d][j]?:=λj hj=>by rw[<-e,zu,if_pos hj]
 by_cases h1:q<o
 ·rw[if_pos (by omega),if_pos h1]
 ·rw[if_neg h1]
  by_cases h2:q<o+2
  ·rw[if_pos h2,if_pos (by omega)]
   have:=hq (q-o) (by omega)
   rw[show o+(q-o)=q by omega]at this
   rw[this]
   rcases(show q-o=0\/q-o=1 by omega)with e|e <;> rw[e] <;> rfl
  ·rw[if_neg h2]
   by_cases h3:q<o+3
   ·rw[if_pos (by omega),if_pos (by omega),show q-(o+2)=0 by omega,show q-o=2 by omega];rfl
   ·rw[if_neg (by omega)]
    by_cases h4:q<o+4
    ·rw[if_pos (by omega),show q=o+3 by omega,hq 3 (by omega),show o+3-o=3 by omega];rfl
    ·rw[if_neg (by omega)]
theorem OTp.one{v:Tr}{b:Nat}{bf:Nat->List Nat}(H:OTp h v sk si bk bb b cs bf):∀u∈cut cs 0 (si.len*4),u.oneCell'=true:=by
 intro u hu
 rw[H.hn.1]at hu
 obtain⟨q,hq⟩:=List.getElem?_of_mem hu
 rw[zu]at hq
 split at hq
 ·rename_i O
  have hi:q / 4<v.items.length:=by omega
  refine(H.hi (q / 4) hi).one u (CF (i:=q % 4) ?_)
  rw[zu,if_pos (by omega),show q / 4*4+q % 4=0+q by omega];exact hq
 ·cases hq
theorem OTp.row{v:Tr}{b:Nat}{bf:Nat->List Nat}(H:OTp h v sk si bk bb b cs bf){h':zb}(k:∀c∈bb,h'[c]?=h[c]?):RowO h' si b cs 4:=by
 refine⟨by have:=H.hn;omega,?_⟩
 rcases H.hz with⟨h0,_,h2⟩|⟨O,ha,hb,hc⟩
 ·exact .inl ⟨by rw[H.hn.1,h0];rfl,h2⟩
 ·exact .inr ⟨ha,hb.keep (k b (by rw[O];simp)),hc⟩
end
end Go.X
end
section
namespace Go.X
open Go Go.Lib
section
variable {v w t:Tr} {m:Nat}
def zms(p:List Bt):List Bt:=p.take (p.length-1)
def zj0(p:List Bt):Bt:=p.getD (p.length-1) ⟨#[]⟩
theorem zo4(q:List Bt)(s:Bt):zms (q++[s])=q/\zj0 (q++[s])=s:=by
 unfold zms zj0
 simp
theorem zv3{p:List Bt}(h:p≠[]):p=zms p++[zj0 p]:=by
 rcases List.eq_nil_or_concat p with rfl|⟨q,s,rfl⟩
 ·exact absurd rfl h
 ·rw[List.concat_eq_append,(zo4 q s).1,(zo4 q s).2]
theorem zj1{p:List Bt}(h:p.length-1<p.length):p[p.length-1]=zj0 p:=by
 unfold zj0;rw[Bl,Am h];rfl
def qa9(x:Tr)(s:Bt):Option Nat:=if lb s=[45]then some x.items.length else if(zek (lb s)).2=true/\(zek (lb s)).1<=x.items.length then some (zek (lb s)).1.toNat else none
def zpj(x:Tr)(j:Nat):Tr:=.mk x.kind x.text (if x.kind=6 then x.keys.take j++x.keys.drop (j+1)else x.keys) (x.items.take j++x.items.drop (j+1))
def qce(x:Tr)(s:Bt)(w:Tr):Tr:=.mk x.kind x.text (x.keys++[s]) (x.items++[w])
def zeu(v:Tr):Bool:=decide (v.kind=0/\lb v.text=[]/\v.keys=[]/\v.items=[])
abbrev OpT:=Bt×List Bt×List Bt×Tr
def z2j:Bs:=[97,100,100]
def W7:Bs:=[114,101,109,111,118,101]
def Qr:Bs:=[114,101,112,108,97,99,101]
def zj2:Bs:=[109,111,118,101]
def zj3:Bs:=[99,111,112,121]
def zgk:Bs:=[116,101,115,116]
def zy(s:Bs):Bool×Bool×Bool:=if s=z2j\/s=Qr\/s=zgk then(true,false,true)else if s=zj2\/s=zj3 then(false,true,true)else(false,false,decide (s=W7))
def qc(o:OpT):Bool:=(zy (lb o.1)).2.2&&(qh o.2.1&&(qh o.2.2.1&&(((zy (lb o.1)).2.1||decide (o.2.2.1=[]))&&(bif (zy (lb o.1)).1 then qe o.2.2.2 else zeu o.2.2.2))))
mutual
def W8:Tr->Tr->Bool
 |.mk k s ks xs,b=>decide (k=b.kind)&&(decide (s=b.text)&&(decide (xs.length=b.items.length)&&(if k=6 then zto ks xs b else ztn xs b.items)))
def ztn:List Tr->List Tr->Bool
 |[],[]=>true
 |x::l,y::m=>W8 x y&&ztn l m
 |_,_=>false
def zto:List Bt->List Tr->Tr->Bool
 |_,[],_=>true
 |[],_::_,_=>false
 |k::ks,x::xs,b=>(match b.items[(idxOfS b.keys k).toNat]? with
  |some y=>decide (0<=idxOfS b.keys k)&&W8 x y
  |none=>false)&&zto ks xs b
end
def zpk(v:Tr)(p:List Bt)(w:Tr):Option Tr:=if p=[]then some w else match yj v (zms p)with
 |none=>none
 |some x=>if x.kind=5 then(match qa9 x (zj0 p)with
   |some k=>some (zae v (zms p) (qa2 x k w))
   |none=>none)
  else if x.kind≠6 then none else if 0<=qu x (zj0 p)then some (zae v (zms p) (zxx x (qu x (zj0 p)).toNat w))else some (zae v (zms p) (qce x (zj0 p) w))
def zr1(v:Tr)(p:List Bt):Tr:=match yj v (zms p)with
 |none=>v
 |some x=>zae v (zms p) (zpj x (qu x (zj0 p)).toNat)
def zle:Option Tr->Tr×Int
 |some t=>(t,0)
 |none=>(zT,8)
def doR(v:Tr)(o:OpT):Tr×Int:=
 if lb o.1=W7 then(match yj v o.2.1 with
  |none=>(zT,8)
  |some _=>if o.2.1=[]then(zT,1)else(zr1 v o.2.1,0))
 else if lb o.1=Qr then(match yj v o.2.1 with
  |none=>(zT,8)
  |some _=>(zae v o.2.1 o.2.2.2,0))
 else if lb o.1=zj2 then(match yj v o.2.2.1 with
  |none=>(zT,8)
  |some y=>if o.2.2.1=o.2.1.take o.2.2.1.length/\o.2.2.1.length<=o.2.1.length then(if o.2.2.1.length<o.2.1.length then(zT,1)else(v,0))else zle (zpk (zr1 v o.2.2.1) o.2.1 y))
 else if lb o.1=zj3 then(match yj v o.2.2.1 with
  |none=>(zT,8)
  |some y=>zle (zpk v o.2.1 y))
 else if lb o.1=zgk then(match yj v o.2.1 with
  |none=>(zT,8)
  |some x=>if W8 x o.2.2.2 then(v,0)else(zT,9))
 else zle (zpk v o.2.1 o.2.2.2)
def Jh(v:Tr)(o:OpT):Tr×Int:=if qc o then(if(doR v o).2=0 then(if qe (doR v o).1 then((doR v o).1,0)else(zT,1))else(zT,(doR v o).2))else(zT,1)
def zj4:Tr->List OpT->Nat->Tr×Int×Int
 |v,[],i=>(v,i,0)
 |v,o::l,i=>if(Jh v o).2=0 then zj4 (Jh v o).1 l (i+1)else(zT,i,(Jh v o).2)
def zj5(v:Tr)(l:List OpT):Tr×Int×Int:=if qe v then zj4 v l 0 else(zT,0,1)
theorem wo:∀{p:List Bt} {v x:Tr},yj v p=some x->tsz x<=tsz v/\(∀m,txB m v->txB m x)/\∀q,Yf q v=true->Yf q x=true
 |[],v,x,h=>by rw[J6]at h;cases h;exact⟨Ae _,λ_ h=>h,λ_ h=>h⟩
 |s::p,v,x,h=>by
  have hl:(ym v (s::p)).length=(s::p).length:=by
   unfold yj at h
   split at h
   ·assumption
   ·cases h
  obtain⟨k,hk,e1,_,_⟩:=zcp hl
  rw[Yt e1 hk]at h
  obtain⟨h1,h2,h3⟩:=wo h
  have hm:v.items[k]∈v.items:=As hk
  have:=jj hm
  exact⟨by omega,λm hv=>h2 m (Q8 hv hm),λq hq=>h3 q (jk hq hm)⟩
theorem zrn{p:List Bt}{v x:Tr}(h:yj v p=some x):(ym v p).length=p.length:=by
 unfold yj at h
 split at h
 ·assumption
 ·cases h
theorem zo5{w:Tr}:∀{p:List Bt} {v x:Tr},yj v p=some x->tsz (zae v p w)+tsz x=tsz v+tsz w
 |[],v,x,h=>by rw[J6]at h;cases h;rw[zae];omega
 |s::p,v,x,h=>by
  obtain⟨k,hk,e1,_,_⟩:=zcp (zrn h)
  rw[Yt e1 hk]at h
  have h1:=zo5 (w:=w) h
  rw[zvj e1 hk]
  have h2:=zho v.items k hk (zae v.items[k] p w)
  rw[j5,j5 v]
  show 1+xj (v.items.set _ _)+_=_
  omega
theorem zbk(l:List Tr)(k:Nat):xj (l.take k)+xj (l.drop k)=xj l:=by
 rw[<-y7,Br]
theorem qba(x:Tr)(k:Nat)(w:Tr):tsz (qa2 x k w)=tsz x+tsz w:=by
 have:=zbk x.items k
 rw[j5,j5 x]
 show 1+xj (x.items.take k++w::x.items.drop k)=_
 rw[y7,xj];omega
theorem qbb(x:Tr)(s:Bt)(w:Tr):tsz (qce x s w)=tsz x+tsz w:=by
 rw[j5,j5 x]
 show 1+xj (x.items++[w])=_
 rw[y7,xj,xj];omega
theorem qbc(x:Tr)(k:Nat)(w:Tr):tsz (zxx x k w)<=tsz x+tsz w:=by
 rw[j5,j5 x]
 show 1+xj (x.items.set k w)<=_
 rcases AZ k x.items.length with h|h
 ·have:=zho x.items k h w;omega
 ·rw[List.set_eq_of_length_le h];omega
theorem qbd(x:Tr)(j:Nat):tsz (zpj x j)<=tsz x:=by
 have h1:=zbk x.items j
 have h2:xj (x.items.drop (j+1))<=xj (x.items.drop j):=by
  rw[show x.items.drop (j+1)=(x.items.drop j).drop 1 by rw[Cd]]
  cases x.items.drop j with
  |nil=>simp
  |cons y l=>simp[xj]
 rw[j5,j5 x]
 show 1+xj (x.items.take j++x.items.drop (j+1))<=_
 rw[y7];omega
theorem zv4{x:Tr}(h:txB m x){ks:List Bt}{xs:List Tr}(hk:ks.length<=m)(O:∀k∈ks,k.size<=m)(Z:∀y∈xs,txB m y):txB m (.mk x.kind x.text ks xs):=by
 have:=(J3 m x).1 h
 exact(J3 m _).2 ⟨⟨this.1.1,hk,O⟩,Ja.2 Z⟩
theorem qbe{x w:Tr}(h:txB m x)(hw:txB m w)(k:Nat):txB m (qa2 x k w):=by
 have h':=(J3 m x).1 h
 refine zv4 h h'.1.2.1 h'.1.2.2 λy hy=>?_
 rcases An.1 hy with hy|hy
 ·exact Q8 h (BI hy)
 ·rcases Af.1 hy with rfl|hy
  ·exact hw
  ·exact Q8 h (Cp hy)
theorem qbf{x w:Tr}(h:txB m x)(hw:txB m w)(k:Nat):txB m (zxx x k w):=by
 have h':=(J3 m x).1 h
 refine zv4 h h'.1.2.1 h'.1.2.2 λy hy=>?_
 rcases List.mem_or_eq_of_mem_set hy with hy|rfl
 ·exact Q8 h hy
 ·exact hw
theorem qbg{x w:Tr}{s:Bt}(h:txB m x)(hw:txB m w)(hl:x.keys.length+1<=m)(hs:s.size<=m):txB m (qce x s w):=by
 have h':=(J3 m x).1 h
 refine zv4 h (by simpa using hl) (λk hk=>?_) λy hy=>?_
 ·rcases An.1 hk with hk|hk
  ·exact h'.1.2.2 k hk
  ·simp at hk;subst hk;exact hs
 ·rcases An.1 hy with hy|hy
  ·exact Q8 h hy
  ·simp at hy;subst hy;exact hw
theorem qbh{x:Tr}(h:txB m x)(j:Nat):txB m (zpj x j):=by
 have h':=(J3 m x).1 h
 unfold zpj
 refine zv4 h ?_ (λk hk=>?_) λy hy=>?_
 ·have:=h'.1.2.1
  split
  ·simp;omega
  ·exact this
 ·split at hk
  ·rcases An.1 hk with hk|hk
   ·exact h'.1.2.2 k (BI hk)
   ·exact h'.1.2.2 k (Cp hk)
  ·exact h'.1.2.2 k hk
 ·rcases An.1 hy with hy|hy
  ·exact Q8 h (BI hy)
  ·exact Q8 h (Cp hy)
theorem zj6(v:Tr)(p:List Bt):tsz (zr1 v p)<=tsz v:=by
 unfold zr1
 split
 ·exact Ae _
 ·rename_i x hx
  have h1:=zo5 (w:=zpj x (qu x (zj0 p)).toNat) hx
  have h2:=qbd x (qu x (zj0 p)).toNat
  omega
theorem ztp(h:txB m v)(p:List Bt):txB m (zr1 v p):=by
 unfold zr1
 split
 ·exact h
 ·rename_i x hx
  exact zfu (qbh ((wo hx).2.1 m h) _) _ v h
theorem W9(h:zv v=true)(h6:v.kind=6):v.keys.length=v.items.length:=by
 unfold zv at h
 simp[h6]at h
 exact h.1.2
theorem qbi{p:List Bt}(h:zpk v p w=some t):tsz t<=tsz v+tsz w:=by
 unfold zpk at h
 split at h
 ·cases h;omega
 ·split at h
  ·cases h
  ·rename_i x hx
   have hs:=λy=>zo5 (w:=y) hx
   split at h
   ·split at h
    ·rename_i k _
     cases h
     have:=hs (qa2 x k w);rw[qba]at this;omega
    ·cases h
   ·split at h
    ·cases h
    ·split at h
     ·cases h
      have:=hs (zxx x (qu x (zj0 p)).toNat w);have:=qbc x (qu x (zj0 p)).toNat w;omega
     ·cases h
      have:=hs (qce x (zj0 p) w);rw[qbb]at this;omega
theorem qbj{p:List Bt}(h:zpk v p w=some t)(hv:txB 1048576 v)(hw:txB 1048576 w)(ho:Yf zv v=true)(hs:tsz v<=1000000)(hp:∀s∈p,s.size<=1048576):txB 1048576 t:=by
 unfold zpk at h
 split at h
 ·cases h;exact hw
 ·rename_i Z
  split at h
  ·cases h
  ·rename_i x hx
   obtain⟨f1,f2,f3⟩:=wo hx
   have O:=f2 _ hv
   split at h
   ·split at h
    ·rename_i k _
     cases h
     exact zfu (qbe O hw k) _ v hv
    ·cases h
   ·split at h
    ·cases h
    ·rename_i h6
     split at h
     ·cases h
      exact zfu (qbf O hw _) _ v hv
     ·cases h
      refine zfu (qbg O hw ?_ (hp _ ?_)) _ v hv
      ·have:=W9 (jl (f3 _ ho)) (by omega)
       have h2:=Zw x.items
       rw[j5]at f1
       omega
      ·rw[zv3 Z];simp[(zo4 _ _).2]
end
end Go.X
end
section
namespace Go.X
section
theorem J9(x:Tr)(sk si:Sl):∀u∈zh x sk si,u.oneCell'=true:=by
 intro u hu
 simp[zh]at hu
 rcases hu with rfl|rfl|rfl|rfl <;> simp[Value.oneCell',slV]
structure Turn (h h':zb) (rb:Nat) (D bw D':List Nat):Prop where
 size:h.size<=h'.size
 old:∀c,c<h.size->c≠rb->c∉D->h'[c]?=h[c]?
 own:∀c∈D',c∈D\/c∈bw\/h.size<=c
set_option maxHeartbeats 2000000 in
theorem z2k{gl:Fr}(hg:GL gl){x w:Tr}{s:Bt}(hs:(lb s).length<=1048576){h:zb}{M:Fr}{rb:Nat}{D:List Nat}{p:Addr}{T:Tr->Tr}(hM:Fr.le gl M)(ag:AgM M h)(H:Plc h D rb p x T)(a6:rb<h.size){bw:List Nat}{wk wi:Sl}(ow:OT h w bw (zh w wk wi))(af:∀c∈bw,c≠rb/\c∉D)(hx:x.items.length<=1000000000){K:Value->zb->Prop}
  (ap:qa9 x s=none->∀h',Keep h.size h h'->K (.int .i64 8) h')
  (aI:∀k,qa9 x s=some k->∀h' D',Doc h' rb (T (qa2 x k w)) D'->Turn h h' rb D bw D'->K (.int .i64 0) h'):
  XC Tp 133 #[.pointer (some p),.string s,.agg #[.int .i64 w.kind,.string w.text,slV wk,slV wi]] h K:=by
 obtain⟨pb,o,cs0,sk,si,bk,bb,b,cs,bf,P⟩:=Plc.parts H
 have aL:=P.ad
 subst aL
 have aS:pb<h.size:=P.blk.lt
 apply zjx (some ⟨pb,o,none⟩) s w.kind w.text wk wi
 intro h1
 have z1:h1.size=h.size+1:=Ak _
 have k1:Keep h.size h h1:=Keep.push _ _ (Ae _)
 have b1:Blk h1 h.size (zh w wk wi).toArray:=Blk.new _ _ _
 clear_value h1
 have hi:=zjr (gl:=gl) hg (l:=lb s) hs (R:=λr=>r=zek (lb s)) rfl
 rw[Jc]at hi
 refine hi.go (vs:=[.string s]) hM (ag.keep k1) (qn (rdStr _) y0) λv h3 M3 r L3 aO hr=>?_
 have hr:r=zek (lb s):=hr
 subst hr
 have z3:=L3.keep.size
 have k3:Keep h.size h h3:=k1.trans L3.keep (by omega)
 have b3:Blk h3 h.size (zh w wk wi).toArray:=b1.ofKeep L3.keep
 obtain⟨us,⟨x1,ba,rfl,r1,x2,rfl,r2⟩,rfl⟩:=aO
 rw[zhf rfl]at r1 r2
 obtain rfl:x1=.int .i64 (zek (lb s)).1:=by simpa[Rd]using r1
 obtain rfl:x2=.bool (zek (lb s)).2:=by simpa[Rd]using r2
 refine⟨(zek (lb s)).1,(zek (lb s)).2,rfl,λK8 aY=>?_⟩
 have ac:=P.tr.hn.1
 have ae:zk h3 (Aj ⟨pb,o,none⟩ 3)=some (slV si):=by
  refine(P.blk.ofKeep k3).cellAdd ?_
  have:(cut cs0 o 4)[3]?=some (slV si):=by rw[P.cell];rfl
  rw[zu,if_pos (by omega)]at this
  rw[<-A0];exact this
 have ah:∀k:Nat,qa9 x s=some k->k<=x.items.length->K8 (k:Int) h3:=by
  intro k aA hk
  refine aY (k:Int) h3 ⟨⟨pb,o,none⟩,rfl,si,ae,w.kind,w.text,wk,wi,b3.ld (cs:=zh w wk wi),⟨pb,o,none⟩,rfl,?_⟩
  intro Z
  have be:Z.size=h3.size+1:=Ak _
  have az:Keep h3.size h3 Z:=Keep.push _ _ (Ae _)
  have a1:Blk Z h3.size (zh w wk wi).toArray:=Blk.new _ _ _
  refine⟨az,?_⟩
  clear_value Z
  have kk:Keep h.size h Z:=k3.trans az (by omega)
  obtain⟨b0,aF,au⟩:∃b0,RowO Z si b0 cs 4/\((b0=b/\b∈bb)\/b0=Z.size):=by
   have aP:=OTp.row P.tr (h':=Z) (λc hc=>kk.get c (P.lt c (P.ib c hc)))
   rcases P.tr.hz with⟨h0,_,h2⟩|⟨aU,_⟩
   ·exact⟨Z.size,⟨aP.le,.inl ⟨by rw[ac,h0];rfl,h2⟩⟩,.inr rfl⟩
   ·exact⟨b,aP,.inl ⟨rfl,by rw[aU];simp⟩⟩
  have aD:h3.size≠b0:=by
   rcases au with⟨e,hm⟩|e
   ·have:=P.lt b (P.ib b hm);omega
   ·omega
  refine z2h aF (OTp.one P.tr) a1 rfl (J9 w wk wi) aD (by omega) (by omega) λs' aM b' cs' N=>⟨s',rfl,?_⟩
  rw[ac]at N
  have ai:(b'=b/\b∈bb)\/Z.size<=b':=by
   rcases N.new with e|e
   ·rcases au with⟨e2,hm⟩|e2
    ·exact .inl ⟨by rw[e,e2],hm⟩
    ·exact .inr (by omega)
   ·exact .inr e
  have am:∀c,c<h.size->c∉bb->c≠b':=λc hc hn e=>by
   rcases ai with⟨e2,hm⟩|e2
   ·exact hn (by rw[e,e2];exact hm)
   ·omega
  have aC:∀c,c<h.size->c∉bb->aM[c]?=h[c]?:=λc hc hn=>by
   rw[N.old c (by omega) (am c hc hn)];exact kk.get c hc
  have a7:=N.grow
  have aZ:Blk aM pb cs0:=P.blk.keep (aC pb aS P.nb)
  rw[zm]
  refine Yu (vs:=[slV s']) zvo aZ rfl zvp (by have:=P.fit;show o+3+1<=_;omega) (by simp[Value.oneCell',slV]) λaj ay bc ax=>?_
  rw[z2i P.fit P.cell]at ay
  have aa:∀c,c<h.size->c∉bb->c≠pb->aj[c]?=h[c]?:=λc hc hn hp=>(ax c hp).trans (aC c hc hn)
  have aJ:∀c,c∉D->c∉bb:=λc hc hm=>hc (P.ib c hm)
  have aN:∀c,c≠rb->c∉D->c≠pb:=λc h1 h2 e=>by
   rcases P.pin with e2|e2
   ·exact h1 (by rw[e,e2])
   ·exact h2 (by rw[e];exact e2)
  have aG:OT aj w bw (zh w wk wi):=ow.frame λc hc=>aa c (ow.lt c hc) (aJ c (af c hc).2) (aN c (af c hc).1 (af c hc).2)
  have al:∀i,i<x.items.length->∀c∈bf i,c∉bb:=λi O c hc hm=>P.tr.d3 c hm i O hc
  have ak:∀c,c∈D->c∉bb->c≠b':=λc hc hn=>am c (P.lt c hc) hn
  have an:Blk aj b' cs':=N.blk.keep (ax b' (by
   rcases ai with⟨e,hm⟩|e
   ·rw[e];exact λe2=>P.nb (e2 ▸ hm)
   ·omega))
  have aH:=(P.tr.ins hk aG (λi O c hc=>aa c (P.lt c (P.jf i O c hc)) (al i O c hc) (λe=>P.nf i O (e ▸ hc))) N.a an N.len N.cap N.size (by omega) N.cut
   (λi O hm=>ak b' (P.jf i O b' hm) (al i O b' hm) rfl) (λhm=>by
    rcases ai with⟨e,aQ⟩|e
    ·exact(af b' hm).2 (by rw[e];exact P.ib b aQ)
    ·have:=ow.lt b' hm;omega) (λc hc i O hm=>(af c hc).2 (P.jf i O c hm))
   (P.tr.keys.frame λc hc=>aa c (P.lt c (P.ik c hc)) (P.tr.d1 c hc) (λe=>P.nk (e ▸ hc))) P.tr.nk (λhm=>ak b' (P.ik b' hm) (P.tr.d1 b' hm) rfl) P.tr.d2 (λc hc hm=>(af c hm).2 (P.ik c hc))).ot
  obtain⟨D',aT,aB⟩:=P.put aj (qa2 x k w) _ _ (λc e1 e2 e3 e4 e5=>aa c (by
   rcases e5 with rfl|e5
   ·exact a6
   ·exact P.lt c e5) e3 e1) ay aH (λc hc=>by
    rcases jq.1 hc with hc|hc|⟨i,O,hc⟩
    ·exact .inl (.inl hc)
    ·simp at hc
     rcases ai with⟨e,hm⟩|e
     ·exact .inl (.inr (.inl (by rw[hc,e];exact hm)))
     ·exact .inr ⟨by omega,λhm=>by have:=P.lt c hm;omega⟩
    ·have aV:i<x.items.length+1:=by simpa[C5 hk,show k+(x.items.length-k+1)=x.items.length+1 by omega]using O
     try simp only at hc
     split at hc
     ·exact .inl (.inr (.inr ⟨i,by omega,hc⟩))
     ·split at hc
      ·exact .inr (af c hc)
      ·exact .inl (.inr (.inr ⟨i-1,by omega,hc⟩)))
  refine aI k aA aj D' aT ⟨by omega,λc h1 h2 h3=>aa c h1 (aJ c h3) (aN c h2 h3),λc hc=>?_⟩
  rcases aB c hc with hc|hc
  ·exact .inl hc
  ·rcases jq.1 hc with hc|hc|⟨i,O,hc⟩
   ·exact .inl (P.ik c hc)
   ·simp at hc
    rcases ai with⟨e,hm⟩|e
    ·exact .inl (by rw[hc,e];exact P.ib b hm)
    ·exact .inr (.inr (by omega))
   ·have aV:i<x.items.length+1:=by simpa[C5 hk,show k+(x.items.length-k+1)=x.items.length+1 by omega]using O
    try simp only at hc
    split at hc
    ·exact .inl (P.jf i (by omega) c hc)
    ·split at hc
     ·exact .inr (.inl hc)
     ·exact .inl (P.jf (i-1) (by omega) c hc)
 have he:(s.toList==((⟨#[45]⟩:Bt):Bt).toList)=decide (lb s=[45]):=by
  rw[AB];simp[ByteArray.toList_eq,lb]
 unfold qa9 at ah ap
 refine⟨λhq=>?_,λhq=>?_⟩
 ·rw[he]at hq
  have ar:lb s=[45]:=by simpa using hq
  refine⟨⟨pb,o,none⟩,rfl,si,ae,?_⟩
  rw[ac]
  exact ah _ (by rw[if_pos ar]) (Ae _)
 ·rw[he]at hq
  have ar:¬lb s=[45]:=by simpa using hq
  rw[if_neg ar]at ah ap
  refine⟨⟨pb,o,none⟩,λ_=>rfl,si,λ_=>ae,λhc=>?_,λhc=>?_⟩
  ·refine ap ?_ h3 k3
   rw[if_neg]
   rintro⟨c1,c2⟩
   rw[c1,ac]at hc
   simp at hc;omega
  ·have aE:(zek (lb s)).2=true/\(zek (lb s)).1<=x.items.length:=by
    cases h2:(zek (lb s)).2 with
    |false=>rw[h2]at hc;simp at hc
    |true=>rw[h2,ac]at hc;simp at hc;exact⟨rfl,by omega⟩
   have a8:=zmj aE.1
   have:=ah (zek (lb s)).1.toNat (by rw[if_pos aE]) (by omega)
   rw[Int.toNat_of_nonneg (by omega)]at this
   exact this
end
section
theorem PlcP.del{h:zb}{D:List Nat}{rb:Nat}{p:Addr}{x:Tr}{T:Tr->Tr}{pb o:Nat}{cs0:Array Value}{sk si:Sl}{bk bb:List Nat}{b:Nat}{cs:Array Value}{bf:Nat->List Nat}(P:PlcP h D rb p x T pb o cs0 sk si bk bb b cs bf)(ae:rb<h.size){j:Nat}(hj:j<x.items.length)
  {hz:zb} {Z:Array Value} {ks':List Bt} {sk' si':Sl} {bk':List Nat} (e1:si'.a=si.a) (e2:Blk hz b Z) (e3:si'.len+1=x.items.length) (e4:si'.cap=si.cap) (e5:Z.size=cs.size)
  (e7:cut Z 0 ((x.items.length-1)*4)=(cut cs 0 (x.items.length*4)).take (j*4)++(cut cs 0 (x.items.length*4)).drop ((j+1)*4))
  (ok:OKeys hz ks' bk' sk') (O:∀c∈bk',c∈bk) (nk:bk'.Nodup) (bz:Blk hz pb (upd cs0 o (zh (.mk x.kind x.text ks' (x.items.take j++x.items.drop (j+1))) sk' si')))
  (fz:∀c,c<h.size->c∉bk->c∉bb->c≠pb->hz[c]?=h[c]?):∃D',Doc hz rb (T (.mk x.kind x.text ks' (x.items.take j++x.items.drop (j+1)))) D'/\∀c∈D',c∈D:=by
 have hb:b∈bb:=by
  rcases P.tr.hz with⟨h0,_⟩|⟨af,_⟩
  ·rw[h0]at hj;simp at hj
  ·rw[af];simp
 have ot:=(P.tr.del hj (λi hi c hc=>fz c (P.lt c (P.jf i hi c hc)) (λhm=>P.tr.d2 c hm i hi hc) (λhm=>P.tr.d3 c hm i hi hc) (λe=>P.nf i hi (e ▸ hc))) e1 e2 e3 e4 e5 e7 ok O nk).ot
 have ac:∀c,c∈(BJ (x.items.take j++x.items.drop (j+1)).length).flatMap (λi=>if i<j then bf i else bf (i+1))->∃i,i<x.items.length/\c∈bf i:=by
  intro c hc
  obtain⟨i,hi,hc⟩:=BA.1 hc
  have ah:i<x.items.length-1:=by
   have:i<(x.items.take j++x.items.drop (j+1)).length:=by simpa using hi
   simp only[Ao,AR,AY]at this;omega
  split at hc
  ·exact⟨i,by omega,hc⟩
  ·exact⟨i+1,by omega,hc⟩
 obtain⟨D',hD,aa⟩:=P.put hz _ _ _ (λc q1 q2 q3 q4 q5=>fz c (by
  rcases q5 with rfl|q5
  ·exact ae
  ·exact P.lt c q5) q2 q3 q1) bz ot (λc hc=>by
  rw[An,An]at hc
  rcases hc with hc|hc|hc
  ·exact .inl (.inl (O c hc))
  ·simp at hc;exact .inl (.inr (.inl (by rw[hc];exact hb)))
  ·exact .inl (.inr (.inr (ac c hc))))
 refine⟨D',hD,λc hc=>?_⟩
 rcases aa c hc with hc|hc
 ·exact hc
 ·rw[An,An]at hc
  rcases hc with hc|hc|hc
  ·exact P.ik c (O c hc)
  ·simp at hc;rw[hc];exact P.ib b hb
  ·obtain⟨i,hi,hc⟩:=ac c hc
   exact P.jf i hi c hc
end
section
variable {M:Fr} {h:zb} {o:Nat} {cs0:Array Value}
theorem ztq{t:Ty}{xs:List (El t)}{s:Sl}(H:Rd M (.row t) xs [slV s]){n:Nat}(hn:n<=xs.length):RdV M (.row t) (xs.take n) (.slice s.a n s.cap):=by
 obtain⟨w,e,a,c,q,hb,hx⟩:=H
 simp only[Cq,and_true]at e
 subst e
 simp only[slV,AO]at q
 obtain⟨rfl,_,rfl⟩:=q
 rw[zhf rfl]
 have hl:(xs.take n).length=n:=by rw[AR];omega
 refine⟨_,rfl,s.a,s.cap,by rw[hl],⟨by omega,by omega⟩,?_⟩
 rcases hx with h0|⟨b,o,cs,e1,e2,e3⟩
 ·exact .inl (by rw[h0];simp)
 ·refine .inr ⟨b,o,cs,e1,e2,λi hi=>?_⟩
  rw[List.getElem_take]
  exact e3 i (by omega)
theorem zv5{b o:Nat}{vs:List Value}(H:Blk h b (upd cs0 o vs))(hf:o+vs.length<=cs0.size){i:Nat}{v:Value}(hv:vs[i]?=some v):zk h ⟨b,o+i,none⟩=some v:=by
 refine H.cell ?_
 have hi:=(Az.1 hv).1
 rw[<-A0,jz hf,if_neg (by omega),if_pos (by omega),Nat.add_sub_cancel_left];exact hv
theorem z2l{a b:List Value}(hf:o+a.length<=cs0.size)(hl:b.length=a.length):upd (upd cs0 o a) o b=upd cs0 o b:=by
 apply EL
 apply A7
 intro q
 rw[jz (by rw[jm hf];omega),jz hf,jz (by omega)]
 split
 ·rfl
 ·split
  ·rfl
  ·rw[if_neg (by omega)]
set_option maxHeartbeats 2000000 in
theorem zro{gl:Fr}(hg:GL gl){v:Tr}(hv:Sm v)(ho:Yf zv v=true){p:List Bt}(hp:SL p){rb:Nat}{D:List Nat}{u2:Value}(hM:Fr.le gl M)(ag:AgM M h)(hD:Doc h rb v D)(bB:RdV M (.row .str) p u2)
  (aB:p≠[]->∀(hl:p.length-1<p.length),∃x,yj v (p.take (p.length-1))=some x/\0<=qu x p[p.length-1]) (bc:∀x,yj v (p.take (p.length-1))=some x->x.items.length<=1000000000) {K:Value->zb->Prop}
  (h0:p=[]->K (.int .i64 1) h)
  (hy:∀x (j:Nat) (hl:p.length-1<p.length),yj v (p.take (p.length-1))=some x->qu x p[p.length-1]=j->j<x.items.length->∀h' D',Doc h' rb (zae v (p.take (p.length-1)) (zpj x j)) D'->Turn h h' rb D [] D'->K (.int .i64 0) h'):
  XC Tp 103 #[.pointer (some ⟨rb,0,none⟩),u2] h K:=by
 obtain⟨sp,rfl,rp⟩:=zit bB
 obtain⟨aH,bY,bS⟩:=rowLen rp
 have bT:=hp.n
 have cb:=hD.lt rb (.inl rfl)
 apply zc1 (some ⟨rb,0,none⟩) sp
 refine⟨λhz=>h0 (Av (by rw[aH]at hz;simp at hz;simp[hz])),λhz=>?_⟩
 have aN:p≠[]:=λe=>by rw[aH,e]at hz;simp at hz
 have bL:0<p.length:=A3.2 aN
 have hl:p.length-1<p.length:=by omega
 have w1:Aa .i64 (((sp.len:Nat):Int)-1)=((p.length-1:Nat):Int):=by rw[aH,w64 (by omega)];omega
 rw[w1]
 refine zkr ag rp hl rfl rfl ⟨.inr ⟨_,rfl⟩,⟨by omega,by omega,by omega,by omega⟩,?_⟩
 simp only[Ad,C3,Ca,Yk]
 obtain⟨x0,aV,bP⟩:=aB aN hl
 have bA:=ztq rp (n:=p.length-1) (by omega)
 refine qa7 hg hv ho ⟨by rw[AR];omega,λq hq=>hp.s q (BI hq)⟩ hM ag hD bA (λhn=>by rw[aV]at hn;cases hn) λx ak hx ba h4 pa k4 plc=>?_
 obtain rfl:x0=x:=Ax (aV.symm.trans ak)
 have z4:=k4.size
 have be:=ag.keep k4
 have bQ:=bc _ ak
 obtain⟨a1,aZ,bx,bh,ot,b8,_⟩:=Plc.ld plc
 refine⟨some pa,rfl,pa,rfl,x0.kind,x0.text,a1,aZ,bh,?_⟩
 have bE:PC Tp gl 134 [Arg.mk .tree x0,Arg.mk .str p[p.length-1]] [.int .i64] (λr=>r=qu x0 p[p.length-1]):=zo0 hg (hp.s _ (As hl)) rfl
 refine bE.go (vs:=[.agg #[.int .i64 x0.kind,.string x0.text,slV a1,slV aZ],.string p[p.length-1]]) (hM.trans (zag be bx)) (MxL.ag be bx) (qn ot.rdv (qn (rdStr _) y0)) λw O bZ r aD a8 hr=>?_
 have hr:r=qu x0 p[p.length-1]:=hr
 subst hr
 obtain⟨j,ej,hj⟩:∃j:Nat,qu x0 p[p.length-1]=j/\j<x0.items.length:=by
  rcases zel (jl ba) p[p.length-1]with e|h
  ·omega
  ·exact h
 have cc:=aD.keep.size
 have bH:Keep h.size h O:=k4.trans aD.keep z4
 have aC:=Plc.keepK plc (by omega) aD.keep
 obtain⟨pb,o,cs0,sk,si,bk,bb,b,cs,bf,P⟩:=Plc.parts aC
 have a6:=P.ad
 subst a6
 have aO:=P.tr.hn.1
 have bJ:=P.tr.hn.2.2
 obtain⟨aj,bo,bn,bz⟩:bb=[b]/\si.a=some ⟨b,0,none⟩/\Blk O b cs/\si.cap*4<=cs.size:=by
  rcases P.tr.hz with⟨e,_⟩|e
  ·rw[e]at hj;simp at hj
  ·exact e
 have aF:zk O (Aj ⟨pb,o,none⟩ 3)=some (slV si):=by
  refine P.blk.cellAdd ?_
  have:(cut cs0 o 4)[3]?=some (slV si):=by rw[P.cell];rfl
  rw[zu,if_pos (by omega)]at this
  rw[<-A0];exact this
 refine⟨qu x0 p[p.length-1],qeo a8,⟨pb,o,none⟩,rfl,si,aF,?_⟩
 rw[ej,y5 hj (by omega)]
 have ae:pb≠b:=λe=>P.nb (by rw[e,aj];simp)
 refine ztl bo bn bz (by omega) (OTp.one P.tr) (k:=j) (by omega) (by omega) λbD bC bm aY bV aT aG=>⟨⟨si.a,si.len-1,si.cap⟩,rfl,⟨pb,o,none⟩,rfl,?_⟩
 have aJ:Blk bD pb cs0:=P.blk.keep (aT pb ae)
 have bM:=P.fit
 rw[zm]
 refine Yu (vs:=[slV ⟨si.a,si.len-1,si.cap⟩]) zvo aJ rfl zvp (by show o+3+1<=_;omega) (by simp[Value.oneCell',slV]) λZ af ca aQ=>?_
 rw[z2i P.fit P.cell]at af
 have au:Blk Z b bC:=bm.keep (aQ b ae.symm)
 have ac:∀c,c≠b->c≠pb->Z[c]?=O[c]?:=λc h1 h2=>(aQ c h2).trans (aT c h1)
 rw[aO]at aG
 have ay:∀(hz:zb) (D':List Nat),Z.size<=hz.size->(∀c,c<O.size->c∉bk->c∉bb->c≠pb->hz[c]?=O[c]?)->(∀c∈D',c∈D)->Turn h hz rb D [] D':=λhz D' hs hf aa=>
  ⟨by omega,λc h1 h2 h3=>by
   rw[hf c (by omega) (λhm=>h3 (P.ik c hm)) (λhm=>h3 (P.ib c hm)) (λe=>by
    rcases P.pin with e2|e2
    ·exact h2 (by rw[e,e2])
    ·exact h3 (by rw[e];exact e2))]
   exact bH.get c h1,λc hc=>.inl (aa c hc)⟩
 have bG:zk Z (Aj ⟨pb,o,none⟩ 0)=some (.int .i64 x0.kind):=by
  rw[zm]
  exact zv5 (i:=0) af (by show o+4<=_;omega) rfl
 have bj:zk Z (Aj ⟨pb,o,none⟩ 2)=some (slV sk):=by
  rw[zm]
  exact zv5 (i:=2) af (by show o+4<=_;omega) rfl
 refine⟨⟨pb,o,none⟩,rfl,x0.kind,bG,λh6=>?_,λh6=>?_⟩
 ·have ap:x0.kind=6:=by simpa using h6
  have aP:x0.keys.length=x0.items.length:=by
   have:=jl ba
   unfold zv at this
   simp[ap]at this
   exact this.1.2
  obtain⟨l1,l2,l3,l4⟩:=P.tr.keys
  obtain⟨kb,ah,rfl,ka,a7,bI,ax⟩:∃kb ah,bk=[kb]/\sk.a=some ⟨kb,0,none⟩/\Blk O kb ah/\sk.cap<=ah.size/\cut ah 0 x0.keys.length=x0.keys.map AU:=by
   rcases l4 with⟨e,_⟩|e
   ·rw[e]at aP;simp at aP;omega
   ·exact e
  have az:kb≠b:=λe=>P.tr.d1 kb (by simp) (by rw[e,aj];simp)
  have ai:pb≠kb:=λe=>P.nk (by rw[e];simp)
  have am:Blk Z kb ah:=a7.keep (ac kb az ai.symm)
  refine⟨⟨pb,o,none⟩,rfl,sk,bj,?_⟩
  refine zx2 ka am (by omega) (by omega) (λu hu=>by
   rw[Cg,l1,ax]at hu
   obtain⟨q,_,rfl⟩:=BN.1 hu
   simp[Value.oneCell']) (k:=j) (by omega) (by omega) λbu aS bq bU bO aI aL=>⟨⟨sk.a,sk.len-1,sk.cap⟩,rfl,⟨pb,o,none⟩,rfl,?_⟩
  have aU:Blk bu pb _:=af.keep (aI pb ai)
  rw[zm]
  refine Yu (vs:=[slV ⟨sk.a,sk.len-1,sk.cap⟩]) z1m aU rfl z8b (by rw[jm (by show o+4<=_;omega)];show o+2+1<=_;omega) (by simp[Value.oneCell',slV]) λan aM b9 aA=>?_
  have bp:=zof (cs:=cs0) (o:=o) (vs:=[.int .i64 x0.kind,.string x0.text,slV sk,slV ⟨si.a,si.len-1,si.cap⟩]) (by show o+4<=_;omega)
  rw[z8i (by rw[jm (by show o+4<=_;omega)];omega) bp,z2l (cs0:=cs0) (o:=o) (a:=[.int .i64 x0.kind,.string x0.text,slV sk,slV ⟨si.a,si.len-1,si.cap⟩]) (b:=[.int .i64 x0.kind,.string x0.text,slV ⟨sk.a,sk.len-1,sk.cap⟩,slV ⟨si.a,si.len-1,si.cap⟩]) (by show o+4<=_;omega) rfl]at aM
  have ar:∀c,c<O.size->c∉[kb]->c∉bb->c≠pb->an[c]?=O[c]?:=λc _ h1 h2 h3=>by
   rw[aA c h3,aI c (λe=>h1 (by rw[e];simp))]
   exact ac c (λe=>h2 (by rw[e,aj];simp)) h3
  rw[Cg,Cg,Cg,Cg,l1,ax]at aL
  have bF:OKeys an (x0.keys.take j++x0.keys.drop (j+1)) [kb] ⟨sk.a,sk.len-1,sk.cap⟩:=by
   have al:(x0.keys.take j++x0.keys.drop (j+1)).length=x0.keys.length-1:=by simp;omega
   refine⟨by show sk.len-1=_;rw[al,l1],by rw[al];omega,by show _<=sk.cap;rw[al];omega,.inr ⟨kb,aS,rfl,ka,bq.keep (aA kb ai.symm),by show sk.cap<=_;omega,?_⟩⟩
   rw[al,aL];simp[List.map_take,List.map_drop]
  obtain⟨D',aE,aa⟩:=PlcP.del P (by omega) hj (si':=⟨si.a,si.len-1,si.cap⟩) rfl ((au.keep (aI b az.symm)).keep (aA b ae.symm)) (by show si.len-1+1=_;omega) rfl aY aG bF (λc hc=>hc) (by simp) aM ar
  refine hy x0 j hl ak ej hj an D' ?_ (ay an D' (by omega) ar aa)
  have:zpj x0 j=.mk x0.kind x0.text (x0.keys.take j++x0.keys.drop (j+1)) (x0.items.take j++x0.items.drop (j+1)):=by unfold zpj;rw[if_pos ap]
  rw[this];exact aE
 ·have ap:¬x0.kind=6:=by simpa using h6
  have fz:∀c,c<O.size->c∉bk->c∉bb->c≠pb->Z[c]?=O[c]?:=λc _ _ h2 h3=>ac c (λe=>h2 (by rw[e,aj];simp)) h3
  obtain⟨D',aE,aa⟩:=PlcP.del P (by omega) hj (si':=⟨si.a,si.len-1,si.cap⟩) rfl au (by show si.len-1+1=_;omega) rfl aY aG (P.tr.keys.frame λc hc=>ac c (λe=>P.tr.d1 c hc (by rw[e,aj];simp)) (λe=>P.nk (e ▸ hc))) (λc hc=>hc) P.tr.nk af fz
  refine hy x0 j hl ak ej hj Z D' ?_ (ay Z D' (Ae _) fz aa)
  have:zpj x0 j=.mk x0.kind x0.text x0.keys (x0.items.take j++x0.items.drop (j+1)):=by unfold zpj;rw[if_neg ap]
  rw[this];exact aE
end
section
variable {h g:zb} {bk bb:List Nat} {sk si wk wi:Sl} {bv cv b:Nat} {K:Value -> zb -> Prop} {cs:Array Value} {w:Tr}
theorem qbk{ks:List Bt}(H:OKeys h ks bk sk){s:Bt}(hv:Blk h bv #[.string s])(hn:ks.length<=1048576)
  (hK:∀(sk':Sl) (h':zb) (kb:Nat),OKeys h' (ks++[s]) [kb] sk'->(kb∈bk\/h.size<=kb)->h.size<=h'.size->(∀c,c<h.size->c∉bk->h'[c]?=h[c]?)->K (.slice sk'.a sk'.len sk'.cap) h'):
  XRun Tp (Au #[22,22] 22 #[.slice sk.a sk.len sk.cap,.slice (some ⟨bv,0,none⟩) 1 cv]) h K:=by
 obtain⟨l1,l2,l3,l4⟩:=H
 obtain⟨b,cs,Z,hb,O⟩:∃b cs,RowO h sk b cs 1/\(b∈bk\/h.size<=b)/\cut cs 0 (sk.len*1)=ks.map AU:=by
  rcases l4 with⟨rfl,rfl,h0⟩|⟨b,cs,rfl,e1,e2,e3,e4⟩
  ·refine⟨h.size,#[],⟨by omega,.inl ⟨l1,h0⟩⟩,.inr (Ae _),?_⟩
   rw[l1];rfl
  ·exact⟨b,cs,⟨by omega,.inr ⟨e1,e2,by omega⟩⟩,.inl (by simp),by rw[l1,Cg];exact e4⟩
 have aa:∀c∈bk,c<h.size:=by
  intro c hc
  rcases l4 with⟨_,rfl,_⟩|⟨b,cs,rfl,_,e2,_⟩
  ·cases hc
  ·simp at hc;subst hc;exact e2.lt
 refine zo3 (vs:=[.string s]) zfw Z hv rfl (λu hu=>by simp at hu;subst hu;simp[Value.oneCell']) (by omega) (by omega) λs' h' b' cs' N=>?_
 rw[O]at N
 have hl:(ks++[s]).length=sk.len+1:=by simp[l1]
 refine hK s' h' b' ⟨by rw[hl];exact N.len,by rw[hl];omega,by rw[hl];exact N.cap,.inr ⟨b',cs',rfl,N.a,N.blk,by have:=N.size;omega,?_⟩⟩ ?_ N.grow λc hc hn=>N.old c hc λe=>?_
 ·rw[hl]
  have:=N.cut
  rw[Cg]at this
  rw[this];simp
 ·rcases N.new with e|e
  ·rw[e];exact hb
  ·exact .inr e
 ·rcases N.new with e2|e2
  ·rcases hb with e3|e3
   ·exact hn (by rw[e,e2];exact e3)
   ·omega
  ·omega
theorem z6t{x:Tr}{bf:Nat->List Nat}(H:OTp g x sk si bk bb b cs bf)(kb:∀c∈bb,h[c]?=g[c]?)(hv:Blk h bv (zh w wk wi).toArray)(hn:x.items.length<=1000000000)
  (hK:∀(si':Sl) (h':zb) (b':Nat) (cs':Array Value),si'.a=some ⟨b',0,none⟩->si'.len=x.items.length+1->x.items.length+1<=si'.cap->Blk h' b' cs'->si'.cap*4<=cs'.size->cut cs' 0 ((x.items.length+1)*4)=cut cs 0 (x.items.length*4)++zh w wk wi ->
   ((b'=b/\b∈bb)\/h.size<=b')->h.size<=h'.size->(∀c,c<h.size->c∉bb->h'[c]?=h[c]?)->K (.slice si'.a si'.len si'.cap) h'):
  XRun Tp (Au #[23,23] 23 #[.slice si.a si.len si.cap,.slice (some ⟨bv,0,none⟩) 1 cv]) h K:=by
 have O:=H.hn.1
 obtain⟨b0,Z,ae⟩:∃b0,RowO h si b0 cs 4/\((b0=b/\b∈bb)\/b0=h.size):=by
  have ac:=OTp.row H (h':=h) kb
  rcases H.hz with⟨h0,_,h2⟩|⟨af,_⟩
  ·exact⟨h.size,⟨ac.le,.inl ⟨by rw[O,h0];rfl,h2⟩⟩,.inr rfl⟩
  ·exact⟨b,ac,.inl ⟨rfl,by rw[af];simp⟩⟩
 refine zo3 (vs:=zh w wk wi) elemTree Z hv rfl (J9 w wk wi) (by omega) (by omega) λs' h' b' cs' N=>?_
 rw[O]at N
 have aa:(b'=b/\b∈bb)\/h.size<=b':=by
  rcases N.new with e|e
  ·rcases ae with⟨e2,hm⟩|e2
   ·exact .inl ⟨by rw[e,e2],hm⟩
   ·exact .inr (by omega)
  ·exact .inr e
 refine hK s' h' b' cs' N.a N.len N.cap N.blk N.size N.cut aa N.grow λc hc hn=>N.old c hc λe=>?_
 rcases aa with⟨e2,hm⟩|e2
 ·exact hn (by rw[e,e2];exact hm)
 ·omega
theorem qbl:ja Tp 22=1:=by kernel_rfl
theorem ztr:ja Tp 25=4:=by kernel_rfl
theorem zts:jb Tp 25=true:=by kernel_rfl
set_option maxHeartbeats 2000000 in
theorem qbm{D:List Nat}{rb:Nat}{x w:Tr}{s:Bt}{T:Tr->Tr}{pb o:Nat}{cs0:Array Value}{bf:Nat->List Nat}(P:PlcP g D rb ⟨pb,o,none⟩ x T pb o cs0 sk si bk bb b cs bf)(aB:rb<g.size){bw:List Nat}(ow:OT g w bw (zh w wk wi))(O:∀c∈bw,c≠rb/\c∉D)(hx:x.items.length<=1000000000)
  {gF:zb} {sk' si':Sl} {kb b':Nat} {cs':Array Value} (hs:g.size<=gF.size) (hf:∀c,c<g.size->c∉bk->c∉bb->gF[c]?=g[c]?) (ok:OKeys gF (x.keys++[s]) [kb] sk') (aa:kb∈bk\/g.size<=kb)
  (e1:si'.a=some ⟨b',0,none⟩) (e2:si'.len=x.items.length+1) (e3:x.items.length+1<=si'.cap) (e4:Blk gF b' cs') (e5:si'.cap*4<=cs'.size) (e6:cut cs' 0 ((x.items.length+1)*4)=cut cs 0 (x.items.length*4)++zh w wk wi) (Z:(b'=b/\b∈bb)\/g.size<=b') (au:kb≠b') (hK:∀h' D',Doc h' rb (T (qce x s w)) D'->Turn g h' rb D bw D'->K (.int .i64 0) h'):
  XRunU Tp (Ai 22 (.pointer (some (Aj ⟨pb,o,none⟩ 2))) (.slice sk'.a sk'.len sk'.cap)) gF (λh1=>XRunU Tp (Ai 23 (.pointer (some (Aj ⟨pb,o,none⟩ 3))) (.slice si'.a si'.len si'.cap)) h1 (λh2=>K (.int .i64 0) h2)):=by
 have ae:pb<g.size:=P.blk.lt
 have aE:=P.fit
 have ac:∀c,c<g.size->c∉bk->c≠kb:=λc hc hn e=>by
  rcases aa with h|h
  ·exact hn (e ▸ h)
  ·omega
 have al:∀c,c<g.size->c∉bb->c≠b':=λc hc hn e=>by
  rcases Z with⟨h1,h2⟩|h
  ·exact hn (by rw[e,h1];exact h2)
  ·omega
 have bF:Blk gF pb cs0:=P.blk.keep (hf pb ae P.nk P.nb)
 rw[zm,zm]
 refine Yu (vs:=[slV sk']) z1m bF rfl qbl (by show o+2+1<=_;omega) (by simp[Value.oneCell',slV]) λh1 b1 z1 f1=>?_
 rw[z8i P.fit P.cell]at b1
 refine Yu (vs:=[slV si']) zvo b1 rfl zvp (by rw[jm (by show o+4<=_;omega)];show o+3+1<=_;omega) (by simp[Value.oneCell',slV]) λh2 b2 z2 f2=>?_
 have az:=zof (cs:=cs0) (o:=o) (vs:=[.int .i64 x.kind,.string x.text,slV sk',slV si]) (by show o+4<=_;omega)
 rw[z2i (by rw[jm (by show o+4<=_;omega)];omega) az,z2l (cs0:=cs0) (o:=o) (a:=[.int .i64 x.kind,.string x.text,slV sk',slV si]) (b:=[.int .i64 x.kind,.string x.text,slV sk',slV si']) (by show o+4<=_;omega) rfl]at b2
 have af:∀c,c≠pb->h2[c]?=gF[c]?:=λc hc=>(f2 c hc).trans (f1 c hc)
 have fz:∀c,c<g.size->c∉bk->c∉bb->c≠pb->h2[c]?=g[c]?:=λc hc n1 n2 n3=>(af c n3).trans (hf c hc n1 n2)
 have aA:pb≠kb:=ac pb ae P.nk
 have am:pb≠b':=al pb ae P.nb
 have hD:∀c,c≠rb->c∉D->c≠pb:=λc n1 n2 e=>by
  rcases P.pin with e2|e2
  ·exact n1 (by rw[e,e2])
  ·exact n2 (by rw[e];exact e2)
 have aj:∀c,c∉D->c∉bk:=λc hc hm=>hc (P.ik c hm)
 have ak:∀c,c∉D->c∉bb:=λc hc hm=>hc (P.ib c hm)
 have aC:OT h2 w bw (zh w wk wi):=ow.frame λc hc=>fz c (ow.lt c hc) (aj c (O c hc).2) (ak c (O c hc).2) (hD c (O c hc).1 (O c hc).2)
 have ar:∀i,i<x.items.length->∀c∈bf i,c∉bk:=λi hi c hc hm=>P.tr.d2 c hm i hi hc
 have ah:∀i,i<x.items.length->∀c∈bf i,c∉bb:=λi hi c hc hm=>P.tr.d3 c hm i hi hc
 have an:(cut cs 0 (x.items.length*4)).length<=x.items.length*4:=by unfold cut;simp;omega
 have ot:=(P.tr.ins (k:=x.items.length) (Ae _) aC (λi hi c hc=>fz c (P.lt c (P.jf i hi c hc)) (ar i hi c hc) (ah i hi c hc) (λe=>P.nf i hi (e ▸ hc))) e1 (e4.keep (af b' am.symm)) e2 e3 e5 (by omega)
  (by rw[e6,AX an,A6 an,Bf]) (λi hi hm=>al b' (P.lt _ (P.jf i hi b' hm)) (ah i hi b' hm) rfl) (λhm=>by
   rcases Z with⟨e,ax⟩|e
   ·exact(O b' hm).2 (by rw[e];exact P.ib b ax)
   ·have:=ow.lt b' hm;omega) (λc hc i hi hm=>(O c hc).2 (P.jf i hi c hm))
  (ok.frame (h':=h2) λc hc=>af c (by simp at hc;subst hc;exact aA.symm)) (by simp) (by simp;exact λe=>au e.symm) (λc hc i hi hm=>by
   simp at hc;subst hc
   exact ac c (P.lt c (P.jf i hi c hm)) (ar i hi c hm) rfl) (λc hc hm=>by
   simp at hc;subst hc
   rcases aa with h|h
   ·exact(O c hm).2 (P.ik c h)
   ·have:=ow.lt c hm;omega)).ot
 have aD:(x.items.take x.items.length++w::x.items.drop x.items.length)=x.items++[w]:=by rw[AD,Cw]
 obtain⟨D',ai,ap⟩:=P.put h2 _ _ _ (λc q1 q2 q3 q4 q5=>fz c (by
  rcases q5 with rfl|q5
  ·exact aB
  ·exact P.lt c q5) q2 q3 q1) b2 ot (λc hc=>by
  rcases jq.1 hc with hc|hc|⟨i,hi,hc⟩
  ·simp at hc;subst hc
   rcases aa with h|h
   ·exact .inl (.inl h)
   ·exact .inr ⟨by omega,λhm=>by have:=P.lt c hm;omega⟩
  ·simp at hc;subst hc
   rcases Z with⟨e,hm⟩|e
   ·exact .inl (.inr (.inl (by rw[e];exact hm)))
   ·exact .inr ⟨by omega,λhm=>by have:=P.lt c hm;omega⟩
  ·have ay:i<x.items.length+1:=by simpa using hi
   try simp only at hc
   split at hc
   ·exact .inl (.inr (.inr ⟨i,by omega,hc⟩))
   ·split at hc
    ·exact .inr (O c hc)
    ·exact .inl (.inr (.inr ⟨i-1,by omega,hc⟩)))
 rw[aD]at ai
 refine hK h2 D' ai ⟨by omega,λc q1 q2 q3=>fz c q1 (aj c q3) (ak c q3) (hD c q2 q3),λc hc=>?_⟩
 rcases ap c hc with hc|hc
 ·exact .inl hc
 ·rcases jq.1 hc with hc|hc|⟨i,hi,hc⟩
  ·simp at hc;subst hc
   rcases aa with h|h
   ·exact .inl (P.ik c h)
   ·exact .inr (.inr h)
  ·simp at hc;subst hc
   rcases Z with⟨e,hm⟩|e
   ·exact .inl (by rw[e];exact P.ib b hm)
   ·exact .inr (.inr e)
  ·have ay:i<x.items.length+1:=by simpa using hi
   try simp only at hc
   split at hc
   ·exact .inl (P.jf i (by omega) c hc)
   ·split at hc
    ·exact .inr (.inl hc)
    ·exact .inl (P.jf (i-1) (by omega) c hc)
end
end Go.X
end
section
namespace Go.X
open Go Go.Lib
section
variable {v w y:Tr}
theorem qbn{p:List Bt}(h:p≠[]):zpk v p w=(yj v (zms p)).bind λx=>if x.kind=5 then(qa9 x (zj0 p)).map (λk=>zae v (zms p) (qa2 x k w))
  else if x.kind≠6 then none else if 0<=qu x (zj0 p)then some (zae v (zms p) (zxx x (qu x (zj0 p)).toNat w))else some (zae v (zms p) (qce x (zj0 p) w)):=by
 unfold zpk
 rw[if_neg h]
 cases yj v (zms p)with
 |none=>rfl
 |some x=>
  simp only[Cu]
  split
  ·cases qa9 x (zj0 p) <;> rfl
  ·rfl
theorem zmt(s:Bt):∀(q:List Bt) (v:Tr),yj v (q++[s])=(yj v q).bind λx=>if 0<=qu x s then x.items[(qu x s).toNat]? else none
 |[],v=>by
  rw[BP,J6,Cu]
  split
  ·rename_i h
   cases hx:v.items[(qu v s).toNat]? with
   |none=>
    unfold yj ym
    rw[if_pos h,hx];simp
   |some x=>
    obtain⟨hk,e⟩:=Az.1 hx
    rw[Yt (k:=(qu v s).toNat) (by omega) hk,J6,e]
  ·rename_i h
   exact zhn (by omega)
 |t::q,v=>by
  rw[A5]
  by_cases h:0<=qu v t
  ·cases hx:v.items[(qu v t).toNat]? with
   |none=>
    have e:∀r,yj v (t::r)=none:=λr=>by
     unfold yj ym
     rw[if_pos h,hx];simp
    rw[e,e];rfl
   |some x=>
    obtain⟨hk,e⟩:=Az.1 hx
    rw[Yt (k:=(qu v t).toNat) (by omega) hk,Yt (k:=(qu v t).toNat) (by omega) hk]
    exact zmt s q _
  ·rw[zhn (by omega),zhn (by omega)];rfl
theorem zf2{p:List Bt}(hp:p≠[])(h:yj v p=some y):∃x,yj v (zms p)=some x/\∃k:Nat,qu x (zj0 p)=k/\x.items[k]?=some y:=by
 rw[zv3 hp,zmt]at h
 rw[Option.bind_eq_some_iff]at h
 obtain⟨x,h1,h2⟩:=h
 refine⟨x,h1,?_⟩
 split at h2
 ·exact⟨(qu x (zj0 p)).toNat,by omega,h2⟩
 ·cases h2
theorem ztt{q:Tr->Bool}(h:q v=true)(hi:∀x∈v.items,Yf q x=true):Yf q v=true:=by
 rw[zjd,h,Bi,zac,AQ];exact hi
theorem z2m(hk:w.kind=v.kind)(ht:w.text=v.text)(O:w.keys=v.keys)(hl:w.items.length=v.items.length):zv w=zv v:=by
 have he:w.items.isEmpty=v.items.isEmpty:=by
  cases h1:w.items <;> cases h2:v.items <;> rw[h1,h2]at hl <;> simp at hl ⊢
 unfold zv
 rw[hk,ht,O,hl,he]
theorem zrp{w:Tr}(hw:Yf zv w=true):∀(p:List Bt) (v:Tr),Yf zv v=true->Yf zv (zae v p w)=true
 |[],v,_=>by rw[zae];exact hw
 |s::p,v,hv=>by
  rw[zae]
  split
  ·split
   ·rename_i x hx
    obtain⟨hk,e⟩:=Az.1 hx
    refine ztt ?_ λy hy=>?_
    ·have h:=jl hv
     rw[<-h]
     exact z2m rfl rfl rfl (by simp[zxx])
    ·rcases List.mem_or_eq_of_mem_set hy with hy|rfl
     ·exact jk hv hy
     ·exact zrp hw p x (jk hv (e ▸ As hk))
   ·exact hv
  ·exact hv
theorem z2n{l:List Bt}(h:l.Nodup)(j:Nat):(l.take j++l.drop (j+1)).Nodup:=by
 refine h.sublist ?_
 have:l.take j++l.drop (j+1)=l.eraseIdx j:=(List.eraseIdx_eq_take_drop_succ l j).symm
 rw[this];exact List.eraseIdx_sublist l j
theorem zx5(s:Bt)(ks:List Bt)(xs:List Tr):zv (.mk 6 s ks xs)=(jy ks&&decide (ks.length=xs.length)&&lb s==[]):=rfl
theorem zmu(s:Bt)(ks:List Bt)(xs:List Tr):zv (.mk 5 s ks xs)=(lb s==[]&&ks.isEmpty):=rfl
theorem zx6{x:Tr}(h:zv x=true)(j:Nat)(hj:j<x.items.length):zv (zpj x j)=true:=by
 by_cases h6:x.kind=6
 ·have hl:=W9 h h6
  have e:zpj x j=.mk 6 x.text (x.keys.take j++x.keys.drop (j+1)) (x.items.take j++x.items.drop (j+1)):=by unfold zpj;rw[if_pos h6,h6]
  have h':(jy x.keys=true/\x.keys.length=x.items.length)/\x.text.data=#[]:=by
   unfold zv at h;simpa[h6]using h
  rw[e]
  obtain⟨⟨h1,h2⟩,h3⟩:=h'
  have:(jy (x.keys.take j++x.keys.drop (j+1))=true/\(x.keys.take j++x.keys.drop (j+1)).length=(x.items.take j++x.items.drop (j+1)).length)/\x.text.data=#[]:=by
   refine⟨⟨?_,by simp;omega⟩,h3⟩
   unfold jy at h1 ⊢
   rw[AI,AQ]at h1 ⊢
   refine⟨λk hk=>?_,by simpa using z2n (by simpa using h1.2) j⟩
   rcases An.1 hk with hk|hk
   ·exact h1.1 k (BI hk)
   ·exact h1.1 k (Cp hk)
  rw[zx5]
  simpa using this
 ·have e:zpj x j=.mk x.kind x.text x.keys (x.items.take j++x.items.drop (j+1)):=by unfold zpj;rw[if_neg h6]
  rw[e]
  by_cases h5:x.kind=5
  ·rw[h5,zmu]
   rw[<-Tr.eta x,h5,zmu]at h;exact h
  ·exfalso
   have Z:x.items≠[]:=λe=>by rw[e]at hj;simp at hj
   have O:x.items.isEmpty=false:=by simpa using Z
   unfold zv at h
   rw[if_neg h5,if_neg h6,O]at h
   simp at h
theorem z6u{x:Tr}(h:Yf zv x=true)(j:Nat)(hj:j<x.items.length):Yf zv (zpj x j)=true:=by
 refine ztt (zx6 (jl h) j hj) λy hy=>?_
 rcases An.1 hy with hy|hy
 ·exact jk h (BI hy)
 ·exact jk h (Cp hy)
theorem zv6{p:List Bt}(h:Yf zv v=true)(hp:p≠[])(hf:yj v p=some y):Yf zv (zr1 v p)=true:=by
 obtain⟨x,h1,k,h2,h3⟩:=zf2 hp hf
 unfold zr1
 rw[h1]
 simp only
 rw[h2,Ad]
 exact zrp (z6u ((wo h1).2.2 _ h) k (Az.1 h3).1) _ v h
theorem Zc(h:qe v=true):yg v=true:=by
 unfold qe at h
 unfold yg
 rw[AI]at h ⊢
 refine⟨h.1,?_⟩
 have key:∀n (x:Tr),tsz x<=n->Yf (λx=>decide (x.kind≠7)&&zv x) x=true->Yf zv x=true:=by
  intro n
  induction n with
  |zero=>intro x hx;have:=zn9 x;omega
  |succ n ih=>
   intro x hx hq
   have:=jl hq
   simp at this
   refine ztt this.2 λy hy=>ih y (by have:=jj hy;omega) (jk hq hy)
 exact key _ v (Ae _) h.2
theorem zah(h:yg v=true):Yf zv v=true:=by
 unfold yg at h
 rw[AI]at h;exact h.2
theorem zf3{v x:Tr}{p:List Bt}(h:yg v=true)(hf:yj v p=some x):yg x=true:=by
 obtain⟨h1,_,h3⟩:=wo hf
 unfold yg Z3 at h ⊢
 simp only[AI,decide_eq_true_eq]at h ⊢
 refine⟨⟨by omega,?_⟩,h3 _ h.2⟩
 have:∀(p:List Bt) (v:Tr),yj v p=some x->tdp x<=tdp v:=by
  intro p
  induction p with
  |nil=>intro v hf;rw[J6]at hf;cases hf;exact Ae _
  |cons s p ih=>
   intro v hf
   obtain⟨k,hk,e1,_,_⟩:=zcp (zrn hf)
   rw[Yt e1 hk]at hf
   have h1:=ih _ hf
   have h2:tdp v.items[k]<tdp v:=by
    rw[zu8 v]
    have:∀(l:List Tr) (y:Tr),y∈l->tdp y<=zgi l:=by
     intro l
     induction l with
     |nil=>intro y hy;cases hy
     |cons z l O=>
      intro y hy
      rw[zgi]
      rcases Af.1 hy with rfl|hy
      ·omega
      ·have:=O y hy;omega
    have:=this v.items _ (As hk)
    omega
   omega
 have:=this p v hf
 omega
end
end Go.X
end
section
namespace Go.X
section
variable {h:zb} {rb:Nat} {D bw:List Nat}
theorem Turn.pre{h h1 h':zb}{D bw D':List Nat}(k:Keep h.size h h1)(H:Turn h1 h' rb D bw D'):Turn h h' rb D bw D':=by
 have:=k.size
 have:=H.size
 refine⟨by omega,λc h1 h2 h3=>(H.old c (by omega) h2 h3).trans (k.get c h1),λc hc=>?_⟩
 rcases H.own c hc with h|h|h
 ·exact .inl h
 ·exact .inr (.inl h)
 ·exact .inr (.inr (by omega))
set_option maxHeartbeats 4000000 in
theorem z8j{gl:Fr}(hg:GL gl){v w:Tr}(hv:Sm v)(ho:Yf zv v=true){p:List Bt}(hp:SL p){M:Fr}{u2:Value}(hM:Fr.le gl M)(ag:AgM M h)(hD:Doc h rb v D)(ck:RdV M (.row .str) p u2){wk wi:Sl}(ow:OT h w bw (zh w wk wi))(ak:∀c∈bw,c≠rb/\c∉D)(bO:∀x,yj v (zms p)=some x->x.items.length<=1000000000){K:Value->zb->Prop}
  (a6:zpk v p w=none->∀h',Keep h.size h h'->K (.int .i64 8) h')
  (an:∀t,zpk v p w=some t->∀h' D',Doc h' rb t D'->Turn h h' rb D bw D'->K (.int .i64 0) h'):
  XC Tp 101 #[.pointer (some ⟨rb,0,none⟩),u2,.agg #[.int .i64 w.kind,.string w.text,slV wk,slV wi]] h K:=by
 obtain⟨sp,rfl,rp⟩:=zit ck
 obtain⟨a7,cy,cu⟩:=rowLen rp
 have cE:=hp.n
 have cH:=hD.lt rb (.inl rfl)
 apply zg8 (some ⟨rb,0,none⟩) sp w.kind w.text wk wi
 intro h1
 have z1:h1.size=h.size+1:=Ak _
 have k1:Keep h.size h h1:=Keep.push _ _ (Ae _)
 have b1:Blk h1 h.size (zh w wk wi).toArray:=Blk.new _ _ _
 clear_value h1
 have al:∀h',Keep h1.size h1 h'->ze h' ⟨h.size,0,none⟩ 0 (zh w wk wi):=λh' k=>(b1.ofKeep k).ld (cs:=zh w wk wi)
 have D1:Doc h1 rb v D:=hD.keep λc hc=>k1.get c (hD.lt c hc)
 have aZ:OT h1 w bw (zh w wk wi):=ow.frame λc hc=>k1.get c (ow.lt c hc)
 refine⟨λhz=>?_,λhz=>?_⟩
 ·have bT:p=[]:=Av (by rw[a7]at hz;simp at hz;simp[hz])
  refine⟨w.kind,w.text,wk,wi,al h1 (Keep.refl _ _),⟨rb,0,none⟩,rfl,?_⟩
  obtain⟨b,o,cs,bx,e,hb,aL,ot,bZ,aC,bh,bq,aM,aV⟩:=D1.plc
  cases e
  rw[zm]
  refine Yu (vs:=zh w wk wi) zts hb rfl ztr (by show 0+4<=_;omega) (J9 w wk wi) λh' b' z' f'=>?_
  obtain⟨D',aj,az⟩:=aV h' w (zh w wk wi) bw (λc n1 _ _=>f' c n1) b' (aZ.frame λc hc=>f' c (ak c hc).1) (λc hc=>.inr (ak c hc))
  refine an w (by unfold zpk;rw[if_pos bT]) h' D' aj ⟨by omega,λc q1 q2 q3=>(f' c q2).trans (k1.get c q1),λc hc=>?_⟩
  rcases az c hc with hc|hc
  ·exact .inl hc
  ·exact .inr (.inl hc)
 ·have bc:p≠[]:=λe=>by rw[a7,e]at hz;simp at hz
  have cp:0<p.length:=A3.2 bc
  have hl:p.length-1<p.length:=by omega
  have w1:Aa .i64 (((sp.len:Nat):Int)-1)=((p.length-1:Nat):Int):=by rw[a7,w64 (by omega)];omega
  rw[w1]
  have aT:=ag.keep k1
  refine zkr aT rp hl rfl rfl ⟨.inr ⟨_,rfl⟩,⟨by omega,by omega,by omega,by omega⟩,?_⟩
  simp -zeta only[Ad,C3,Ca,Yk]
  have O:=qbn (v:=v) (w:=w) bc
  have bI:=zj1 hl
  generalize cq:zj0 p=st at *
  rw[bI]
  have aH:(lb st).length<=1048576:=by rw[<-bI];exact hp.s _ (As hl)
  have cg:=ztq rp (n:=p.length-1) (by omega)
  refine qa7 hg hv ho ⟨by rw[AR];omega,λq hq=>hp.s q (BI hq)⟩ hM aT D1 cg (λhn h' k'=>?_) λx ca hx cn h4 pa k4 plc=>?_
  ·refine⟨none,rfl,(λ_=>a6 ?_ h' (k1.trans k' (by omega))),λhc=>by cases hc⟩
   rw[O];unfold zms;rw[hn];rfl
  have aI:yj v (zms p)=some x:=ca
  rw[aI,Cu]at O
  have z4:=k4.size
  have aG:Keep h.size h h4:=k1.trans k4 (by omega)
  have a8:=aT.keep k4
  have aU:=bO _ aI
  obtain⟨bF,bD,bx,ba,ot,bZ,_⟩:=Plc.ld plc
  have bp:zk h4 (pa.add 0)=some (.int .i64 x.kind):=ba.1
  have aO:OT h4 w bw (zh w wk wi):=aZ.frame λc hc=>k4.get c (by have:=aZ.lt c hc;omega)
  refine⟨some pa,rfl,(λhc=>by cases hc),λ_=>⟨pa,rfl,x.kind,bp,λh5=>?_,λh5=>?_⟩⟩
  ·have aQ:x.kind=5:=by simpa using h5
   rw[if_pos aQ]at O
   refine⟨w.kind,w.text,wk,wi,al h4 k4,?_⟩
   refine z2k hg aH hM a8 plc (by omega) aO ak aU (λhk h' k'=>⟨8,rfl,a6 ?_ h' (aG.trans k' (by omega))⟩) λk hk h' D' aj ht=>⟨0,rfl,an _ ?_ h' D' aj (ht.pre aG)⟩
   ·rw[O,hk];rfl
   ·rw[O,hk];rfl
  ·have aQ:¬x.kind=5:=by simpa using h5
   rw[if_neg aQ]at O
   refine⟨pa,rfl,x.kind,bp,λh6=>?_,λh6=>?_⟩
   ·have aS:x.kind≠6:=by simpa using h6
    rw[if_pos aS]at O
    exact a6 O h4 aG
   ·have aS:¬x.kind≠6:=by simpa using h6
    rw[if_neg aS]at O
    refine⟨pa,rfl,x.kind,x.text,bF,bD,ba,?_⟩
    have cm:PC Tp gl 134 [Arg.mk .tree x,Arg.mk .str st] [.int .i64] (λr=>r=qu x st):=zo0 hg aH rfl
    refine cm.go (vs:=[.agg #[.int .i64 x.kind,.string x.text,slV bF,slV bD],.string st]) (hM.trans (zag a8 bx)) (MxL.ag a8 bx) (qn ot.rdv (qn (rdStr _) y0)) λw' g cG r aA bM hr=>?_
    have hr:r=qu x st:=hr
    subst hr
    have zg:=aA.keep.size
    have kg:Keep h.size h g:=aG.trans aA.keep (by omega)
    have bC:Keep h1.size h1 g:=k4.trans aA.keep (by omega)
    have aJ:=Plc.keepK plc (by omega) aA.keep
    have bL:OT g w bw (zh w wk wi):=aO.frame λc hc=>aA.keep.get c (by have:=aO.lt c hc;omega)
    refine⟨qu x st,qeo bM,λbU=>?_,λaM=>?_⟩
    ·have bu:0<=qu x st:=by simpa using bU
     rw[if_pos bu]at O
     obtain⟨k,ek,hk⟩:∃k:Nat,qu x st=k/\k<x.items.length:=by
      rcases zel (jl cn) st with e|h
      ·omega
      ·exact h
     obtain⟨si,a,c1,c2,c3,bA⟩:=aJ.step hk
     refine⟨pa,rfl,si,c1,w.kind,w.text,wk,wi,al g bC,a,⟨c2,by omega,by omega⟩,?_⟩
     rw[ek,Ad]
     obtain⟨b,o,cs,cJ,e,hb,aL,cA,co,aC,bh,bq,aM,aV⟩:=bA
     rw[e]
     refine Yu (vs:=zh w wk wi) zts hb rfl ztr (by show o+4<=_;omega) (J9 w wk wi) λh' b' z' f'=>?_
     have bo:∀c,c≠rb->c∉D->c≠b:=λc q1 q2 e=>by
      rcases aC with h|h
      ·exact q1 (by rw[e,h])
      ·exact q2 (by rw[e];exact h)
     obtain⟨D',aj,az⟩:=aV h' w (zh w wk wi) bw (λc n1 _ _=>f' c n1) b' (bL.frame λc hc=>f' c (bo c (ak c hc).1 (ak c hc).2)) (λc hc=>.inr (ak c hc))
     rw[ek,Ad]at O
     refine an _ O h' D' aj ⟨by omega,λc q1 q2 q3=>(f' c (bo c q2 q3)).trans (kg.get c q1),λc hc=>?_⟩
     rcases az c hc with hc|hc
     ·exact .inl hc
     ·exact .inr (.inl hc)
    ·have bH:¬0<=qu x st:=by simpa using aM
     rw[if_neg bH]at O
     obtain⟨pb,o,cs0,sk,si,bk,bb,b,cs,bf,P⟩:=Plc.parts aJ
     have bn:=P.ad
     subst bn
     have aL:=P.fit
     have bG:zk g (Aj ⟨pb,o,none⟩ 2)=some (slV sk):=by
      refine P.blk.cellAdd ?_
      have:(cut cs0 o 4)[2]?=some (slV sk):=by rw[P.cell];rfl
      rw[zu,if_pos (by omega)]at this
      rw[<-A0];exact this
     have bB:zk g (Aj ⟨pb,o,none⟩ 3)=some (slV si):=by
      refine P.blk.cellAdd ?_
      have:(cut cs0 o 4)[3]?=some (slV si):=by rw[P.cell];rfl
      rw[zu,if_pos (by omega)]at this
      rw[<-A0];exact this
     have ac:pb<g.size:=P.blk.lt
     have bP:rb<g.size:=by omega
     have am:∀c,c∈bk->c<h.size:=λc hc=>hD.lt c (.inr (P.ik c hc))
     have ah:∀c,c∈bb->c<h.size:=λc hc=>hD.lt c (.inr (P.ib c hc))
     have bY:x.keys.length<=1048576:=hx.keys
     have aP:∀(gF:zb) (sk' si':Sl) (kb b':Nat) (cs':Array Value),g.size<=gF.size->(∀c,c<g.size->c∉bk->c∉bb->gF[c]?=g[c]?)->OKeys gF (x.keys++[st]) [kb] sk'->(kb∈bk\/g.size<=kb) ->
       si'.a=some ⟨b',0,none⟩->si'.len=x.items.length+1->x.items.length+1<=si'.cap->Blk gF b' cs'->si'.cap*4<=cs'.size->cut cs' 0 ((x.items.length+1)*4)=cut cs 0 (x.items.length*4)++zh w wk wi->((b'=b/\b∈bb)\/g.size<=b')->kb≠b' ->
       XRunU Tp (Ai 22 (.pointer (some (Aj ⟨pb,o,none⟩ 2))) (.slice sk'.a sk'.len sk'.cap)) gF (λh1=>XRunU Tp (Ai 23 (.pointer (some (Aj ⟨pb,o,none⟩ 3))) (.slice si'.a si'.len si'.cap)) h1 (λh2=>K (.int .i64 0) h2)):=by
      intro gF sk' si' kb b' cs' q1 q2 q3 q4 q5 q6 q7 q8 q9 cd cb cj
      exact qbm P bP bL ak aU q1 q2 q3 q4 q5 q6 q7 q8 q9 cd cb cj λh' D' aj ht=>an _ O h' D' aj (ht.pre kg)
     have aB:∀(a1:zb) (bv:Nat) (KK:Value->zb->Prop),Keep g.size g a1->Blk a1 bv #[.string st]->(∀(sk':Sl) (a2:zb) (kb:Nat),OKeys a2 (x.keys++[st]) [kb] sk'->(kb∈bk\/a1.size<=kb)->a1.size<=a2.size->(∀c,c<a1.size->c∉bk->a2[c]?=a1[c]?)->KK (.slice sk'.a sk'.len sk'.cap) a2) ->
       XRun Tp (Au #[22,22] 22 #[.slice sk.a sk.len sk.cap,.slice (some ⟨bv,0,none⟩) 1 1]) a1 KK:=by
      intro a1 bv KK ka hb hK
      exact qbk (P.tr.keys.frame λc hc=>ka.get c (by have:=am c hc;omega)) hb bY hK
     have aD:∀(a3:zb) (bv:Nat) (KK:Value->zb->Prop),(∀c∈bb,a3[c]?=g[c]?)->Blk a3 bv (zh w wk wi).toArray->(∀(si':Sl) (h':zb) (b':Nat) (cs':Array Value),si'.a=some ⟨b',0,none⟩->si'.len=x.items.length+1->x.items.length+1<=si'.cap->Blk h' b' cs'->si'.cap*4<=cs'.size->cut cs' 0 ((x.items.length+1)*4)=cut cs 0 (x.items.length*4)++zh w wk wi ->
       ((b'=b/\b∈bb)\/a3.size<=b')->a3.size<=h'.size->(∀c,c<a3.size->c∉bb->h'[c]?=a3[c]?)->KK (.slice si'.a si'.len si'.cap) h') ->
       XRun Tp (Au #[23,23] 23 #[.slice si.a si.len si.cap,.slice (some ⟨bv,0,none⟩) 1 1]) a3 KK:=λa3 bv KK hk hb hK=>z6t P.tr hk hb aU hK
     have bS:h.size∉bk:=λhm=>by have:=am _ hm;omega
     have ay:∀c∈bk,c∉bb:=P.tr.d1
     refine⟨⟨pb,o,none⟩,rfl,sk,bG,⟨pb,o,none⟩,rfl,si,bB,w.kind,w.text,wk,wi,al g bC,⟨pb,o,none⟩,rfl,⟨pb,o,none⟩,rfl,⟨?_,?_⟩⟩
     ·-- the key's box first
      intro af
      have cC:af.size=g.size+1:=Ak _
      have ap:Keep g.size g af:=Keep.push _ _ (Ae _)
      have bE:Blk af g.size #[.string st]:=Blk.new _ _ _
      clear_value af
      refine⟨ap.get _ (by show h.size<_;omega),ap.get _ ac,ap.get _ ac,?_,?_⟩
      ·refine aB af g.size _ ap bE λsk' a2 kb ok Z za fa=>⟨sk',rfl,?_⟩
       have ae:∀c,c<g.size->c∉bk->a2[c]?=g[c]?:=λc hc hn=>(fa c (by omega) hn).trans (ap.get c hc)
       refine⟨ae _ (by show h.size<_;omega) bS,ae _ ac P.nk,?_⟩
       intro au
       have cF:au.size=a2.size+1:=Ak _
       have bJ:Keep a2.size a2 au:=Keep.push _ _ (Ae _)
       have cc:Blk au a2.size (zh w wk wi).toArray:=Blk.new _ _ _
       clear_value au
       have fb:∀c,c<g.size->c∉bk->au[c]?=g[c]?:=λc hc hn=>(bJ.get c (by omega)).trans (ae c hc hn)
       refine⟨fb _ ac P.nk,?_⟩
       refine aD au a2.size _ (λc hc=>fb c (by have:=ah c hc;omega) (λhm=>ay c hm hc)) cc λsi' aE b' cs' q1 q2 q3 q4 q5 q6 q7 q8 q9=>⟨si',rfl,?_⟩
       have aN:kb<a2.size:=by
        obtain⟨_,_,_,h4⟩:=ok
        rcases h4 with⟨_,h,_⟩|⟨b9,bj,e9,_,aF,_⟩
        ·cases h
        ·simp at e9;subst e9;exact aF.lt
       have aa:kb∉bb:=λhm=>by
        rcases Z with h|h
        ·exact ay kb h hm
        ·have:=ah kb hm;omega
       refine aP aE sk' si' kb b' cs' (by omega) (λc hc n1 n2=>(q9 c (by omega) n2).trans (fb c hc n1)) (ok.frame λc hc=>?_) (Z.imp id λh=>by omega) q1 q2 q3 q4 q5 q6 (q7.imp id λh=>by omega) λe=>?_
       ·simp at hc;subst hc
        exact(q9 c (by omega) aa).trans (bJ.get c aN)
       ·rcases q7 with⟨e2,hm⟩|h
        ·exact aa (by rw[e,e2];exact hm)
        ·omega
      ·intro ar
       have cr:ar.size=af.size+1:=Ak _
       have bm:Keep af.size af ar:=Keep.push _ _ (Ae _)
       have bV:Blk ar af.size (zh w wk wi).toArray:=Blk.new _ _ _
       clear_value ar
       have kk:Keep g.size g ar:=ap.trans bm (by omega)
       refine⟨kk.get _ ac,kk.get _ ac,?_⟩
       refine aB ar g.size _ kk (bE.keep (bm.get _ (by omega))) λsk' a2 kb ok Z za fa=>⟨sk',rfl,?_⟩
       have ae:∀c,c<g.size->c∉bk->a2[c]?=g[c]?:=λc hc hn=>(fa c (by omega) hn).trans (kk.get c hc)
       refine⟨ae _ ac P.nk,?_⟩
       have aN:kb<a2.size:=by
        obtain⟨_,_,_,h4⟩:=ok
        rcases h4 with⟨_,h,_⟩|⟨b9,bj,e9,_,aF,_⟩
        ·cases h
        ·simp at e9;subst e9;exact aF.lt
       have aa:kb∉bb:=λhm=>by
        rcases Z with h|h
        ·exact ay kb h hm
        ·have:=ah kb hm;omega
       refine aD a2 af.size _ (λc hc=>ae c (by have:=ah c hc;omega) (λhm=>ay c hm hc)) (bV.keep (fa _ (by omega) (λhm=>by have:=am _ hm;omega))) λsi' aE b' cs' q1 q2 q3 q4 q5 q6 q7 q8 q9=>⟨si',rfl,?_⟩
       refine aP aE sk' si' kb b' cs' (by omega) (λc hc n1 n2=>(q9 c (by omega) n2).trans (ae c hc n1)) (ok.frame λc hc=>?_) (Z.imp id λh=>by omega) q1 q2 q3 q4 q5 q6 (q7.imp id λh=>by omega) λe=>?_
       ·simp at hc;subst hc
        exact q9 c (by omega) aa
       ·rcases q7 with⟨e2,hm⟩|h
        ·exact aa (by rw[e,e2];exact hm)
        ·omega
     ·intro ai
      have cB:ai.size=g.size+1:=Ak _
      have aY:Keep g.size g ai:=Keep.push _ _ (Ae _)
      have bQ:Blk ai g.size (zh w wk wi).toArray:=Blk.new _ _ _
      clear_value ai
      refine⟨aY.get _ ac,aY.get _ ac,?_⟩
      intro ax
      have cz:ax.size=ai.size+1:=Ak _
      have be:Keep ai.size ai ax:=Keep.push _ _ (Ae _)
      have b8:Blk ax ai.size #[.string st]:=Blk.new _ _ _
      clear_value ax
      have kk:Keep g.size g ax:=aY.trans be (by omega)
      refine⟨kk.get _ ac,kk.get _ ac,?_⟩
      refine aB ax ai.size _ kk b8 λsk' a2 kb ok Z za fa=>⟨sk',rfl,?_⟩
      have ae:∀c,c<g.size->c∉bk->a2[c]?=g[c]?:=λc hc hn=>(fa c (by omega) hn).trans (kk.get c hc)
      refine⟨ae _ ac P.nk,?_⟩
      have aN:kb<a2.size:=by
       obtain⟨_,_,_,h4⟩:=ok
       rcases h4 with⟨_,h,_⟩|⟨b9,bj,e9,_,aF,_⟩
       ·cases h
       ·simp at e9;subst e9;exact aF.lt
      have aa:kb∉bb:=λhm=>by
       rcases Z with h|h
       ·exact ay kb h hm
       ·have:=ah kb hm;omega
      have bz:Blk a2 g.size (zh w wk wi).toArray:=(bQ.keep (be.get _ (by omega))).keep (fa _ (by omega) (λhm=>by have:=am _ hm;omega))
      refine aD a2 g.size _ (λc hc=>ae c (by have:=ah c hc;omega) (λhm=>ay c hm hc)) bz λsi' aE b' cs' q1 q2 q3 q4 q5 q6 q7 q8 q9=>⟨si',rfl,?_⟩
      refine aP aE sk' si' kb b' cs' (by omega) (λc hc n1 n2=>(q9 c (by omega) n2).trans (ae c hc n1)) (ok.frame λc hc=>?_) (Z.imp id λh=>by omega) q1 q2 q3 q4 q5 q6 (q7.imp id λh=>by omega) λe=>?_
      ·simp at hc;subst hc
       exact q9 c (by omega) aa
      ·rcases q7 with⟨e2,hm⟩|h
       ·exact aa (by rw[e,e2];exact hm)
       ·omega
end
section
variable {M gl:Fr} {o:OpT} {u u2:Value} {h h':zb} {rb:Nat} {D bs:List Nat} {K:Value -> zb -> Prop} {v:Tr}
abbrev Z1:Ty:=.pair .str (.pair (.row .str) (.pair (.row .str) .tree))
def zr(s:Bt)(sp sf:Sl)(v:Tr)(sk si:Sl):List Value:=[.string s,slV sp,slV sf,.int .i64 v.kind,.string v.text,slV sk,slV si]
theorem z3v(h:RdV M Z1 o u):∃sp sf sk si:Sl,u=.agg (zr o.1 sp sf o.2.2.2 sk si).toArray/\RdV M (.row .str) o.2.1 (slV sp)/\RdV M (.row .str) o.2.2.1 (slV sf)/\RdV M .tree o.2.2.2 (.agg (zh o.2.2.2 sk si).toArray):=by
 unfold RdV at h
 simp only[zdm,if_true]at h
 obtain⟨cs,rfl,c1,c2,rfl,h1,c3,c4,rfl,h2,c5,c6,rfl,h3,h4⟩:=h
 have h1:c1=[.string o.1]:=h1
 subst h1
 obtain⟨v2,e2,a2,O,q2,g2⟩:=h2
 obtain⟨v3,e3,a3,Z,q3,g3⟩:=h3
 subst e2;subst e3;subst q2;subst q3
 have aa:RdV M .tree o.2.2.2 (.agg c6.toArray):=by unfold RdV;simp only[zdm,if_true];exact⟨_,rfl,h4⟩
 obtain⟨sk,si,e4,_⟩:=w9 aa
 have e5:c6=zh o.2.2.2 sk si:=by
  injection e4 with e4
  exact congrArg Dk e4
 subst e5
 refine⟨⟨a2,o.2.1.length,O⟩,⟨a3,o.2.2.1.length,Z⟩,sk,si,rfl,?_,?_,aa⟩
 ·rw[zhf rfl];exact⟨_,rfl,a2,O,rfl,g2⟩
 ·rw[zhf rfl];exact⟨_,rfl,a3,Z,rfl,g3⟩
def Res(h:zb)(rb:Nat)(D:List Nat)(r:Tr×Int)(K:Value->zb->Prop):Prop:=∀h' D',(r.2=0->Doc h' rb r.1 D')->Turn h h' rb D [] D'->K (.int .i64 r.2) h'
theorem qbo(k:Keep h.size h h'):Turn h h' rb D [] []:=⟨k.size,λc h1 _ _=>k.get c h1,λc hc=>by cases hc⟩
theorem Turn.new{h h1 h':zb}{D bs D':List Nat}(H:Turn h1 h' rb D bs D')(k:Keep h.size h h1)(hb:∀c∈bs,h.size<=c):Turn h h' rb D [] D':=by
 have:=k.size
 refine⟨by have:=H.size;omega,λc h1 h2 h3=>(H.old c (by omega) h2 h3).trans (k.get c h1),λc hc=>?_⟩
 rcases H.own c hc with h|h|h
 ·exact .inl h
 ·exact .inr (.inr (hb c h))
 ·exact .inr (.inr (by omega))
theorem zbl{r:Tr×Int}(H:Res h rb D r K)(hr:r.2≠0)(k:Keep h.size h h'):K (.int .i64 r.2) h':=H h' [] (λe=>absurd e hr) (qbo k)
theorem zhq{v x:Tr}{p:List Bt}(hs:tsz v<=4096)(h:yj v p=some x):x.items.length<=1000000000:=by
 have h1:=(wo h).1
 have h2:=Zw x.items
 rw[j5]at h1;omega
structure At (gl:Fr) (v:Tr) (h:zb) (M:Fr) (rb:Nat) (D:List Nat):Prop where
 le:Fr.le gl M
 ag:AgM M h
 doc:Doc h rb v D
 sm:Sm v
 ok:Yf zv v=true
 sz:tsz v<=4096
theorem At.keep(A:At gl v h M rb D)(k:Keep h.size h h'):At gl v h' M rb D:=
 ⟨A.le,A.ag.keep k,A.doc.keep λc hc=>k.get c (A.doc.lt c hc),A.sm,A.ok,A.sz⟩
theorem At.out(A:At gl v h M rb D)(hb:∀c∈bs,h.size<=c):∀c∈bs,c≠rb/\c∉D:=λc hc=>by
 have:=hb c hc
 exact⟨λe=>by have:=A.doc.lt c (.inl e);omega,λhm=>by have:=A.doc.lt c (.inr hm);omega⟩
theorem At.add(hg:GL gl){v w:Tr}(A:At gl v h M rb D){p:List Bt}(hp:SL p)(Z:RdV M (.row .str) p u2){bw:List Nat}{wk wi:Sl}(ow:OT h w bw (zh w wk wi))(aa:∀c∈bw,c≠rb/\c∉D)
  {h0:zb} (k0:Keep h0.size h0 h) (O:∀c∈bw,h0.size<=c) (hK:Res h0 rb D (zle (zpk v p w)) K):XC Tp 101 #[.pointer (some ⟨rb,0,none⟩),u2,.agg #[.int .i64 w.kind,.string w.text,slV wk,slV wi]] h K:=by
 refine z8j hg A.sm A.ok hp A.le A.ag A.doc Z ow aa (λx hx=>zhq A.sz hx) (λhn h' k=>?_) λt ht h' D' ac tn=>?_
 ·rw[hn]at hK
  exact zbl hK (by simp[zle]) (k0.trans k k0.size)
 ·rw[ht]at hK
  exact hK h' D' (λ_=>ac) (tn.new k0 O)
theorem At.at(hg:GL gl)(A:At gl v h M rb D){p:List Bt}(hp:SL p)(Z:RdV M (.row .str) p u2)
  (aa:yj v p=none->∀h',Keep h.size h h'->K (.pointer none) h')
  (O:∀x,yj v p=some x->∀h' pa,Keep h.size h h'->Plc h' D rb pa x (λy=>zae v p y)->K (.pointer (some pa)) h'):
  XC Tp 102 #[.pointer (some ⟨rb,0,none⟩),u2] h K:=
 qa7 hg A.sm A.ok hp A.le A.ag A.doc Z aa λx hx _ _ h' pa k plc=>O x hx h' pa k plc
theorem At.find_sm{v x:Tr}(A:At gl v h M rb D){p:List Bt}(hf:yj v p=some x):Sm x:=by
 obtain⟨h1,h2,_⟩:=wo hf
 exact⟨by have:=A.sm.sz;omega,h2 _ A.sm.tx⟩
theorem z6v(hg:GL gl)(A:At gl v h M rb D)(hp:SL o.2.1)(hw:Sm o.2.2.2)(ho:yg o.2.2.2=true)(hu:RdV M Z1 o u)(hK:Res h rb D (zle (zpk v o.2.1 o.2.2.2)) K):
  XC Tp 59 #[.pointer (some ⟨rb,0,none⟩),u] h K:=by
 obtain⟨sp,sf,sk,si,rfl,r1,r2,r3⟩:=z3v hu
 apply zet (some ⟨rb,0,none⟩) o.1 sp sf o.2.2.2.kind o.2.2.2.text sk si
 intro h1
 have k1:Keep h.size h h1:=Keep.push _ _ (Ae _)
 have b1:Blk h1 h.size (zr o.1 sp sf o.2.2.2 sk si).toArray:=Blk.new _ _ _
 have z1:h1.size=h.size+1:=Ak _
 clear_value h1
 have A1:=A.keep k1
 refine⟨sp,b1.cellAdd (by rfl),o.2.2.2.kind,o.2.2.2.text,sk,si,?_,?_⟩
 ·rw[zm];exact zol b1 (vs:=zh o.2.2.2 sk si) (o:=0+3) (i:=0) rfl
 refine zju hg hw ho A1.le A1.ag r3 λh8 bs ck ci k8 ot O=>⟨o.2.2.2.kind,o.2.2.2.text,ck,ci,rfl,k8,?_⟩
 have A8:=A1.keep k8
 refine A8.add hg hp r1 ot (A1.out O) (h0:=h) (k1.trans k8 (by omega)) (λc hc=>by have:=O c hc;omega) λh' D' hD tn=>⟨_,rfl,hK h' D' hD tn⟩
theorem ztu(hg:GL gl)(A:At gl v h M rb D)(hp:SL o.2.1)(hu:RdV M Z1 o u)
  (hK:Res h rb D (match yj v o.2.1 with
   |none=>(zT,8)
   |some _=>if o.2.1=[]then(zT,1)else(zr1 v o.2.1,0)) K):
  XC Tp 60 #[.pointer (some ⟨rb,0,none⟩),u] h K:=by
 obtain⟨sp,sf,sk,si,rfl,r1,r2,r3⟩:=z3v hu
 apply zaf (some ⟨rb,0,none⟩) o.1 sp sf o.2.2.2.kind o.2.2.2.text sk si
 intro h1
 have k1:Keep h.size h h1:=Keep.push _ _ (Ae _)
 have b1:Blk h1 h.size (zr o.1 sp sf o.2.2.2 sk si).toArray:=Blk.new _ _ _
 have z1:h1.size=h.size+1:=Ak _
 clear_value h1
 have A1:=A.keep k1
 refine⟨sp,b1.cellAdd (by rfl),?_⟩
 refine A1.at hg hp r1 (λhn h4 k4=>⟨none,rfl,(λ_=>?_),λhc=>by cases hc⟩) λx hx h4 pa k4 plc=>⟨some pa,rfl,(λhc=>by cases hc),λ_=>⟨sp,(b1.ofKeep k4).cellAdd (by rfl),?_⟩⟩
 ·rw[hn]at hK
  exact zbl hK (by simp) (k1.trans k4 (by omega))
 ·rw[hx]at hK
  have A4:=A1.keep k4
  have O:Keep h.size h h4:=k1.trans k4 (by omega)
  simp only at hK
  refine zro hg A4.sm A4.ok hp A4.le A4.ag A4.doc r1 (λZ hl=>?_) (λy hy=>zhq A4.sz hy) (λh0=>⟨1,rfl,?_⟩) λy j hl hy hj ac h' D' aa tn=>⟨0,rfl,?_⟩
  ·obtain⟨y,q1,k,q2,q3⟩:=zf2 Z hx
   exact⟨y,q1,by rw[zj1 hl,q2];omega⟩
  ·rw[if_pos h0]at hK
   exact zbl hK (by simp) O
  ·rw[if_neg (λe=>by rw[e]at hl;simp at hl)]at hK
   refine hK h' D' (λ_=>?_) (tn.new O λc hc=>by cases hc)
   have:zr1 v o.2.1=zae v (o.2.1.take (o.2.1.length-1)) (zpj y j):=by
    unfold zr1 zms
    rw[hy]
    simp only
    rw[<-zj1 hl,hj];rfl
   rw[this];exact aa
theorem zrq(hg:GL gl)(A:At gl v h M rb D)(hp:SL o.2.1)(hw:Sm o.2.2.2)(ho:yg o.2.2.2=true)(hu:RdV M Z1 o u)
  (hK:Res h rb D (match yj v o.2.1 with
   |none=>(zT,8)
   |some _=>(zae v o.2.1 o.2.2.2,0)) K):
  XC Tp 61 #[.pointer (some ⟨rb,0,none⟩),u] h K:=by
 obtain⟨sp,sf,sk,si,rfl,r1,r2,r3⟩:=z3v hu
 apply Xf (some ⟨rb,0,none⟩) o.1 sp sf o.2.2.2.kind o.2.2.2.text sk si
 intro h1
 have k1:Keep h.size h h1:=Keep.push _ _ (Ae _)
 have b1:Blk h1 h.size (zr o.1 sp sf o.2.2.2 sk si).toArray:=Blk.new _ _ _
 have z1:h1.size=h.size+1:=Ak _
 clear_value h1
 have A1:=A.keep k1
 refine⟨sp,b1.cellAdd (by rfl),?_⟩
 refine A1.at hg hp r1 (λhn h4 k4=>⟨none,rfl,(λ_=>?_),λhc=>by cases hc⟩) λx hx h4 pa k4 plc=>⟨some pa,rfl,(λhc=>by cases hc),λ_=>⟨o.2.2.2.kind,o.2.2.2.text,sk,si,?_,?_⟩⟩
 ·rw[hn]at hK
  exact zbl hK (by simp) (k1.trans k4 (by omega))
 ·rw[zm];exact zol (b1.ofKeep k4) (vs:=zh o.2.2.2 sk si) (o:=0+3) (i:=0) rfl
 rw[hx]at hK
 have A4:=A1.keep k4
 have z4:=k4.size
 have aj:Keep h.size h h4:=k1.trans k4 (by omega)
 refine zju hg hw ho A4.le A4.ag r3 λh8 bs ck ci k8 ot ac=>⟨o.2.2.2.kind,o.2.2.2.text,ck,ci,rfl,pa,rfl,?_⟩
 have z8:=k8.size
 have ae:=Plc.keepK plc (by have:=A.doc.lt rb (.inl rfl);omega) k8
 have O:=A4.out ac
 obtain⟨b,of,cs,bx,rfl,hb,am,ar,ap,Z,ak,al,an,ai⟩:=ae
 have aa:∀c,c≠rb->c∉D->c≠b:=λc q1 q2 e=>by
  rcases Z with h|h
  ·exact q1 (by rw[e,h])
  ·exact q2 (by rw[e];exact h)
 refine Yu (vs:=zh o.2.2.2 ck ci) zts hb rfl ztr (by show of+4<=_;omega) (J9 _ ck ci) λh' b' z' f'=>?_
 obtain⟨D',ah,af⟩:=ai h' o.2.2.2 (zh o.2.2.2 ck ci) bs (λc n1 _ _=>f' c n1) b' (ot.frame λc hc=>f' c (aa c (O c hc).1 (O c hc).2)) (λc hc=>.inr (O c hc))
 refine hK h' D' (λ_=>ah) ⟨by omega,λc q1 q2 q3=>(f' c (aa c q2 q3)).trans ((k8.get c (by omega)).trans (aj.get c q1)),λc hc=>?_⟩
 rcases af c hc with hc|hc
 ·exact .inl hc
 ·exact .inr (.inr (by have:=ac c hc;omega))
theorem z2o(hg:GL gl)(A:At gl v h M rb D)(hp:SL o.2.1)(hf:SL o.2.2.1)(hv:yg v=true)(hu:RdV M Z1 o u)
  (hK:Res h rb D (match yj v o.2.2.1 with
   |none=>(zT,8)
   |some y=>zle (zpk v o.2.1 y)) K):
  XC Tp 63 #[.pointer (some ⟨rb,0,none⟩),u] h K:=by
 obtain⟨sp,sf,sk,si,rfl,r1,r2,r3⟩:=z3v hu
 apply zcz (some ⟨rb,0,none⟩) o.1 sp sf o.2.2.2.kind o.2.2.2.text sk si
 intro h1
 have k1:Keep h.size h h1:=Keep.push _ _ (Ae _)
 have b1:Blk h1 h.size (zr o.1 sp sf o.2.2.2 sk si).toArray:=Blk.new _ _ _
 have z1:h1.size=h.size+1:=Ak _
 clear_value h1
 have A1:=A.keep k1
 refine⟨sf,b1.cellAdd (by rfl),?_⟩
 refine A1.at hg hf r2 (λhn h4 k4=>⟨none,rfl,(λ_=>?_),λhc=>by cases hc⟩) λx hx h4 pa k4 plc=>⟨some pa,rfl,(λhc=>by cases hc),λ_=>⟨sp,(b1.ofKeep k4).cellAdd (by rfl),pa,rfl,?_⟩⟩
 ·rw[hn]at hK
  exact zbl hK (by simp) (k1.trans k4 (by omega))
 rw[hx]at hK
 have A4:=A1.keep k4
 have z4:=k4.size
 have ac:Keep h.size h h4:=k1.trans k4 (by omega)
 obtain⟨xk,xi,bx,Z,ot,ae,_⟩:=Plc.ld plc
 refine⟨x.kind,x.text,xk,xi,Z,?_⟩
 refine zju hg (A4.find_sm hx) (zf3 hv hx) (A4.le.trans (zag A4.ag bx)) (MxL.ag A4.ag bx) ot.rdv λh8 bs ck ci k8 aa O=>⟨x.kind,x.text,ck,ci,rfl,k8,?_⟩
 have A8:=A4.keep k8
 refine A8.add hg hp r1 aa (A4.out O) (h0:=h) (ac.trans k8 (by omega)) (λc hc=>by have:=O c hc;omega) λh' D' hD tn=>⟨_,rfl,hK h' D' hD tn⟩
end
end Go.X
end
section
namespace Go.Proofs.YtbploiccompocaaGreatDoor
open Go Go.X Go.ChangeShapes Go.WideShapes Go.ChangeAt Go.RowKit Go.Lib
set_option linter.unusedVariables false
section
variable {cs:List Value} {H:Type} {held:Bool} {fuel:Nat}
theorem seven(hl:cs.length=7):cs=(cs.drop 0).take 1++((cs.drop 1).take 1++((cs.drop 2).take 1++(cs.drop 3).take 4)):=by
 match cs,hl with
 |[a,b,c,d,e,f,g],_=>rfl
theorem qfv{enc:TypeId×Value->H}{W:World}{sp:Nat->Bool}{x:DataW H×List MemPlace}(h:DataW.trod enc AK W 0 sp held fuel 38 cs=some x)(hw:ziu AK 38 x.1):∃o:OpT,Rd (Fz W) Z1 o cs:=by
 obtain⟨xs,n,rfl,hx,hl,ac,O⟩:=DataW.trod_struct Tryz.underlying38 h
 have aa:cs.length=7:=hl.trans (by kernel_rfl)
 have ae:xs.length=4:=ac
 have g0:DataW.trod enc AK W 0 sp held n 9 ((cs.drop 0).take (AK.cellsOf 9))=xs[0]?:=O 0 _ rfl
 have g1:DataW.trod enc AK W 0 sp held n 22 ((cs.drop 1).take (AK.cellsOf 22))=xs[1]?:=O 1 _ rfl
 have g2:DataW.trod enc AK W 0 sp held n 22 ((cs.drop 2).take (AK.cellsOf 22))=xs[2]?:=O 2 _ rfl
 have g3:DataW.trod enc AK W 0 sp held n 25 ((cs.drop 3).take (AK.cellsOf 25))=xs[3]?:=O 3 _ rfl
 rw[Am (by omega)]at g0 g1 g2 g3
 have Z:∀(j:Nat) (t:TypeId) (hj:j<xs.length),([9,22,22,25]:List TypeId)[j]?=some t->ziu AK t (xs[j]).1:=λj t hj hf m hm=>hw m (by
   rw[hx]
   unfold DataW.weights
   rw[Tryz.underlying38]
   exact DataW.weights_mem_each (j:=j) (t:=t) (d:=(xs[j]).1) (by rw[<-hf];rfl) (by rw[B5,Am hj];rfl) m hm)
 have c1:AK.cellsOf 9=1:=by kernel_rfl
 have c2:AK.cellsOf 22=1:=by kernel_rfl
 have c3:AK.cellsOf 25=4:=by kernel_rfl
 rw[c1]at g0
 rw[c2]at g1 g2
 rw[c3]at g3
 obtain⟨s,e0⟩:=z0b Bh g0
 obtain⟨p,e1⟩:=z07 g1 (Z 1 _ (by omega) rfl)
 obtain⟨f,e2⟩:=z07 g2 (Z 2 _ (by omega) rfl)
 obtain⟨v,e3⟩:=z06 _ _ _ g3 (Z 3 _ (by omega) rfl)
 exact⟨(s,p,f,v),_,_,seven aa,e0,_,_,rfl,e1,_,_,rfl,e2,e3⟩
theorem qd1{enc:TypeId×Value->H}{W:World}{sp:Nat->Bool}{x:DataW H×List MemPlace}(h:DataW.trod enc AK W 0 sp held fuel 26 cs=some x)(hw:ziu AK 26 x.1):∃xs:List OpT,Rd (Fz W) (.row Z1) xs cs:=
 z0a (T:=Z1) Tryz.underlying26 (by kernel_rfl) (by decide) (by decide +kernel) (λ_ _ cs y hy hs=>qfv hy hs) h hw
end
end Go.Proofs.YtbploiccompocaaGreatDoor
end
section
namespace Go.X
section
theorem qgb:Yq (qt (Lib.itoa 1)).1=[49]:=by kernel_rfl
theorem qf5:Yq (qt (Lib.itoa 2)).1=[50]:=by kernel_rfl
def smT:Tr:=.mk 6 ⟨#[]⟩ [⟨#[97]⟩] [.mk 5 ⟨#[]⟩ [] [.mk 3 (bl [49]) [] [],.mk 3 (bl [50]) [] []]]
theorem qd2:Sm smT:=by
 refine Sm.few ?_ ?_
 ·have:tks smT=5:=by kernel_rfl
  omega
 ·have O:∀b:Bs,b.length<=2048->txS (.mk 3 (bl b) [] []):=λb hb=>by
   rw[txS,zkj];exact⟨⟨by rw[zj];exact hb,by simp⟩,trivial⟩
  unfold smT
  rw[txS,zkj,zkj,txS,zkj,zkj,zkj]
  exact⟨⟨by decide,by decide⟩,⟨⟨by decide,by simp⟩,O _ (by decide),O _ (by decide),trivial⟩,trivial⟩
theorem za3{l:List Bt}(h:l.length<=1000000)(h2:∀x∈l,x.size<=1048576):SL l:=⟨h,λx hx=>by rw[Yo];exact h2 x hx⟩
end
section
theorem zrr(l:List Bs):(l.map bl).map lb=l:=by
 rw[EJ]
 have:(lb ∘ bl)=(id:Bs->Bs):=funext λx=>wh x
 rw[this,List.map_id]
theorem zrs{l:List Bt}:qh l=(decide (l.length<=64)&&(l.map lb).all jr):=by
 unfold qh;rw[List.all_map];rfl
theorem qd3(x:Bs):x.length<=(esc x).length:=by
 induction x with
 |nil=>simp
 |cons c t ih=>
  rw[zod,Ao,Ay]
  have:1<=(zr0 c).length:=by
   unfold zr0
   by_cases a:c=126
   ·simp[a]
   ·by_cases b:c=47 <;> simp[a,b]
  omega
theorem z2p{x:Bs}:∀{p:List Bs},x∈p->x.length<=(Xg p).length
 |y::p,h=>by
  rw[show y::p=[y]++p from rfl,yh,xx,Ao,Ay]
  rcases Af.1 h with rfl|h
  ·have:=qd3 x;omega
  ·have:=z2p h;omega
end
section
variable {gl:Fr} {v:Tr} {R:Bool -> Prop}
theorem z2q(hg:GL gl)(hv:Sm v)(h:R (decide (v.kind≠7)&&zv v)):PC Tp gl 46 [Arg.mk .tree v] [.bool] R:=by
 apply zg5
 simp only[qo]
 refine⟨λb=>b=zv v,λ_=>z1k hg hv rfl,λb hb=>?_⟩
 cases hk:(v.kind != 7)with
 |false=>
  have e:v.kind=7:=by simpa using hk
  have:(decide (v.kind≠7)&&zv v)=false:=by simp[e]
  rw[this]at h
  simpa[hk]using h
 |true=>
  have e:v.kind≠7:=by simpa using hk
  have hb:=hb hk
  subst hb
  have:(decide (v.kind≠7)&&zv v)=zv v:=by simp[e]
  rw[this]at h
  simpa[hk]using h
theorem zai(hg:GL gl)(hv:Sm v)(hR:R (qe v)):PC Tp gl 21 [Arg.mk .tree v] [.bool] R:=by
 intro h M vs hM ag ha
 match vs,ha with
 |[u],⟨hu,_⟩=>
  have hu:RdV M .tree v u:=hu
  have ac:=hu
  obtain⟨sk,si,rfl,rk,ri⟩:=w9 hu
  apply PX.of
  apply zld v.kind v.text sk si
  intro h1
  have L1:Later h M h1 M:=Later.push ag _
  have s1:h1.size=h.size+1:=Ak _
  have Z:∀h':zb,Keep h1.size h1 h'->ze h' ⟨h.size,0,none⟩ 0 [.int .i64 v.kind,.string v.text,slV sk,slV si]:=λh' k=>z5f (h':=h') (by rw[s1]at k;exact k)
  clear_value h1
  refine⟨v.kind,v.text,sk,si,Z h1 (Keep.refl _ _),?_⟩
  have ah:PC Tp gl 44 [Arg.mk .tree v] [.bool] (λr=>r=Z3 v):=zvl hv rfl
  refine ah.go (vs:=[.agg #[.int .i64 v.kind,.string v.text,slV sk,slV si]]) (hM.trans L1.le) L1.ag (qn (RdV.mono L1.le ac) y0) λw h2 M2 r L2 af hr=>?_
  refine⟨r,zc2 af,v.kind,v.text,sk,si,λ_=>Z h2 L2.keep,?_⟩
  have O:=L1.trans L2
  refine⟨λw h4=>∃b,w=.bool b/\(r=true->b=Yf (λx=>decide (x.kind≠7)&&zv x) v)/\∃M4,Later h M h4 M4,λaj=>?_,λae=>⟨true,true,rfl,λe=>(by rw[e]at ae;cases ae),M2,O⟩,λ_ w h4 ⟨b,e,_⟩=>⟨b,e⟩,?_⟩
  ·refine(zvn (F:=46) (by kernel_rfl) (p:=λx=>decide (x.kind≠7)&&zv x) (λx hx=>z2q hg hx rfl) v hv (hM.trans O.le) L2.ag (RdV.mono O.le ac)).go λw h3 M3 b L3 aa ai=>⟨b,zc2 aa,b,rfl,λ_=>ai,M3,O.trans L3⟩
  ·rintro b h4 ⟨b',e,hb,M4,L4⟩
   cases e
   refine⟨M4,_,L4,zdx.2 (rdBool _),?_⟩
   unfold qe at hR
   rw[<-hr]at hR
   cases r with
   |false=>exact hR
   |true=>rw[cond_true,hb rfl];exact hR
theorem zf4(hg:GL gl)(hv:Sm v)(h:R (qe v)):PC Tp gl 34 [Arg.mk .tree v] [.bool] R:=by
 apply zcw
 rw[qo]
 refine zoj v hv.sz ⟨λr=>r=(tdp v:Int),λ_=>zjj v hv.sz rfl,λr hr=>⟨λb=>b=Yf (λx=>decide (x.kind≠7)&&zv x) v,λ_=>zjm hg false v hv (zmn (λx=>by simp[Bool.and_comm]) v),λb hb=>?_⟩⟩
 have e:(bif decide ((tsz v:Int)<=4096)then decide (r<=32)else false)=Z3 v:=by
  unfold Z3
  cases hc:decide ((tsz v:Int)<=4096)with
  |false=>(have:decide (tsz v<=4096)=false:=by simp at hc ⊢;omega);rw[this];rfl
  |true=>
   have:decide (tsz v<=4096)=true:=by simp at hc ⊢;omega
   rw[this,hr hc,cond_true,Bi,AB];simp;omega
 rw[e]at hb ⊢
 unfold qe at h
 cases hs:Z3 v with
 |false=>rw[hs]at h;exact h
 |true=>rw[hs]at h;rw[cond_true,hb hs];exact h
theorem qbp(hk:v.keys.length<=1000000000)(hi:v.items.length<=1000000000000)(h:R (zeu v)):PC Tp gl 38 [Arg.mk .tree v] [.bool] R:=by
 apply zov
 have e:(bif (bif ((v.kind:Int)==0)then((v.text:Bt).toList==((⟨#[]⟩:Bt):Bt).toList)else false)then((Aa .i64 (((Bb v.keys:Nat):Int)+((Bb v.items:Nat):Int)):Int)==0)else false)=zeu v:=by
  rw[w64 (by omega),AB]
  unfold zeu
  simp only[Bg,AI,beq_iff_eq,decide_eq_true_eq,ByteArray.toList_eq,lb]
  constructor
  ·rintro⟨⟨h1,h2⟩,h3⟩
   exact⟨h1,h2,Av (by omega),Av (by omega)⟩
  ·rintro⟨h1,h2,h3,h4⟩
   exact⟨⟨h1,h2⟩,by rw[h3,h4];rfl⟩
 rw[e];exact h
theorem z6w(h:R (zeu v)):PC Tp gl 41 [Arg.mk .tree v] [.bool] R:=by
 apply zer
 have e:(bif (bif (bif ((v.kind:Int)==0)then((v.text:Bt).toList==((⟨#[]⟩:Bt):Bt).toList)else false)then((((Bb v.keys:Nat):Int):Int)==0)else false)then((((Bb v.items:Nat):Int):Int)==0)else false)=zeu v:=by
  rw[AB]
  unfold zeu
  simp only[Bg,AI,beq_iff_eq,decide_eq_true_eq,ByteArray.toList_eq,lb]
  constructor
  ·rintro⟨⟨⟨h1,h2⟩,h3⟩,h4⟩
   exact⟨h1,h2,Av (by omega),Av (by omega)⟩
  ·rintro⟨h1,h2,h3,h4⟩
   exact⟨⟨⟨h1,h2⟩,by rw[h3];rfl⟩,by rw[h4];rfl⟩
 rw[e];exact h
end
end Go.X
end
section
namespace Go.X
open Go Go.ChangeMaps
section
variable {h h':zb} {m r:Nat} {P:Program} {t kt et ty:TypeId} {K:Value -> zb -> Prop} {dn:List Value}
def MapW(h:zb)(m:Nat)(l:List (Value×Value)):Prop:=
 ∃es O,h[m]?=some (.map es O)/\es.toList.map (λe=>(e.key,e.val))=l/\(∀e∈es.toList,e.born<O)/\(es.toList.map (·.born)).Nodup
theorem MapW.keep{l:List (Value×Value)}(H:MapW h m l)(k:h'[m]?=h[m]?):MapW h' m l:=by
 obtain⟨es,c,h1,h2⟩:=H;exact⟨es,c,k.trans h1,h2⟩
theorem MapW.lt{l:List (Value×Value)}(H:MapW h m l):m<h.size:=by
 obtain⟨es,c,h1,h2⟩:=H;exact(Ac.1 h1).1
theorem MapW.new(h:zb):MapW (h.push (.map #[] 0)) h.size []:=⟨#[],0,ww _ _,rfl,by simp,by simp⟩
def zkk(l:List (Bt×Value)):List (Value×Value):=l.map λp=>(AU p.1,p.2)
theorem MapW.at{l:List (Bt×Value)}(H:MapW h m (zkk l)):MapAt h m l:=by
 obtain⟨es,c,h1,h2,_⟩:=H;exact⟨es,c,h1,h2⟩
theorem z6x{z:Value}(T:MapT P t kt et z){l:List (Bt×Value)}(H:MapW h m (zkk l))(k:Bt)(v:Value){K:zb->Prop}
  (hK:∀h':zb,MapW h' m (zkk (zy2 l k v))->h'.size=h.size->(∀i,i≠m->h'[i]?=h[i]?)->K h'):XRunU P (C4 t (.map (some m)) (.string k) v) h K:=by
 have ac:=H.lt
 obtain⟨es,c,h1,h2,h3,h4⟩:=H
 intro B d
 have hu:=QExec.underlying (h:=h) T.map B d
 have hg:=Jr (P:=P) h1 B d
 have hc:=Xp T.key false k h B d
 have O:∀o:Obj,(setObj m o).run P (mk B d h)=.ok () (mk B d (h.setIfInBounds m o)):=by
  intro o
  have:(mk B d h).heap[m]?=some (.map es c):=h1
  simp[setObj,Sem.run,this]
  rfl
 unfold C4
 rcases Wm k es.toList l 0 h2 with⟨g1,g2⟩|⟨j,v0,e,g1,g2,g3,g4,g5,g6⟩
 ·refine⟨d,h.setIfInBounds m (.map (es.push { key:=.string k,val:=v,born:=c }) (c+1)),?_,hK _ ⟨es.push { key:=.string k,val:=v,born:=c },c+1,by simp[ac],?_,?_,?_⟩ (by simp) (λi hi=>by rw[AL (Ne.symm hi)])⟩
  ·rw[Sem.run_bind,hu]
   simp only[Result.andThen_ok,Sem.run_bind,hg,hc]
   rw[Z8 T.key k es.toList none h g2 B d]
   simp only[Result.andThen_ok]
   exact O _
  ·rw[zbr g1]
   unfold zkk at h2 ⊢
   simp[h2]
  ·intro e he
   simp at he
   rcases he with he|rfl
   ·have:=h3 e (by simpa using he);omega
   ·simp
  ·simp only[Array.toList_push,BF,Dq,List.map_nil]
   rw[A9]
   refine⟨h4,by simp,λx hx y hy e=>?_⟩
   simp at hy
   obtain⟨e',aa,rfl⟩:=BN.1 hx
   have:=h3 e' aa;omega
 ·have ai:j<es.size:=by
   have:=(Az.1 g2).1
   simpa using this
  have Z:((es.modify j λe=>{ e with key:=.string k,val:=v }).toList.map (·.born))=es.toList.map (·.born):=by
   apply A7
   intro i
   simp only[Array.toList_modify,B5,List.getElem?_modify]
   by_cases af:j=i
   ·subst af;cases es.toList[j]? <;> simp
   ·cases es.toList[i]? <;> simp[af]
  refine⟨d,_,?_,hK (h.setIfInBounds m (.map (es.modify j λe=>{ e with key:=.string k,val:=v }) c)) ⟨es.modify j λe=>{ e with key:=.string k,val:=v },c,by simp[ac],?_,?_,?_⟩ (by simp) (λi hi=>by rw[AL (Ne.symm hi)])⟩
  ·rw[Sem.run_bind,hu]
   simp only[Result.andThen_ok,Sem.run_bind,hg,hc]
   rw[Z8 T.key k es.toList _ h g5 B d]
   simp only[Result.andThen_ok,AH]
   have ae:((es[j]?).map (·.key)).getD (.string k)=.string k:=by
    have:es[j]?=some e:=by simpa using g2
    rw[this];exact g3
   rw[ae]
   have hs:Eo (.string k) (.string k)=pure (.string k):=by
    unfold Eo
    rw[if_pos (by show(k==k)=true;rw[zlr];simp)]
   rw[hs]
   exact O _
  ·have:=g6 v
   unfold zkk
   simpa using this
  ·intro e' aa
   have:e'.born∈((es.modify j λe=>{ e with key:=.string k,val:=v }).toList.map (·.born)):=BN.2 ⟨e',aa,rfl⟩
   rw[Z]at this
   obtain⟨e2,ah,e3⟩:=BN.1 this
   rw[<-e3];exact h3 e2 ah
  ·rw[Z];exact h4
def MapIt(h:zb)(r m:Nat)(l:List (Value×Value))(dn:List Value):Prop:=
 ∃es Z O aa c,h[r]?=some (.mapIter (some m) O aa c)/\h[m]?=some (.map es Z)/\es.toList.map (λe=>(e.key,e.val))=l/\(∀e∈es.toList,e.born<O)/\O<=c/\O<=Z/\(es.toList.map (·.born)).Nodup /\
  ∀e∈es.toList,aa.contains e.born=true↔e.key∈dn
theorem MapIt.keep{l:List (Value×Value)}(H:MapIt h r m l dn)(k1:h'[r]?=h[r]?)(k2:h'[m]?=h[m]?):MapIt h' r m l dn:=by
 obtain⟨es,Z,O,aa,c,h1,h2,h3⟩:=H
 exact⟨es,Z,O,aa,c,k1.trans h1,k2.trans h2,h3⟩
def z8k(h:zb)(r m:Nat)(k v:Value):Prop:=
 ∃(es:Array MapEntry) (O Z:Nat) (aa:Array Nat) (e:MapEntry),h[r]?=some (.mapIter (some m) Z (aa.push e.born) O)/\h[m]?=some (.map es O)/\e∈es.toList/\(es.toList.map (·.born)).Nodup/\e.key=k/\e.val=v
theorem z6y(ht:P.underlying t=some (.map kt et)){l:List (Value×Value)}(H:MapW h m l)
  (hK:∀h',h'.size=h.size+1->Keep h.size h h'->MapIt h' h.size m l []->K (.pointer (some ⟨h.size,0,none⟩)) h'):XRun P (E3 t (.map (some m))) h K:=by
 have O:=H.lt
 obtain⟨es,c,h1,h2,h3,h4⟩:=H
 intro B d
 have hu:=QExec.underlying (h:=h) ht B d
 have hg:=Jr (P:=P) h1 B d
 refine⟨.pointer (some ⟨h.size,0,none⟩),d,h.push (.mapIter (some m) c #[] c),?_,hK _ (by simp) (Keep.push _ _ (Ae _)) ⟨es,c,c,#[],c,ww _ _,?_,h2,h3,Ae _,Ae _,h4,λe he=>by simp⟩⟩
 ·unfold E3
  rw[Sem.run_bind,hu]
  simp only[Result.andThen_ok,Sem.run_bind,hg,Sem.run_pure]
  rfl
 ·rw[BM,if_neg (by omega)];exact h1
theorem zx7{es:List MapEntry}(h:(es.map (·.born)).Nodup){a b:MapEntry}(ha:a∈es)(hb:b∈es)(e:a.born=b.born):a=b:=by
 induction es with
 |nil=>cases ha
 |cons x es ih=>
  rw[Dq,CQ]at h
  rcases Af.1 ha with h1|h1
  ·rcases Af.1 hb with h2|h2
   ·rw[h1,h2]
   ·exact(h.1 (BN.2 ⟨b,h2,by rw[<-e,h1]⟩)).elim
  ·rcases Af.1 hb with h2|h2
   ·exact(h.1 (BN.2 ⟨a,h1,by rw[e,h2]⟩)).elim
   ·exact ih h.2 h1 h2
theorem z2r{es:List MapEntry}(h:(es.map (·.key)).Nodup){a b:MapEntry}(ha:a∈es)(hb:b∈es)(e:a.key=b.key):a=b:=by
 induction es with
 |nil=>cases ha
 |cons x es ih=>
  rw[Dq,CQ]at h
  rcases Af.1 ha with h1|h1
  ·rcases Af.1 hb with h2|h2
   ·rw[h1,h2]
   ·exact(h.1 (BN.2 ⟨b,h2,by rw[<-e,h1]⟩)).elim
  ·rcases Af.1 hb with h2|h2
   ·exact(h.1 (BN.2 ⟨a,h1,by rw[e,h2]⟩)).elim
   ·exact ih h.2 h1 h2
def leftN(h:zb)(r m:Nat):Nat:=match h[r]?,h[m]? with
 |some (.mapIter _ _ seen _),some (.map es _)=>(es.toList.filter λe=>!seen.contains e.born).length
 |_,_=>0
theorem leftN.keep(k1:h'[r]?=h[r]?)(k2:h'[m]?=h[m]?):leftN h' r m=leftN h r m:=by unfold leftN;rw[k1,k2]
theorem zrt{α:Type}{p q:α->Bool}(h:∀x,p x=true->q x=true):∀l:List α,(l.filter p).length<=(l.filter q).length
 |[]=>Ae _
 |x::l=>by
  have:=zrt h l
  rw[List.filter_cons,List.filter_cons]
  by_cases hp:p x=true
  ·rw[if_pos hp,if_pos (h x hp)];simp;omega
  ·rw[if_neg hp]
   split
   ·simp;omega
   ·exact this
theorem filter_lt{α:Type}{p q:α->Bool}(h:∀x,p x=true->q x=true){e:α}(h1:p e=false)(h2:q e=true):∀l:List α,e∈l->(l.filter p).length<(l.filter q).length
 |[],he=>by cases he
 |x::l,he=>by
  rw[List.filter_cons,List.filter_cons]
  rcases Af.1 he with rfl|he
  ·have:=zrt h l
   rw[if_neg (by rw[h1];simp),if_pos h2];simp;omega
  ·have:=filter_lt h h1 h2 l he
   by_cases hp:p x=true
   ·rw[if_pos hp,if_pos (h x hp)];simp;omega
   ·rw[if_neg hp]
    split
    ·simp;omega
    ·exact this
theorem qbq{l:List (Value×Value)}(H:MapIt h r m l dn)(hn:(l.map (·.1)).Nodup)(ak:r≠m)
  (aj:(∀p∈l,p.1∈dn)->K (.tuple #[.bool false]) h)
  (ah:∀k v,(k,v)∈l->k∉dn->∀h',MapIt h' r m l (k::dn)->z8k h' r m k v->h'.size=h.size->(∀j,j≠r->h'[j]?=h[j]?)->leftN h' r m<leftN h r m->K (.tuple #[.bool true,k,v]) h'):
  XRun P (E7 (.pointer (some ⟨r,0,none⟩)) false ty) h K:=by
 obtain⟨es,O,Z,aa,c,h1,h2,h3,h4,h5,h6,h7,h8⟩:=H
 intro B d
 have hk:(es.toList.map (·.key)).Nodup:=by
  have e:es.toList.map (·.key)=l.map (·.1):=by rw[<-h3,EJ];rfl
  rw[e];exact hn
 rcases run_next_at (P:=P) (mk B d h) ty r m Z c aa es O h1 h2 h4 h5 with⟨e0,e1⟩|⟨e,he,w1,hw,e1⟩
 ·refine⟨_,d,h,e1,aj λp hp=>?_⟩
  rw[<-h3]at hp
  obtain⟨x,hx,rfl⟩:=BN.1 hp
  refine(h8 x hx).1 ?_
  have:leftOf es aa=#[]:=Array.eq_empty_of_size_eq_zero e0
  unfold leftOf at this
  rw[Array.filter_eq_empty_iff]at this
  have:=this x (by simpa using hx)
  simpa using this
 ·have ac:e∈es.toList/\aa.contains e.born=false:=by
   unfold leftOf at he
   simpa using he
  have hr:r<h.size:=(Ac.1 h1).1
  have ai:∃d',setBlock w1 r (.mapIter (some m) Z (aa.push e.born) O)=mk B d' (h.setIfInBounds r (.mapIter (some m) Z (aa.push e.born) O)):=by
   rcases hw with rfl|rfl
   ·exact⟨d,rfl⟩
   ·exact⟨d+1,rfl⟩
  obtain⟨d',al⟩:=ai
  rw[al]at e1
  have ae:(h.setIfInBounds r (.mapIter (some m) Z (aa.push e.born) O))[m]?=some (.map es O):=by rw[AL ak];exact h2
  have af:(h.setIfInBounds r (.mapIter (some m) Z (aa.push e.born) O))[r]?=some (.mapIter (some m) Z (aa.push e.born) O):=by simp[hr]
  refine⟨_,d',_,e1,ah e.key e.val (by rw[<-h3];exact BN.2 ⟨e,ac.1,rfl⟩) (λhm=>?_) _ ⟨es,O,Z,aa.push e.born,O,af,ae,h3,h4,h6,h6,h7,λx hx=>?_⟩ ⟨es,O,Z,aa,e,af,ae,ac.1,h7,rfl,rfl⟩ (by simp) (λj hj=>by rw[AL (Ne.symm hj)]) ?_⟩
  ·have:=(h8 e ac.1).2 hm
   rw[ac.2]at this;cases this
  ·rw[Af,<-h8 x hx]
   simp only[Array.contains_eq_mem,Array.mem_push,decide_eq_true_eq]
   constructor
   ·rintro(h|h)
    ·exact .inr h
    ·exact .inl (by rw[zx7 h7 hx ac.1 h])
   ·rintro(h|h)
    ·exact .inr (by rw[z2r hk hx ac.1 h])
    ·exact .inl h
  ·unfold leftN
   rw[af,ae,h1,h2]
   refine filter_lt (e:=e) (λx hx=>?_) ?_ ?_ _ ac.1
   ·simp only[Array.contains_eq_mem,Array.mem_push]at hx ⊢
    simp at hx ⊢
    exact hx.1
   ·simp
   ·rw[ac.2];rfl
theorem z6z{k v:Value}(H:z8k h r m k v)(hK:K (.tuple #[k,v]) h):XRun P (Instr.entry (.pointer (some ⟨r,0,none⟩))) h K:=by
 obtain⟨es,Z,O,aa,e,h1,h2,h3,h4,rfl,rfl⟩:=H
 intro B d
 exact⟨_,d,h,run_entry_at (P:=P) (mk B d h) r m O aa es Z e h1 h2 h3 h4,hK⟩
theorem z2s(ht:P.underlying t=some (.map kt et)){l:List (Value×Value)}(H:MapW h m l):QExec P (CV #[t] ty #[.map (some m)]) h (.int .i64 (l.length:Int)):=by
 obtain⟨es,c,h1,h2,_⟩:=H
 intro B d
 have hu:=QExec.underlying (h:=h) ht B d
 have hg:=Jr (P:=P) h1 B d
 have hl:l.length=es.size:=by rw[<-h2];simp
 simp[CV,hu,hg,goInt,hl]
end
end Go.X
end
section
namespace Go.X
open Go Go.Lib
section
variable {v:Tr} {o:OpT}
def z3w(kb:List Bt)(ys:List Tr)(q:Tr->Tr->Bool)(k:Bt)(x:Tr):Bool:=match ys[(idxOfS kb k).toNat]? with
 |some y=>decide (0<=idxOfS kb k)&&q x y
 |none=>false
theorem zru(b:Tr):∀(ks:List Bt) (xs:List Tr),ks.length=xs.length->zto ks xs b=(ks.zip xs).all λp=>z3w b.keys b.items W8 p.1 p.2
 |[],[],_=>by simp[zto]
 |k::ks,x::xs,h=>by
  rw[zto,zru b ks xs (by simpa using h)]
  rfl
 |[],_::_,h=>by simp at h
 |_::_,[],h=>by simp at h
theorem zrv:∀(xs ys:List Tr),xs.length=ys.length->ztn xs ys=(xs.zip ys).all λp=>W8 p.1 p.2
 |[],[],_=>by simp[ztn]
 |x::xs,y::ys,h=>by
  rw[ztn,zrv xs ys (by simpa using h)]
  rfl
 |[],_::_,h=>by simp at h
 |_::_,[],h=>by simp at h
theorem zhr(a b:Tr):W8 a b=(decide (a.kind=b.kind)&&(decide (a.text=b.text)&&(decide (a.items.length=b.items.length)&&(if a.kind=6 then zto a.keys a.items b else ztn a.items b.items)))):=by cases a;rw[W8]
theorem zrw{ks:List Bt}{k:Bt}{j:Nat}(h:idxOfS ks k=(j:Int)):j<ks.length:=by
 rcases zoe k ks 0 with⟨h1,_⟩|⟨i,h1,h2,_⟩
 ·unfold idxOfS at h;rw[h1]at h;omega
 ·unfold idxOfS at h;rw[h1]at h;omega
theorem Ji:Sm zT:=⟨by simp[zT,tsz,xj],by
 refine(J3 _ _).2 ⟨⟨?_,by simp[zT],by simp[zT]⟩,Ja.2 (by simp[zT])⟩
 show(0:Nat)<=_;omega⟩
theorem Sm.find{v x:Tr}{p:List Bt}(h:Sm v)(hf:yj v p=some x):Sm x:=by
 obtain⟨h1,h2,_⟩:=wo hf
 exact⟨by have:=h.sz;omega,h2 _ h.tx⟩
theorem zo6{v w:Tr}{p:List Bt}(hv:Sm v)(hw:Sm w)(ho:Yf zv v=true)(h1:tsz v<=1000000)(h2:tsz w<=1000000)(hp:∀s∈p,s.size<=1048576):Sm (zle (zpk v p w)).1:=by
 cases h:zpk v p w with
 |none=>exact Ji
 |some t=>exact⟨by have:=qbi h;show tsz t<=_;omega,qbj h hv.tx hw.tx ho h1 hp⟩
theorem z8l(hv:Sm v)(ov:yg v=true)(hw:Sm o.2.2.2)(h2:tsz o.2.2.2<=1000000)(hp:∀s∈o.2.1,s.size<=1048576):Sm (doR v o).1:=by
 have hs:=zoh ov
 have ok:=zah ov
 unfold doR
 split
 ·split
  ·exact Ji
  ·split
   ·exact Ji
   ·exact⟨by have:=zj6 v o.2.1;show tsz (zr1 v o.2.1)<=_;omega,ztp hv.tx _⟩
 ·split
  ·split
   ·exact Ji
   ·exact qak hv hw (by omega) _
  ·split
   ·split
    ·exact Ji
    ·rename_i y hy
     have O:=wo hy
     split
     ·split
      ·exact Ji
      ·exact hv
     ·rename_i Z
      have hf:o.2.2.1≠[]:=λe=>Z (by rw[e];simp)
      exact zo6 ⟨by have:=zj6 v o.2.2.1;omega,ztp hv.tx _⟩ (hv.find hy) (zv6 ok hf hy) (by have:=zj6 v o.2.2.1;omega) (by omega) hp
   ·split
    ·split
     ·exact Ji
     ·rename_i y hy
      have O:=wo hy
      exact zo6 hv (hv.find hy) ok (by omega) (by omega) hp
    ·split
     ·split
      ·exact Ji
      ·split
       ·exact hv
       ·exact Ji
     ·exact zo6 hv hw ok (by omega) h2 hp
theorem zaj(h:qe v=true):tsz v<=4096:=zoh (Zc h)
theorem z7a(h:zeu v=true):tsz v=1:=by
 unfold zeu at h
 have:=(of_decide_eq_true h).2.2.2
 rw[j5,this];rfl
theorem zj7(h:qc o=true):tsz o.2.2.2<=4096:=by
 unfold qc at h
 simp only[AI]at h
 have h:=h.2.2.2.2
 cases hs:(zy (lb o.1)).1 with
 |true=>rw[hs]at h;exact zaj h
 |false=>rw[hs]at h;rw[z7a h];omega
theorem Xa(h:qc o=true)(hs:(zy (lb o.1)).1=true):yg o.2.2.2=true:=by
 unfold qc at h
 simp only[AI]at h
 have h:=h.2.2.2.2
 rw[hs]at h;exact Zc h
theorem zj8{s:Bs}(h:s=z2j\/s=Qr\/s=zgk):(zy s).1=true:=by unfold zy;rw[if_pos h]
theorem z7b{s:Bs}(h:(zy s).2.2=true)(h1:s≠W7)(h2:s≠Qr)(h3:s≠zj2)(h4:s≠zj3)(h5:s≠zgk):s=z2j:=by
 unfold zy at h
 split at h
 ·rename_i hc
  rcases hc with hc|hc|hc
  ·exact hc
  ·exact absurd hc h2
  ·exact absurd hc h5
 ·split at h
  ·rename_i hc
   rcases hc with hc|hc
   ·exact absurd hc h3
   ·exact absurd hc h4
  ·exact absurd (of_decide_eq_true h) h1
end
end Go.X
end
section
namespace Go.X
open Go Go.X Go.Proofs Go.Lib
section
variable {h:zb} {M gl:Fr} {F:FuncId} {xs ys:List Tr}
theorem mapVal:MapT Tp 137 9 25 (.agg #[.int .i64 0,.string ⟨#[]⟩,.slice none 0 0,.slice none 0 0]):=⟨by kernel_rfl,by kernel_rfl,⟨Tryz.t25,by kernel_rfl,by kernel_rfl⟩⟩
theorem zo7(k:Bt):∀(ks:List Bt) (us:List Value) (i:Nat),ks.length=us.length->(idxFromS ks k i=-1/\zdd (ks.zip us) k=none)\/∃j u,idxFromS ks k i=((i+j:Nat):Int)/\us[j]?=some u/\zdd (ks.zip us) k=some u
 |[],[],_,_=>.inl ⟨rfl,rfl⟩
 |z::ks,u::us,i,h=>by
  unfold idxFromS
  rw[List.zip_cons_cons,zdd]
  by_cases hz:z=k
  ·rw[if_pos hz]
   exact .inr ⟨0,u,rfl,rfl,by rw[if_pos hz]⟩
  ·rw[if_neg hz,if_neg hz]
   rcases zo7 k ks us (i+1) (by simpa using h)with h1|⟨j,w,h1,h2,h3⟩
   ·exact .inl h1
   ·exact .inr ⟨j+1,w,by rw[h1];congr 1;omega,by simpa using h2,h3⟩
 |[],_::_,_,h=>by simp at h
 |_::_,[],_,h=>by simp at h
theorem z2t{l:List (Bt×Value)}{k:Bt}(h:k∉l.map (·.1)):zdd l k=none:=by
 induction l with
 |nil=>rfl
 |cons p l ih=>
  simp only[Dq,Af,not_or]at h
  rw[zdd,if_neg (λe=>h.1 e.symm),ih h.2]
theorem zo8{α β:Type}{xs:List α}{ys:List β}{k:Nat}(hk:k<xs.length){u:β}(hy:ys.length=k):(xs.take (k+1)).zip (ys++[u])=(xs.take k).zip ys++[(xs[k],u)]:=by
 rw[Ag hk,List.zip_append (by simp;omega)];rfl
set_option maxHeartbeats 1000000 in
theorem zf5{v:Tr}(hn:v.keys.Nodup)(hl:v.keys.length=v.items.length)(hi:v.items.length<=1000000000000){u:Value}(ag:AgM M h)(hu:RdV M .tree v u){K:Value->zb->Prop}
  (hK:∀(h':zb) (m:Nat) (us:List Value),Keep h.size h h'->h.size<=m->us.length=v.items.length->(∀i (h1:i<v.items.length) (h2:i<us.length),RdV M .tree v.items[i] us[i])->MapW h' m (zkk (v.keys.zip us))->K (.map (some m)) h'):
  XC Tp 125 #[u] h K:=by
 obtain⟨sk,si,rfl,rk,ri⟩:=w9 hu
 obtain⟨lk,_,_⟩:=rowLen rk
 obtain⟨li,_,_⟩:=rowLen ri
 apply zg9 v.kind v.text sk si
 intro h1
 have k1:Keep h.size h h1:=Keep.push _ _ (Ae _)
 have b1:Blk h1 h.size (zd v.kind v.text sk si).toArray:=Blk.new _ _ _
 have z1:h1.size=h.size+1:=Ak _
 clear_value h1
 refine⟨sk,b1.cellAdd (by rfl),?_⟩
 intro h3
 have k3:Keep h1.size h1 h3:=Keep.push _ _ (Ae _)
 have w3:MapW h3 h1.size []:=MapW.new _
 have z3:h3.size=h1.size+1:=Ak _
 clear_value h3
 have b3:=b1.ofKeep k3
 have kk:Keep h.size h h3:=k1.trans k3 (by omega)
 refine⟨sk,b3.cellAdd (by rfl),λx g=>∃(k:Nat) (us:List Value),x=(k:Int)/\k<=v.items.length/\us.length=k/\g.size=h3.size/\(∀j,j≠h1.size->g[j]?=h3[j]?)/\(∀i (h1:i<v.items.length) (h2:i<us.length),RdV M .tree v.items[i] us[i])/\MapW g h1.size (zkk ((v.keys.take k).zip us)),
  λx _=>v.items.length-x.toNat,⟨0,[],rfl,CY _,rfl,rfl,λ_ _=>rfl,λi _ h2=>by simp at h2,by simpa[zkk]using w3⟩,?_⟩
 rintro x g ⟨k,us,rfl,hk,ae,zg,fg,hr,wg⟩
 have kg:Keep h.size h g:=⟨by omega,λj hj=>by rw[fg j (by omega)];exact kk.get j hj⟩
 have agg:=ag.keep kg
 refine⟨λhc=>?_,λhc=>?_⟩
 ·have O:k<v.keys.length:=by rw[lk]at hc;simp at hc;omega
  have af:k<v.items.length:=by omega
  refine zkr agg rk O rfl rfl ?_
  have bg:Blk g h.size (zd v.kind v.text sk si).toArray:=b3.keep (fg _ (by omega))
  obtain⟨a,ck,ci,ea,ah,r1,r2⟩:=zqm agg ri af
  refine⟨si,bg.cellAdd (by rfl),a,⟨ea,by omega,by omega⟩,v.items[k].kind,v.items[k].text,ck,ci,?_,?_⟩
  ·rw[Ad];exact ah
  refine z6x mapVal wg v.keys[k] _ λg' aa aj ai=>?_
  rw[y5 af (by omega)]
  refine⟨⟨k+1,us++[.agg #[.int .i64 v.items[k].kind,.string v.items[k].text,slV ck,slV ci]],rfl,by omega,by simp;omega,by omega,λj hj=>(ai j hj).trans (fg j hj),λi h1 h2=>?_,?_⟩,by simp only[Ad];omega⟩
  ·rw[List.getElem_append]
   split
   ·rename_i h3;exact hr i h1 h3
   ·rename_i h3
    have:i=k:=by simp at h2;omega
    subst this
    simp only[ae,Nat.sub_self,List.getElem_cons_zero]
    exact yn r1 r2
  ·rw[zo8 O ae]
   have Z:zdd ((v.keys.take k).zip us) v.keys[k]=none:=z2t λhm=>by
    rw[List.map_fst_zip (by simp;omega)]at hm
    have ac:=hn
    have e:v.keys=v.keys.take k++v.keys[k]::v.keys.drop (k+1):=by rw[<-AE O,Br]
    rw[e,A9]at ac
    exact ac.2.2 _ hm _ Ar rfl
   rw[zbr Z]at aa
   exact aa
 ·have O:k=v.keys.length:=by rw[lk]at hc;simp at hc;omega
  subst O
  rw[AD]at wg
  exact hK g h1.size us kg (by omega) (by omega) hr wg
theorem z2u(hF:qp Tp F=true){q:Tr->Tr->Bool}(hp:∀x∈xs,∀y∈ys,PC Tp gl F [Arg.mk .tree x,Arg.mk .tree y] [.bool] (λr=>r=q x y)){s1 s2:Sl}(hM:Fr.le gl M)(ag:AgM M h)
  (r1:Rd M (.row .tree) xs [slV s1]) (r2:Rd M (.row .tree) ys [slV s2]):
  PX Tp 165 #[slV s1,slV s2,.func (.func F) #[] #[]] h M [.bool] (λr=>r=(decide (xs.length=ys.length)&&(xs.zip ys).all λp=>q p.1 p.2)):=by
 obtain⟨l1,n1,_⟩:=rowLen r1
 obtain⟨l2,n2,_⟩:=rowLen r2
 apply PX.of
 apply yl s1 s2 F #[] #[]
 refine⟨λhx=>⟨M,_,Later.refl ag,zdx.2 (rdBool _),?_⟩,λhx=>?_⟩
 ·have:¬xs.length=ys.length:=by rw[l1,l2]at hx;simp at hx;omega
  simp[this]
 have aD:xs.length=ys.length:=by rw[l1,l2]at hx;simp at hx;omega
 refine⟨λi g=>∃(k:Nat) (M':Fr),i=(k:Int)/\k<=xs.length/\Later h M g M'/\((xs.zip ys).take k).all (λp=>q p.1 p.2)=true,λi _=>xs.length-i.toNat,⟨0,M,rfl,CY _,Later.refl ag,by simp⟩,?_⟩
 rintro i g ⟨k,M',rfl,hk,L,O⟩
 refine⟨λhc=>?_,λhc=>?_⟩
 ·have ah:k<xs.length:=by rw[l1]at hc;simp at hc;omega
  have ar:k<ys.length:=by omega
  obtain⟨a,ck,ci,ea,aA,t1,t2⟩:=zqm L.ag (r1.mono L.le) ah
  refine⟨a,⟨ea,by omega,by omega⟩,xs[k].kind,xs[k].text,ck,ci,by rw[Ad];exact aA,?_⟩
  intro aa
  have aN:Keep g.size g aa:=Keep.push _ _ (Ae _)
  have aC:Blk aa g.size (zd 0 ⟨#[]⟩ ⟨none,0,0⟩ ⟨none,0,0⟩).toArray:=Blk.new _ _ _
  have aQ:aa.size=g.size+1:=Ak _
  clear_value aa
  refine qa aC rfl _ _ _ _ λZ aF aT aG=>?_
  have aj:Keep g.size g Z:=⟨by omega,λj hj=>by rw[aG j (by omega)];exact aN.get j hj⟩
  have ap:=L.ag.keep aj
  obtain⟨a2,dk,di,aE,an,t3,t4⟩:=zqm ap (r2.mono L.le) ar
  refine⟨a2,⟨aE,by omega,by omega⟩,ys[k].kind,ys[k].text,dk,di,by rw[Ad];exact an,?_⟩
  intro ac
  have az:Keep Z.size Z ac:=Keep.push _ _ (Ae _)
  have aB:Blk ac Z.size (zd 0 ⟨#[]⟩ ⟨none,0,0⟩ ⟨none,0,0⟩).toArray:=Blk.new _ _ _
  have aS:ac.size=Z.size+1:=Ak _
  clear_value ac
  refine qa aB rfl _ _ _ _ λae aM aO am=>?_
  have au:Blk ae g.size (zd xs[k].kind xs[k].text ck ci).toArray:=(aF.ofKeep az).keep (am _ (by omega))
  have aL:Keep g.size g ae:=⟨by omega,λj hj=>by rw[am j (by omega),az.get j (by omega)];exact aj.get j hj⟩
  have af:Later h M ae M':=L.trans (Later.same L.ag aL)
  refine⟨xs[k].kind,xs[k].text,ck,ci,au.ld (cs:=zd xs[k].kind xs[k].text ck ci),ys[k].kind,ys[k].text,dk,di,aM.ld (cs:=zd ys[k].kind ys[k].text dk di),hF,?_⟩
  have ai:=(hp xs[k] (As ah) ys[k] (As ar)).px (h:=ae) (M:=M') (vs:=[.agg #[.int .i64 xs[k].kind,.string xs[k].text,slV ck,slV ci],.agg #[.int .i64 ys[k].kind,.string ys[k].text,slV dk,slV di]]) (hM.trans af.le) af.ag (qn (yn t1 t2) (qn (yn t3 t4) y0))
  refine ai.go λw aP ak r ax ay hr=>?_
  have hr:r=q xs[k] ys[k]:=hr
  subst hr
  have al:(xs.zip ys).take (k+1)=(xs.zip ys).take k++[(xs[k],ys[k])]:=by
   rw[Ag (by simp;omega)];simp
  refine⟨q xs[k] ys[k],zc2 ay,λhf=>⟨ak,_,af.trans ax,zdx.2 (rdBool _),?_⟩,λht=>?_⟩
  ·have aJ:q xs[k] ys[k]=false:=by simpa using hf
   have:(xs.zip ys).all (λp=>q p.1 p.2)=false:=by
    rw[List.all_eq_false]
    exact⟨(xs[k],ys[k]),List.mem_iff_getElem.2 ⟨k,by simp;omega,by simp⟩,by simp[aJ]⟩
   rw[this,EI]
  ·have aI:q xs[k] ys[k]=true:=by simpa using ht
   rw[y5 ah (by omega)]
   refine⟨⟨k+1,ak,rfl,ah,af.trans ax,?_⟩,by simp only[Ad];omega⟩
   rw[al,CR,O];simp[aI]
 ·have aH:k=xs.length:=by rw[l1]at hc;simp at hc;omega
  subst aH
  refine⟨M',_,L,zdx.2 (rdBool _),?_⟩
  rw[AX (by simp;omega)]at O
  rw[O];simp[aD]
theorem z2v{l:List Bt}(h:l.Nodup){i j:Nat}(hi:i<l.length)(hj:j<l.length)(e:l[i]=l[j]):i=j:=by
 unfold List.Nodup at h
 rw[List.pairwise_iff_getElem]at h
 rcases Nat.lt_trichotomy i j with h1|h1|h1
 ·exact absurd e (h i j hi hj h1)
 ·exact h1
 ·exact absurd e.symm (h j i hj hi h1)
theorem z2w{a b:Bt}(h:AU a=AU b):a=b:=by injection h
theorem z7c(ks:List Bt)(us:List Value)(h:ks.length=us.length):(zkk (ks.zip us)).map (·.1)=ks.map AU:=by
 unfold zkk
 rw[EJ]
 have:(ks.zip us).map (λp=>AU p.1)=(ks.zip us).unzip.1.map AU:=by simp
 show(ks.zip us).map (λp=>AU p.1)=_
 rw[this,List.unzip_zip h]
theorem z2x{ks:List Bt}(h:ks.Nodup):(ks.map AU).Nodup:=by
 induction ks with
 |nil=>simp
 |cons k ks ih=>
  rw[CQ]at h
  rw[Dq,CQ]
  refine⟨λhm=>?_,ih h.2⟩
  obtain⟨x,hx,e⟩:=BN.1 hm
  exact h.1 (z2w e ▸ hx)
set_option maxHeartbeats 2000000 in
theorem z2y(hF:qp Tp F=true){q:Tr->Tr->Bool}{ka kb:List Bt}{ua ub:List Value}(ax:ka.Nodup)(la:ka.length=xs.length)(bm:kb.length=ys.length)(bo:ua.length=xs.length)(bn:ub.length=ys.length)(be:xs.length<=1000000000000/\ys.length<=1000000000000)
  (hp:∀x∈xs,∀y∈ys,PC Tp gl F [Arg.mk .tree x,Arg.mk .tree y] [.bool] (λr=>r=q x y)) {m1 m2:Nat} (hM:Fr.le gl M) (ag:AgM M h) (w1:MapW h m1 (zkk (ka.zip ua))) (w2:MapW h m2 (zkk (kb.zip ub)))
  (ra:∀i (h1:i<xs.length) (h2:i<ua.length),RdV M .tree xs[i] ua[i]) (rb:∀i (h1:i<ys.length) (h2:i<ub.length),RdV M .tree ys[i] ub[i]):
  PX Tp 166 #[.map (some m1),.map (some m2),.func (.func F) #[] #[]] h M [.bool] (λr=>r=(decide (xs.length=ys.length)&&(ka.zip xs).all λp=>z3w kb ys q p.1 p.2)):=by
 apply PX.of
 apply qb (some m1) (some m2) F #[] #[]
 have L1:(zkk (ka.zip ua)).length=xs.length:=by unfold zkk;simp;omega
 have L2:(zkk (kb.zip ub)).length=ys.length:=by unfold zkk;simp;omega
 have ai:=z2s (P:=Tp) (ty:=3) mapVal.map w1
 have aj:=z2s (P:=Tp) (ty:=3) mapVal.map w2
 rw[L1]at ai
 rw[L2]at aj
 refine⟨xs.length,ai,ys.length,aj,λhx=>⟨M,_,Later.refl ag,zdx.2 (rdBool _),?_⟩,λhx=>?_⟩
 ·have:¬xs.length=ys.length:=by simp at hx;omega
  simp[this]
 have aP:xs.length=ys.length:=by simp at hx;omega
 have bc:=w1.lt
 have aA:=w2.lt
 have aO:((zkk (ka.zip ua)).map (·.1)).Nodup:=by rw[z7c _ _ (by omega)];exact z2x ax
 refine z6y mapVal.map w1 λh4 z4 k4 a8=>⟨some ⟨h.size,0,none⟩,rfl,?_⟩
 refine⟨λg=>∃dn M',MapIt g h.size m1 (zkk (ka.zip ua)) dn/\Later h M g M'/\h.size<g.size/\∀i (h1:i<ka.length) (h2:i<xs.length),AU ka[i]∈dn->z3w kb ys q ka[i] xs[i]=true,λg=>leftN g h.size m1,
  ⟨[],M,a8,Later.same ag k4,by omega,λi _ _ hm=>by cases hm⟩,?_⟩
 rintro g ⟨dn,M',it,L,zg,aL⟩
 have kg:=L.keep
 refine qbq it aO (by omega) (λaF=>.inl ⟨rfl,(λhc=>by cases hc),λ_=>⟨M',_,L,zdx.2 (rdBool _),?_⟩⟩) λk u aI hk g1 aS aB z1 f1 qfj=>.inr ⟨k,u,rfl,λ_=>?_,λhc=>by cases hc⟩
 ·have aJ:((ka.zip xs).all λp=>z3w kb ys q p.1 p.2)=true:=by
   rw[AQ]
   intro p am
   obtain⟨i,hi,e⟩:=Bc am
   rw[List.length_zip,Nat.lt_min]at hi
   have:=aL i hi.1 hi.2 (aF (.string ka[i],ua[i]) (by
    unfold zkk
    refine BN.2 ⟨(ka[i],ua[i]),List.mem_iff_getElem.2 ⟨i,by simp;omega,by simp⟩,rfl⟩))
   rw[<-e];simpa using this
  rw[aJ];simp[aP]
 ·obtain⟨i,aY,aT,ek,eu⟩:∃i,∃(h1:i<ka.length) (h2:i<ua.length),k=.string ka[i]/\u=ua[i]:=by
   unfold zkk at aI
   obtain⟨p,am,e⟩:=BN.1 aI
   obtain⟨i,hi,e2⟩:=Bc am
   rw[List.length_zip,Nat.lt_min]at hi
   simp at e2
   injection e with e3 e4
   exact⟨i,hi.1,hi.2,by rw[<-e3,<-e2],by rw[<-e4,<-e2]⟩
  subst ek
  subst eu
  have az:i<xs.length:=by omega
  have aG:Keep h.size h g1:=⟨by omega,λj hj=>by rw[f1 j (by omega)];exact kg.get j hj⟩
  have aM:AgM M' g1:=λb c e=>by
   obtain⟨T,mm,e2⟩:=L.ag b c e
   by_cases hb:b=h.size
   ·subst hb
    obtain⟨_,_,_,_,_,e3,_⟩:=it
    rw[e3]at e2;cases e2
   ·exact⟨T,mm,by rw[f1 b hb];exact e2⟩
  refine z6z aB ⟨_,_,rfl,?_⟩
  intro ah
  have a1:Keep g1.size g1 ah:=Keep.push _ _ (Ae _)
  have aU:Blk ah g1.size (zd 0 ⟨#[]⟩ ⟨none,0,0⟩ ⟨none,0,0⟩).toArray:=Blk.new _ _ _
  have bj:ah.size=g1.size+1:=Ak _
  clear_value ah
  obtain⟨ck,ci,eu,t1,t2⟩:=w9 (ra i az aT)
  rw[eu]
  refine qa aU rfl _ _ _ _ λac aQ bh aV=>?_
  have an:Keep g1.size g1 ac:=⟨by omega,λj hj=>by rw[aV j (by omega)];exact a1.get j hj⟩
  have ba:=aM.keep an
  have a6:MapW ac m2 (zkk (kb.zip ub)):=w2.keep ((an.get _ (by omega)).trans (aG.get _ aA))
  have Z:=zbq mapVal a6.at ka[i] true
  simp only[if_true]at Z
  obtain⟨y,dk,di,hget,t3,t4,hm1⟩:∃(y:Tr) (dk di:Sl),zwp (kb.zip ub) ka[i] (.agg #[.int .i64 0,.string ⟨#[]⟩,.slice none 0 0,.slice none 0 0])=.agg #[.int .i64 y.kind,.string y.text,slV dk,slV di]/\RdV M .tree y (.agg #[.int .i64 y.kind,.string y.text,slV dk,slV di]) /\
    ((zdd (kb.zip ub) ka[i]).isSome=true->y∈ys)/\z3w kb ys q ka[i] xs[i]=((zdd (kb.zip ub) ka[i]).isSome&&q xs[i] y):=by
   rcases zo7 ka[i] kb ub 0 (by omega)with⟨g1,g2⟩|⟨j,w,g1,g2,g3⟩
   ·refine⟨zT,⟨none,0,0⟩,⟨none,0,0⟩,by unfold zwp;rw[g2];rfl,?_,?_,?_⟩
    ·refine yn (v:=zT) ?_ ?_
     ·exact⟨_,rfl,none,0,rfl,⟨by simp[zT],by simp[zT]⟩,.inl rfl⟩
     ·exact⟨_,rfl,none,0,rfl,⟨by simp[zT],by simp[zT]⟩,.inl rfl⟩
    ·rw[g2];intro hc;cases hc
    ·rw[g2]
     unfold z3w idxOfS
     rw[g1]
     simp
     split
     ·rfl
     ·rfl
   ·obtain⟨hj,ej⟩:=Az.1 g2
    have ap:j<ys.length:=by omega
    have hr:=rb j ap hj
    rw[ej]at hr
    obtain⟨dk,di,ew,t3,t4⟩:=w9 hr
    refine⟨ys[j],dk,di,by unfold zwp;rw[g3];exact ew,by rw[<-ew];exact hr,λ_=>As ap,?_⟩
    rw[g3]
    unfold z3w idxOfS
    rw[g1]
    simp[Am ap]
  rw[hget]at Z
  refine⟨y.kind,y.text,dk,di,(zdd (kb.zip ub) ka[i]).isSome,Z,?_⟩
  intro af
  have aE:Keep ac.size ac af:=Keep.push _ _ (Ae _)
  have aN:Blk af ac.size (zd 0 ⟨#[]⟩ ⟨none,0,0⟩ ⟨none,0,0⟩).toArray:=Blk.new _ _ _
  have bp:af.size=ac.size+1:=Ak _
  clear_value af
  refine qa aN rfl _ _ _ _ λO a7 bq aD=>?_
  have au:Blk O g1.size (zd xs[i].kind xs[i].text ck ci).toArray:=(aQ.ofKeep aE).keep (aD _ (by omega))
  have aa:Keep g1.size g1 O:=⟨by omega,λj hj=>by rw[aD j (by omega),aE.get j (by omega)];exact an.get j hj⟩
  have ay:Keep h.size h O:=aG.trans aa (by omega)
  have ae:Later h M O M':=⟨ay,L.le,L.old,aM.keep aa⟩
  have aC:MapIt O h.size m1 (zkk (ka.zip ua)) (.string ka[i]::dn):=aS.keep (aa.get _ (by omega)) (aa.get _ (by omega))
  have ar:leftN O h.size m1<leftN g h.size m1:=by rw[leftN.keep (aa.get h.size (by omega)) (aa.get m1 (by omega))];exact qfj
  refine⟨xs[i].kind,xs[i].text,ck,ci,λ_=>au.ld (cs:=zd xs[i].kind xs[i].text ck ci),y.kind,y.text,dk,di,λ_=>a7.ld (cs:=zd y.kind y.text dk di),?_⟩
  have ak:z3w kb ys q ka[i] xs[i]=false->((ka.zip xs).all λp=>z3w kb ys q p.1 p.2)=false:=λhf=>by
   rw[List.all_eq_false]
   exact⟨(ka[i],xs[i]),List.mem_iff_getElem.2 ⟨i,by simp;omega,by simp⟩,by simp[hf]⟩
  refine⟨λw g2=>∃b M2,w=.bool b/\Later O M' g2 M2/\((zdd (kb.zip ub) ka[i]).isSome=true->b=q xs[i] y),λhs=>⟨hF,?_⟩,λhs=>⟨true,true,M',rfl,Later.refl ae.ag,λhc=>by rw[hc]at hs;cases hs⟩,λ_ w g2 ⟨b,_,e,_⟩=>⟨b,e⟩,?_⟩
  ·have aZ:(zdd (kb.zip ub) ka[i]).isSome=true:=by simpa using hs
   have al:=(hp xs[i] (As az) y (t4 aZ)).px (h:=O) (M:=M') (vs:=[.agg #[.int .i64 xs[i].kind,.string xs[i].text,slV ck,slV ci],.agg #[.int .i64 y.kind,.string y.text,slV dk,slV di]]) (hM.trans ae.le) ae.ag (qn (RdV.mono L.le (yn t1 t2)) (qn (RdV.mono L.le t3) y0))
   exact al.go λw g2 M2 r L2 aH hr=>⟨r,zc2 aH,r,M2,rfl,L2,λ_=>hr⟩
  ·rintro b g2 ⟨b',M2,e,L2,hb⟩
   cases e
   refine⟨λhf=>⟨M2,_,ae.trans L2,zdx.2 (rdBool _),?_⟩,λht=>⟨⟨_,M2,aC.keep (L2.keep.get _ (by omega)) (L2.keep.get _ (by omega)),ae.trans L2,by have:=L2.keep.size;omega,λi2 h1 h2 hm=>?_⟩,?_⟩⟩
   ·have:z3w kb ys q ka[i] xs[i]=false:=by
     rw[hm1]
     cases hs:(zdd (kb.zip ub) ka[i]).isSome with
     |false=>rfl
     |true=>
      rw[hs]at hf
      rw[<-hb hs]
      simpa using hf
    rw[ak this,EI]
   ·rcases Af.1 hm with e|hm
    ·have e2:=z2w e
     have:i2=i:=z2v ax h1 aY e2
     subst this
     rw[hm1]
     cases hs:(zdd (kb.zip ub) ka[i2]).isSome with
     |false=>rw[hs]at ht;simp at ht
     |true=>
      rw[hs]at ht
      rw[<-hb hs]
      simpa using ht
    ·exact aL i2 h1 h2 hm
   ·show leftN g2 h.size m1<leftN g h.size m1
    rw[leftN.keep (L2.keep.get h.size (by omega)) (L2.keep.get m1 (by omega))];exact ar
end
section
variable {v:Tr} {gl:Fr}
theorem zgl:qp Tp 137=true:=by kernel_rfl
theorem zmv(a b:Bt):(a.toList==b.toList)=decide (a=b):=by
 rw[AB]
 simp only[ByteArray.toList_eq,beq_iff_eq,decide_eq_true_eq]
 constructor
 ·intro h
  cases a;cases b
  simpa using h
 ·intro h;rw[h]
theorem zj9(h:zv v=true)(h6:v.kind=6):v.keys.Nodup/\v.keys.length=v.items.length:=by
 refine⟨?_,W9 h h6⟩
 unfold zv at h
 simp[h6]at h
 have:=h.1.1
 unfold jy at this
 rw[AI]at this
 simpa using this.2
set_option maxHeartbeats 1000000 in
theorem qbr:∀(n:Nat) (a b:Tr),tsz a<=n->Sm a->Sm b->Yf zv a=true->Yf zv b=true->∀{R:Bool->Prop},R (W8 a b)->PC Tp gl 137 [Arg.mk .tree a,Arg.mk .tree b] [.bool] R:=by
 intro n
 induction n with
 |zero=>intro a _ h;have:=zn9 a;omega
 |succ n ih=>
  intro a b hn ha hb oa ob R hR h M vs hM ag ak
  match vs,ak with
  |[u1,u2],⟨aj,ah,_⟩=>
  have aj:RdV M .tree a u1:=aj
  have ah:RdV M .tree b u2:=ah
  obtain⟨sk,si,rfl,rk,ri⟩:=w9 aj
  obtain⟨tk,ti,rfl,aD,ai⟩:=w9 ah
  obtain⟨li,_,_⟩:=rowLen ri
  obtain⟨al,_,_⟩:=rowLen ai
  apply PX.of
  apply zoz a.kind a.text sk si b.kind b.text tk ti
  intro h1 h2
  have k1:Keep h.size h h1:=Keep.push _ _ (Ae _)
  have k2:Keep h1.size h1 h2:=Keep.push _ _ (Ae _)
  have b1:Blk h1 h.size (zd a.kind a.text sk si).toArray:=Blk.new _ _ _
  have b2:Blk h2 h1.size (zd b.kind b.text tk ti).toArray:=Blk.new _ _ _
  have z1:h1.size=h.size+1:=Ak _
  have z2:h2.size=h1.size+1:=Ak _
  clear_value h1 h2
  have Z:=b1.ofKeep k2
  have kk:Keep h.size h h2:=k1.trans k2 (by omega)
  have L2:Later h M h2 M:=Later.same ag kk
  intro K5 ay
  have ac:∀x:Bool,(x=true->W8 a b=false)->(x=false->a.kind=b.kind/\a.text=b.text/\a.items.length=b.items.length)->K5 x h2:=by
   intro x ax aC
   refine ay x h2 ⟨λhx=>⟨M,_,L2,zdx.2 (rdBool _),?_⟩,λhx=>?_⟩
   ·rw[ax hx]at hR;exact hR
   obtain⟨e1,e2,e3⟩:=aC hx
   have au:W8 a b=(if a.kind=6 then zto a.keys a.items b else ztn a.items b.items):=by rw[zhr];simp[e1,e2,e3]
   rw[au]at hR
   refine⟨a.kind,Z.cellAdd (by rfl),λh6=>?_,λh6=>?_⟩
   ·have O:¬a.kind=6:=by simpa using h6
    rw[if_neg O,zrv _ _ e3]at hR
    refine⟨si,Z.cellAdd (by rfl),ti,b2.cellAdd (by rfl),?_⟩
    refine(z2u (gl:=gl) zgl (q:=W8) (xs:=a.items) (ys:=b.items) (λx hx y hy=>ih x y (by have:=jj hx;omega) (ha.item hx) (hb.item hy) (jk oa hx) (jk ob hy) rfl) hM L2.ag ri ai).go λw aF aE r L aa hr=>?_
    have hr:r=_:=hr
    subst hr
    refine⟨_,zc2 aa,aE,_,L2.trans L,zdx.2 (rdBool _),?_⟩
    rw[e3];simpa using hR
   ·have O:a.kind=6:=by simpa using h6
    rw[if_pos O,zru _ _ _ (W9 (jl oa) O)]at hR
    obtain⟨na,la⟩:=zj9 (jl oa) O
    obtain⟨nb,lb⟩:=zj9 (jl ob) (by rw[<-e1];exact O)
    refine⟨a.kind,a.text,sk,si,Z.ld (cs:=zd a.kind a.text sk si),b.kind,b.text,tk,ti,b2.ld (cs:=zd b.kind b.text tk ti),?_⟩
    refine zf5 na la ha.items L2.ag (yn rk ri) λaI m1 ua af aJ az ra w1=>⟨some m1,rfl,af,?_⟩
    have ae:=L2.ag.keep af
    refine zf5 nb lb hb.items ae (yn aD ai) λaA m2 ub an aG aB rb w2=>⟨some m2,rfl,?_⟩
    have am:Later h M aA M:=(L2.trans (Later.same L2.ag af)).trans (Later.same ae an)
    refine(z2y (gl:=gl) zgl (q:=W8) na la lb az aB ⟨ha.items,hb.items⟩ (λx hx y hy=>ih x y (by have:=jj hx;omega) (ha.item hx) (hb.item hy) (jk oa hx) (jk ob hy) rfl) hM am.ag (w1.keep (an.get _ w1.lt)) w2 ra rb).go λw aH ar r L aa hr=>?_
    have hr:r=_:=hr
    subst hr
    refine⟨_,zc2 aa,ar,_,am.trans L,zdx.2 (rdBool _),?_⟩
    rw[e3];simpa using hR
  refine⟨a.kind,Z.cellAdd (by rfl),b.kind,b2.cellAdd (by rfl),λhk=>ac _ (λ_=>?_) (λhc=>?_),λhk=>?_⟩
  ·rw[zhr]
   have:¬a.kind=b.kind:=by simpa using hk
   simp[this]
  ·rw[hk]at hc;cases hc
  have ap:a.kind=b.kind:=by simpa using hk
  refine⟨a.text,Z.cellAdd (by rfl),b.text,b2.cellAdd (by rfl),λht=>ac _ (λ_=>?_) (λhc=>?_),λht=>⟨si,Z.cellAdd (by rfl),ti,b2.cellAdd (by rfl),ac _ (λhc=>?_) (λhc=>?_)⟩⟩
  ·rw[zhr]
   have:¬a.text=b.text:=by rw[zmv]at ht;simpa using ht
   simp[this]
  ·rw[ht]at hc;cases hc
  ·rw[zhr]
   have:¬a.items.length=b.items.length:=by rw[li,al]at hc;simp at hc;omega
   simp[this]
  ·have:a.text=b.text:=by rw[zmv]at ht;simpa using ht
   exact⟨ap,this,by rw[li,al]at hc;simp at hc;omega⟩
theorem qbs(hg:GL gl){a b:Tr}(ha:Sm a)(hb:Sm b){R:Bool->Prop}(h:R (yg a&&(yg b&&W8 a b))):PC Tp gl 105 [Arg.mk .tree a,Arg.mk .tree b] [.bool] R:=by
 apply zoy
 simp only[qo]
 refine zfv hg ha ⟨λr=>r=yg b,λ_=>zfv hg hb rfl,λr hr=>⟨λx=>x=W8 a b,λhc=>?_,λx hx=>?_⟩⟩
 ·cases h1:yg a with
  |false=>rw[h1]at hc;cases hc
  |true=>
   rw[h1,cond_true]at hc
   have h2:=hr h1
   rw[hc]at h2
   exact qbr _ a b (Ae _) ha hb (zah h1) (zah h2.symm) rfl
 ·cases h1:yg a with
  |false=>rw[h1]at h;exact h
  |true=>
   rw[h1]at h hx
   have h2:=hr h1
   subst h2
   simp only[cond_true,Bi]at h hx ⊢
   cases h3:yg b with
   |false=>rw[h3]at h;exact h
   |true=>rw[h3]at h hx;rw[cond_true,hx rfl];exact h
theorem zgm{keys:List Bt}{x:Bt}{k:Nat}(hk:k<keys.length):idxFromS (keys.drop k) x k=if keys[k]=x then(k:Int)else idxFromS (keys.drop (k+1)) x (k+1):=by
 rw[AE hk,idxFromS]
theorem qd4{key:Bt}(hn:v.keys.length<=1000000000){R:Int->Prop}(h:R (idxOfS v.keys key)):PC Tp gl 126 [Arg.mk .tree v,Arg.mk .str key] [.int .i64] R:=by
 apply zg7
 refine⟨λi=>∃k:Nat,i=k/\k<=v.keys.length/\idxOfS v.keys key=idxFromS (v.keys.drop k) key k,λi=>v.keys.length-i.toNat,⟨0,rfl,CY _,by rw[A2];rfl⟩,?_⟩
 rintro i ⟨k,rfl,hk,e⟩
 refine⟨λhc=>?_,λhc=>?_⟩
 ·have O:k<v.keys.length:=by simp at hc;omega
  refine⟨v.keys[k],⟨by omega,by rw[Ad,Am O]⟩,λhe=>?_,λhe=>?_⟩
  ·rw[zmv]at he
   rw[e,zgm O,if_pos (by simpa using he)]at h;exact h
  ·rw[zmv]at he
   rw[zgm O,if_neg (by simpa using he)]at e
   rw[y5 O (by omega)]
   exact⟨⟨k+1,rfl,O,e⟩,by simp only[Ad];omega⟩
 ·have O:k=v.keys.length:=by simp at hc;omega
  subst O
  rw[Cw,idxFromS]at e
  rw[e]at h;exact h
end
section
variable {h:zb} {M gl:Fr} {v:Tr} {rb:Nat} {D:List Nat} {o:OpT} {u:Value} {K:Value -> zb -> Prop}
theorem qbt{xs ys:List Bt}{s1 s2:Sl}(ag:AgM M h)(r1:Rd M (.row .str) xs [slV s1])(r2:Rd M (.row .str) ys [slV s2]):XC Tp 104 #[slV s1,slV s2] h λv h'=>v=.bool (decide (xs=ys))/\h'=h:=by
 obtain⟨l1,n1,_⟩:=rowLen r1
 obtain⟨l2,n2,_⟩:=rowLen r2
 apply Q0 s1 s2
 refine⟨λhc=>⟨?_,rfl⟩,λhc=>?_⟩
 ·have:¬xs=ys:=λe=>by rw[l1,l2,e]at hc;simp at hc
  simp[this]
 have aa:xs.length=ys.length:=by rw[l1,l2]at hc;simp at hc;omega
 refine⟨λi g=>∃k:Nat,i=k/\k<=xs.length/\g=h/\xs.take k=ys.take k,λi _=>xs.length-i.toNat,⟨0,rfl,CY _,rfl,by simp⟩,?_⟩
 rintro i g ⟨k,rfl,hk,rfl,he⟩
 refine⟨λhc=>?_,λhc=>?_⟩
 ·have h1:k<xs.length:=by rw[l1]at hc;simp at hc;omega
  have h2:k<ys.length:=by omega
  refine zkr ag r1 h1 rfl rfl (zkr ag r2 h2 rfl rfl ⟨λhf=>⟨?_,rfl⟩,λht=>?_⟩)
  ·rw[zmv]at hf
   have:¬xs=ys:=λe=>by subst e;simp at hf
   simp[this]
  ·rw[zmv]at ht
   have O:xs[k]=ys[k]:=by simpa using ht
   rw[y5 h1 (by omega)]
   exact⟨⟨k+1,rfl,h1,rfl,by rw[Ag h1,Ag h2,he,O]⟩,by simp only[Ad];omega⟩
 ·have Z:k=xs.length:=by rw[l1]at hc;simp at hc;omega
  subst Z
  refine⟨?_,rfl⟩
  rw[AD,AX (by omega)]at he
  simp[he]
set_option maxHeartbeats 2000000 in
theorem z2z(hg:GL gl)(A:At gl v h M rb D)(hp:SL o.2.1)(hw:Sm o.2.2.2)(ho:yg o.2.2.2=true)(hv:yg v=true)(hu:RdV M Z1 o u)
  (hK:Res h rb D (match yj v o.2.1 with
   |none=>(zT,8)
   |some x=>if W8 x o.2.2.2 then(v,0)else(zT,9)) K):
  XC Tp 64 #[.pointer (some ⟨rb,0,none⟩),u] h K:=by
 obtain⟨sp,sf,sk,si,rfl,r1,r2,r3⟩:=z3v hu
 apply zc0 (some ⟨rb,0,none⟩) o.1 sp sf o.2.2.2.kind o.2.2.2.text sk si
 intro h1
 have k1:Keep h.size h h1:=Keep.push _ _ (Ae _)
 have b1:Blk h1 h.size (zr o.1 sp sf o.2.2.2 sk si).toArray:=Blk.new _ _ _
 have z1:h1.size=h.size+1:=Ak _
 clear_value h1
 have A1:=A.keep k1
 refine⟨sp,b1.cellAdd (by rfl),?_⟩
 refine A1.at hg hp r1 (λhn h4 k4=>⟨none,rfl,(λ_=>?_),λhc=>by cases hc⟩) λx hx h4 pa k4 plc=>⟨some pa,rfl,(λhc=>by cases hc),λ_=>?_⟩
 ·rw[hn]at hK
  exact zbl hK (by simp) (k1.trans k4 (by omega))
 rw[hx]at hK
 simp only at hK
 have A4:=A1.keep k4
 have z4:=k4.size
 have am:Keep h.size h h4:=k1.trans k4 (by omega)
 obtain⟨xk,xi,bx,ah,ot,ap,_⟩:=Plc.ld plc
 have an:=ot.lt
 refine⟨pa,rfl,x.kind,x.text,xk,xi,ah,o.2.2.2.kind,o.2.2.2.text,sk,si,?_,W8 x o.2.2.2,λai af=>?_,λaa al=>?_⟩
 ·rw[zm];exact zol (b1.ofKeep k4) (vs:=zh o.2.2.2 sk si) (o:=0+3) (i:=0) rfl
 ·have Z:=A4.ag.keep af
  have ac:OT ai x bx (zh x xk xi):=ot.frame λc hc=>af.get c (an c hc)
  have hs:PC Tp gl 105 [Arg.mk .tree x,Arg.mk .tree o.2.2.2] [.bool] (λr=>r=W8 x o.2.2.2):=qbs hg (A4.find_sm hx) hw (by rw[zf3 hv hx,ho];rfl)
  refine(hs.go (vs:=[.agg #[.int .i64 x.kind,.string x.text,slV xk,slV xi],.agg #[.int .i64 o.2.2.2.kind,.string o.2.2.2.text,slV sk,slV si]]) (A4.le.trans (zag Z bx)) (MxL.ag Z bx) (qn ac.rdv (qn (RdV.mono (zag Z bx) r3) y0)) λw h' M' r L ae hr=>?_)
  have hr:r=_:=hr
  subst hr
  exact⟨zc2 ae,L.keep⟩
 ·have O:Keep h.size h aa:=am.trans al (by omega)
  refine⟨λhf=>?_,λht=>?_⟩
  ·have ak:W8 x o.2.2.2=false:=by simpa using hf
   rw[ak]at hK
   exact zbl hK (by simp) O
  ·have aj:W8 x o.2.2.2=true:=by simpa using ht
   rw[aj]at hK
   refine hK aa D (λ_=>A.doc.keep λc hc=>O.get c (A.doc.lt c hc)) ⟨O.size,λc q1 _ _=>O.get c q1,λc hc=>.inl hc⟩
theorem z3a{p f:List Bt}:(f=p.take f.length/\f.length<=p.length)↔(f.length<=p.length/\p.take f.length=f):=⟨λh=>⟨h.2,h.1.symm⟩,λh=>⟨h.2.symm,h.1⟩⟩
set_option maxHeartbeats 4000000 in
theorem z3b(hg:GL gl)(A:At gl v h M rb D)(aT:∀b cs,M b=some cs->b≠rb/\b∉D)(hp:SL o.2.1)(hf:SL o.2.2.1)(hv:yg v=true)(hu:RdV M Z1 o u)
  (hK:Res h rb D (match yj v o.2.2.1 with
   |none=>(zT,8)
   |some y=>if o.2.2.1=o.2.1.take o.2.2.1.length/\o.2.2.1.length<=o.2.1.length then(if o.2.2.1.length<o.2.1.length then(zT,1)else(v,0))else zle (zpk (zr1 v o.2.2.1) o.2.1 y)) K):
  XC Tp 62 #[.pointer (some ⟨rb,0,none⟩),u] h K:=by
 obtain⟨sp,sf,sk,si,rfl,r1,r2,r3⟩:=z3v hu
 have rp:Rd M (.row .str) o.2.1 [slV sp]:=by rw[zhf rfl]at r1;exact r1
 have rf:Rd M (.row .str) o.2.2.1 [slV sf]:=by rw[zhf rfl]at r2;exact r2
 obtain⟨lp,np,cp⟩:=rowLen rp
 obtain⟨lf,nf,cf⟩:=rowLen rf
 apply zcy (some ⟨rb,0,none⟩) o.1 sp sf o.2.2.2.kind o.2.2.2.text sk si
 intro h1
 have k1:Keep h.size h h1:=Keep.push _ _ (Ae _)
 have b1:Blk h1 h.size (zr o.1 sp sf o.2.2.2 sk si).toArray:=Blk.new _ _ _
 have z1:h1.size=h.size+1:=Ak _
 clear_value h1
 have A1:=A.keep k1
 refine⟨sf,b1.cellAdd (by rfl),?_⟩
 refine A1.at hg hf r2 (λhn h4 k4=>⟨none,rfl,sf,(b1.ofKeep k4).cellAdd (by rfl),(λ_=>?_),λhc=>by cases hc⟩) λy hy h4 pa k4 plc=>⟨some pa,rfl,sf,(b1.ofKeep k4).cellAdd (by rfl),(λhc=>by cases hc),λ_=>?_⟩
 ·rw[hn]at hK
  exact zbl hK (by simp) (k1.trans k4 (by omega))
 rw[hy]at hK
 simp only at hK
 have A4:=A1.keep k4
 have z4:=k4.size
 have an:Keep h.size h h4:=k1.trans k4 (by omega)
 have b4:=b1.ofKeep k4
 have a8:=A.doc.lt rb (.inl rfl)
 obtain⟨yk,yi,bx,aO,ot,a6,_⟩:=Plc.ld plc
 refine⟨sp,b4.cellAdd (by rfl),sp,(λ_=>b4.cellAdd (by rfl)),.inr ⟨_,rfl⟩,(λhc=>⟨by omega,by omega,?_,by omega⟩),sf,(λ_=>b4.cellAdd (by rfl)),decide (o.2.1.take o.2.2.1.length=o.2.2.1),(λhc=>?_),?_⟩
 ·simp at hc;omega
 ·have af:o.2.2.1.length<=o.2.1.length:=by simp at hc;omega
  have au:=ztq rp af
  rw[zhf rfl]at au
  have ay:(o.2.1.take o.2.2.1.length).length=o.2.2.1.length:=by rw[AR];omega
  rw[<-lf]at au ay
  have hq:=qbt (h:=h4) (s1:=⟨sp.a,sf.len,sp.cap⟩) (A4.ag) au rf
  rw[lf]at hq
  simp only[Ad,C3,Ca,Yk]
  rw[<-lf]at hq
  rw[<-lf]
  exact hq
 have aJ:(bif (decide (((sp.len:Nat):Int)>=((sf.len:Nat):Int)))then decide (o.2.1.take o.2.2.1.length=o.2.2.1)else false)=decide (o.2.2.1=o.2.1.take o.2.2.1.length/\o.2.2.1.length<=o.2.1.length):=by
  rw[AB]
  simp only[Bg,AI,decide_eq_true_eq]
  rw[z3a]
  exact⟨λh=>⟨by omega,h.2⟩,λh=>⟨by omega,h.2⟩⟩
 rw[aJ]
 refine⟨λhc=>?_,λhc=>?_⟩
 ·have af:=of_decide_eq_true hc
  rw[if_pos af]at hK
  refine⟨sp,b4.cellAdd (by rfl),λhl=>?_,λhl=>?_⟩
  ·rw[if_pos (by rw[lp,lf]at hl;simp at hl;omega)]at hK
   exact zbl hK (by simp) an
  ·rw[if_neg (by rw[lp,lf]at hl;simp at hl;omega)]at hK
   exact hK h4 D (λ_=>A4.doc) ⟨an.size,λc q1 _ _=>an.get c q1,λc hc=>.inl hc⟩
 ·have af:=of_decide_eq_false hc
  rw[if_neg af]at hK
  have al:o.2.2.1≠[]:=λe=>af (by rw[e];simp)
  refine⟨pa,rfl,y.kind,y.text,yk,yi,aO,?_⟩
  have aF:=A4.find_sm hy
  refine zju hg aF (zf3 hv hy) (A4.le.trans (zag A4.ag bx)) (MxL.ag A4.ag bx) ot.rdv λaa bs ck ci aD ap aB=>⟨y.kind,y.text,ck,ci,rfl,?_⟩
  have a7:=aD.size
  intro am
  have aP:Keep aa.size aa am:=Keep.push _ _ (Ae _)
  have aS:Blk am aa.size (zd 0 ⟨#[]⟩ ⟨none,0,0⟩ ⟨none,0,0⟩).toArray:=Blk.new _ _ _
  have a1:am.size=aa.size+1:=Ak _
  clear_value am
  refine qa aS rfl _ _ _ _ λah aQ aY aV=>?_
  have aN:Keep aa.size aa ah:=⟨by omega,λj hj=>by rw[aV j (by omega)];exact aP.get j hj⟩
  have ae:Keep h4.size h4 ah:=aD.trans aN (by omega)
  have ar:Keep h.size h ah:=an.trans ae (by omega)
  have Z:=A4.keep ae
  have ak:OT ah y bs (zh y ck ci):=ap.frame λc hc=>aN.get c (ap.lt c hc)
  have ac:=A4.out aB
  refine⟨sf,(b4.ofKeep ae).cellAdd (by rfl),?_⟩
  refine zro hg Z.sm Z.ok hf Z.le Z.ag Z.doc r2 (λal hl=>?_) (λy hy=>zhq Z.sz hy) (λh0=>absurd h0 al) λz j hl hz hj aZ aj D' az tn=>⟨0,rfl,(λhx=>by simp at hx),λ_=>?_⟩
  ·obtain⟨z,q1,k,q2,q3⟩:=zf2 al hy
   exact⟨z,q1,by rw[zj1 hl,q2];omega⟩
  have aC:zr1 v o.2.2.1=zae v (o.2.2.1.take (o.2.2.1.length-1)) (zpj z j):=by
   unfold zr1 zms
   rw[hz]
   simp only
   rw[<-zj1 hl,hj];rfl
  rw[<-aC]at az
  have zt:=tn.size
  have O:∀c,c<ah.size->c≠rb->c∉D->aj[c]?=ah[c]?:=tn.old
  have aL:∀c∈D,c<h.size:=λc hc=>A.doc.lt c (.inr hc)
  have ai:At gl (zr1 v o.2.2.1) aj M rb D':=by
   refine⟨A.le,λb c e=>?_,az,?_,zv6 A.ok al hy,by have:=zj6 v o.2.2.1;have:=A.sz;omega⟩
   ·have hb:=Z.ag.lt e
    obtain⟨q1,q2⟩:=aT b c e
    obtain⟨T,mm,e2⟩:=Z.ag b c e
    exact⟨T,mm,by rw[O b hb q1 q2];exact e2⟩
   ·exact⟨by have:=zj6 v o.2.2.1;have:=A.sm.sz;omega,ztp A.sm.tx _⟩
  have aH:Blk aj h.size (zr o.1 sp sf o.2.2.2 sk si).toArray:=(b4.ofKeep ae).keep (O _ (by omega) (by omega) (λhm=>by have:=aL _ hm;omega))
  have aA:Blk aj aa.size (zd y.kind y.text ck ci).toArray:=aQ.keep (O _ (by omega) (by omega) (λhm=>by have:=aL _ hm;omega))
  have aG:OT aj y bs (zh y ck ci):=ak.frame λc hc=>O c (ak.lt c hc) (ac c hc).1 (ac c hc).2
  have aM:∀c∈bs,c≠rb/\c∉D':=λc hc=>⟨(ac c hc).1,λhm=>by
   rcases tn.own c hm with q|q|q
   ·exact(ac c hc).2 q
   ·cases q
   ·have:=ak.lt c hc;omega⟩
  refine⟨sp,aH.cellAdd (by rfl),y.kind,y.text,ck,ci,aA.ld (cs:=zd y.kind y.text ck ci),?_⟩
  refine z8j hg ai.sm ai.ok hp ai.le ai.ag ai.doc r1 aG aM (λx hx=>zhq ai.sz hx) (λhn h' k'=>⟨8,rfl,?_⟩) λt ht h' aU aE ax=>⟨0,rfl,?_⟩
  ·rw[hn]at hK
   refine hK h' [] (λe=>by simp[zle]at e) ⟨by have:=k'.size;omega,λc q1 q2 q3=>?_,λc hc=>by cases hc⟩
   rw[k'.get c (by omega),O c (by omega) q2 q3];exact ar.get c q1
  ·rw[ht]at hK
   refine hK h' aU (λ_=>aE) ⟨by have:=ax.size;omega,λc q1 q2 q3=>?_,λc hc=>?_⟩
   ·have aI:c∉D':=λhm=>by
     rcases tn.own c hm with q|q|q
     ·exact q3 q
     ·cases q
     ·omega
    rw[ax.old c (by omega) q2 aI,O c (by omega) q2 q3];exact ar.get c q1
   ·rcases ax.own c hc with q|q|q
    ·rcases tn.own c q with q|q|q
     ·exact .inl q
     ·cases q
     ·exact .inr (.inr (by omega))
    ·exact .inr (.inr (by have:=aB c q;omega))
    ·exact .inr (.inr (by omega))
end
section
variable {gl M:Fr} {o:OpT} {R:Bool -> Prop}
theorem qfw(s:Bt)(a:Array UInt8):(s.toList==(⟨a⟩:Bt).toList)=decide (lb s=a.toList):=by
 rw[AB];simp[ByteArray.toList_eq,lb]
structure OpS (o:OpT):Prop where
 p:SL o.2.1
 f:SL o.2.2.1
 v:Sm o.2.2.2
theorem zo9{s:Bt}{R:Bool×Bool×Bool->Prop}(h:R (zy (lb s))):PC Tp gl 36 [Arg.mk .str s] [.bool,.bool,.bool] R:=by
 apply zla
 simp only[qfw]
 unfold zy z2j Qr zgk zj2 zj3 W7 at h
 intro K hK
 have yes:(lb s=[97,100,100]\/lb s=[114,101,112,108,97,99,101]\/lb s=[116,101,115,116])->K true:=λhc=>hK true ⟨λ_=>by rw[if_pos hc]at h;exact h,(λhc=>by cases hc)⟩
 have no:¬(lb s=[97,100,100]\/lb s=[114,101,112,108,97,99,101]\/lb s=[116,101,115,116])->K false:=λhc=>hK false ⟨(λhc=>by cases hc),λ_=>by
  rw[if_neg hc]at h
  refine⟨λh1=>⟨λ_=>?_,λh2=>?_⟩,λh1=>⟨λh2=>?_,λh2=>?_⟩⟩
  ·rw[if_pos (.inl (by simpa using h1))]at h;exact h
  ·rw[h1]at h2;cases h2
  ·rw[if_pos (.inr (by simpa using h2))]at h;exact h
  ·rw[if_neg (λhx=>by rcases hx with hx|hx <;> simp_all)]at h
   exact h⟩
 refine⟨λh1=>?_,λh1=>⟨λh2=>?_,λh2=>?_⟩⟩
 ·rw[h1];exact yes (.inl (by simpa using h1))
 ·rw[h2];exact yes (.inr (.inl (by simpa using h2)))
 ·cases h3:decide (lb s=#[116,101,115,116].toList)with
  |true=>exact yes (.inr (.inr (by simpa using h3)))
  |false=>exact no (by rintro(hx|hx|hx) <;> simp_all)
theorem zpa{s:Bt}{R:Bool×Bool×Bool->Prop}(h:R (zy (lb s))):PC Tp gl 39 [Arg.mk .str s] [.bool,.bool,.bool] R:=by
 apply zcx
 simp only[qfw]
 unfold zy z2j Qr zgk zj2 zj3 W7 at h
 intro K hK
 have yes:(lb s=[97,100,100]\/lb s=[114,101,112,108,97,99,101]\/lb s=[116,101,115,116])->K true:=λhc=>hK true ⟨λ_=>by rw[if_pos hc]at h;exact h,(λhc=>by cases hc)⟩
 have no:¬(lb s=[97,100,100]\/lb s=[114,101,112,108,97,99,101]\/lb s=[116,101,115,116])->K false:=λhc=>hK false ⟨(λhc=>by cases hc),λ_=>by
  rw[if_neg hc]at h
  refine⟨λh0=>?_,λh0=>⟨λh1=>⟨λ_=>?_,λh2=>?_⟩,λh1=>⟨λh2=>?_,λh2=>?_⟩⟩⟩
  ·have e:lb s=[114,101,109,111,118,101]:=by simpa using h0
   rw[e]at h;exact h
  ·rw[if_pos (.inl (by simpa using h1))]at h;exact h
  ·rw[h1]at h2;cases h2
  ·rw[if_pos (.inr (by simpa using h2))]at h;exact h
  ·rw[if_neg (λhx=>by rcases hx with hx|hx <;> simp_all)]at h
   have:decide (lb s=[114,101,109,111,118,101])=false:=by simpa using h0
   rw[this]at h
   exact h⟩
 refine⟨λh1=>?_,λh1=>⟨λh2=>?_,λh2=>?_⟩⟩
 ·rw[h1];exact yes (.inl (by simpa using h1))
 ·rw[h2];exact yes (.inr (.inl (by simpa using h2)))
 ·cases h3:decide (lb s=#[116,101,115,116].toList)with
  |true=>exact yes (.inr (.inr (by simpa using h3)))
  |false=>exact no (by rintro(hx|hx|hx) <;> simp_all)
theorem zrx(hg:GL gl)(ho:OpS o)(h:R (qc o)):PC Tp gl 17 [Arg.mk Z1 o] [.bool] R:=by
 apply zk8
 refine zo9 ?_
 simp only[qo]
 intro K hK
 have no:qc o=false->K true:=λhf=>hK true ⟨λ_=>by rw[hf]at h;exact h,(λhc=>by cases hc)⟩
 refine⟨λh1=>?_,λh1=>?_⟩
 ·rw[h1]
  exact no (by unfold qc;simp at h1;simp[h1])
 have O:(zy (lb o.1)).2.2=true:=by simpa using h1
 refine zhp hg ho.p ⟨λh2=>?_,λh2=>?_⟩
 ·rw[h2]
  exact no (by unfold qc;simp at h2;simp[h2])
 have Z:qh o.2.1=true:=by simpa using h2
 refine zhp hg ho.f ⟨λh3=>?_,λh3=>?_⟩
 ·rw[h3]
  exact no (by unfold qc;simp at h3;simp[h3])
 have aa:qh o.2.2.1=true:=by simpa using h3
 have e:(bif (!(zy (lb o.1)).2.1)then(decide (((Bb o.2.2.1:Nat):Int)>0))else false)=!((zy (lb o.1)).2.1||decide (o.2.2.1=[])):=by
  rw[AB]
  cases(zy (lb o.1)).2.1 with
  |true=>simp
  |false=>simp[A3]
 rw[e]
 cases h4:((zy (lb o.1)).2.1||decide (o.2.2.1=[]))with
 |false=>exact no (by unfold qc;rw[h4];simp)
 |true=>
  have hr:qc o=(bif (zy (lb o.1)).1 then qe o.2.2.2 else zeu o.2.2.2):=by unfold qc;rw[O,Z,aa,h4];rfl
  rw[hr]at h
  refine hK false ⟨(λhc=>by cases hc),λ_=>⟨λh5=>?_,λh5=>?_⟩⟩
  ·rw[h5]at h;exact zai hg ho.v h
  ·rw[h5]at h;exact qbp (by have:=ho.v.keys;omega) ho.v.items h
theorem zx8(hg:GL gl)(ho:OpS o)(h:R (qc o)):PC Tp gl 18 [Arg.mk Z1 o] [.bool] R:=by
 apply zcu
 refine zpa ?_
 simp only[qo]
 refine zjp ho.p (zjp ho.f ?_)
 have e:(bif (bif (bif (!(zy (lb o.1)).2.2)then true else(!qh o.2.1))then true else(!qh o.2.2.1))then true else(bif (!(zy (lb o.1)).2.1)then(decide (((Bb o.2.2.1:Nat):Int)>0))else false))=!((zy (lb o.1)).2.2&&(qh o.2.1&&(qh o.2.2.1&&((zy (lb o.1)).2.1||decide (o.2.2.1=[]))))):=by
  have e2:(decide (((Bb o.2.2.1:Nat):Int)>0))=!decide (o.2.2.1=[]):=by
   rw[AB];simp[A3]
  rw[e2]
  cases(zy (lb o.1)).2.2 <;> cases qh o.2.1 <;> cases qh o.2.2.1 <;> cases(zy (lb o.1)).2.1 <;> cases decide (o.2.2.1=[]) <;> rfl
 rw[e]
 cases h4:((zy (lb o.1)).2.2&&(qh o.2.1&&(qh o.2.2.1&&((zy (lb o.1)).2.1||decide (o.2.2.1=[])))))with
 |false=>
  refine⟨λ_=>?_,λhc=>by simp at hc⟩
  have:qc o=false:=by
   unfold qc
   cases h1:(zy (lb o.1)).2.2 <;> cases h2:qh o.2.1 <;> cases h3:qh o.2.2.1 <;> simp[h1,h2,h3]at h4 ⊢
   simp[h4]
  rw[this]at h;exact h
 |true=>
  refine⟨λhc=>by simp at hc,λ_=>?_⟩
  have hr:qc o=(bif (zy (lb o.1)).1 then qe o.2.2.2 else zeu o.2.2.2):=by
   simp only[AI]at h4
   unfold qc
   rw[h4.1,h4.2.1,h4.2.2.1,h4.2.2.2];rfl
  rw[hr]at h
  refine⟨λh5=>?_,λh5=>?_⟩
  ·rw[h5]at h;exact zf4 hg ho.v h
  ·rw[h5]at h;exact z6w h
theorem z3c{sp sf sk si:Sl}(r1:RdV M (.row .str) o.2.1 (slV sp))(r2:RdV M (.row .str) o.2.2.1 (slV sf))(r3:RdV M .tree o.2.2.2 (.agg (zh o.2.2.2 sk si).toArray)):RdV M Z1 o (.agg (zr o.1 sp sf o.2.2.2 sk si).toArray):=by
 rw[zhf rfl]at r1 r2
 unfold RdV at r3 ⊢
 simp only[zdm,if_true]at r3 ⊢
 obtain⟨cs,e,r3⟩:=r3
 have e:zh o.2.2.2 sk si=cs:=by injection e with e;simpa using congrArg Dk e
 subst e
 exact⟨zr o.1 sp sf o.2.2.2 sk si,rfl,[.string o.1],_,rfl,rfl,[slV sp],_,rfl,r1,[slV sf],_,rfl,r2,r3⟩
set_option maxHeartbeats 2000000 in
theorem qbu(hg:GL gl){v:Tr}{h:zb}{rb:Nat}{D:List Nat}(A:At gl v h M rb D)(aC:∀b cs,M b=some cs->b≠rb/\b∉D)(hv:qe v=true)(ho:OpS o){u:Value}(hu:RdV M Z1 o u){K:Value->zb->Prop}(hK:Res h rb D (Jh v o) K):
  XC Tp 33 #[.pointer (some ⟨rb,0,none⟩),u] h K:=by
 have ov:=Zc hv
 have af:=hu
 obtain⟨sp,sf,sk,si,rfl,r1,r2,r3⟩:=z3v hu
 apply zf1 (some ⟨rb,0,none⟩) o.1 sp sf o.2.2.2.kind o.2.2.2.text sk si
 intro h1
 have k1:Keep h.size h h1:=Keep.push _ _ (Ae _)
 have b1:Blk h1 h.size (zr o.1 sp sf o.2.2.2 sk si).toArray:=Blk.new _ _ _
 have z1:h1.size=h.size+1:=Ak _
 clear_value h1
 have A1:=A.keep k1
 refine⟨o.1,sp,sf,o.2.2.2.kind,o.2.2.2.text,sk,si,b1.ld (cs:=zr o.1 sp sf o.2.2.2 sk si),?_⟩
 have am:PC Tp gl 17 [Arg.mk Z1 o] [.bool] (λr=>r=qc o):=zrx hg ho rfl
 refine am.go (vs:=[.agg (zr o.1 sp sf o.2.2.2 sk si).toArray]) A1.le A1.ag (qn af y0) λw ah aZ r au aH hr=>?_
 have hr:r=qc o:=hr
 subst hr
 have aa:Keep h.size h ah:=k1.trans au.keep (by omega)
 have ac:=A.keep aa
 have az:=b1.ofKeep au.keep
 have aV:=au.keep.size
 refine⟨qc o,zc2 aH,λhf=>?_,λht=>?_⟩
 ·have ay:qc o=false:=by simpa using hf
  have:Jh v o=(zT,1):=by unfold Jh;rw[ay];rfl
  rw[this]at hK
  exact zbl hK (by simp) aa
 have ae:qc o=true:=by simpa using ht
 have ak:Jh v o=(if(doR v o).2=0 then(if qe (doR v o).1 then((doR v o).1,0)else(zT,1))else(zT,(doR v o).2)):=by unfold Jh;rw[ae,if_pos rfl]
 have aJ:∀s∈o.2.1,s.size<=1048576:=λs hs=>by rw[<-Yo];exact ho.p.s s hs
 have aO:Sm (doR v o).1:=z8l A.sm ov ho.v (by have:=zj7 ae;omega) aJ
 intro aN aE
 have Z:∀F,qp Tp F=true->(∀KK,Res ah rb D (doR v o) KK->XC Tp F #[.pointer (some ⟨rb,0,none⟩),.agg (zr o.1 sp sf o.2.2.2 sk si).toArray] ah KK)->aN (.func (.func F) #[.pointer (some ⟨rb,0,none⟩)] #[]) ah:=by
  intro F hF hX
  refine aE _ ah ⟨o.1,sp,sf,o.2.2.2.kind,o.2.2.2.text,sk,si,az.ld (cs:=zr o.1 sp sf o.2.2.2 sk si),hF,?_⟩
  refine hX _ λh' D' hD tn=>⟨(doR v o).2,rfl,λaI=>?_,λaS=>?_⟩
  ·have ap:(doR v o).2≠0:=by simpa using aI
   rw[ak,if_neg ap]at hK
   exact hK h' [] (λe=>absurd e ap) ⟨by have:=tn.size;have:=aa.size;omega,λc q1 q2 q3=>(tn.old c (by have:=aa.size;omega) q2 q3).trans (aa.get c q1),λc hc=>by cases hc⟩
  ·have ai:(doR v o).2=0:=by simpa using aS
   rw[ak,if_pos ai]at hK
   have aD:=hD ai
   have zt:=tn.size
   obtain⟨⟨cs,bd,aU,ot⟩,aY⟩:=aD
   obtain⟨dk,di,aG⟩:=ot.cells
   have aA:AgM M h':=λb c e=>by
    have hb:=ac.ag.lt e
    obtain⟨q1,q2⟩:=aC b c e
    obtain⟨T,mm,e2⟩:=ac.ag b c e
    exact⟨T,mm,by rw[tn.old b hb q1 q2];exact e2⟩
   have aF:cs=(zh (doR v o).1 dk di).toArray:=by apply EL;rw[aG];rfl
   rw[aG]at ot
   subst aF
   refine⟨⟨rb,0,none⟩,rfl,(doR v o).1.kind,(doR v o).1.text,dk,di,?_,?_⟩
   ·rw[zm];exact bd.ld (cs:=zh (doR v o).1 dk di)
   have aP:PC Tp gl 21 [Arg.mk .tree (doR v o).1] [.bool] (λr=>r=qe (doR v o).1):=zai hg aO rfl
   refine aP.go (vs:=[.agg #[.int .i64 (doR v o).1.kind,.string (doR v o).1.text,slV dk,slV di]]) (A.le.trans (zag aA D')) (MxL.ag aA D') (qn ot.rdv y0) λw2 ar a1 aL ax an aj=>?_
   have aj:aL=qe (doR v o).1:=aj
   subst aj
   have aT:=ax.keep.size
   have aB:Turn h ar rb D [] D':=⟨by have:=aa.size;omega,λc q1 q2 q3=>by
    have:=aa.size
    rw[ax.keep.get c (by omega),tn.old c (by omega) q2 q3];exact aa.get c q1,λc hc=>by
    rcases tn.own c hc with q|q|q
    ·exact .inl q
    ·cases q
    ·exact .inr (.inr (by have:=aa.size;omega))⟩
   refine⟨qe (doR v o).1,zc2 an,λhf=>?_,λaQ=>?_⟩
   ·have ay:qe (doR v o).1=false:=by simpa using hf
    rw[if_neg (by rw[ay];simp)]at hK
    exact hK ar D' (λe=>by simp at e) aB
   ·have aM:qe (doR v o).1=true:=by simpa using aQ
    rw[if_pos aM]at hK
    refine hK ar D' (λ_=>?_) aB
    have hd:Doc h' rb (doR v o).1 D':=hD ai
    exact hd.keep λc hc=>ax.keep.get c (hd.lt c hc)
 have al:(zy (lb o.1)).2.2=true:=by
  unfold qc at ae
  simp only[AI]at ae
  exact ae.1
 refine⟨o.1,?_,?_⟩
 ·rw[zm];exact az.cell (by rfl)
 simp only[qfw]
 refine⟨λc1=>?_,λc1=>⟨λc2=>?_,λc2=>⟨λc3=>?_,λc3=>⟨λc4=>?_,λc4=>⟨λc5=>?_,λc5=>?_⟩⟩⟩⟩⟩
 ·have e1:lb o.1=W7:=of_decide_eq_true c1
  refine Z _ (by kernel_rfl) λKK O=>ztu hg ac ho.p af ?_
  unfold doR at O;rw[if_pos e1]at O;exact O
 all_goals have n1:lb o.1≠W7:=of_decide_eq_false c1
 ·have e2:lb o.1=Qr:=of_decide_eq_true c2
  refine Z _ (by kernel_rfl) λKK O=>zrq hg ac ho.p ho.v (Xa ae (zj8 (.inr (.inl e2)))) af ?_
  unfold doR at O;rw[if_neg n1,if_pos e2]at O;exact O
 all_goals have n2:lb o.1≠Qr:=of_decide_eq_false c2
 ·have e3:lb o.1=zj2:=of_decide_eq_true c3
  refine Z _ (by kernel_rfl) λKK O=>z3b hg ac aC ho.p ho.f ov af ?_
  unfold doR at O;rw[if_neg n1,if_neg n2,if_pos e3]at O;exact O
 all_goals have n3:lb o.1≠zj2:=of_decide_eq_false c3
 ·have e4:lb o.1=zj3:=of_decide_eq_true c4
  refine Z _ (by kernel_rfl) λKK O=>z2o hg ac ho.p ho.f ov af ?_
  unfold doR at O;rw[if_neg n1,if_neg n2,if_neg n3,if_pos e4]at O;exact O
 all_goals have n4:lb o.1≠zj3:=of_decide_eq_false c4
 ·have e5:lb o.1=zgk:=of_decide_eq_true c5
  refine Z _ (by kernel_rfl) λKK O=>z2z hg ac ho.p ho.v (Xa ae (zj8 (.inr (.inr e5)))) ov af ?_
  unfold doR at O;rw[if_neg n1,if_neg n2,if_neg n3,if_neg n4,if_pos e5]at O;exact O
 ·have n5:lb o.1≠zgk:=of_decide_eq_false c5
  have e6:=z7b al n1 n2 n3 n4 n5
  refine Z _ (by kernel_rfl) λKK O=>z6v hg ac ho.p ho.v (Xa ae (zj8 (.inl e6))) af ?_
  unfold doR at O;rw[if_neg n1,if_neg n2,if_neg n3,if_neg n4,if_neg n5]at O;exact O
end
section
variable {h:zb} {v:Tr} {o:OpT}
theorem opAt{M:Fr}(ag:AgM M h){xs:List OpT}{s:Sl}(H:Rd M (.row Z1) xs [slV s]){k:Nat}(hk:k<xs.length):∃(a:Addr) (sp sf sk si:Sl),s.a=some a/\ze h (a.add (k*7)) 0 (zr xs[k].1 sp sf xs[k].2.2.2 sk si)/\RdV M Z1 xs[k] (.agg (zr xs[k].1 sp sf xs[k].2.2.2 sk si).toArray):=by
 obtain⟨b,o,cs,e1,e2,e3⟩:=Go.X.rowAt H hk
 have e4:RdV M Z1 xs[k] (.agg (cut cs (o+k*sz Z1) (sz Z1)).toArray):=by
  unfold RdV;simp only[zdm,if_true];exact⟨_,rfl,e3⟩
 obtain⟨sp,sf,sk,si,q,_⟩:=z3v e4
 have:(cut cs (o+k*sz Z1) (sz Z1))=zr xs[k].1 sp sf xs[k].2.2.2 sk si:=by
  injection q with q
  exact congrArg Dk q
 refine⟨_,sp,sf,sk,si,e1,?_,by rw[<-this];exact e4⟩
 rw[qep]
 exact zz8 ag e2 (i:=0) this
theorem ztv(s:Bt)(sp sf:Sl)(v:Tr)(sk si:Sl):∀u∈zr s sp sf v sk si,u.oneCell'=true:=by
 intro u hu
 simp[zr]at hu
 rcases hu with rfl|rfl|rfl|rfl|rfl|rfl|rfl <;> simp[Value.oneCell',slV]
theorem qgc:jb Tp 38=true:=by kernel_rfl
theorem qgd:ja Tp 38=7:=by kernel_rfl
def opZero:List Value:=[.string ⟨#[]⟩,.slice none 0 0,.slice none 0 0,.int .i64 0,.string ⟨#[]⟩,.slice none 0 0,.slice none 0 0]
theorem zka{b:Nat}{cs:Array Value}(H:Blk h b cs)(hn:cs.size=7)(s:Bt)(sp sf:Sl)(v:Tr)(sk si:Sl){K:zb->Prop}
  (hK:∀h':zb,Blk h' b (zr s sp sf v sk si).toArray->h'.size=h.size->(∀j,j≠b->h'[j]?=h[j]?)->K h'):XRunU Tp (Ai 38 (.pointer (some ⟨b,0,none⟩)) (.agg (zr s sp sf v sk si).toArray)) h K:=
 Yu (vs:=zr s sp sf v sk si) qgc H rfl qgd (by rw[hn];exact Ae _) (ztv s sp sf v sk si) λh' e1 e2 e3=>hK h' (by rw[z1n (by rw[hn];rfl)]at e1;exact e1) e2 e3
theorem ztw(h:(Jh v o).2=0):qe (Jh v o).1=true:=by
 unfold Jh at h ⊢
 split
 ·split
  ·split
   ·rename_i h3;exact h3
   ·rename_i h1 h2 h3;rw[if_pos h1,if_pos h2,if_neg h3]at h;simp at h
  ·rename_i h1 h2;rw[if_pos h1,if_neg h2]at h;exact absurd h h2
 ·rename_i h1;rw[if_neg h1]at h;simp at h
theorem z7d(hv:Sm v)(hr:qe v=true)(ho:OpS o):Sm (Jh v o).1:=by
 unfold Jh
 split
 ·rename_i h1
  split
  ·split
   ·exact z8l hv (Zc hr) ho.v (by have:=zj7 h1;omega) λs hs=>by rw[<-Yo];exact ho.p.s s hs
   ·exact Ji
  ·exact Ji
 ·exact Ji
set_option maxHeartbeats 4000000 in
theorem zpb{gl:Fr}(hg:GL gl){l:List OpT}(hv:Sm v)(hl:∀o∈l,OpS o)(hn:l.length<=1000000){R:Tr×Int×Int->Prop}(hR:R (zj5 v l)):
  PC Tp gl 13 [Arg.mk .tree v,Arg.mk (.row Z1) l] [.tree,.int .i64,.int .i64] R:=by
 intro h M vs hM ag aF
 match vs,aF with
 |[u1,u2],⟨am,aA,_⟩=>
 have am:RdV M .tree v u1:=am
 have aA:RdV M (.row Z1) l u2:=aA
 have au:=am
 obtain⟨sk,si,rfl,rk,ri⟩:=w9 am
 obtain⟨sl,rfl,rl⟩:=zit aA
 obtain⟨ll,_,_⟩:=rowLen rl
 apply PX.of
 apply zlc v.kind v.text sk si sl
 intro h1 h2
 have k1:Keep h.size h h1:=Keep.push _ _ (Ae _)
 have k2:Keep h1.size h1 h2:=Keep.push _ _ (Ae _)
 have b1:Blk h1 h.size (zd v.kind v.text sk si).toArray:=Blk.new _ _ _
 have b2:Blk h2 h1.size (zd 0 ⟨#[]⟩ ⟨none,0,0⟩ ⟨none,0,0⟩).toArray:=Blk.new _ _ _
 have z1:h1.size=h.size+1:=Ak _
 have z2:h2.size=h1.size+1:=Ak _
 clear_value h1 h2
 have aT:=b1.ofKeep k2
 have aV:Keep h.size h h2:=k1.trans k2 (by omega)
 have a1:=ag.keep aV
 have ret:∀(g g':zb) (M':Fr) (r:Tr) (sk si:Sl) (i e:Int),Later h M g' M'->RdV M' .tree r (.agg #[.int .i64 r.kind,.string r.text,slV sk,slV si])->R (r,i,e) ->
   ∃M' r',Later h M g' M'/\Xu M' [.tree,.int .i64,.int .i64] r' (.tuple #[.agg #[.int .i64 r.kind,.string r.text,slV sk,slV si],.int .i64 i,.int .i64 e])/\R r':=by
  intro g g' M' r sk si i e L hr hR
  exact⟨M',(r,i,e),L,⟨[_,_,_],⟨_,_,rfl,hr,_,_,rfl,z5d _ _,_,rfl,z5d _ _⟩,rfl⟩,hR⟩
 have aO:∀(g:zb) (i e:Int),Keep h.size h g->Blk g h1.size (zd 0 ⟨#[]⟩ ⟨none,0,0⟩ ⟨none,0,0⟩).toArray->R (zT,i,e) ->
   XRunU Tp (Ai 25 (.pointer (some ⟨h1.size,0,none⟩)) (.agg #[.int .i64 0,.string (⟨#[]⟩:Bt),.slice none 0 0,.slice none 0 0])) g (λg'=>∃ar:Int,∃ax:Bt,∃Z:Sl,∃aa:Sl,ze g' ⟨h1.size,0,none⟩ 0 [.int .i64 ar,.string ax,.slice Z.a Z.len Z.cap,.slice aa.a aa.len aa.cap] /\
    (∃M' r',Later h M g' M'/\Xu M' [.tree,.int .i64,.int .i64] r' (.tuple #[.agg #[.int .i64 ar,.string ax,.slice Z.a Z.len Z.cap,.slice aa.a aa.len aa.cap],.int .i64 i,.int .i64 e])/\R r')):=by
  intro g i e kg bg bm
  refine qa bg rfl 0 ⟨#[]⟩ ⟨none,0,0⟩ ⟨none,0,0⟩ λg' b' z' f'=>⟨0,⟨#[]⟩,⟨none,0,0⟩,⟨none,0,0⟩,b'.ld (cs:=zd 0 ⟨#[]⟩ ⟨none,0,0⟩ ⟨none,0,0⟩),?_⟩
  have aD:Keep h.size h g':=⟨by have:=kg.size;omega,λj hj=>by rw[f' j (by omega)];exact kg.get j hj⟩
  refine ret g g' M zT ⟨none,0,0⟩ ⟨none,0,0⟩ i e (Later.same ag aD) ?_ bm
  refine yn (v:=zT) ?_ ?_
  ·exact⟨_,rfl,none,0,rfl,⟨by simp[zT],by simp[zT]⟩,.inl rfl⟩
  ·exact⟨_,rfl,none,0,rfl,⟨by simp[zT],by simp[zT]⟩,.inl rfl⟩
 refine⟨v.kind,v.text,sk,si,aT.ld (cs:=zd v.kind v.text sk si),?_⟩
 have an:PC Tp gl 21 [Arg.mk .tree v] [.bool] (λr=>r=qe v):=zai hg hv rfl
 refine an.go (vs:=[.agg #[.int .i64 v.kind,.string v.text,slV sk,slV si]]) hM a1 (qn au y0) λw h8 M8 r L8 aU hr=>?_
 have hr:r=qe v:=hr
 subst hr
 have k8:Keep h.size h h8:=aV.trans L8.keep (by omega)
 have z8:=L8.keep.size
 refine⟨qe v,zc2 aU,λhf=>?_,λht=>?_⟩
 ·have bq:qe v=false:=by simpa using hf
  unfold zj5 at hR
  rw[bq]at hR
  exact aO h8 0 1 k8 (b2.ofKeep L8.keep) hR
 have aC:qe v=true:=by simpa using ht
 have aH:zj5 v l=zj4 v l 0:=by unfold zj5;rw[aC];rfl
 rw[aH]at hR
 refine⟨v.kind,v.text,sk,si,(aT.ofKeep L8.keep).ld (cs:=zd v.kind v.text sk si),?_⟩
 refine zju hg hv (Zc aC) hM (ag.keep k8) au λO bs ck ci ay ot ba=>⟨v.kind,v.text,ck,ci,rfl,?_⟩
 have bG:=ay.size
 intro ac
 have aB:Keep O.size O ac:=Keep.push _ _ (Ae _)
 have bp:Blk ac O.size (zd v.kind v.text ck ci).toArray:=Blk.new _ _ _
 have bB:ac.size=O.size+1:=Ak _
 clear_value ac
 have a8:Keep h.size h ac:=(k8.trans ay (by omega)).trans aB (by omega)
 have aN:OT ac v bs (zh v ck ci):=ot.frame λc hc=>aB.get c (ot.lt c hc)
 have a6:Doc ac O.size v bs:=⟨⟨_,bp,rfl,aN⟩,λhm=>by have:=ot.lt _ hm;omega⟩
 have aS:Blk ac h1.size (zd 0 ⟨#[]⟩ ⟨none,0,0⟩ ⟨none,0,0⟩).toArray:=((b2.ofKeep L8.keep).ofKeep ay).ofKeep aB
 refine⟨λi g=>∃(k:Nat) (w:Tr) (D:List Nat),i=(k:Int)/\k<=l.length/\Keep h.size h g/\O.size<g.size/\Blk g h1.size (zd 0 ⟨#[]⟩ ⟨none,0,0⟩ ⟨none,0,0⟩).toArray/\Doc g O.size w D/\(∀c∈D,h2.size<=c)/\qe w=true/\Sm w/\R (zj4 w (l.drop k) k),
  λi _=>l.length-i.toNat,⟨0,v,bs,rfl,CY _,a8,by omega,aS,a6,(λc hc=>by have:=ba c hc;omega),aC,hv,by rw[A2];exact hR⟩,?_⟩
 rintro i g ⟨k,w,D,rfl,hk,kg,zg,bg,dg,hD,aj,aI,al⟩
 have agg:=ag.keep kg
 refine⟨λhc=>?_,λhc=>?_⟩
 ·have ae:k<l.length:=by rw[ll]at hc;simp at hc;omega
  obtain⟨a,sp,sf,tk,ti,ea,aZ,bo⟩:=opAt agg rl ae
  have aL:=hl l[k] (As ae)
  refine⟨a,⟨ea,by omega,by omega⟩,l[k].1,sp,sf,l[k].2.2.2.kind,l[k].2.2.2.text,tk,ti,by rw[Ad];exact aZ,?_⟩
  intro ap
  have bj:Keep g.size g ap:=Keep.push _ _ (Ae _)
  have bu:Blk ap g.size opZero.toArray:=Blk.new _ _ _
  have bF:ap.size=g.size+1:=Ak _
  clear_value ap
  refine zka bu rfl l[k].1 sp sf l[k].2.2.2 tk ti λai bh bD bn=>?_
  refine⟨l[k].1,sp,sf,l[k].2.2.2.kind,l[k].2.2.2.text,tk,ti,bh.ld (cs:=zr l[k].1 sp sf l[k].2.2.2 tk ti),?_⟩
  have az:Keep g.size g ai:=⟨by omega,λj hj=>by rw[bn j (by omega)];exact bj.get j hj⟩
  have af:Keep h.size h ai:=kg.trans az (by have:=kg.size;omega)
  have bc:At gl w ai M O.size D:=⟨hM,ag.keep af,dg.keep λc hc=>az.get c (dg.lt c hc),aI,zah (Zc aj),zaj aj⟩
  have be:∀b cs,M b=some cs->b≠O.size/\b∉D:=λb cs e=>by
   have:=ag.lt e
   exact⟨by omega,λhm=>by have:=hD b hm;omega⟩
  have ak:R (if(Jh w l[k]).2=0 then zj4 (Jh w l[k]).1 (l.drop (k+1)) (k+1)else(zT,(k:Int),(Jh w l[k]).2)):=by
   rw[AE ae,zj4]at al
   exact al
  have key:∀(h':zb) (D':List Nat),Turn ai h' O.size D [] D'->Keep h.size h h'/\Blk h' h1.size (zd 0 ⟨#[]⟩ ⟨none,0,0⟩ ⟨none,0,0⟩).toArray:=λh' D' tn=>
   ⟨⟨by have:=tn.size;have:=af.size;omega,λj hj=>by rw[tn.old j (by have:=af.size;omega) (by omega) (λhm=>by have:=hD j hm;omega)];exact af.get j hj⟩,
    (bg.ofKeep az).keep (tn.old _ (by omega) (by omega) (λhm=>by have:=hD _ hm;omega))⟩
  refine qbu hg bc be aj aL bo λh' D' aJ tn=>⟨(Jh w l[k]).2,rfl,λa7=>?_,λbz=>?_⟩
  all_goals obtain⟨aG,aP⟩:=key h' D' tn
  ·have aY:¬(Jh w l[k]).2=0:=by simpa using a7
   rw[if_neg aY]at ak
   exact aO h' k (Jh w l[k]).2 aG aP ak
  ·have ah:(Jh w l[k]).2=0:=by simpa using bz
   rw[if_pos ah]at ak
   rw[y5 ae (by omega)]
   refine⟨⟨k+1,(Jh w l[k]).1,D',rfl,ae,aG,by have:=tn.size;omega,aP,aJ ah,λc hc=>?_,ztw ah,z7d aI aj aL,ak⟩,by simp only[Ad];omega⟩
   rcases tn.own c hc with q|q|q
   ·exact hD c q
   ·cases q
   ·omega
 ·have ae:k=l.length:=by rw[ll]at hc;simp at hc;omega
  subst ae
  rw[Cw,zj4]at al
  obtain⟨⟨cs,bd,bC,aE⟩,bE⟩:=dg
  obtain⟨dk,di,aQ⟩:=aE.cells
  have aM:cs=(zh w dk di).toArray:=by apply EL;rw[aQ];rfl
  rw[aQ]at aE
  subst aM
  refine⟨⟨O.size,0,none⟩,rfl,w.kind,w.text,dk,di,?_,?_⟩
  ·rw[zm];exact bd.ld (cs:=zh w dk di)
  refine qa bg rfl w.kind w.text dk di λg' b' z' f'=>⟨w.kind,w.text,dk,di,b'.ld (cs:=zd w.kind w.text dk di),?_⟩
  have aD:Keep h.size h g':=⟨by have:=kg.size;omega,λj hj=>by rw[f' j (by omega)];exact kg.get j hj⟩
  have bA:OT g' w D (zh w dk di):=aE.frame λc hc=>f' c (by have:=hD c hc;omega)
  have L:=MxL.later (M:=M) (h0:=h) (h:=g') ag aD (bs:=D) (λc hc=>by have:=hD c hc;omega)
  rw[ll]
  exact ret g g' _ w dk di _ _ L bA.rdv al
end
end Go.X
end
section
namespace Go.X
section
theorem zpc(l0:Sl)(h:zb)(R:Value->zb->Prop)
  (H:let b:=h.push (.cells #[.int .i64 0,.string (⟨#[]⟩:Bt),.slice none 0 0,.slice none 0 0] 25);XC Tp 48 #[slV l0,.func (.func 49) #[] #[]] b (λc d=>∃e,c=.bool e/\(e=true->XRunU Tp (Ai 25 (.pointer (some ⟨h.size,0,none⟩)) (.agg #[.int .i64 0,.string (⟨#[]⟩:Bt),.slice none 0 0,.slice none 0 0])) d (λf=>∃g i j k,ze f ⟨h.size,0,none⟩ 0 [.int .i64 g,.string i,slV j,slV k]/\R (.tuple #[.agg #[.int .i64 g,.string i,slV j,slV k],.int .i64 1]) f))/\(e=false->(decide ((l0.len:Int)>4096)=true->XRunU Tp (Ai 25 (.pointer (some ⟨h.size,0,none⟩)) (.agg #[.int .i64 0,.string (⟨#[]⟩:Bt),.slice none 0 0,.slice none 0 0])) d (λl=>∃m n o p,ze l ⟨h.size,0,none⟩ 0 [.int .i64 m,.string n,slV o,slV p]/\R (.tuple #[.agg #[.int .i64 m,.string n,slV o,slV p],.int .i64 6]) l))/\(decide ((l0.len:Int)>4096)=false->let q:=d.push (.cells #[.int .i64 0,.string (⟨#[]⟩:Bt),.slice none 0 0,.slice none 0 0] 25);XRunU Tp (Ai 25 (.pointer (some ⟨d.size,0,none⟩)) (.agg #[.int .i64 5,.string (⟨#[]⟩:Bt),.slice none 0 0,.slice none 0 0])) q (λr=>∃(s:Int->zb->Prop) (t:Int->zb->Nat),s 0 r/\∀u:Int,∀v:zb,s u v->((decide (u<l0.len)=true->∃w,(l0.a=some w/\0<=u/\u<l0.len)/\∃x y z A B C D,ze v (w.add (u.toNat*7)) 0 [.string x,slV y,slV z,.int .i64 A,.string B,slV C,slV D]/\let E:=v.push (.cells #[.string (⟨#[]⟩:Bt),.slice none 0 0,.slice none 0 0,.int .i64 0,.string (⟨#[]⟩:Bt),.slice none 0 0,.slice none 0 0] 38);XRunU Tp (Ai 38 (.pointer (some ⟨v.size,0,none⟩)) (.agg #[.string x,slV y,slV z,.int .i64 A,.string B,slV C,slV D])) E (λF=>∃G,zk F (Aj ⟨d.size,0,none⟩ 3)=some (slV G)/\∃I J L M N O P,ze F ⟨v.size,0,none⟩ 0 [.string I,slV J,slV L,.int .i64 M,.string N,slV O,slV P]/\XC Tp 50 #[.agg #[.string I,slV J,slV L,.int .i64 M,.string N,slV O,slV P]] F (λQ S=>∃T U V W,Q=.agg #[.int .i64 T,.string U,slV V,slV W]/\(S)[((Aj ⟨d.size,0,none⟩ 3):Addr).block]?=(F)[((Aj ⟨d.size,0,none⟩ 3):Addr).block]?/\let X:=S.push (.cells #[.int .i64 T,.string U,slV V,slV W] 25);(X)[((Aj ⟨d.size,0,none⟩ 3):Addr).block]?=(F)[((Aj ⟨d.size,0,none⟩ 3):Addr).block]?/\XRun Tp (Au #[23,23] 23 #[slV G,.slice (some ⟨S.size,0,none⟩) 1 1]) X (λY Z=>∃aa,Y=slV aa/\XRunU Tp (Ai 23 (.pointer (some (Aj ⟨d.size,0,none⟩ 3))) (slV aa)) Z (λab=>(s (Aa .i64 (u+1)) ab/\t (Aa .i64 (u+1)) ab<t u v))))))/\(decide (u<l0.len)=false->∃ac ad ae af,ze v ⟨d.size,0,none⟩ 0 [.int .i64 ac,.string ad,slV ae,slV af]/\XC Tp 21 #[.agg #[.int .i64 ac,.string ad,slV ae,slV af]] v (λag ah=>∃ai,ag=.bool ai/\((!ai)=true->XRunU Tp (Ai 25 (.pointer (some ⟨h.size,0,none⟩)) (.agg #[.int .i64 0,.string (⟨#[]⟩:Bt),.slice none 0 0,.slice none 0 0])) ah (λaj=>∃ak al am an,ze aj ⟨h.size,0,none⟩ 0 [.int .i64 ak,.string al,slV am,slV an]/\R (.tuple #[.agg #[.int .i64 ak,.string al,slV am,slV an],.int .i64 1]) aj))/\((!ai)=false->∃ao ap aq ar,ze ah ⟨d.size,0,none⟩ 0 [.int .i64 ao,.string ap,slV aq,slV ar]/\XRunU Tp (Ai 25 (.pointer (some ⟨h.size,0,none⟩)) (.agg #[.int .i64 ao,.string ap,slV aq,slV ar])) ah (λau=>∃av aw ax ay,ze au ⟨h.size,0,none⟩ 0 [.int .i64 av,.string aw,slV ax,slV ay]/\R (.tuple #[.agg #[.int .i64 av,.string aw,slV ax,slV ay],.int .i64 0]) au)))))))))):
  XC Tp 22 #[.slice l0.a l0.len l0.cap] h R:=
 XF ⟨[(9,8000)],[(7,[(19,.one (.int .i64))])],[]⟩ [.cell 2 25,.tmp 3] 36 Tryz.func22 H
theorem zkb(b:Bt)(c:Sl)(d:Sl)(e:Int)(f:Bt)(g:Sl)(i:Sl)(h:zb)(R:Value->zb->Prop)
  (H:let j:=h.push (.cells #[.string b,slV c,slV d,.int .i64 e,.string f,slV g,slV i] 38);let k:=j.push (.cells #[.int .i64 0,.string (⟨#[]⟩:Bt),.slice none 0 0,.slice none 0 0] 25);∃l,zk k (Aj ⟨h.size,0,none⟩ 0)=some (.string l)/\XC Tp 36 #[.string l] k (λm n=>∃o p q,m=.tuple #[.bool o,.bool p,.bool q]/\let r:=n.push (.cells #[.int .i64 0,.string (⟨#[]⟩:Bt),.slice none 0 0,.slice none 0 0] 25);XRunU Tp (Ai 25 (.pointer (some ⟨n.size,0,none⟩)) (.agg #[.int .i64 6,.string (⟨#[]⟩:Bt),.slice none 0 0,.slice none 0 0])) r (λs=>∃t,zk s (Aj ⟨h.size,0,none⟩ 0)=some (.string t)/\XC Tp 88 #[.string t] s (λu v=>∃w x y z,u=.agg #[.int .i64 w,.string x,slV y,slV z]/\XC Tp 87 #[.pointer (some ⟨n.size,0,none⟩),.string (⟨#[111,112]⟩:Bt),.agg #[.int .i64 w,.string x,slV y,slV z]] v (λA B=>A=.tuple #[]/\∃C,zk B (Aj ⟨h.size,0,none⟩ 1)=some (slV C)/\XC Tp 89 #[slV C] B (λD E=>∃F G,D=.tuple #[.string F,.int .i64 G]/\XC Tp 88 #[.string F] E (λI J=>∃L M N O,I=.agg #[.int .i64 L,.string M,slV N,slV O]/\XC Tp 87 #[.pointer (some ⟨n.size,0,none⟩),.string (⟨#[112,97,116,104]⟩:Bt),.agg #[.int .i64 L,.string M,slV N,slV O]] J (λP Q=>P=.tuple #[]/\∀S:zb->Prop,(∀T:zb,((o=true->∃U V W X,ze T (Aj ⟨h.size,0,none⟩ 3) 0 [.int .i64 U,.string V,slV W,slV X]/\XC Tp 32 #[.agg #[.int .i64 U,.string V,slV W,slV X]] T (λY Z=>∃aa ab ac ad,Y=.agg #[.int .i64 aa,.string ab,slV ac,slV ad]/\XC Tp 87 #[.pointer (some ⟨n.size,0,none⟩),.string (⟨#[118,97,108,117,101]⟩:Bt),.agg #[.int .i64 aa,.string ab,slV ac,slV ad]] Z (λae af=>ae=.tuple #[]/\∃ag ah ai aj,ze af ⟨n.size,0,none⟩ 0 [.int .i64 ag,.string ah,slV ai,slV aj]/\XRunU Tp (Ai 25 (.pointer (some ⟨j.size,0,none⟩)) (.agg #[.int .i64 ag,.string ah,slV ai,slV aj])) af (λak=>∃al am an ao,ze ak ⟨j.size,0,none⟩ 0 [.int .i64 al,.string am,slV an,slV ao]/\R (.agg #[.int .i64 al,.string am,slV an,slV ao]) ak))))/\(o=false->∃ap aq ar au,ze T ⟨n.size,0,none⟩ 0 [.int .i64 ap,.string aq,slV ar,slV au]/\XRunU Tp (Ai 25 (.pointer (some ⟨j.size,0,none⟩)) (.agg #[.int .i64 ap,.string aq,slV ar,slV au])) T (λav=>∃aw ax ay az,ze av ⟨j.size,0,none⟩ 0 [.int .i64 aw,.string ax,slV ay,slV az]/\R (.agg #[.int .i64 aw,.string ax,slV ay,slV az]) av)))->S T)->(p=true->∃aA,zk Q (Aj ⟨h.size,0,none⟩ 2)=some (slV aA)/\XC Tp 89 #[slV aA] Q (λaB aC=>∃aD aE,aB=.tuple #[.string aD,.int .i64 aE]/\XC Tp 88 #[.string aD] aC (λaF aG=>∃aH aI aJ aL,aF=.agg #[.int .i64 aH,.string aI,slV aJ,slV aL]/\XC Tp 87 #[.pointer (some ⟨n.size,0,none⟩),.string (⟨#[102,114,111,109]⟩:Bt),.agg #[.int .i64 aH,.string aI,slV aJ,slV aL]] aG (λaM aN=>aM=.tuple #[]/\S aN))))/\(p=false->S Q))))))))):
  XC Tp 50 #[.agg #[.string b,.slice c.a c.len c.cap,.slice d.a d.len d.cap,.int .i64 e,.string f,.slice g.a g.len g.cap,.slice i.a i.len i.cap]] h R:=
 XF ⟨[],[],[(9,[])]⟩ [.cell 2 25] 46 Tryz.func50 H
theorem zkc(v0:Option Addr)(ac:Bt)(b:Int)(c:Bt)(d:Sl)(e:Sl)(h:zb)(R:Value->zb->Prop)
  (H:let f:=h.push (.cells #[.int .i64 b,.string c,slV d,slV e] 25);∃g,v0=some g/\∃i,zk f (Aj g 2)=some (slV i)/\∃j,v0=some j/\∃k,zk f (Aj j 3)=some (slV k)/\∃l m n o,ze f ⟨h.size,0,none⟩ 0 [.int .i64 l,.string m,slV n,slV o]/\(let p:=f.push (.cells #[.string ac] 9);(p)[(⟨h.size,0,none⟩:Addr).block]?=(f)[(⟨h.size,0,none⟩:Addr).block]?/\(p)[((Aj j 3):Addr).block]?=(f)[((Aj j 3):Addr).block]?/\(p)[((Aj g 2):Addr).block]?=(f)[((Aj g 2):Addr).block]?/\(XRun Tp (Au #[22,22] 22 #[slV i,.slice (some ⟨f.size,0,none⟩) 1 1]) p (λq r=>∃s,q=slV s/\(r)[(⟨h.size,0,none⟩:Addr).block]?=(f)[(⟨h.size,0,none⟩:Addr).block]?/\(r)[((Aj j 3):Addr).block]?=(f)[((Aj j 3):Addr).block]?/\let t:=r.push (.cells #[.int .i64 l,.string m,slV n,slV o] 25);(t)[((Aj j 3):Addr).block]?=(f)[((Aj j 3):Addr).block]?/\XRun Tp (Au #[23,23] 23 #[slV k,.slice (some ⟨r.size,0,none⟩) 1 1]) t (λu v=>∃w,u=slV w/\∃x,v0=some x/\XRunU Tp (Ai 22 (.pointer (some (Aj x 2))) (slV s)) v (λy=>∃z,v0=some z/\XRunU Tp (Ai 23 (.pointer (some (Aj z 3))) (slV w)) y (λA=>R (.tuple #[]) A)))))/\(let B:=p.push (.cells #[.int .i64 l,.string m,slV n,slV o] 25);(B)[((Aj j 3):Addr).block]?=(f)[((Aj j 3):Addr).block]?/\(B)[((Aj g 2):Addr).block]?=(f)[((Aj g 2):Addr).block]?/\XRun Tp (Au #[22,22] 22 #[slV i,.slice (some ⟨f.size,0,none⟩) 1 1]) B (λC D=>∃E,C=slV E/\(D)[((Aj j 3):Addr).block]?=(f)[((Aj j 3):Addr).block]?/\XRun Tp (Au #[23,23] 23 #[slV k,.slice (some ⟨p.size,0,none⟩) 1 1]) D (λF G=>∃I,F=slV I/\∃J,v0=some J/\XRunU Tp (Ai 22 (.pointer (some (Aj J 2))) (slV E)) G (λL=>∃M,v0=some M/\XRunU Tp (Ai 23 (.pointer (some (Aj M 3))) (slV I)) L (λN=>R (.tuple #[]) N))))))/\(let O:=f.push (.cells #[.int .i64 l,.string m,slV n,slV o] 25);(O)[((Aj j 3):Addr).block]?=(f)[((Aj j 3):Addr).block]?/\(O)[((Aj g 2):Addr).block]?=(f)[((Aj g 2):Addr).block]?/\let P:=O.push (.cells #[.string ac] 9);(P)[((Aj j 3):Addr).block]?=(f)[((Aj j 3):Addr).block]?/\(P)[((Aj g 2):Addr).block]?=(f)[((Aj g 2):Addr).block]?/\XRun Tp (Au #[22,22] 22 #[slV i,.slice (some ⟨O.size,0,none⟩) 1 1]) P (λQ S=>∃T,Q=slV T/\(S)[((Aj j 3):Addr).block]?=(f)[((Aj j 3):Addr).block]?/\XRun Tp (Au #[23,23] 23 #[slV k,.slice (some ⟨f.size,0,none⟩) 1 1]) S (λU V=>∃W,U=slV W/\∃X,v0=some X/\XRunU Tp (Ai 22 (.pointer (some (Aj X 2))) (slV T)) V (λY=>∃Z,v0=some Z/\XRunU Tp (Ai 23 (.pointer (some (Aj Z 3))) (slV W)) Y (λaa=>R (.tuple #[]) aa)))))):
  XC Tp 87 #[.pointer v0,.string ac,.agg #[.int .i64 b,.string c,.slice d.a d.len d.cap,.slice e.a e.len e.cap]] h R:=
 XF ⟨[(1,8000)],[],[]⟩ [] 26 Tryz.func87 H
theorem zpd(b:Int)(c:Bt)(d:Sl)(e:Sl)(h:zb)(R:Value->zb->Prop)
  (H:let f:=h.push (.cells #[.int .i64 b,.string c,slV d,slV e] 25);let g:=f.push (.cells #[.string (⟨#[]⟩:Bt),.slice none 0 0,.slice none 0 0,.int .i64 0,.string (⟨#[]⟩:Bt),.slice none 0 0,.slice none 0 0] 38);∃i j k l,ze g ⟨h.size,0,none⟩ 0 [.int .i64 i,.string j,slV k,slV l]/\XC Tp 90 #[.agg #[.int .i64 i,.string j,slV k,slV l],.string (⟨#[111,112]⟩:Bt)] g (λm n=>∃o p,m=.tuple #[.string o,.bool p]/\XC Tp 36 #[.string o] n (λq r=>∃s t u,q=.tuple #[.bool s,.bool t,.bool u]/\((bif (!p)then true else(!u))=true->∃v w x y z A B,ze r ⟨f.size,0,none⟩ 0 [.string v,slV w,slV x,.int .i64 y,.string z,slV A,slV B]/\XRunU Tp (Ai 38 (.pointer (some ⟨f.size,0,none⟩)) (.agg #[.string v,slV w,slV x,.int .i64 y,.string z,slV A,slV B])) r (λC=>∃D E F G I J L,ze C ⟨f.size,0,none⟩ 0 [.string D,slV E,slV F,.int .i64 G,.string I,slV J,slV L]/\R (.tuple #[.agg #[.string D,slV E,slV F,.int .i64 G,.string I,slV J,slV L],.bool false]) C))/\((bif (!p)then true else(!u))=false->XRunU Tp (Ai 9 (.pointer (some (Aj ⟨f.size,0,none⟩ 0))) (.string o)) r (λM=>∃N O P Q,ze M ⟨h.size,0,none⟩ 0 [.int .i64 N,.string O,slV P,slV Q]/\XC Tp 91 #[.agg #[.int .i64 N,.string O,slV P,slV Q],.string (⟨#[112,97,116,104]⟩:Bt)] M (λS T=>∃U V,S=.tuple #[slV U,.bool V]/\XRunU Tp (Ai 22 (.pointer (some (Aj ⟨f.size,0,none⟩ 1))) (slV U)) T (λW=>∀X:Bool->zb->Prop,(∀Y:Bool,∀Z:zb,(∀aa:Bool->zb->Prop,(∀ab:Bool,∀ac:zb,(∃ad ae af ag ah ai aj,ze ac ⟨f.size,0,none⟩ 0 [.string ad,slV ae,slV af,.int .i64 ag,.string ah,slV ai,slV aj]/\XRunU Tp (Ai 38 (.pointer (some ⟨f.size,0,none⟩)) (.agg #[.string ad,slV ae,slV af,.int .i64 ag,.string ah,slV ai,slV aj])) ac (λak=>∃al am an ao ap aq ar,ze ak ⟨f.size,0,none⟩ 0 [.string al,slV am,slV an,.int .i64 ao,.string ap,slV aq,slV ar]/\R (.tuple #[.agg #[.string al,slV am,slV an,.int .i64 ao,.string ap,slV aq,slV ar],.bool ab]) ak))->aa ab ac)->((bif s then Y else false)=true->∃au av aw ax,ze Z ⟨h.size,0,none⟩ 0 [.int .i64 au,.string av,slV aw,slV ax]/\XC Tp 92 #[.agg #[.int .i64 au,.string av,slV aw,slV ax],.string (⟨#[118,97,108,117,101]⟩:Bt)] Z (λay az=>∃aA aB aC aD aE,ay=.tuple #[.agg #[.int .i64 aA,.string aB,slV aC,slV aD],.bool aE]/\XRunU Tp (Ai 25 (.pointer (some (Aj ⟨f.size,0,none⟩ 3))) (.agg #[.int .i64 aA,.string aB,slV aC,slV aD])) az (λaF=>aa aE aF)))/\((bif s then Y else false)=false->aa Y Z))->X Y Z)->((bif t then V else false)=true->∃aG aH aI aJ,ze W ⟨h.size,0,none⟩ 0 [.int .i64 aG,.string aH,slV aI,slV aJ]/\XC Tp 91 #[.agg #[.int .i64 aG,.string aH,slV aI,slV aJ],.string (⟨#[102,114,111,109]⟩:Bt)] W (λaL aM=>∃aN aO,aL=.tuple #[slV aN,.bool aO]/\XRunU Tp (Ai 22 (.pointer (some (Aj ⟨f.size,0,none⟩ 2))) (slV aN)) aM (λaP=>X aO aP)))/\((bif t then V else false)=false->X V W)))))))):
  XC Tp 53 #[.agg #[.int .i64 b,.string c,.slice d.a d.len d.cap,.slice e.a e.len e.cap]] h R:=
 XF ⟨[],[],[(9,[(3,.one (.bool))]),(11,[(3,.one (.bool))])]⟩ [.cell 2 38,.tmp 3] 56 Tryz.func53 H
theorem zev(b:Int)(c:Bt)(d:Sl)(e:Sl)(h:zb)(R:Value->zb->Prop)
  (H:let f:=h.push (.cells #[.int .i64 b,.string c,slV d,slV e] 25);let g:=f.push (.cells #[.string (⟨#[]⟩:Bt),.slice none 0 0,.slice none 0 0,.int .i64 0,.string (⟨#[]⟩:Bt),.slice none 0 0,.slice none 0 0] 38);∃i j k l,ze g ⟨h.size,0,none⟩ 0 [.int .i64 i,.string j,slV k,slV l]/\XC Tp 93 #[.agg #[.int .i64 i,.string j,slV k,slV l],.string (⟨#[111,112]⟩:Bt)] g (λm n=>∃o p q r s,m=.tuple #[.agg #[.int .i64 o,.string p,slV q,slV r],.bool s]/\let t:=n.push (.cells #[.int .i64 0,.string (⟨#[]⟩:Bt),.slice none 0 0,.slice none 0 0] 25);XRunU Tp (Ai 25 (.pointer (some ⟨n.size,0,none⟩)) (.agg #[.int .i64 o,.string p,slV q,slV r])) t (λu=>∃v,zk u (Aj ⟨n.size,0,none⟩ 1)=some (.string v)/\XC Tp 39 #[.string v] u (λw x=>∃y z A,w=.tuple #[.bool y,.bool z,.bool A]/\∃B,((!(!s))=true->zk x (Aj ⟨n.size,0,none⟩ 0)=some (.int .i64 B))/\((bif (bif (!s)then true else(B != 4))then true else(!A))=true->XRunU Tp (Ai 38 (.pointer (some ⟨f.size,0,none⟩)) (.agg #[.string (⟨#[]⟩:Bt),.slice none 0 0,.slice none 0 0,.int .i64 0,.string (⟨#[]⟩:Bt),.slice none 0 0,.slice none 0 0])) x (λC=>∃D E F G I J L,ze C ⟨f.size,0,none⟩ 0 [.string D,slV E,slV F,.int .i64 G,.string I,slV J,slV L]/\R (.tuple #[.agg #[.string D,slV E,slV F,.int .i64 G,.string I,slV J,slV L],.bool false]) C))/\((bif (bif (!s)then true else(B != 4))then true else(!A))=false->∃M N O P,ze x ⟨h.size,0,none⟩ 0 [.int .i64 M,.string N,slV O,slV P]/\XC Tp 94 #[.agg #[.int .i64 M,.string N,slV O,slV P],.string (⟨#[112,97,116,104]⟩:Bt)] x (λQ S=>∃T U,Q=.tuple #[slV T,.bool U]/\∃V,zk S (Aj ⟨n.size,0,none⟩ 1)=some (.string V)/\let W:=S.push (.cells #[.string (⟨#[]⟩:Bt),.slice none 0 0,.slice none 0 0,.int .i64 0,.string (⟨#[]⟩:Bt),.slice none 0 0,.slice none 0 0] 38);XRunU Tp (Ai 38 (.pointer (some ⟨S.size,0,none⟩)) (.agg #[.string V,slV T,.slice none 0 0,.int .i64 0,.string (⟨#[]⟩:Bt),.slice none 0 0,.slice none 0 0])) W (λX=>∀Y:Bool->zb->Prop,(∀Z:Bool,∀aa:zb,(∀ab:Bool->zb->Prop,(∀ac:Bool,∀ad:zb,(∃ae af ag ah ai aj ak,ze ad ⟨S.size,0,none⟩ 0 [.string ae,slV af,slV ag,.int .i64 ah,.string ai,slV aj,slV ak]/\XRunU Tp (Ai 38 (.pointer (some ⟨f.size,0,none⟩)) (.agg #[.string ae,slV af,slV ag,.int .i64 ah,.string ai,slV aj,slV ak])) ad (λal=>∃am an ao ap aq ar au,ze al ⟨f.size,0,none⟩ 0 [.string am,slV an,slV ao,.int .i64 ap,.string aq,slV ar,slV au]/\R (.tuple #[.agg #[.string am,slV an,slV ao,.int .i64 ap,.string aq,slV ar,slV au],.bool ac]) al))->ab ac ad)->(y=true->∃av aw ax ay,ze aa ⟨h.size,0,none⟩ 0 [.int .i64 av,.string aw,slV ax,slV ay]/\XC Tp 93 #[.agg #[.int .i64 av,.string aw,slV ax,slV ay],.string (⟨#[118,97,108,117,101]⟩:Bt)] aa (λaz aA=>∃aB aC aD aE aF,az=.tuple #[.agg #[.int .i64 aB,.string aC,slV aD,slV aE],.bool aF]/\let aG:=aA.push (.cells #[.int .i64 0,.string (⟨#[]⟩:Bt),.slice none 0 0,.slice none 0 0] 25);XRunU Tp (Ai 25 (.pointer (some ⟨aA.size,0,none⟩)) (.agg #[.int .i64 aB,.string aC,slV aD,slV aE])) aG (λaH=>∃aI aJ aL aM,ze aH ⟨aA.size,0,none⟩ 0 [.int .i64 aI,.string aJ,slV aL,slV aM]/\XRunU Tp (Ai 25 (.pointer (some (Aj ⟨S.size,0,none⟩ 3))) (.agg #[.int .i64 aI,.string aJ,slV aL,slV aM])) aH (λaN=>ab (bif Z then aF else false) aN))))/\(y=false->ab Z aa))->Y Z aa)->(z=true->∃aO aP aQ aS,ze X ⟨h.size,0,none⟩ 0 [.int .i64 aO,.string aP,slV aQ,slV aS]/\XC Tp 94 #[.agg #[.int .i64 aO,.string aP,slV aQ,slV aS],.string (⟨#[102,114,111,109]⟩:Bt)] X (λaT aU=>∃aV aW,aT=.tuple #[slV aV,.bool aW]/\XRunU Tp (Ai 22 (.pointer (some (Aj ⟨S.size,0,none⟩ 2))) (slV aV)) aU (λaX=>Y (bif U then aW else false) aX)))/\(z=false->Y U X)))))))):
  XC Tp 54 #[.agg #[.int .i64 b,.string c,.slice d.a d.len d.cap,.slice e.a e.len e.cap]] h R:=
 XF ⟨[],[],[(11,[(10,.one (.bool))]),(15,[(10,.one (.bool))])]⟩ [.cell 2 38,.tmp 3] 75 Tryz.func54 H
theorem zew(l0:Sl)(h:zb)(R:Value->zb->Prop)
  (H:let b:=h.push (.cells #[.int .i64 0,.string (⟨#[]⟩:Bt),.slice none 0 0,.slice none 0 0] 25);∃(c:Int->zb->Prop) (d:Int->zb->Nat),c 0 b/\∀e:Int,∀f:zb,c e f->((decide (e<l0.len)=true->∃g,(l0.a=some g/\0<=e/\e<l0.len)/\∃i j k l m n o,ze f (g.add (e.toNat*7)) 0 [.string i,slV j,slV k,.int .i64 l,.string m,slV n,slV o]/\XC Tp 18 #[.agg #[.string i,slV j,slV k,.int .i64 l,.string m,slV n,slV o]] f (λp q=>∃r,p=.bool r/\((!r)=true->XRunU Tp (Ai 25 (.pointer (some ⟨h.size,0,none⟩)) (.agg #[.int .i64 0,.string (⟨#[]⟩:Bt),.slice none 0 0,.slice none 0 0])) q (λs=>∃t u v w,ze s ⟨h.size,0,none⟩ 0 [.int .i64 t,.string u,slV v,slV w]/\R (.tuple #[.agg #[.int .i64 t,.string u,slV v,slV w],.int .i64 1]) s))/\((!r)=false->(c (Aa .i64 (e+1)) q/\d (Aa .i64 (e+1)) q<d e f))))/\(decide (e<l0.len)=false->(decide ((l0.len:Int)>4096)=true->XRunU Tp (Ai 25 (.pointer (some ⟨h.size,0,none⟩)) (.agg #[.int .i64 0,.string (⟨#[]⟩:Bt),.slice none 0 0,.slice none 0 0])) f (λx=>∃y z A B,ze x ⟨h.size,0,none⟩ 0 [.int .i64 y,.string z,slV A,slV B]/\R (.tuple #[.agg #[.int .i64 y,.string z,slV A,slV B],.int .i64 6]) x))/\(decide ((l0.len:Int)>4096)=false->let C:=f.push (.cells #[.int .i64 0,.string (⟨#[]⟩:Bt),.slice none 0 0,.slice none 0 0] 25);XRunU Tp (Ai 25 (.pointer (some ⟨f.size,0,none⟩)) (.agg #[.int .i64 5,.string (⟨#[]⟩:Bt),.slice none 0 0,.slice none 0 0])) C (λD=>∃(E:Int->zb->Prop) (F:Int->zb->Nat),E 0 D/\∀G:Int,∀I:zb,E G I->((decide (G<l0.len)=true->∃J,(l0.a=some J/\0<=G/\G<l0.len)/\∃L,zk I (Aj (J.add (G.toNat*7)) 0)=some (.string L)/\XC Tp 39 #[.string L] I (λM N=>∃O P Q,M=.tuple #[.bool O,.bool P,.bool Q]/\∃S,(l0.a=some S/\0<=G/\G<l0.len)/\∃T,zk N (Aj (S.add (G.toNat*7)) 1)=some (slV T)/\XC Tp 51 #[slV T] N (λU V=>∃W X,U=.tuple #[.string W,.int .i64 X]/\let Y:=V.push (.cells #[.string (⟨#[111,112]⟩:Bt),.string (⟨#[112,97,116,104]⟩:Bt)] 9);∃Z,(l0.a=some Z/\0<=G/\G<l0.len)/\∃aa,zk Y (Aj (Z.add (G.toNat*7)) 0)=some (.string aa)/\XC Tp 52 #[.string aa] Y (λab ac=>∃ad ae af ag,ab=.agg #[.int .i64 ad,.string ae,slV af,slV ag]/\XC Tp 52 #[.string W] ac (λah ai=>∃aj ak al am,ah=.agg #[.int .i64 aj,.string ak,slV al,slV am]/\let an:=ai.push (.cells #[.int .i64 ad,.string ae,slV af,slV ag,.int .i64 aj,.string ak,slV al,slV am] 25);let ao:=an.push (.cells #[.int .i64 0,.string (⟨#[]⟩:Bt),.slice none 0 0,.slice none 0 0] 25);XRunU Tp (Ai 25 (.pointer (some ⟨an.size,0,none⟩)) (.agg #[.int .i64 6,.string (⟨#[]⟩:Bt),.slice (some ⟨V.size,0,none⟩) 2 2,.slice (some ⟨ai.size,0,none⟩) 2 2])) ao (λap=>∀aq:zb->Prop,(∀ar:zb,(∀au:zb->Prop,(∀av:zb,(∃aw,zk av (Aj ⟨f.size,0,none⟩ 3)=some (slV aw)/\∃ax ay az aA,ze av ⟨an.size,0,none⟩ 0 [.int .i64 ax,.string ay,slV az,slV aA]/\let aB:=av.push (.cells #[.int .i64 ax,.string ay,slV az,slV aA] 25);XRun Tp (Au #[23,23] 23 #[slV aw,.slice (some ⟨av.size,0,none⟩) 1 1]) aB (λaC aD=>∃aE,aC=slV aE/\XRunU Tp (Ai 23 (.pointer (some (Aj ⟨f.size,0,none⟩ 3))) (slV aE)) aD (λaF=>(E (Aa .i64 (G+1)) aF/\F (Aa .i64 (G+1)) aF<F G I))))->au av)->(O=true->∃aG,zk ar (Aj ⟨an.size,0,none⟩ 2)=some (slV aG)/\let aH:=ar.push (.cells #[.string (⟨#[118,97,108,117,101]⟩:Bt)] 9);XRun Tp (Au #[22,22] 22 #[slV aG,.slice (some ⟨ar.size,0,none⟩) 1 1]) aH (λaI aJ=>∃aL,aI=slV aL/\XRunU Tp (Ai 22 (.pointer (some (Aj ⟨an.size,0,none⟩ 2))) (slV aL)) aJ (λaM=>∃aN,zk aM (Aj ⟨an.size,0,none⟩ 3)=some (slV aN)/\∃aO,(l0.a=some aO/\0<=G/\G<l0.len)/\∃aP aQ aS aT,ze aM (Aj (aO.add (G.toNat*7)) 3) 0 [.int .i64 aP,.string aQ,slV aS,slV aT]/\XC Tp 12 #[.agg #[.int .i64 aP,.string aQ,slV aS,slV aT]] aM (λaU aV=>∃aW aX aY aZ,aU=.agg #[.int .i64 aW,.string aX,slV aY,slV aZ]/\(aV)[((Aj ⟨an.size,0,none⟩ 3):Addr).block]?=(aM)[((Aj ⟨an.size,0,none⟩ 3):Addr).block]?/\let a0:=aV.push (.cells #[.int .i64 aW,.string aX,slV aY,slV aZ] 25);(a0)[((Aj ⟨an.size,0,none⟩ 3):Addr).block]?=(aM)[((Aj ⟨an.size,0,none⟩ 3):Addr).block]?/\XRun Tp (Au #[23,23] 23 #[slV aN,.slice (some ⟨aV.size,0,none⟩) 1 1]) a0 (λa1 a2=>∃a3,a1=slV a3/\XRunU Tp (Ai 23 (.pointer (some (Aj ⟨an.size,0,none⟩ 3))) (slV a3)) a2 (λa4=>au a4))))))/\(O=false->au ar))->aq ar)->(P=true->∃a5,(l0.a=some a5/\0<=G/\G<l0.len)/\∃a6,zk ap (Aj (a5.add (G.toNat*7)) 2)=some (slV a6)/\XC Tp 51 #[slV a6] ap (λa7 a8=>∃a9 ba,a7=.tuple #[.string a9,.int .i64 ba]/\∃bb,zk a8 (Aj ⟨an.size,0,none⟩ 2)=some (slV bb)/\let bc:=a8.push (.cells #[.string (⟨#[102,114,111,109]⟩:Bt)] 9);XRun Tp (Au #[22,22] 22 #[slV bb,.slice (some ⟨a8.size,0,none⟩) 1 1]) bc (λbd be=>∃bf,bd=slV bf/\XRunU Tp (Ai 22 (.pointer (some (Aj ⟨an.size,0,none⟩ 2))) (slV bf)) be (λbg=>∃bh,zk bg (Aj ⟨an.size,0,none⟩ 3)=some (slV bh)/\XC Tp 52 #[.string a9] bg (λbi bj=>∃bk bl bm bn,bi=.agg #[.int .i64 bk,.string bl,slV bm,slV bn]/\(bj)[((Aj ⟨an.size,0,none⟩ 3):Addr).block]?=(bg)[((Aj ⟨an.size,0,none⟩ 3):Addr).block]?/\let bo:=bj.push (.cells #[.int .i64 bk,.string bl,slV bm,slV bn] 25);(bo)[((Aj ⟨an.size,0,none⟩ 3):Addr).block]?=(bg)[((Aj ⟨an.size,0,none⟩ 3):Addr).block]?/\XRun Tp (Au #[23,23] 23 #[slV bh,.slice (some ⟨bj.size,0,none⟩) 1 1]) bo (λbp bq=>∃br,bp=slV br/\XRunU Tp (Ai 23 (.pointer (some (Aj ⟨an.size,0,none⟩ 3))) (slV br)) bq (λbs=>aq bs)))))))/\(P=false->aq ap)))))))/\(decide (G<l0.len)=false->∃bt bu bv bw,ze I ⟨f.size,0,none⟩ 0 [.int .i64 bt,.string bu,slV bv,slV bw]/\XC Tp 34 #[.agg #[.int .i64 bt,.string bu,slV bv,slV bw]] I (λbx bz=>∃bA,bx=.bool bA/\((!bA)=true->XRunU Tp (Ai 25 (.pointer (some ⟨h.size,0,none⟩)) (.agg #[.int .i64 0,.string (⟨#[]⟩:Bt),.slice none 0 0,.slice none 0 0])) bz (λbB=>∃bC bD bE bF,ze bB ⟨h.size,0,none⟩ 0 [.int .i64 bC,.string bD,slV bE,slV bF]/\R (.tuple #[.agg #[.int .i64 bC,.string bD,slV bE,slV bF],.int .i64 1]) bB))/\((!bA)=false->∃bG bH bI bJ,ze bz ⟨f.size,0,none⟩ 0 [.int .i64 bG,.string bH,slV bI,slV bJ]/\XRunU Tp (Ai 25 (.pointer (some ⟨h.size,0,none⟩)) (.agg #[.int .i64 bG,.string bH,slV bI,slV bJ])) bz (λbL=>∃bM bN bO bP,ze bL ⟨h.size,0,none⟩ 0 [.int .i64 bM,.string bN,slV bO,slV bP]/\R (.tuple #[.agg #[.int .i64 bM,.string bN,slV bO,slV bP],.int .i64 0]) bL)))))))))):
  XC Tp 23 #[.slice l0.a l0.len l0.cap] h R:=
 XF ⟨[(22,8000),(19,8000)],[(2,[(4,.one (.int .i64))]),(11,[(7,.one (.int .i64))])],[(20,[]),(23,[])]⟩ [.cell 2 25,.tmp 3] 123 Tryz.func23 H
end
section
theorem OKeys.rd{h:zb}{M:Fr}{ks:List Bt}{bs:List Nat}{s:Sl}(H:OKeys h ks bs s)(hM:∀b∈bs,∀cs,Blk h b cs->M b=some cs):Rd M (.row .str) ks [slV s]:=by
 obtain⟨k1,k2,k3,k4⟩:=H
 refine⟨slV s,rfl,s.a,s.cap,by rw[slV,k1],⟨k2,k3⟩,?_⟩
 rcases k4 with⟨h0,_⟩|⟨b',cs',rfl,e1,e2,_,e3⟩
 ·exact .inl h0
 ·refine .inr ⟨b',0,cs',e1,hM b' (by simp) cs' e2,λi hx=>?_⟩
  have:(cut cs' 0 ks.length)[i]?=some (AU ks[i]):=by rw[e3,B5,Am hx];rfl
  unfold cut at this
  rw[AF,if_pos hx,A2]at this
  have O:=(Az.1 this).1
  show cut cs' (0+i*1) 1=[AU ks[i]]
  unfold cut
  rw[AH,Cg,AE O,BV,Cz]
  rw[Am O]at this
  rw[Ax this]
end
section
structure AddSt (h:zb) (M:Fr) (v w:Tr) (sk si wk wi:Sl) (bv bw br:Nat) (g:zb) (M':Fr):Prop where
 later:Later h M g M'
 no:M' br=none
 v:Blk g bv (zd v.kind v.text sk si).toArray
 w:Blk g bw (zd w.kind w.text wk wi).toArray
 r:Blk g br (zd 0 ⟨#[]⟩ ⟨none,0,0⟩ ⟨none,0,0⟩).toArray
 lt:h.size<=bv/\h.size<=bw/\h.size<=br/\bv<g.size/\bw<g.size/\br<g.size
 ne:bv≠br/\bw≠br
theorem AddSt.step{h:zb}{M:Fr}{v w:Tr}{sk si wk wi:Sl}{bv bw br:Nat}{g g':zb}{M1 M2:Fr}(A:AddSt h M v w sk si wk wi bv bw br g M1)(L:Later g M1 g' M2):AddSt h M v w sk si wk wi bv bw br g' M2:=by
 have hz:=L.keep.size
 obtain⟨l1,l2,l3,l4,l5,l6⟩:=A.lt
 exact⟨A.later.trans L,by rw[L.old _ l6];exact A.no,A.v.ofKeep L.keep,A.w.ofKeep L.keep,A.r.ofKeep L.keep,⟨l1,l2,l3,by omega,by omega,by omega⟩,A.ne⟩
end
section
variable {b:Bs} {gl:Fr} {R:Bool -> Prop}
theorem qge:Yq (qt (Lib.itoa 9)).1=[57]:=by kernel_rfl
def o1:OpT:=(⟨#[97,100,100]⟩,[⟨#[97]⟩,⟨#[49]⟩],[],.mk 3 (bl [57]) [] [])
def o2:OpT:=(⟨#[114,101,109,111,118,101]⟩,[⟨#[97]⟩,⟨#[48]⟩],[],.mk 0 ⟨#[]⟩ [] [])
def o3:OpT:=(⟨#[109,111,118,101]⟩,[⟨#[48]⟩],[⟨#[48]⟩,⟨#[48]⟩],.mk 0 ⟨#[]⟩ [] [])
def o4:OpT:=(⟨#[116,101,115,116]⟩,[⟨#[48]⟩],[],.mk 3 (bl [50]) [] [])
def smR:Tr:=.mk 5 ⟨#[]⟩ [] [.mk 3 (bl [49]) [] []]
def smU:Tr:=.mk 6 ⟨#[]⟩ [⟨#[97]⟩] [.mk 5 ⟨#[]⟩ [] [.mk 3 (bl [57]) [] [],.mk 3 (bl [50]) [] []]]
theorem qgf:zj5 smT [o1,o2]=(smU,2,0):=by kernel_rfl
theorem qgg:zj5 smR [o3]=(zT,0,8):=by kernel_rfl
theorem qgh:zj5 smR [o4]=(zT,0,9):=by kernel_rfl
theorem qgi:qal smU [⟨#[97]⟩,⟨#[48]⟩]=(.mk 3 (bl [57]) [] [],true):=by kernel_rfl
theorem zpe(hb:b.length<=2048):txS (.mk 3 (bl b) [] []):=by
 rw[txS,zkj];exact⟨⟨by rw[zj];exact hb,by simp⟩,trivial⟩
theorem z3d(hb:b.length<=2048):Sm (.mk 3 (bl b) [] []):=Sm.few (by rw[tks,zmh];simp) (zpe hb)
theorem z8m:Sm smR:=by
 refine Sm.few ?_ ?_
 ·have:tks smR=2:=by kernel_rfl
  omega
 ·unfold smR
  rw[txS,zkj,zkj]
  exact⟨⟨by decide,by simp⟩,zpe (by decide),trivial⟩
theorem qd5:Sm smU:=by
 refine Sm.few ?_ ?_
 ·have:tks smU=5:=by kernel_rfl
  omega
 ·unfold smU
  rw[txS,zkj,zkj,txS,zkj,zkj,zkj]
  exact⟨⟨by decide,by decide⟩,⟨⟨by decide,by simp⟩,zpe (by decide),zpe (by decide),trivial⟩,trivial⟩
theorem zv7:SL []:=⟨by decide,by simp⟩
theorem zx9(hg:GL gl)(hR:R true):PC Tp gl 9 [] [.bool] R:=by
 apply zct
 refine zvs hg (by decide) (by decide) ?_
 refine zvs hg (by decide) (by decide) ?_
 rw[qgb,qf5]
 refine z1o ?_
 refine qds ?_
 refine zvs hg (by decide) (by decide) ?_
 rw[qge]
 refine zpb hg (v:=smT) (l:=[o1,o2]) qd2 (λo ho=>?_) (by decide) ?_
 ·rcases Af.1 ho with rfl|ho
  ·exact⟨za3 (by decide) (by decide),zv7,z3d (by decide)⟩
  ·rcases Af.1 ho with rfl|ho
   ·exact⟨za3 (by decide) (by decide),zv7,Ji⟩
   ·cases ho
 rw[qgf]
 refine z1o ?_
 refine zpb hg (v:=smR) (l:=[o3]) z8m (λo ho=>?_) (by decide) ?_
 ·rcases Af.1 ho with rfl|ho
  ·exact⟨za3 (by decide) (by decide),za3 (by decide) (by decide),Ji⟩
  ·cases ho
 rw[qgg]
 refine z1o ?_
 refine zvs hg (by decide) (by decide) ?_
 rw[qf5]
 refine zpb hg (v:=smR) (l:=[o4]) z8m (λo ho=>?_) (by decide) ?_
 ·rcases Af.1 ho with rfl|ho
  ·exact⟨za3 (by decide) (by decide),zv7,z3d (by decide)⟩
  ·cases ho
 rw[qgh]
 refine qa1 hg (v:=smU) qd5 (za3 (by decide) (by decide)) ?_
 rw[qgi]
 have key:∀b,b=true->R b:=λb hb=>hb ▸ hR
 exact key _ (by kernel_rfl)
structure OpF (o:OpT):Prop where
 p:PS o.2.1
 f:PS o.2.2.1
 v:Sm o.2.2.2
 t:tks o.2.2.2<=200
 d:o.1.size<=100
theorem OpF.s{o:OpT}(h:OpF o):OpS o:=⟨PS.sl h.p,PS.sl h.f,h.v⟩
theorem z7e{l:List OpT}(h:∀b,(b=true->l.length<=30/\∀o∈l,OpF o)->R b):PC Tp gl 11 [Arg.mk (.row Z1) l] [.bool] R:=by
 refine PC.bd λaf=>?_
 have hb:l.length<=140737488355328:=af ⟨.row Z1,l⟩ (by simp)
 apply zfz
 refine⟨λi=>∃k:Nat,i=k/\k<=l.length/\k<=40/\∀o∈l.take k,OpF o,λi=>l.length-i.toNat,⟨0,rfl,by omega,by omega,by simp⟩,?_⟩
 rintro i ⟨k,rfl,hk,ai,h1⟩
 refine⟨λhc=>?_,λhc=>?_⟩
 ·have ah:(k:Int)<l.length/\(k:Int)<40:=by simpa using hc
  have O:k<l.length:=by omega
  have hy:l[(k:Int).toNat]?=some l[k]:=by rw[Ad];exact Am O
  refine⟨l[k],⟨by omega,hy⟩,zvr λb1 Z=>⟨l[k],λ_=>⟨by omega,hy⟩,λb=>b=true->PS l[k].2.2.1,λ_=>zvr λb hb=>hb,λb2 aa=>⟨l[k],λ_=>⟨by omega,hy⟩,λb=>b=true->tks l[k].2.2.2<=200/\Sm l[k].2.2.2,λ_=>?_,λb3 ac=>⟨l[k],λ_=>⟨by omega,hy⟩,λhx=>?_,λhx=>?_⟩⟩⟩⟩
  ·rw[qo];exact z8d (by omega) λb hb e=>⟨by have:=(hb e).1;omega,(hb e).2⟩
  ·exact h false (λe=>by cases e)
  ·have hs:b1=true/\b2=true/\b3=true/\l[k].1.size<=100:=by
    cases b1 <;> cases b2 <;> cases b3 <;> simp at hx
    exact⟨rfl,rfl,rfl,by omega⟩
   obtain⟨e1,e2,e3,hd⟩:=hs
   have h3:=ac (by rw[e1,e2];rfl) e3
   have hO:OpF l[k]:=⟨Z e1,aa e1 e2,h3.2,h3.1,hd⟩
   rw[w64 (by omega)]
   refine⟨⟨k+1,by omega,by omega,by omega,λo ho=>?_⟩,by simp only[Ad];omega⟩
   rw[Ag O]at ho
   rcases An.1 ho with ho|ho
   ·exact h1 o ho
   ·rw[Be.1 ho];exact hO
 ·refine h _ λe=>?_
  have e':(l.length:Int)<=30:=by simpa using e
  have ae:k=l.length:=by
   have:¬((k:Int)<l.length/\(k:Int)<40):=by simpa using hc
   omega
  subst ae
  rw[AD]at h1
  exact⟨by omega,h1⟩
end
section
theorem zya:qh []=true:=by kernel_rfl
end
end Go.X
end
