/- A part of the proof: nothing is stated here for its own sake. -/
import Derived.Test.YtplilfikcimcbaaGreatDoorPhC
import Derived.Lib.AppendZerosOnto
import Derived.RangeFuncCalls
open _root_.Go.Addr renaming add->Ua
open _root_.Array renaming getD_eq_getD_getElem?->Vm,getElem?_append_left->V5,getElem?_eq_some_iff->Ut,getElem?_setIfInBounds_ne->Vy,getElem?_toList->VF,push->VJ,replicate->VL,size->UA,size_push->Ur,size_setIfInBounds->U6
open _root_.Bool renaming and_eq_false_iff->VW,and_eq_true->Ui,and_true->V4,eq_iff_iff->Uy,false_eq_true->UR,false_or->XN,or_eq_false_iff->XB,or_eq_true->Vq,true_and->Vo
open _root_.Go.Builtin renaming append_->Ug
open _root_.Go.Code renaming cond->YJ,region->YR
open _root_.Go.Deferred renaming ofValue->XW
open _root_.Go.Instr renaming lookup->XG,mapUpdate->VC,next->WS,storeAt->Ub
open _root_.Int renaming toNat_natCast->Ue
open _root_.Go.IntKind renaming wrap->T9
open _root_.List renaming all_append->WX,all_cons->WQ,all_eq_true->Us,append_assoc->UB,append_nil->UM,cons_append->UF,dropWhile_cons->WM,drop_drop->Vl,drop_eq_getElem_cons->UZ,drop_eq_nil_of_le->Vr,drop_zero->VD,exists_cons_of_ne_nil->U9,ext_getElem?->Vd,getElem?_append_left->VQ,getElem?_append_right->VK,getElem?_eq_getElem->Ul,getElem?_eq_none->WC,getElem?_eq_some_iff->UE,getElem?_map->U2,getElem?_modify->Vj,getElem?_take->UU,getElem_append_left->Vt,getElem_append_right->VP,getElem_mem->Up,length->VA,length_append->Uf,length_cons->Uk,length_drop->UD,length_eq_zero_iff->Vk,length_map->Um,length_nil->UG,length_pos_iff->U5,length_replicate->VI,length_take->UQ,map_append->U7,map_cons->Uq,map_map->U3,map_nil->V6,mem_append->Uv,mem_append_left->Un,mem_append_right->Uw,mem_cons->Uj,mem_cons_of_mem->Uo,mem_cons_self->Uu,mem_filter->WV,mem_flatMap->VO,mem_map->US,mem_of_getElem?->Vf,mem_range->UY,mem_singleton->Vb,nil_append->UX,not_mem_nil->XY,range->U8,replicate->Vh,take_length->Uz,take_succ_cons->V7,take_succ_eq_append_getElem->Uh,take_zero->WU
open _root_.List.cons renaming injEq->Vu
open _root_.Nat renaming add_zero->WP,blt_eq->YK,eq_of_beq_eq_true->Ux,le_of_ble_eq_true->VE,le_of_lt->XX,le_refl->Uc,le_trans->VB,lt_or_ge->U1,min_eq_left->V9,mul_le_mul_right->UC,mul_one->Vz,one_mul->YM,pow_succ->YI,strongRecOn->YD,succ_mul->WO,zero_add->UI,zero_le->UH
open _root_.Option renaming bind_some->VM,map_some->XK
open _root_.Option.some renaming inj->UO,injEq->Ud
open _root_.Prod.mk renaming injEq->Vg
open _root_.Go.Region renaming wanted->UV
open _root_.UInt8 renaming ofNat->UL
open _root_.Go.Utf8 renaming decode->YS
open _root_.Go.Value.slice renaming injEq->UW
open _root_.Go.Value renaming string->UJ
set_option linter.unusedVariables false
set_option maxRecDepth 100000
namespace Go.X
end Go.X
namespace Go.Proofs
end Go.Proofs
open Go Go.X Go.Proofs
open _root_.Bool renaming true->Ta,false->Tc
open _root_.Option renaming some->Td,none->Te
namespace Go.X
section
theorem MC(b:Int)(c:Bt)(d:Sl)(e:Sl)(h:zb)(R:Value->zb->Prop) (H:let f:=h.push (.cells #[iV b,.string c,aK d,aK e] 25);∃g i j k,zd f ⟨h.size,0,Te⟩ 0 (tL g i j k)/\XC Tp 49 #[tA g i j k] f (λl m=>∃n,l=.bool n/\((!n)=Ta->R (.tuple #[.string (⟨#[]⟩:Bt),iV 1]) m)/\((!n)=Tc->let o:=m.push (.cells #[.pointer Te,.slice Te 0 0,.bool Tc,iV 0] 207);∃p q r s,zd o ⟨h.size,0,Te⟩ 0 (tL p q r s)/\XC Tp 201 #[.pointer (Td ⟨m.size,0,Te⟩),tA p q r s,iV 0] o (λt u=>t=.tuple #[]/\XC Tp 70 #[.pointer (Td (Ua ⟨m.size,0,Te⟩ 0))] u (λv w=>∃x,v=.string x/\R (.tuple #[.string x,iV 0]) w))))):
  XC Tp 126 #[.agg #[.int .i64 b,.string c,.slice d.a d.len d.cap,.slice e.a e.len e.cap]] h R:=
 XF ⟨[],[],[]⟩ [.tmp 2,.tmp 3] 12 Tryz.func126 H
theorem Xw(L:Option Addr)(b:Int)(c:Bt)(d:Sl)(e:Sl)(J:Int)(h:zb)(R:Value->zb->Prop) (H:let f:=h.push (.cells #[iV b,.string c,aK d,aK e] 25);∃g,zc f (Ua ⟨h.size,0,Te⟩ 0)=Td (iV g)/\((g==1)=Ta->∃i,L=Td i/\XC Tp 68 #[.pointer (Td (Ua i 0)),.string (⟨#[110,117,108,108]⟩:Bt)] f (λj k=>∃l,∃m:Value,j=.tuple #[iV l,m]/\R (.tuple #[]) k))/\((g==1)=Tc->((g==4)=Ta->∃n,zc f (Ua ⟨h.size,0,Te⟩ 1)=Td (.string n)/\XC Tp 253 #[.pointer L,.string n] f (λo p=>o=.tuple #[]/\R (.tuple #[]) p))/\((g==4)=Tc->((g==5)=Ta->∃q r s t,zd f ⟨h.size,0,Te⟩ 0 (tL q r s t)/\XC Tp 254 #[.pointer L,tA q r s t,iV J,.string (⟨#[91,93]⟩:Bt),.func (.func 255) #[.pointer L] #[]] f (λu v=>u=.tuple #[]/\R (.tuple #[]) v))/\((g==5)=Tc->((g==6)=Ta->∃w x y z,zd f ⟨h.size,0,Te⟩ 0 (tL w x y z)/\XC Tp 254 #[.pointer L,tA w x y z,iV J,.string (⟨#[123,125]⟩:Bt),.func (.func 256) #[.pointer L] #[]] f (λA B=>A=.tuple #[]/\R (.tuple #[]) B))/\((g==6)=Tc->∃C,L=Td C/\∃D,zc f (Ua ⟨h.size,0,Te⟩ 1)=Td (.string D)/\XC Tp 68 #[.pointer (Td (Ua C 0)),.string D] f (λE F=>∃G,∃I:Value,E=.tuple #[iV G,I]/\R (.tuple #[]) F)))))):
  XC Tp 201 #[.pointer L,.agg #[.int .i64 b,.string c,.slice d.a d.len d.cap,.slice e.a e.len e.cap],.int .i64 J] h R:=
 XF ⟨[(2,8000)],[],[]⟩ [] 42 Tryz.func201 H
theorem Xc(k:Option Addr)(s1:Bt)(h:zb)(R:Value->zb->Prop) (H:XC Tp 125 #[.string s1] h (λa b=>∃c d,a=.tuple #[.string c,iV d]/\∃e,k=Td e/\XC Tp 68 #[.pointer (Td (Ua e 0)),.string c] b (λf g=>∃i,∃j:Value,f=.tuple #[iV i,j]/\R (.tuple #[]) g))):
  XC Tp 253 #[.pointer k,.string s1] h R:=
 XF ⟨[],[],[]⟩ [] 16 Tryz.func253 H
theorem Xx(Y:Option Addr)(b:Int)(c:Bt)(d:Sl)(e:Sl)(P:Int)(Q:Bt)(S:FuncId)(V:Array Value)(U:Array Value)(h:zb)(R:Value->zb->Prop) (H:let f:=h.push (.cells #[iV b,.string c,aK d,aK e] 25);∃g,Y=Td g/\(0<=(0:Int)/\(0:Int)<(Q.size:Int))/\XC Tp 133 #[.pointer (Td (Ua g 0)),.int .u8 (ze Q (0:Int).toNat)] f (λi j=>∃k:Value,i=k/\∃l,zc j (Ua ⟨h.size,0,Te⟩ 3)=Td (aK l)/\∃(m:Int->zb->Prop) (n:Int->zb->Nat),m 0 j/\∀o:Int,∀p:zb,m o p->((decide (o<l.len)=Ta->∀q:zb->Prop,(∀r:zb,(XC Tp 307 #[.pointer Y,iV (hZ (P+1))] r (λs t=>s=.tuple #[]/\∃u v w x,zd t ⟨h.size,0,Te⟩ 0 (tL u v w x)/\zo Tp S=Ta/\XC Tp S (V++#[tA u v w x,iV o,iV (hZ (P+1))]++U) t (λy z=>y=.tuple #[]/\(m (hZ (o+1)) z/\n (hZ (o+1)) z<n o p))))->q r)->(decide (o>0)=Ta->∃A,Y=Td A/\XC Tp 133 #[.pointer (Td (Ua A 0)),.int .u8 44] p (λB C=>∃D:Value,B=D/\q C))/\(decide (o>0)=Tc->q p))/\(decide (o<l.len)=Tc->∀E:zb->Prop,(∀F:zb,(∃G,Y=Td G/\(0<=(1:Int)/\(1:Int)<(Q.size:Int))/\XC Tp 133 #[.pointer (Td (Ua G 0)),.int .u8 (ze Q (1:Int).toNat)] F (λI J=>∃L:Value,I=L/\R (.tuple #[]) J))->E F)->∃M,zc p (Ua ⟨h.size,0,Te⟩ 3)=Td (aK M)/\(decide ((M.len:Int)>0)=Ta->XC Tp 307 #[.pointer Y,iV P] p (λN O=>N=.tuple #[]/\E O))/\(decide ((M.len:Int)>0)=Tc->E p))))):
  XC Tp 254 #[.pointer Y,.agg #[.int .i64 b,.string c,.slice d.a d.len d.cap,.slice e.a e.len e.cap],.int .i64 P,.string Q,.func (.func S) V U] h R:=
 XF ⟨[(1,8000),(12,8000)],[(3,[(20,.one (.int .i64))])],[(7,[]),(12,[])]⟩ [] 53 Tryz.func254 H
theorem Pz(r:Option Addr)(b:Int)(c:Bt)(d:Sl)(e:Sl)(q:Int)(p:Int)(h:zb)(R:Value->zb->Prop) (H:let f:=h.push (.cells #[iV b,.string c,aK d,aK e] 25);∃g,zc f (Ua ⟨h.size,0,Te⟩ 3)=Td (aK g)/\∃i,(g.a=Td i/\0<=q/\q<g.len)/\∃j k l m,zd f (i.add (q.toNat*4)) 0 (tL j k l m)/\XC Tp 201 #[.pointer r,tA j k l m,iV p] f (λn o=>n=.tuple #[]/\R (.tuple #[]) o)):
  XC Tp 255 #[.pointer r,.agg #[.int .i64 b,.string c,.slice d.a d.len d.cap,.slice e.a e.len e.cap],.int .i64 q,.int .i64 p] h R:=
 XF ⟨[],[],[]⟩ [] 16 Tryz.func255 H
theorem Xd(J:Option Addr)(b:Int)(c:Bt)(d:Sl)(e:Sl)(I:Int)(G:Int)(h:zb)(R:Value->zb->Prop) (H:let f:=h.push (.cells #[iV b,.string c,aK d,aK e] 25);∃g,zc f (Ua ⟨h.size,0,Te⟩ 2)=Td (aK g)/\∃i,(g.a=Td i/\0<=I/\I<g.len)/\∃j,zc f (i.add (I.toNat*1))=Td (.string j)/\XC Tp 253 #[.pointer J,.string j] f (λk l=>k=.tuple #[]/\∃m,J=Td m/\XC Tp 133 #[.pointer (Td (Ua m 0)),.int .u8 58] l (λn o=>∃p:Value,n=p/\∀q:zb->Prop,(∀r:zb,(∃s,zc r (Ua ⟨h.size,0,Te⟩ 3)=Td (aK s)/\∃t,(s.a=Td t/\0<=I/\I<s.len)/\∃u v w x,zd r (t.add (I.toNat*4)) 0 (tL u v w x)/\XC Tp 201 #[.pointer J,tA u v w x,iV G] r (λy z=>y=.tuple #[]/\R (.tuple #[]) z))->q r)->∃A,J=Td A/\∃B,zc o (Ua A 2)=Td (.bool B)/\(B=Ta->∃C,J=Td C/\XC Tp 133 #[.pointer (Td (Ua C 0)),.int .u8 32] o (λD E=>∃F:Value,D=F/\q E))/\(B=Tc->q o)))):
  XC Tp 256 #[.pointer J,.agg #[.int .i64 b,.string c,.slice d.a d.len d.cap,.slice e.a e.len e.cap],.int .i64 I,.int .i64 G] h R:=
 XF ⟨[],[],[(5,[])]⟩ [] 35 Tryz.func256 H
theorem Kz(s:Option Addr)(r:Int)(h:zb)(R:Value->zb->Prop) (H:∃a,s=Td a/\∃b,zc h (Ua a 2)=Td (.bool b)/\(b=Ta->∃c,s=Td c/\XC Tp 133 #[.pointer (Td (Ua c 0)),.int .u8 10] h (λd e=>∃f:Value,d=f/\∃g,s=Td g/\∃i,s=Td i/\∃j,zc e (Ua i 3)=Td (iV j)/\XC Tp 200 #[.string (⟨#[32]⟩:Bt),iV (hZ (j*r))] e (λk l=>∃m,k=.string m/\XC Tp 68 #[.pointer (Td (Ua g 0)),.string m] l (λn o=>∃p,∃q:Value,n=.tuple #[iV p,q]/\R (.tuple #[]) o))))/\(b=Tc->R (.tuple #[]) h)):
  XC Tp 307 #[.pointer s,.int .i64 r] h R:=
 XF ⟨[(2,8000)],[],[]⟩ [] 23 Tryz.func307 H
theorem N1(b:Int)(c:Bt)(d:Sl)(e:Sl)(h:zb)(R:Value->zb->Prop) (H:let f:=h.push (.cells #[iV b,.string c,aK d,aK e] 25);let g:=f.push (.cells tC 25);∃i j k l,zd g ⟨h.size,0,Te⟩ 0 (tL i j k l)/\XC Tp 83 #[tA i j k l] g (λm n=>∃o,m=.bool o/\((!o)=Ta->XRunU Tp (Ub 25 (.pointer (Td ⟨f.size,0,Te⟩)) (tZ)) n (λp=>∃q r s t,zd p ⟨f.size,0,Te⟩ 0 (tL q r s t)/\R (tA q r s t) p))/\((!o)=Tc->∃u v w x,zd n ⟨h.size,0,Te⟩ 0 (tL u v w x)/\XC Tp 101 #[tA u v w x] n (λy z=>∃A B C D,y=tA A B C D/\XRunU Tp (Ub 25 (.pointer (Td ⟨f.size,0,Te⟩)) (tA A B C D)) z (λE=>∃F G I J,zd E ⟨f.size,0,Te⟩ 0 (tL F G I J)/\R (tA F G I J) E))))):
  XC Tp 56 #[.agg #[.int .i64 b,.string c,.slice d.a d.len d.cap,.slice e.a e.len e.cap]] h R:=
 XF ⟨[],[],[]⟩ [.cell 2 25] 9 Tryz.func56 H
theorem Rw(b:Int)(c:Bt)(d:Sl)(e:Sl)(h:zb)(R:Value->zb->Prop) (H:let f:=h.push (.cells #[iV b,.string c,aK d,aK e] 25);let g:=f.push (.cells tC 25);∃i,zc g (Ua ⟨h.size,0,Te⟩ 0)=Td (iV i)/\∃j,zc g (Ua ⟨h.size,0,Te⟩ 1)=Td (.string j)/\let k:=g.push (.cells tC 25);XRunU Tp (Ub 25 (.pointer (Td ⟨g.size,0,Te⟩)) (.agg #[iV i,.string j,.slice Te 0 0,.slice Te 0 0])) k (λl=>∃m,zc l (Ua ⟨h.size,0,Te⟩ 0)=Td (iV m)/\((m != 6)=Ta->∃n,zc l (Ua ⟨h.size,0,Te⟩ 3)=Td (aK n)/\∃(o:Int->zb->Prop) (p:Int->zb->Nat),o 0 l/\∀q:Int,∀r:zb,o q r->((decide (q<n.len)=Ta->∃s,(n.a=Td s/\0<=q/\q<n.len)/\∃t u v w,zd r (s.add (q.toNat*4)) 0 (tL t u v w)/\let x:=r.push (.cells tC 25);XRunU Tp (Ub 25 (.pointer (Td ⟨r.size,0,Te⟩)) (tA t u v w)) x (λy=>∃z,zc y (Ua ⟨g.size,0,Te⟩ 3)=Td (aK z)/\∃A B C D,zd y ⟨r.size,0,Te⟩ 0 (tL A B C D)/\XC Tp 101 #[tA A B C D] y (λE F=>∃G I J L,E=tA G I J L/\g7 F y (Ua ⟨g.size,0,Te⟩ 3)/\let M:=F.push (.cells #[iV G,.string I,aK J,aK L] 25);g7 M y (Ua ⟨g.size,0,Te⟩ 3)/\XRun Tp (Ug #[23,23] 23 #[aK z,.slice (Td ⟨F.size,0,Te⟩) 1 1]) M (λN O=>∃P,N=aK P/\XRunU Tp (Ub 23 (.pointer (Td (Ua ⟨g.size,0,Te⟩ 3))) (aK P)) O (λQ=>(o (hZ (q+1)) Q/\p (hZ (q+1)) Q<p q r))))))/\(decide (q<n.len)=Tc->∃S T U V,zd r ⟨g.size,0,Te⟩ 0 (tL S T U V)/\XRunU Tp (Ub 25 (.pointer (Td ⟨f.size,0,Te⟩)) (tA S T U V)) r (λW=>∃X Y Z aa,zd W ⟨f.size,0,Te⟩ 0 (tL X Y Z aa)/\R (tA X Y Z aa) W))))/\((m != 6)=Tc->∃ab ac ad ae,zd l ⟨h.size,0,Te⟩ 0 (tL ab ac ad ae)/\XC Tp 142 #[tA ab ac ad ae] l (λaf ag=>∃ah:Option Nat,af=.map ah/\XC Tp 162 #[.map ah] ag (λai aj=>∃ak:Value,ai=ak/\XC Tp 161 #[ak] aj (λal am=>∃an,al=aK an/\XRunU Tp (Ub 22 (.pointer (Td (Ua ⟨g.size,0,Te⟩ 2))) (aK an)) am (λao=>∃ap,zc ao (Ua ⟨g.size,0,Te⟩ 2)=Td (aK ap)/\∃(aq:Int->zb->Prop) (ar:Int->zb->Nat),aq 0 ao/\∀au:Int,∀av:zb,aq au av->((decide (au<ap.len)=Ta->∃aw,(ap.a=Td aw/\0<=au/\au<ap.len)/\∃ax,zc av (aw.add (au.toNat*1))=Td (.string ax)/\∃ay,zc av (Ua ⟨g.size,0,Te⟩ 3)=Td (aK ay)/\∃az aA aB aC,QExec Tp (XG 144 (.map ah) (.string ax) Tc) av (tA az aA aB aC)/\g7 av av (Ua ⟨g.size,0,Te⟩ 3)/\XC Tp 101 #[tA az aA aB aC] av (λaD aE=>∃aF aG aH aI,aD=tA aF aG aH aI/\g7 aE av (Ua ⟨g.size,0,Te⟩ 3)/\let aJ:=aE.push (.cells #[iV aF,.string aG,aK aH,aK aI] 25);g7 aJ av (Ua ⟨g.size,0,Te⟩ 3)/\XRun Tp (Ug #[23,23] 23 #[aK ay,.slice (Td ⟨aE.size,0,Te⟩) 1 1]) aJ (λaL aM=>∃aN,aL=aK aN/\XRunU Tp (Ub 23 (.pointer (Td (Ua ⟨g.size,0,Te⟩ 3))) (aK aN)) aM (λaO=>(aq (hZ (au+1)) aO/\ar (hZ (au+1)) aO<ar au av)))))/\(decide (au<ap.len)=Tc->∃aP aQ aS aT,zd av ⟨g.size,0,Te⟩ 0 (tL aP aQ aS aT)/\XRunU Tp (Ub 25 (.pointer (Td ⟨f.size,0,Te⟩)) (tA aP aQ aS aT)) av (λaU=>∃aV aW aX aY,zd aU ⟨f.size,0,Te⟩ 0 (tL aV aW aX aY)/\R (tA aV aW aX aY) aU)))))))))):
  XC Tp 101 #[.agg #[.int .i64 b,.string c,.slice d.a d.len d.cap,.slice e.a e.len e.cap]] h R:=
 XF ⟨[(6,8000),(14,8000)],[(4,[(20,.one (.int .i64))]),(12,[(42,.one (.int .i64))])],[]⟩ [.cell 2 25] 57 Tryz.func101 H
theorem N4(b:Int)(c:Bt)(d:Sl)(e:Sl)(h:zb)(R:Value->zb->Prop) (H:let f:=h.push (.cells #[iV b,.string c,aK d,aK e] 25);∃g,zc f (Ua ⟨h.size,0,Te⟩ 2)=Td (aK g)/\let i:=f.push (.map #[] 0);∃j,zc i (Ua ⟨h.size,0,Te⟩ 2)=Td (aK j)/\∃(k:Int->zb->Prop) (l:Int->zb->Nat),k 0 i/\∀m:Int,∀n:zb,k m n->((decide (m<j.len)=Ta->∃o,(j.a=Td o/\0<=m/\m<j.len)/\∃p,zc n (o.add (m.toNat*1))=Td (.string p)/\∃q,zc n (Ua ⟨h.size,0,Te⟩ 3)=Td (aK q)/\∃r,(q.a=Td r/\0<=m/\m<q.len)/\∃s t u v,zd n (r.add (m.toNat*4)) 0 (tL s t u v)/\XRunU Tp (VC 144 (.map (Td f.size)) (.string p) (tA s t u v)) n (λw=>(k (hZ (m+1)) w/\l (hZ (m+1)) w<l m n)))/\(decide (m<j.len)=Tc->R (.map (Td f.size)) n))):
  XC Tp 142 #[.agg #[.int .i64 b,.string c,.slice d.a d.len d.cap,.slice e.a e.len e.cap]] h R:=
 XF ⟨[],[(3,[(13,.one (.int .i64))])],[]⟩ [.tmp 2] 27 Tryz.func142 H
theorem OV(b:Int)(c:Bt)(d:Sl)(e:Sl)(h:zb)(R:Value->zb->Prop) (H:let f:=h.push (.cells #[iV b,.string c,aK d,aK e] 25);∃g i j k,zd f ⟨h.size,0,Te⟩ 0 (tL g i j k)/\XC Tp 86 #[tA g i j k] f (λl m=>∃n,l=.bool n/\∃o p q r,(n=Ta->zd m ⟨h.size,0,Te⟩ 0 (tL o p q r))/\∃s:Value->zb->Prop,(n=Ta->XC Tp 87 #[tA o p q r,.func (.func 88) #[] #[]] m (λt u=>∃v,t=.bool v/\s (.bool v) u))/\(n=Tc->∃w,s (.bool w) m)/\(n=Ta->∀x y,s x y->∃z,x=.bool z)/\∀A:Bool,∀B,s (.bool A) B->R (.bool (bif n then A else Tc)) B)):
  XC Tp 49 #[.agg #[.int .i64 b,.string c,.slice d.a d.len d.cap,.slice e.a e.len e.cap]] h R:=
 XF ⟨[],[],[]⟩ [.tmp 2] 9 Tryz.func49 H
end
section
open Go.Lib
section
variable {a:Nat}
abbrev Tk:=Int×Int×Int
def xw:Bs:=[32,9,10,13]
def yl:Bs:=[123,125,91,93,44,58]
def dk:Bs:=[45,43,46,48,49,50,51,52,53,54,55,56,57,101,69]
def eK:Bs:=[45,48,49,50,51,52,53,54,55,56,57]
def w8:Bs:=[97,98,99,100,101,102,103,104,105,106,107,108,109,110,111,112,113,114,115,116,117,118,119,120,121,122]
def Yq(p:UInt8->Bool)(l:Bs):Nat:=(l.takeWhile p).length
theorem AT(p:UInt8->Bool)(l:Bs):Yq p l<=l.length:=(List.takeWhile_sublist p).length_le
theorem Fw{p:UInt8->Bool}{c:UInt8}{l:Bs}(h:p c=Ta):0<Yq p (c::l):=by unfold Yq;rw[List.takeWhile_cons,zA h];simp
theorem uN{p:UInt8->Bool}:∀{l:Bs} {k:Nat} (b:k<=l.length),(∀j (f:j<k),p (l[j]'(by omega))=Ta)->(∀h:k<l.length,p l[k]=Tc)->Yq p l=k
 |[],k,b,h1,h2=>by simp at b;subst b;rfl
 |c::l,0,b,h1,h2=>by have:=h2 (by simp);unfold Yq;rw[List.takeWhile_cons,za (by simp at this;simp[this])];rfl
 |c::l,k+1,b,h1,h2=>by have e:=h1 0 (by omega);simp only[List.getElem_cons_zero]at e;unfold Yq;rw[List.takeWhile_cons,zA e,Uk];have:=uN (p:=p) (l:=l) (k:=k) (by simp at b;omega) (λj f=>by have:=h1 (j+1) (by omega);simpa using this) (λi=>by have:=h2 (by simp;omega);simpa using this);unfold Yq at this;omega
def Qu(s:Bs):Int:=if s=[116,114,117,101]then 10 else if s=[102,97,108,115,101]then 11 else if s=[110,117,108,108]then 12 else 0
def xy(l:Bs)(c:UInt8):Bool:=decide (c∈l)
def Qa(s:Bs)(a:Nat):Int×Nat×Int:=match s.drop a with
 |[]=>(0,a,2)
 |c::t=>
  if c∈yl then(2+indexByte yl c,a+1,0)
  else if c∈xw then(1,a+Yq (xy xw) (c::t),0)
  else if c=34 then(if(y8 s a).2.2=0 then(8,(y8 s a).2.1,0)else(0,(y8 s a).2.1,(y8 s a).2.2))
  else if c∈eK then(if(zm ((c::t).take (Yq (xy dk) (c::t)))).2=0 then(9,a+Yq (xy dk) (c::t),0)else(0,a,(zm ((c::t).take (Yq (xy dk) (c::t)))).2))
  else if Qu ((c::t).take (Yq (xy w8) (c::t)))=0 then(0,a,2)else(Qu ((c::t).take (Yq (xy w8) (c::t))),a+Yq (xy w8) (c::t),0)
theorem QC{t:Bs}(h:(y8 t a).2.2=0):a<(y8 t a).2.1/\(y8 t a).2.1<=t.length:=by
 unfold y8 at h ⊢;split at h;rename_i b;rw[zA b];have:=(yC _ (t.drop (a+1)) rfl).1;have c:a<t.length:=by rcases U1 a t.length with h1|h1;exact h1;rw[Vr h1]at b;cases b
 rw[UD]at this;dsimp only at h ⊢;split at h;rename_i h2;rw[zA h2];dsimp only;omega;cases h;cases h
theorem Jz{s:Bs}(o:a<s.length)(h:(Qa s a).2.2=0):a<(Qa s a).2.1/\(Qa s a).2.1<=s.length:=by
 have k:s.drop a=s[a]::s.drop (a+1):=UZ o;have m:(s[a]::s.drop (a+1)).length=s.length-a:=by rw[<-k,UD]
 have rb:=λp=>AT p (s[a]::s.drop (a+1));rw[m]at rb;unfold Qa at h ⊢;rw[k]at h ⊢;dsimp only at h ⊢;split;dsimp only;omega;rename_i h1;rw[za h1]at h;split;rename_i h2;have:=Fw (p:=xy xw) (l:=s.drop (a+1)) (c:=s[a]) (by unfold xy;exact zE h2);have:=rb (xy xw);dsimp only;omega;rename_i h2;rw[za h2]at h;split;rename_i i;rw[zA i]at h;split at h;rename_i b;rw[zA b];exact QC b;rename_i b;exact absurd h b;rename_i i;rw[za i]at h;split;rename_i b;rw[zA b]at h;split at h;rename_i f;rw[zA f];have n:s[a]∈dk:=by
  have:∀c∈eK,c∈dk:=by decide
  exact this _ b
 have:=Fw (p:=xy dk) (l:=s.drop (a+1)) (c:=s[a]) (by unfold xy;exact zE n);have:=rb (xy dk);dsimp only;omega;rename_i f;exact absurd h f;rename_i b;rw[za b]at h;split at h;cases h;rename_i f;rw[za f];have:0<Yq (xy w8) (s[a]::s.drop (a+1)):=by refine Nat.pos_of_ne_zero λe=>f ?_;rw[e];rfl
 have:=rb (xy w8);dsimp only;omega
def Yd:Nat->Bs->Nat->List Tk->List Tk×Nat×Int
 |0,_,a,o=>(o,a,0)
 |f+1,s,a,o=>if a<s.length then(if(Qa s a).2.2=0 then Yd f s (Qa s a).2.1 (o++[((Qa s a).1,((a:Int),((Qa s a).2.1:Int)))])else([],(Qa s a).2.1,(Qa s a).2.2))else(o,a,0)
def y9(s:Bs):List Tk×Nat×Int:=if 65536<s.length then([],0,3)else Yd s.length s 0 []
end
section
variable {s:Bs}
abbrev Sp:=Int×Int
abbrev Nd:=Int×Sp×Sp×List Int×List Sp
structure PSt where
 rest:List Tk
 last:Int
 nodes:List Nd
abbrev PR(α:Type):=α ⊕ (Int×Int)
def PSt.kind(st:PSt):Int:=match st.rest with | []=>0|t::_=>t.1
def PSt.here(st:PSt)(n:Nat):Int:=match st.rest with | []=>(n:Int)|t::_=>t.2.1
def PSt.skip(st:PSt):PSt:=match st.rest with | []=>st|t::r=>⟨r,t.2.2,st.nodes⟩
def zx(k:Int):Int:=if k=12 then 1 else if k=10\/k=11 then 2 else if k=9 then 3 else if k=8 then 4 else if k=4 then 5 else if k=2 then 6 else 0
def mw(k:Int)(p:Sp)(x:Nd):Nd:=(x.1,x.2.1,x.2.2.1,x.2.2.2.1++[k],x.2.2.2.2++[p])
def iS(t:Int)(x:Nd):Nd:=(x.1,(x.2.1.1,t),x.2.2)
def PSt.addKid(st:PSt)(n:Nat)(k:Int)(p:Sp):PSt:=⟨st.rest,st.last,st.nodes.modify n (mw k p)⟩
def PSt.setTo(st:PSt)(n:Nat):PSt:=⟨st.rest,st.last,st.nodes.modify n (iS st.last)⟩
def PSt.err{α:Type}(st:PSt)(s:Bs)(e:Int):PR α:=.inr (st.here s.length,e)
abbrev dP:=List Bs->PSt->PR (List Bs×PSt)
def J0(s:Bs)(n:Nat)(closing:Int)(kid:dP):Nat->List Bs->PSt->PR PSt
 |0,_,st=>st.err s 2
 |f+1,had,st=>match kid had st with
  |.inr e=>.inr e
  |.inl (had',st')=>
   if st'.kind=closing then .inl (st'.addKid n st.nodes.length (st.last,st'.here s.length)).skip
   else if st'.kind=6 then J0 s n closing kid f had' (st'.addKid n st.nodes.length (st.last,st'.here s.length)).skip
   else st'.err s 2
def Xy(s:Bs)(n:Nat)(closing:Int)(kid:dP)(st:PSt):PR PSt:=
 if st.kind=closing then .inl st.skip else J0 s n closing kid (st.rest.length+1) [] st
abbrev ef:=Sp->PSt->PR PSt
def eU(val:ef):dP:=λhad st=>match val (0,0) st with
 |.inl st'=>.inl (had,st')
 |.inr e=>.inr e
def Wc(s:Bs)(p:Sp):Bs:=(s.drop p.1.toNat).take (p.2.toNat-p.1.toNat)
def d7(s:Bs)(val:ef):dP:=λhad st=>match st.rest with
 |[]=>st.err s 2
 |t::_=>
  if t.1=8 then
   if(Xp (Wc s t.2)).1∈had then st.err s 7
   else if st.skip.kind=7 then match val t.2 st.skip.skip with
    |.inl st'=>.inl (had++[(Xp (Wc s t.2)).1],st')
    |.inr e=>.inr e
   else st.skip.err s 2
  else st.err s 2
def PSt.open(st:PSt)(key:Sp):PSt:=match st.rest with
 |[]=>st
 |t::r=>⟨r,t.2.2,st.nodes++[(zx t.1,t.2,key,[],[])]⟩
def eE(s:Bs)(val:ef)(n:Nat)(k:Int)(st:PSt):PR PSt:=
 if k=5 then Xy s n 5 (eU val) st else if k=6 then Xy s n 3 (d7 s val) st else .inl st
def Wd(s:Bs):Nat->ef
 |0,key,st=>if zx st.kind=0 then st.err s 2 else st.err s 5
 |d+1,key,st=>if zx st.kind=0 then st.err s 2 else if st.nodes.length=4096 then st.err s 6 else
  match eE s (Wd s d) st.nodes.length (zx st.kind) (st.open key)with
  |.inl st'=>.inl (st'.setTo st.nodes.length)
  |.inr e=>.inr e
def qa(l:List Tk):List Tk:=l.filter λt=>decide (t.1≠1)
def Yl(s:Bs):(Bs×List Nd)×Int×Int:=
 if(y9 s).2.2=0 then
  match Wd s 32 (0,0) ⟨qa (y9 s).1,0,[]⟩with
  |.inl st=>if st.rest=[]then((s,st.nodes),(s.length:Int),0)else(([],[]),st.here s.length,2)
  |.inr e=>(([],[]),e.1,e.2)
 else(([],[]),((y9 s).2.1:Int),(y9 s).2.2)
def gC(s:Bs)(t:Tk):Prop:=0<=t.2.1/\t.2.1<t.2.2/\t.2.2<=(s.length:Int)/\(2<=t.1/\t.1<=7->t.2.2=t.2.1+1)
theorem IM{a:Nat}(f:a<s.length)(h:2<=(Qa s a).1/\(Qa s a).1<=7):(Qa s a).2.1=a+1:=by
 have b:s.drop a=s[a]::s.drop (a+1):=UZ f;unfold Qa at h ⊢;rw[b]at h ⊢;dsimp only at h ⊢;have c:∀l:Bs,Qu l=0\/Qu l=10\/Qu l=11\/Qu l=12:=λl=>by unfold Qu;split;exact .inr (.inl rfl);split;exact .inr (.inr (.inl rfl));split;exact .inr (.inr (.inr rfl));exact .inl rfl
 split;rfl;rename_i h1;rw[za h1]at h;split at h;omega;rename_i h2;split at h;split at h <;> (dsimp only at h;omega);split at h;split at h <;> (dsimp only at h;omega);split at h;dsimp only at h;omega;dsimp only at h;rcases c ((s[a]::s.drop (a+1)).take (Yq (xy w8) (s[a]::s.drop (a+1))))with e|e|e|e <;> rw[e]at h <;> omega
theorem De:∀(f:Nat) (s:Bs) (a:Nat) (o:List Tk),(∀t∈o,gC s t)->∀t∈(Yd f s a o).1,gC s t
 |0,s,a,o,h=>h
 |f+1,s,a,o,h=>by rw[Yd];split;rename_i c;split;rename_i h0;refine De f s _ _ λt b=>?_;rcases Uv.1 b with b|b;exact h t b;rw[Vb.1 b];have i:=Jz c h0;refine⟨by dsimp only;omega,by dsimp only;omega,by dsimp only;omega,λe=>?_⟩;have:=IM c e;dsimp only;omega;intro t b;cases b;exact h
theorem HW(s:Bs):∀t∈(y9 s).1,gC s t:=by unfold y9;split;intro t b;cases b;exact De _ _ _ _ λt b=>by cases b
theorem JG{l:List Tk}(h:∀t∈l,gC s t):∀t∈qa l,gC s t:=λt b=>h t (WV.1 b).1
end
section
variable {k:Int} {s:Bs}
def d5(x:Nd):Nat:=x.2.2.2.1.length+x.2.2.2.2.length
def PSt.T(st:PSt):Nat:=2*st.rest.length+(st.nodes.map d5).sum
theorem sW{f:Nd->Nd}{k:Nat}(h:∀x,d5 (f x)<=d5 x+k):∀(l:List Nd) (n:Nat),((l.modify n f).map d5).sum<=(l.map d5).sum+k
 |[],n=>by simp
 |x::l,0=>by have:=h x;simp only[List.modify_zero_cons,Uq,List.sum_cons];omega
 |x::l,n+1=>by have:=sW h l n;simp only[List.modify_succ_cons,Uq,List.sum_cons];omega
theorem sT{st:PSt}{x:Nd}(h:x∈st.nodes):d5 x<=st.T:=by
 have:∀(l:List Nd),x∈l->d5 x<=(l.map d5).sum:=by
  intro l;induction l with
  |nil=>intro h;cases h
  |cons y l b=>intro h;rw[Uq,List.sum_cons];rcases Uj.1 h with rfl|h;omega;have:=b h;omega
 have:=this _ h;unfold PSt.T;omega
theorem RZ(st:PSt)(n:Nat)(k:Int)(p:Sp):(st.addKid n k p).T<=st.T+2:=by have:=sW (f:=mw k p) (k:=2) (λx=>by unfold d5 mw;simp;omega) st.nodes n;unfold PSt.T PSt.addKid;dsimp only;omega
theorem QI(st:PSt)(n:Nat):(st.setTo n).T<=st.T:=by have:=sW (f:=iS st.last) (k:=0) (λx=>by unfold d5 iS;simp) st.nodes n;unfold PSt.T PSt.setTo;dsimp only;omega
theorem SS{st:PSt}(h:st.rest≠[]):st.skip.T+2=st.T:=by
 unfold PSt.skip PSt.T;cases hr:st.rest with
 |nil=>exact absurd hr h
 |cons t r=>simp only[Uk];omega
theorem KL{st:PSt}{key:Sp}(h:st.rest≠[]):(st.open key).T+2=st.T:=by
 unfold PSt.open PSt.T;cases hr:st.rest with
 |nil=>exact absurd hr h
 |cons t r=>simp only[Uk,U7,List.sum_append,Uq,V6,List.sum_cons,List.sum_nil,d5,UG];omega
theorem yv(st:PSt):st.skip.nodes=st.nodes:=by unfold PSt.skip;split <;> rfl
theorem PSt.ne_kind{st:PSt}(h:st.kind=k)(b:k≠0):st.rest≠[]:=λe=>by unfold PSt.kind at h;rw[e]at h;exact b h.symm
theorem ny{st:PSt}(h:¬zx st.kind=0):st.rest≠[]:=λe=>by refine h ?_;unfold PSt.kind;rw[e];rfl
theorem J3(st:PSt)(n:Nat)(k:Int)(p:Sp):(st.addKid n k p).nodes.length=st.nodes.length:=by unfold PSt.addKid;simp
theorem oH(st:PSt)(n:Nat):(st.setTo n).nodes.length=st.nodes.length:=by unfold PSt.setTo;simp
theorem vZ{st:PSt}{key:Sp}(h:st.rest≠[]):(st.open key).nodes.length=st.nodes.length+1:=by
 unfold PSt.open;cases hr:st.rest with
 |nil=>exact absurd hr h
 |cons t r=>simp
structure Okk (st st':PSt) (k:Nat):Prop where
 t:st'.T+k<=st.T
 r:2*st'.rest.length+k<=2*st.rest.length
 w:∀t∈st'.rest,t∈st.rest
 n:st.nodes.length<=st'.nodes.length
 m:st.nodes.length<=4096->st'.nodes.length<=4096
theorem Okk.trans{a b c:PSt}{j k:Nat}(x:Okk a b j)(y:Okk b c k):Okk a c (j+k):=⟨by have:=x.t;have:=y.t;omega,by have:=x.r;have:=y.r;omega,λt h=>x.w t (y.w t h),by have:=x.n;have:=y.n;omega,λh=>y.m (x.m h)⟩
theorem Okk.le{a b:PSt}{j k:Nat}(x:Okk a b j)(h:k<=j):Okk a b k:=⟨by have:=x.t;omega,by have:=x.r;omega,x.w,x.n,x.m⟩
theorem Okk.refl(a:PSt):Okk a a 0:=⟨Uc _,Uc _,λt h=>h,Uc _,id⟩
theorem Iu{st:PSt}(h:st.rest≠[]):st.skip.rest.length+1=st.rest.length:=by
 unfold PSt.skip;cases hr:st.rest with
 |nil=>exact absurd hr h
 |cons t r=>simp
theorem GY{st:PSt}{key:Sp}(h:st.rest≠[]):(st.open key).rest.length+1=st.rest.length:=by
 unfold PSt.open;cases hr:st.rest with
 |nil=>exact absurd hr h
 |cons t r=>simp
theorem QX(st:PSt):∀t∈st.skip.rest,t∈st.rest:=by
 unfold PSt.skip;cases hr:st.rest with
 |nil=>simp[hr]
 |cons t r=>intro x b;exact Uo _ b
theorem JE(st:PSt)(key:Sp):∀t∈(st.open key).rest,t∈st.rest:=by
 unfold PSt.open;cases hr:st.rest with
 |nil=>simp[hr]
 |cons t r=>intro x b;exact Uo _ b
theorem gY{st:PSt}(h:st.rest≠[]):Okk st st.skip 2:=⟨by have:=SS h;omega,by have:=Iu h;omega,QX st,by rw[yv];omega,by rw[yv];exact id⟩
def jS(kid:dP):Prop:=∀had st had' st',kid had st=.inl (had',st')->Okk st st' 2
theorem sF{kid:dP}(f:jS kid){had had':List Bs}{st st':PSt}{n:Nat}{p:Sp}(e:kid had st=.inl (had',st'))(h:st'.rest≠[]):Okk st (st'.addKid n k p).skip 2:=by have a:=f _ _ _ _ e;have h2:(st'.addKid n k p).rest≠[]:=h;have b:=gY h2;have c:=RZ st' n k p;have d:=J3 st' n k p;have i:(st'.addKid n k p).rest=st'.rest:=rfl;exact⟨by have:=a.t;have:=b.t;omega,by have:=a.r;have:=b.r;rw[i]at this;omega,λt h=>a.w t (b.w t h),by have:=a.n;have:=b.n;omega,λh=>b.m (by have:=a.m h;omega)⟩
theorem EA{s:Bs}{n:Nat}{closing:Int}(l:closing≠0){kid:dP}(c:jS kid):∀(f:Nat) (had:List Bs) (st st':PSt),J0 s n closing kid f had st=.inl st'->Okk st st' 2
 |0,had,st,st',h=>by unfold J0 PSt.err at h;cases h
 |f+1,had,st,st',h=>by rw[J0]at h;split at h;cases h;rename_i b st1 e;split at h;rename_i i;cases h;exact sF c e (PSt.ne_kind i l);split at h;rename_i m;have a:=sF c e (n:=n) (k:=(st.nodes.length:Int)) (p:=(st.last,st1.here s.length)) (PSt.ne_kind m (by omega));exact(a.trans (EA l c f b _ st' h)).le (by omega);unfold PSt.err at h;cases h
theorem BG{n:Nat}{closing:Int}(b:closing≠0){kid:dP}(c:jS kid){st st':PSt}(h:Xy s n closing kid st=.inl st'):Okk st st' 0:=by unfold Xy at h;split at h;rename_i e;cases h;exact(gY (PSt.ne_kind e b)).le (by omega);exact(EA b c _ _ _ _ h).le (by omega)
def vT(val:ef):Prop:=∀key st st',val key st=.inl st'->Okk st st' 2
theorem Fa{val:ef}(h:vT val):jS (eU val):=by intro had st had' st' e;unfold eU at e;split at e;rename_i st1 b;cases e;exact h _ _ _ b;cases e
theorem AI{val:ef}(h:vT val):jS (d7 s val):=by intro had st had' st' e;unfold d7 at e;split at e;unfold PSt.err at e;cases e;rename_i t r f;split at e;split at e;unfold PSt.err at e;cases e;split at e;rename_i i;split at e;rename_i st1 c;cases e;have a:=gY (st:=st) (by rw[f];simp);have b:=gY (PSt.ne_kind i (by omega));exact((a.trans b).trans (h _ _ _ c)).le (by omega);cases e;unfold PSt.err at e;cases e;unfold PSt.err at e;cases e
theorem FF{st:PSt}{key:Sp}(h:st.rest≠[])(b:¬st.nodes.length=4096):Okk st (st.open key) 2:=⟨by have:=KL (key:=key) h;omega,by have:=GY (key:=key) h;omega,JE st key,by rw[vZ h];omega,λh2=>by rw[vZ h];omega⟩
theorem l8(s:Bs):∀d:Nat,vT (Wd s d)
 |0=>by intro key st st' e;unfold Wd at e;split at e <;> (unfold PSt.err at e;cases e)
 |d+1=>by
  intro key st st' e;unfold Wd at e;split at e;unfold PSt.err at e;cases e;rename_i i;split at e;unfold PSt.err at e;cases e;rename_i k;split at e;rename_i st1 f;cases e;have a:=FF (key:=key) (ny i) k;have b:Okk (st.open key) st1 0:=by unfold eE at f;split at f;exact BG (by omega) (Fa (l8 s d)) f;split at f;exact BG (by omega) (AI (l8 s d)) f;cases f;exact Okk.refl _
  have c:Okk st1 (st1.setTo st.nodes.length) 0:=⟨QI _ _,Uc _,λt h=>h,by rw[oH];omega,by rw[oH];exact id⟩;exact(a.trans b).trans c;cases e
def oI(s:Bs)(had:List Bs)(st:PSt):PR (Bs×Sp×PSt):=match st.rest with
 |[]=>st.err s 2
 |t::_=>
  if t.1=8 then
   if(Xp (Wc s t.2)).1∈had then st.err s 7
   else if st.skip.kind=7 then .inl ((Xp (Wc s t.2)).1,t.2,st.skip.skip)
   else st.skip.err s 2
  else st.err s 2
theorem Ky(s:Bs)(val:ef)(had:List Bs)(st:PSt):d7 s val had st=match oI s had st with
  |.inl x=>(match val x.2.1 x.2.2 with
   |.inl st'=>.inl (had++[x.1],st')
   |.inr e=>.inr e)
  |.inr e=>.inr e:=by
 unfold d7 oI PSt.err;cases st.rest with
 |nil=>rfl
 |cons t r=>dsimp only;by_cases h1:t.1=8;rw[zA h1,zA h1];by_cases h2:(Xp (Wc s t.2)).1∈had;rw[zA h2,zA h2];rw[za h2,za h2];by_cases b:st.skip.kind=7;rw[zA b,zA b] <;> rfl;rw[za b,za b];rw[za h1,za h1]
theorem Nf{had:List Bs}{st:PSt}{x:Bs×Sp×PSt}(h:oI s had st=.inl x):Okk st x.2.2 4/\x.2.2.nodes=st.nodes:=by unfold oI PSt.err at h;split at h;cases h;rename_i t r c;split at h;split at h;cases h;split at h;rename_i e;cases h;have a:=gY (st:=st) (by rw[c];simp);have b:=gY (PSt.ne_kind e (by omega));exact⟨a.trans b,by dsimp only;rw[yv,yv]⟩;cases h;cases h
end
section
variable {lvs:List Nat} {l n lk:Nat} {s:Bs} {closing:Int}
structure GoodN (lvs:List Nat) (nodes:List Nd):Prop where
 len:lvs.length=nodes.length
 lv:∀(k l:Nat),lvs[k]?=Td l->1<=l/\l<=32
 kid:∀(k l:Nat) (x:Nd),nodes[k]?=Td x->lvs[k]?=Td l->∀c∈x.2.2.2.1,∃j:Nat,c=(j:Int)/\k<j/\lvs[j]?=Td (l+1)
theorem GoodN.nil:GoodN [] []:=⟨rfl,λk l h=>(by cases h),λk l x h=>(by cases h)⟩
theorem GoodN.push{nodes:List Nd}(G:GoodN lvs nodes)(h1:1<=l)(h2:l<=32){x:Nd}(o:x.2.2.2.1=[]):GoodN (lvs++[l]) (nodes++[x]):=by refine⟨by simp[G.len],λk m h=>?_,λk m y b e c f=>?_⟩;rw[List.getElem?_append]at h;split at h;exact G.lv k m h;have:=Vf h;rw[Vb]at this;omega;rw[List.getElem?_append]at b e;have r:=G.len;by_cases i:k<nodes.length;rw[zA i]at b;rw[zA (by omega)]at e;obtain⟨j,p,q,n⟩:=G.kid k m y b e c f;refine⟨j,p,q,?_⟩;rw[VQ (UE.1 n).1];exact n;rw[za i]at b;have:=Vf b;rw[Vb]at this;subst this;rw[o]at f;cases f
theorem GoodN.mod{nodes:List Nd}(G:GoodN lvs nodes){f:Nd->Nd}(h:∀x l c,lvs[n]?=Td l->c∈(f x).2.2.2.1->c∈x.2.2.2.1\/∃j:Nat,c=(j:Int)/\n<j/\lvs[j]?=Td (l+1)):GoodN lvs (nodes.modify n f):=by
 refine⟨by rw[List.length_modify];exact G.len,G.lv,λk l x b i c m=>?_⟩;rw[Vj]at b;cases hy:nodes[k]? with
 |none=>rw[hy]at b;cases b
 |some y=>
  rw[hy]at b;by_cases e:n=k;subst e;have b:f y=x:=by simpa using b
  subst b;rcases h y l c i m with h|h;exact G.kid n l y hy i c h;exact h;have b:y=x:=by simpa[e]using b
  subst b;exact G.kid k l y hy i c m
def o5(kid:dP)(lk:Nat):Prop:=∀had st had' st' lvs,kid had st=.inl (had',st')->GoodN lvs st.nodes->∃new,GoodN (lvs++lk::new) st'.nodes
theorem Cw{s:Bs}{n l:Nat}{closing:Int}{kid:dP}(r:o5 kid (l+1)):∀(f:Nat) (had:List Bs) (st st':PSt) (lvs:List Nat),J0 s n closing kid f had st=.inl st'->GoodN lvs st.nodes->lvs[n]?=Td l->∃new,GoodN (lvs++new) st'.nodes
 |0,had,st,st',lvs,h,G,hn=>by unfold J0 PSt.err at h;cases h
 |f+1,had,st,st',lvs,h,G,hn=>by
  rw[J0]at h;split at h;cases h;rename_i b st1 e;obtain⟨new,z⟩:=r _ _ _ _ lvs e G;have q:=(UE.1 hn).1;have k:=G.len;have o:(lvs++(l+1)::new)[n]?=Td l:=by rw[VQ q];exact hn
  have p:(lvs++(l+1)::new)[st.nodes.length]?=Td (l+1):=by rw[VK (by omega),<-k,Nat.sub_self];rfl
  have t:GoodN (lvs++(l+1)::new) (st1.addKid n st.nodes.length (st.last,st1.here s.length)).skip.nodes:=by rw[yv];refine z.mod λx m c u w=>?_;unfold mw at w;rw[o]at u;cases u;rcases Uv.1 w with h|h;exact .inl h;rw[Vb]at h;exact .inr ⟨_,h,by omega,p⟩
  split at h;cases h;exact⟨_,t⟩;split at h;obtain⟨i,y⟩:=Cw r f b _ st' _ h t o;exact⟨(l+1)::new++i,by rw[<-UB];exact y⟩;unfold PSt.err at h;cases h
theorem CO{kid:dP}(c:o5 kid (l+1)){st st':PSt}(h:Xy s n closing kid st=.inl st')(G:GoodN lvs st.nodes)(b:lvs[n]?=Td l):∃new,GoodN (lvs++new) st'.nodes:=by unfold Xy at h;split at h;cases h;exact⟨[],by rw[UM,yv];exact G⟩;exact Cw c _ _ _ _ _ h G b
def vS(val:ef)(lk:Nat):Prop:=∀key st st' lvs,val key st=.inl st'->GoodN lvs st.nodes->∃new,GoodN (lvs++lk::new) st'.nodes
theorem If{val:ef}(h:vS val lk):o5 (eU val) lk:=by intro had st had' st' lvs e G;unfold eU at e;split at e;rename_i st1 b;cases e;exact h _ _ _ _ b G;cases e
theorem SH{val:ef}(h:vS val lk):o5 (d7 s val) lk:=by intro had st had' st' lvs e G;rw[Ky]at e;split at e;rename_i x f;have b:=(Nf f).2;split at e;rename_i st1 c;cases e;exact h _ _ _ _ c (by rw[b];exact G);cases e;cases e
theorem Nk{st:PSt}{key:Sp}(h:st.rest≠[]):∃x:Nd,x.2.2.2.1=[]/\(st.open key).nodes=st.nodes++[x]:=by
 unfold PSt.open;cases hr:st.rest with
 |nil=>exact absurd hr h
 |cons t r=>exact⟨_,rfl,rfl⟩
theorem Au(s:Bs):∀d:Nat,d<=32->vS (Wd s d) (33-d)
 |0,_=>by intro key st st' lvs e G;unfold Wd at e;split at e <;> (unfold PSt.err at e;cases e)
 |d+1,hd=>by
  intro key st st' lvs e G;have h:=Au s d (by omega);rw[show 33-d=33-(d+1)+1 by omega]at h;unfold Wd at e;split at e;unfold PSt.err at e;cases e;rename_i o;split at e;unfold PSt.err at e;cases e;split at e;rename_i st1 b;cases e;obtain⟨x,k,f⟩:=Nk (key:=key) (ny o);have i:GoodN (lvs++[33-(d+1)]) (st.open key).nodes:=by rw[f];exact G.push (by omega) (by omega) k
  have n:(lvs++[33-(d+1)])[st.nodes.length]?=Td (33-(d+1)):=by rw[<-G.len,VK (Uc _),Nat.sub_self];rfl
  obtain⟨new,m⟩:∃new,GoodN (lvs++[33-(d+1)]++new) st1.nodes:=by unfold eE at b;split at b;exact CO (If h) b i n;split at b;exact CO (SH h) b i n;cases b;exact⟨[],by rw[UM];exact i⟩
  refine⟨new,?_⟩;rw[UB]at m;exact m.mod λx l c q p=>.inl p;cases e
def nE(kid:dP):Prop:=∀had st x,kid had st=.inr x->x.2≠0
def rq(val:ef):Prop:=∀key st x,val key st=.inr x->x.2≠0
theorem gN{α:Type}{st:PSt}{e:Int}(b:e≠0){x:Int×Int}(h:(st.err s e:PR α)=.inr x):x.2≠0:=by unfold PSt.err at h;cases h;exact b
theorem CC{s:Bs}{n:Nat}{closing:Int}{kid:dP}(b:nE kid):∀(f:Nat) (had:List Bs) (st:PSt) (x:Int×Int),J0 s n closing kid f had st=.inr x->x.2≠0
 |0,had,st,x,h=>by unfold J0 at h;exact gN (by omega) h
 |f+1,had,st,x,h=>by rw[J0]at h;split at h;rename_i y e;cases h;exact b _ _ _ e;split at h;cases h;split at h;exact CC b f _ _ x h;exact gN (by omega) h
theorem Fl{kid:dP}(b:nE kid){st:PSt}{x:Int×Int}(h:Xy s n closing kid st=.inr x):x.2≠0:=by unfold Xy at h;split at h;cases h;exact CC b _ _ _ _ h
theorem FQ{val:ef}(h:rq val):nE (eU val):=by intro had st x e;unfold eU at e;split at e;cases e;rename_i y b;cases e;exact h _ _ _ b
theorem NE{val:ef}(h:rq val):nE (d7 s val):=by intro had st x e;unfold d7 at e;split at e;exact gN (by omega) e;split at e;split at e;exact gN (by omega) e;split at e;split at e;cases e;rename_i y b;cases e;exact h _ _ _ b;exact gN (by omega) e;exact gN (by omega) e
theorem pM(s:Bs):∀d:Nat,rq (Wd s d)
 |0=>by intro key st x e;unfold Wd at e;split at e <;> exact gN (by omega) e
 |d+1=>by intro key st x e;unfold Wd at e;split at e;exact gN (by omega) e;split at e;exact gN (by omega) e;split at e;cases e;rename_i y b;cases e;unfold eE at b;split at b;exact Fl (FQ (pM s d)) b;split at b;exact Fl (NE (pM s d)) b;cases b
theorem IJ(h:(Yl s).2.2=0):∃lvs,GoodN (1::lvs) (Yl s).1.2/\(Yl s).1.1=s/\(Yl s).2.1=(s.length:Int)/\(Yl s).1.2.length<=4096/\∀x∈(Yl s).1.2,d5 x<=2*(y9 s).1.length:=by
 have b:∀{x:Int×Int},Wd s 32 (0,0) ⟨qa (y9 s).1,0,[]⟩=.inr x->x.2≠0:=λh=>pM s 32 _ _ _ h;unfold Yl at h ⊢;split at h;rename_i h0;rw[zA h0];split at h;rename_i st e;split at h;rename_i f;rw[zA f];have a:=l8 s 32 _ _ _ e;obtain⟨new,G⟩:=Au s 32 (by omega) _ _ _ [] e GoodN.nil;refine⟨new,G,rfl,rfl,a.m (by simp),λx i=>?_⟩;have h1:=sT i;have h2:=a.t;have l:(⟨qa (y9 s).1,0,[]⟩:PSt).T=2*(qa (y9 s).1).length:=by unfold PSt.T;simp
 have k:(qa (y9 s).1).length<=(y9 s).1.length:=List.length_filter_le _ _;omega;simp at h;rename_i e c;exact absurd h (b c);rename_i h0;exact absurd h h0
end
section
def ya(t:Bs)(p:Sp):Bs:=if p.1<0\/p.2<p.1\/(t.length:Int)<p.2 then []else Wc t p
theorem uy(t:Bs)(p:Sp):(ya t p).length<=t.length:=by unfold ya Wc;split;exact UH _;rw[UQ,UD];omega
def Yr(kind:Int)(t:Bs):Bs:=if kind=2 then t else if kind=3 then ql (zm t).1 else if kind=4 then(Xp t).1 else []
def iP(t:Bs)(x:Nd):Bs:=(Xp (ya t x.2.2.1)).1
def iA(t:Bs)(nodes:List Nd)(c:Int):Bs:=match nodes[c.toNat]? with
 |some x=>iP t x
 |none=>[]
def Ys(t:Bs)(nodes:List Nd):Nat->Nat->Tr
 |0,_=>.mk 0 (bl []) [] []
 |f+1,k=>match nodes[k]? with
  |none=>.mk 0 (bl []) [] []
  |some x=>.mk x.1 (bl (Yr x.1 (ya t x.2.1))) (if x.1=6 then x.2.2.2.1.map λc=>bl (iA t nodes c)else []) (x.2.2.2.1.map λc=>Ys t nodes f c.toNat)
def jc(s:Bs):Tr×Int×Int:=if(Yl s).2.2=0 then(Ys s (Yl s).1.2 33 0,(s.length:Int),0)else(.mk 0 (bl []) [] [],(Yl s).2.1,(Yl s).2.2)
end
section
variable {v:Tr}
theorem yJ(x:Bt):∀(l:List Bt) (i:Nat),(idxFromS l x i=-1/\x∉l)\/∃k:Nat,idxFromS l x i=((i+k:Nat):Int)/\k<l.length/\l[k]?=Td x
 |[],i=>.inl ⟨rfl,by simp⟩
 |z::l,i=>by unfold idxFromS;by_cases h:z=x;rw[zA h];exact .inr ⟨0,rfl,by simp,by simp[h]⟩;rw[za h];rcases yJ x l (i+1)with⟨h1,h2⟩|⟨k,h1,h2,b⟩;exact .inl ⟨h1,by simp[h2];exact λe=>h e.symm⟩;exact .inr ⟨k+1,by rw[h1];congr 1;omega,by simp;omega,by simpa using b⟩
theorem Ye{q:Tr->Bool}{v x:Tr}(h:Zy q v=Ta)(b:x∈v.items):Zy q x=Ta:=by rw[yp,Ui,yz,Us]at h;exact h.2 x b
theorem lD{q:Tr->Bool}(h:Zy q v=Ta):q v=Ta:=by rw[yp,Ui]at h;exact h.1
end
section
theorem sL{t:Bs}{nodes:List Nd}{k f:Nat}{x:Nd}(h:nodes[k]?=Td x):Ys t nodes (f+1) k=.mk x.1 (bl (Yr x.1 (ya t x.2.1))) (if x.1=6 then x.2.2.2.1.map λc=>bl (iA t nodes c)else []) (x.2.2.2.1.map λc=>Ys t nodes f c.toNat):=by rw[Ys,h]
end
section
variable {lo d m:Nat} {s:Bs} {α:Type} {obj:Bool}
inductive KidsG (K:List Bs->List Bs->Bs×Tr->List Tk->Nat->Prop) (close:Int):List Bs->List (Bs×Tr)->List Tk->Nat->Prop
 |last {had had':List Bs} {kv:Bs×Tr} {C:List Tk} {c:Tk} {m:Nat}:K had had' kv C m->c.1=close->KidsG K close had [kv] (C++[c]) m
 |more {had had':List Bs} {kv:Bs×Tr} {kvs:List (Bs×Tr)} {C D:List Tk} {q:Tk} {m m':Nat}:K had had' kv C m->q.1=6->KidsG K close had' kvs D m'->KidsG K close had (kv::kvs) (C++q::D) (m+m')
def KA(P:Tr->List Tk->Nat->Prop)(had had':List Bs)(b:Bs×Tr)(C:List Tk)(m:Nat):Prop:=had'=had/\P b.2 C m
def KO(s:Bs)(P:Tr->List Tk->Nat->Prop)(had had':List Bs)(b:Bs×Tr)(C:List Tk)(m:Nat):Prop:=
 ∃t q c,C=t::q::c/\t.1=8/\q.1=7/\b.1=(Xp (Wc s t.2)).1/\ya s t.2=Wc s t.2/\b.1∉had/\had'=had++[b.1]/\P b.2 c m
def PV(s:Bs):Nat->Tr->List Tk->Nat->Prop
 |0,_,_,_=>False
 |d+1,v,C,m=>∃t,(C=[t]/\zx t.1≠0/\zx t.1≠5/\zx t.1≠6/\v=.mk (zx t.1) (bl (Yr (zx t.1) (ya s t.2))) [] []/\m=1)
  \/ (∃c,C=[t,c]/\((t.1=4/\c.1=5/\v=.mk 5 (bl []) [] [])\/(t.1=2/\c.1=3/\v=.mk 6 (bl []) [] []))/\m=1)
  \/ (∃D kvs m',C=t::D/\t.1=4/\KidsG (KA (PV s d)) 5 [] kvs D m'/\v=.mk 5 (bl []) [] (kvs.map (·.2))/\m=m'+1)
  \/ (∃D kvs m',C=t::D/\t.1=2/\KidsG (KO s (PV s d)) 3 [] kvs D m'/\v=.mk 6 (bl []) (kvs.map λb=>bl b.1) (kvs.map (·.2))/\m=m'+1)
def Aq(C:List Tk):Sp:=((C.head?.map (·.2.1)).getD 0,(C.getLast?.map (·.2.2)).getD 0)
def df(C:List Tk)(l:Int):Int:=(C.getLast?.map (·.2.2)).getD l
theorem wq{C D:List Tk}(h:D≠[])(l:Int):df (C++D) l=df D l:=by
 unfold df;rw[List.getLast?_append];cases hd:D.getLast? with
 |none=>simp_all
 |some x=>rfl
theorem jT{C:List Tk}(h:C≠[])(l b:Int):df C l=df C b:=by
 unfold df;cases hd:C.getLast? with
 |none=>simp_all
 |some x=>rfl
def Agr(lo:Nat)(new nodes:List Nd):Prop:=∀i x,new[i]?=Td x->nodes[lo+i]?=Td x
theorem Agr.left{a b nodes:List Nd}(h:Agr lo (a++b) nodes):Agr lo a nodes:=λi x c=>h i x (by grind)
theorem Agr.right{a b nodes:List Nd}(h:Agr lo (a++b) nodes):Agr (lo+a.length) b nodes:=λi x c=>by have:=h (a.length+i) x (by grind);grind
def SubV(s:Bs)(d lo:Nat)(new:List Nd)(C:List Tk)(m:Nat):Prop:=∀i,i<new.length->∃e h c pre b m',e<=d/\PV s e h c m'/\C=pre++c++b/\m'<=m/\∀nodes,Agr lo new nodes->∀f,e<=f->Ys s nodes f (lo+i)=h/\∃x,nodes[lo+i]?=Td x/\x.2.1=Aq c
structure Made (s:Bs) (d lo:Nat) (key:Sp) (new:List Nd) (v:Tr) (C:List Tk) (m:Nat):Prop where
 len:new.length=m
 pos:1<=m
 key:∃x,new[0]?=Td x/\x.2.2.1=key
 val:∀nodes,Agr lo new nodes->∀f,d<=f->Ys s nodes f lo=v
 sub:SubV s d lo new C m
structure MadeK (s:Bs) (obj:Bool) (d lo:Nat) (ks:List Int) (new:List Nd) (kvs:List (Bs×Tr)) (D:List Tk) (m:Nat):Prop where
 len:new.length=m
 val:∀nodes,Agr lo new nodes->∀f,d<=f->(ks.map λc=>Ys s nodes f c.toNat)=kvs.map (·.2)
 key:obj=Ta->∀nodes,Agr lo new nodes->(ks.map λc=>bl (iA s nodes c))=kvs.map λkv=>bl kv.1
 sub:SubV s d lo new D m
theorem SubV.mono{d d2 lo:Nat}{new:List Nd}{C:List Tk}{m c:Nat}(h:SubV s d lo new C m)(e:d<=d2)(o:m<=c)(pre b:List Tk):SubV s d2 lo new (pre++C++b) c:=by intro i hi;obtain⟨l,k,f,p,q,m',h1,h2,n,r,t⟩:=h i hi;grind
theorem SubV.append{a b:List Nd}{C:List Tk}(h:SubV s d lo a C m)(h2:SubV s d (lo+a.length) b C m):SubV s d lo (a++b) C m:=by intro i hi;rcases U1 i a.length with h'|h';obtain⟨k,e,c,p,q,m',h1,h2,l,o,r⟩:=h i h';exact⟨k,e,c,p,q,m',h1,h2,l,o,λnodes n=>r nodes n.left⟩;obtain⟨k,e,c,p,q,m',h1,l,o,r,u⟩:=h2 (i-a.length) (by grind);refine⟨k,e,c,p,q,m',h1,l,o,r,λnodes n f t=>?_⟩;have:=u nodes n.right f t;grind
def tv(s:Bs)(obj:Bool)(d:Nat)(close:Int)(K:List Bs->List Bs->Bs×Tr->List Tk->Nat->Prop)(kid:dP):Prop:=
 ∀had had' b C m,K had had' b C m->1<=m/\(∃t c,C=t::c/\t.1≠close)/\∀(st:PSt) (rest:List Tk),st.rest=C++rest->st.nodes.length+m<=4096->∃new,
  kid had st=.inl (had',⟨rest,df C st.last,st.nodes++new⟩)/\MadeK s obj d st.nodes.length [((st.nodes.length:Nat):Int)] new [b] C m
def kG(x:Nd)(ks:List Int)(ps:List Sp):Nd:=(x.1,x.2.1,x.2.2.1,x.2.2.2.1++ks,x.2.2.2.2++ps)
theorem J4{a:List α}{x:α}{b:List α}{f:α->α}:(a++x::b).modify a.length f=a++f x::b:=by
 induction a with
 |nil=>rfl
 |cons y a c=>simp_all
theorem E6{close:Int}{K:List Bs->List Bs->Bs×Tr->List Tk->Nat->Prop}{kid:dP}(B:tv s obj d close K kid)(L:close≠6){had:List Bs}{kvs:List (Bs×Tr)}{D:List Tk}(H:KidsG K close had kvs D m):
  (∃t J,D=t::J/\t.1≠close)/\1<=m/\kvs.length<=D.length/\∀(base:List Nd) (x:Nd) (news:List Nd) (rest:List Tk) (last:Int) (f:Nat),kvs.length<=f->base.length+1+news.length+m<=4096->∃ks ps new,J0 s base.length close kid f had ⟨D++rest,last,base++x::news⟩=.inl ⟨rest,df D last,base++kG x ks ps::(news++new)⟩/\MadeK s obj d (base.length+1+news.length) ks new kvs D m:=by
 induction H with
 | @last had had' kv C c m hk hc=>
  obtain⟨h1,⟨p,r,i,h2⟩,w⟩:=B _ _ _ _ _ hk;refine⟨⟨p,r++[c],by rw[i];rfl,h2⟩,h1,by simp,λbase x news rest last f o k=>?_⟩;obtain⟨g,rfl⟩:∃g,f=g+1:=⟨f-1,by grind⟩;have l:(base++x::news).length=base.length+1+news.length:=by simp;omega
  obtain⟨new,e,M⟩:=w ⟨C++[c]++rest,last,base++x::news⟩ (c::rest) (by simp) (by simp_all);dsimp only at e M;rw[l]at M;refine⟨[((base++x::news).length:Int)],[(last,c.2.1)],new,?_,?_⟩;rw[J0,e];dsimp only;have z:PSt.kind ⟨c::rest,df C last,base++x::news++new⟩=close:=hc;rw[zA z];unfold PSt.addKid PSt.skip PSt.here;dsimp only;rw[UB,UF,J4];congr 2;unfold df;simp;rw[l];refine⟨M.len,M.val,M.key,?_⟩;have:=M.sub.mono (Uc _) (Uc _) [] [c];grind
 | @more had had' kv kvs C D q m m' hk hq hr ih=>
  obtain⟨h1,⟨p,r,i,h2⟩,w⟩:=B _ _ _ _ _ hk;obtain⟨⟨O,Q,u,_⟩,P,gl,N⟩:=ih;have E:D≠[]:=by rw[u];simp
  refine⟨⟨p,r++q::D,by rw[i];rfl,h2⟩,by omega,by simp;omega,λbase x news rest last f o k=>?_⟩;obtain⟨g,rfl⟩:∃g,f=g+1:=⟨f-1,by grind⟩;have l:(base++x::news).length=base.length+1+news.length:=by simp;omega
  obtain⟨new,e,M⟩:=w ⟨C++q::D++rest,last,base++x::news⟩ (q::(D++rest)) (by simp) (by grind);dsimp only at e M;rw[l]at M;have I:=M.len;obtain⟨ks,ps,h,F,n⟩:=N base (kG x [((base++x::news).length:Int)] [(last,q.2.1)]) (news++new) rest q.2.2 g (by grind) (by grind);refine⟨((base++x::news).length:Int)::ks,(last,q.2.1)::ps,new++h,?_,?_⟩;rw[J0,e];dsimp only;have z:PSt.kind ⟨q::(D++rest),df C last,base++x::news++new⟩=6:=hq;rw[za (by omega),zA z];have G:(PSt.addKid ⟨q::(D++rest),df C last,base++x::news++new⟩ base.length ((base++x::news).length:Int) (last,PSt.here ⟨q::(D++rest),df C last,base++x::news++new⟩ s.length)).skip=⟨D++rest,q.2.2,base++kG x [((base++x::news).length:Int)] [(last,q.2.1)]::(news++new)⟩:=by unfold PSt.addKid PSt.skip PSt.here;dsimp only;rw[UB,UF,J4];rfl
  rw[G,F];congr 2;rw[wq (C:=C) (D:=q::D) (by simp),show q::D=[q]++D from rfl,wq E];exact jT E _ _;unfold kG;simp;rw[l];have y:base.length+1+(news++new).length=base.length+1+news.length+new.length:=by rw[Uf];omega
  rw[y]at n;refine⟨by rw[Uf,M.len,n.len],λnodes k f o=>?_,λA nodes k=>?_,?_⟩;have a:=M.val nodes k.left f o;have b:=n.val nodes k.right f o;simp_all;have a:=M.key A nodes k.left;have b:=n.key A nodes k.right;simp_all;have a:=M.sub.mono (d2:=d) (Uc _) (show m<=m+m' by omega) [] (q::D);have b:=n.sub.mono (d2:=d) (Uc _) (show m'<=m+m' by omega) (C++[q]) [];rw[UX]at a;have b:SubV s d (base.length+1+news.length+new.length) h (C++q::D) (m+m'):=by simpa using b
  exact a.append b
theorem modify_last{a:List α}{x:α}{f:α->α}:(a++[x]).modify a.length f=a++[f x]:=J4
theorem CX(t:Bs):Yr 5 t=[]:=by unfold Yr;simp
theorem Fh(t:Bs):Yr 6 t=[]:=by unfold Yr;simp
theorem Agr.head{x:Nd}{l nodes:List Nd}(h:Agr lo (x::l) nodes):nodes[lo]?=Td x:=h 0 x rfl
theorem Agr.tail{x:Nd}{l nodes:List Nd}(h:Agr lo (x::l) nodes):Agr (lo+1) l nodes:=λi y b=>by have:=h (i+1) y b;grind
theorem E0{key:Sp}{k:Int}{t:Tk}{D:List Tk}{ks:List Int}{ps:List Sp}{new:List Nd}{kvs:List (Bs×Tr)}{v:Tr}(q:k=5/\obj=Tc\/k=6/\obj=Ta)(z:v=.mk k (bl []) (if obj=Ta then kvs.map λy=>bl y.1 else []) (kvs.map (·.2)))(p:D≠[])
  (u:PV s (d+1) v (t::D) (m+1)) (M:MadeK s obj d (lo+1) ks new kvs D m):Made s (d+1) lo key ((k,(t.2.1,df D 0),key,ks,ps)::new) v (t::D) (m+1):=by
 have b:∀nodes,Agr lo ((k,(t.2.1,df D 0),key,ks,ps)::new) nodes->∀f,d+1<=f->Ys s nodes f lo=v:=λnodes c f l=>by obtain⟨g,rfl⟩:∃g,f=g+1:=⟨f-1,by omega⟩;rw[sL c.head,M.val nodes c.tail g (by omega),z];dsimp only;rcases q with⟨rfl,rfl⟩|⟨rfl,rfl⟩;rw[CX];simp;rw[Fh,zA rfl,zA rfl,M.key rfl nodes c.tail]
 refine⟨by rw[Uk,M.len],by omega,⟨_,rfl,rfl⟩,b,λi hi=>?_⟩;cases i with
 |zero=>refine⟨d+1,v,t::D,[],[],m+1,Uc _,u,by simp,Uc _,λnodes c f l=>⟨b nodes c f l,_,c.head,?_⟩⟩;have e:df (t::D) 0=df D 0:=wq (C:=[t]) p 0;show(t.2.1,df D 0)=Aq (t::D);rw[<-e];rfl
 |succ i=>obtain⟨w,o,n,pre,h,m',h1,h2,x,A,r⟩:=M.sub i (by simpa using hi);refine⟨w,o,n,t::pre,h,m',by omega,h2,by rw[x];rfl,by omega,λnodes c f l=>?_⟩;have:=r nodes c.tail f l;grind
theorem uc{s:Bs}:∀(d:Nat) (v:Tr) (C:List Tk) (m:Nat),PV s d v C m->1<=m/\(∃t y,C=t::y/\zx t.1≠0)/\∀(key:Sp) (st:PSt) (rest:List Tk),st.rest=C++rest->st.nodes.length+m<=4096->∃new,
  Wd s d key st=.inl ⟨rest,df C st.last,st.nodes++new⟩/\Made s d st.nodes.length key new v C m
 |0,v,C,m,h=>h.elim
 |d+1,v,C,m,h=>by
  have ih:=uc (s:=s) d;have aa:tv s Tc d 5 (KA (PV s d)) (eU (Wd s d)):=by rintro had had' kv C m ⟨rfl,L⟩;obtain⟨h1,⟨t,y,o,P⟩,p⟩:=ih _ _ _ L;refine⟨h1,⟨t,y,o,λe=>P (by rw[e];rfl)⟩,λst rest k b=>?_⟩;obtain⟨new,e,M⟩:=p (0,0) st rest k b;refine⟨new,by unfold eU;rw[e],M.len,λnodes b f u=>?_,λh=>(by cases h),M.sub⟩;simp only[Uq,V6,Ue];rw[M.val nodes b f u]
  have Z:tv s Ta d 3 (KO s (PV s d)) (d7 s (Wd s d)):=by
   rintro had had' kv C m ⟨t,q,y,o,F,hq,w,af,ae,G,L⟩;subst o;obtain⟨h1,⟨t1,C1,O,P⟩,p⟩:=ih _ _ _ L;refine⟨h1,⟨t,_,rfl,by omega⟩,λst rest k b=>?_⟩;obtain⟨new,e,M⟩:=p t.2 st.skip.skip rest (by unfold PSt.skip;rw[k];rfl) (by grind [yv]);have e2:st.skip.skip.last=q.2.2:=by unfold PSt.skip;rw[k];rfl
   rw[yv,yv]at e M;rw[e2]at e;refine⟨new,?_,M.len,λnodes b f u=>?_,λ_ nodes b=>?_,?_⟩;unfold d7;rw[k];dsimp only[UF];rw[zA F,za (by simp_all)];have ek:st.skip.kind=7:=by unfold PSt.skip PSt.kind;rw[k];exact hq
   rw[zA ek,e];dsimp only;rw[G,w];have N:df y q.2.2=df (t::q::y) st.last:=by rw[show t::q::y=[t,q]++y from rfl,wq (by rw[O];simp)];exact jT (by rw[O];simp) _ _
   rw[N];simp only[Uq,V6,Ue];rw[M.val nodes b f u];obtain⟨x,hx,ah⟩:=M.key;have:=b 0 x hx;simp only[Uq,V6,Vu,and_true];unfold iA;rw[Ue];rw[show nodes[st.nodes.length]?=Td x from this];show bl (iP s x)=bl kv.1;unfold iP;grind;have:=M.sub.mono (d2:=d) (Uc _) (Uc m) [t,q] [];grind
  have ab:∀(st:PSt) (t:Tk) (r:List Tk) (key:Sp),st.rest=t::r->st.open key=⟨r,t.2.2,st.nodes++[(zx t.1,t.2,key,[],[])]⟩:=λst t r key k=>by unfold PSt.open;rw[k]
  have V:∀(st:PSt) (t:Tk) (r:List Tk),st.rest=t::r->st.kind=t.1:=λst t r k=>by unfold PSt.kind;rw[k]
  have go:∀(key:Sp) (st st':PSt) (t:Tk) (r:List Tk),st.rest=t::r->zx t.1≠0->st.nodes.length<4096->eE s (Wd s d) st.nodes.length (zx t.1) ⟨r,t.2.2,st.nodes++[(zx t.1,t.2,key,[],[])]⟩=.inl st'->Wd s (d+1) key st=.inl (st'.setTo st.nodes.length):=λkey st st' t r k P b e=>by rw[Wd,V st t r k,za P,za (by omega),ab st t r key k,e]
  obtain⟨t,Q|⟨c,o,Q,A⟩|⟨D,kvs,m',o,F,U,I,A⟩|⟨D,kvs,m',o,F,U,I,A⟩⟩:=id h;obtain⟨o,J,B,E,I,A⟩:=Q;subst o A;refine⟨Uc _,⟨t,[],rfl,J⟩,λkey st rest k b=>⟨[(zx t.1,(t.2.1,t.2.2),key,[],[])],?_,?_⟩⟩;rw[go key st _ t rest k J (by omega) (by unfold eE;rw[za B,za E])];unfold PSt.setTo;dsimp only;rw[modify_last];rfl;have n:∀nodes,Agr st.nodes.length [(zx t.1,(t.2.1,t.2.2),key,[],[])] nodes->∀f,d+1<=f->Ys s nodes f st.nodes.length=v:=λnodes b f u=>by obtain⟨g,rfl⟩:∃g,f=g+1:=⟨f-1,by omega⟩;rw[sL b.head,I];simp
  refine⟨rfl,Uc _,⟨_,rfl,rfl⟩,n,λi hi=>?_⟩;have:i=0:=by simp at hi;exact hi
  subst this;exact⟨d+1,v,[t],[],[],1,Uc _,h,by simp,Uc _,λnodes b f u=>⟨n nodes b f u,_,b.head,rfl⟩⟩;subst o A;have e4:zx 4=5:=rfl;have e2:zx 2=6:=rfl;have w:zx t.1=5/\c.1=5/\v=.mk 5 (bl []) [] []\/zx t.1=6/\c.1=3/\v=.mk 6 (bl []) [] []:=by rcases Q with⟨h1,h2,p⟩|⟨h1,h2,p⟩;grind;grind
  have J:zx t.1≠0:=by rcases w with⟨h,_⟩|⟨h,_⟩ <;> rw[h] <;> decide
  have L:PV s (d+1) v [t,c] 1:=⟨t,.inr (.inl ⟨c,rfl,Q,rfl⟩)⟩;refine⟨Uc _,⟨t,[c],rfl,J⟩,λkey st rest k b=>⟨[(zx t.1,(t.2.1,c.2.2),key,[],[])],?_,?_⟩⟩;rw[go key st ⟨rest,c.2.2,st.nodes++[(zx t.1,t.2,key,[],[])]⟩ t (c::rest) k J (by omega) (by unfold eE;rcases w with⟨h,Y,_⟩|⟨h,Y,_⟩;rw[h,zA rfl];unfold Xy;rw[zA (show PSt.kind ⟨c::rest,t.2.2,_⟩=5 from Y)];rfl;rw[h,za (by decide),zA rfl];unfold Xy;rw[zA (show PSt.kind ⟨c::rest,t.2.2,_⟩=3 from Y)];rfl)];unfold PSt.setTo;dsimp only;rw[modify_last];rfl;have n:∀nodes,Agr st.nodes.length [(zx t.1,(t.2.1,c.2.2),key,[],[])] nodes->∀f,d+1<=f->Ys s nodes f st.nodes.length=v:=λnodes b f u=>by obtain⟨g,rfl⟩:∃g,f=g+1:=⟨f-1,by omega⟩;rw[sL b.head];grind [CX,Fh]
  refine⟨rfl,Uc _,⟨_,rfl,rfl⟩,n,λi hi=>?_⟩;have:i=0:=by simp at hi;exact hi
  subst this;exact⟨d+1,v,[t,c],[],[],1,Uc _,L,by simp,Uc _,λnodes b f u=>⟨n nodes b f u,_,b.head,rfl⟩⟩;subst o A;obtain⟨⟨t1,D',z,S⟩,h1,H,p⟩:=E6 aa (by decide) U;have l:D≠[]:=by rw[z];simp
  have B:zx t.1=5:=by rw[F];rfl
  refine⟨by omega,⟨t,D,rfl,by rw[B];decide⟩,λkey st rest k b=>?_⟩;obtain⟨ks,ps,new,e,M⟩:=p st.nodes (zx t.1,t.2,key,[],[]) [] rest t.2.2 ((D++rest).length+1) (by grind) (by grind);rw[UG,WP]at M;refine⟨(5,(t.2.1,df D 0),key,ks,ps)::new,?_,E0 (.inl ⟨rfl,rfl⟩) (by rw[I];rfl) l h M⟩;rw[go key st _ t (D++rest) k (by rw[B];decide) (by omega) (by unfold eE;rw[B,zA rfl];unfold Xy;rw[za (show¬PSt.kind ⟨D++rest,t.2.2,_⟩=5 from by grind)];rw[B]at e;exact e)];unfold PSt.setTo;dsimp only;rw[J4];have N:df D t.2.2=df (t::D) st.last:=by rw[show t::D=[t]++D from rfl,wq l];exact jT l _ _
  rw[N,jT (C:=t::D) (by simp) st.last 0,show df (t::D) 0=df D 0 from wq (C:=[t]) l 0];simp[kG,iS];subst o A;obtain⟨⟨t1,D',z,S⟩,h1,H,p⟩:=E6 Z (by decide) U;have l:D≠[]:=by rw[z];simp
  have E:zx t.1=6:=by rw[F];rfl
  refine⟨by omega,⟨t,D,rfl,by rw[E];decide⟩,λkey st rest k b=>?_⟩;obtain⟨ks,ps,new,e,M⟩:=p st.nodes (zx t.1,t.2,key,[],[]) [] rest t.2.2 ((D++rest).length+1) (by grind) (by grind);rw[UG,WP]at M;refine⟨(6,(t.2.1,df D 0),key,ks,ps)::new,?_,E0 (.inr ⟨rfl,rfl⟩) (by rw[I];rfl) l h M⟩;rw[go key st _ t (D++rest) k (by rw[E];decide) (by omega) (by unfold eE;rw[E,za (by decide),zA rfl];unfold Xy;rw[za (show¬PSt.kind ⟨D++rest,t.2.2,_⟩=3 from by grind)];rw[E]at e;exact e)];unfold PSt.setTo;dsimp only;rw[J4];have N:df D t.2.2=df (t::D) st.last:=by rw[show t::D=[t]++D from rfl,wq l];exact jT l _ _
  rw[N,jT (C:=t::D) (by simp) st.last 0,show df (t::D) 0=df D 0 from wq (C:=[t]) l 0];simp[kG,iS]
end
section
variable {k:Int}
theorem DD(h:zx k=5):k=4:=by unfold zx at h;by_cases h1:k=12 <;> by_cases h2:k=10\/k=11 <;> by_cases f:k=9 <;> by_cases c:k=8 <;> by_cases e:k=4 <;> by_cases b:k=2 <;> simp[*]at h ⊢
theorem Aj(h:zx k=6):k=2:=by unfold zx at h;by_cases h1:k=12 <;> by_cases h2:k=10\/k=11 <;> by_cases f:k=9 <;> by_cases c:k=8 <;> by_cases e:k=4 <;> by_cases b:k=2 <;> simp[*]at h ⊢
def WfT(s:Bs)(l:List Tk):Prop:=∀t∈l,ya s t.2=Wc s t.2
theorem WfT.drop{s:Bs}{a b:List Tk}(h:WfT s (a++b)):WfT s b:=λt c=>h t (Uw _ c)
def uQ(s:Bs)(K:List Bs->List Bs->Bs×Tr->List Tk->Nat->Prop)(kid:dP):Prop:=
 ∀had st had' st',kid had st=.inl (had',st')->WfT s st.rest->st.nodes.length<=4096->∃b C m,K had had' b C m/\st.rest=C++st'.rest/\st'.nodes.length=st.nodes.length+m/\st'.nodes.length<=4096
theorem m8{st:PSt}(h:st.kind=k)(b:k≠0):∃t r,st.rest=t::r/\t.1=k:=by
 unfold PSt.kind at h;cases hr:st.rest with
 |nil=>rw[hr]at h;exact absurd h.symm b
 |cons t r=>rw[hr]at h;exact⟨t,r,rfl,h⟩
theorem Yf{st:PSt}{t:Tk}{r:List Tk}(h:st.rest=t::r):st.skip=⟨r,t.2.2,st.nodes⟩:=by unfold PSt.skip;rw[h]
theorem uJ{s:Bs}{n:Nat}{close:Int}(i:close≠0){K:List Bs->List Bs->Bs×Tr->List Tk->Nat->Prop}{kid:dP}(w:uQ s K kid):∀(f:Nat) (had:List Bs) (st st':PSt),J0 s n close kid f had st=.inl st'->WfT s st.rest->st.nodes.length<=4096 ->
  ∃kvs D m,KidsG K close had kvs D m/\st.rest=D++st'.rest/\st'.nodes.length=st.nodes.length+m/\st'.nodes.length<=4096
 |0,had,st,st',h,hw,hn=>by unfold J0 PSt.err at h;cases h
 |f+1,had,st,st',h,hw,hn=>by
  rw[J0]at h;split at h;cases h;rename_i k st1 e;obtain⟨x,C,m,h1,h2,G,B⟩:=w _ _ _ _ e hw hn;have l:WfT s st1.rest:=by rw[h2]at hw;exact hw.drop
  split at h;rename_i o;obtain⟨c,r,b,o⟩:=m8 o i;have p:=Yf (st:=st1.addKid n st.nodes.length (st.last,st1.here s.length)) (t:=c) (r:=r) b;rw[p]at h;cases h;refine⟨[x],C++[c],m,.last h1 o,by rw[h2,b];simp,?_,?_⟩ <;> dsimp only <;> rw[J3] <;> assumption;split at h;rename_i o;obtain⟨q,r,b,A⟩:=m8 o (by decide);have p:=Yf (st:=st1.addKid n st.nodes.length (st.last,st1.here s.length)) (t:=q) (r:=r) b;rw[p]at h;obtain⟨kvs,D,m',F,u,y,E⟩:=uJ i w f k _ st' h (by rw[b]at l;exact λt z=>l t (Uo _ z)) (by dsimp only;rw[J3];exact B);dsimp only at u y;rw[J3]at y;exact⟨x::kvs,C++q::D,m+m',.more h1 A F,by rw[h2,b,u];simp,by omega,E⟩;unfold PSt.err at h;cases h
theorem Ad{s:Bs}:∀(d:Nat) (key:Sp) (st st':PSt),Wd s d key st=.inl st'->WfT s st.rest->st.nodes.length<=4096 ->
  ∃v C m,PV s d v C m/\st.rest=C++st'.rest/\st'.nodes.length=st.nodes.length+m/\st'.nodes.length<=4096
 |0,key,st,st',h,k,u=>by unfold Wd at h;split at h <;> (unfold PSt.err at h;cases h)
 |d+1,key,st,st',h,k,u=>by
  have U:=Ad (s:=s) d;have J:uQ s (KA (PV s d)) (eU (Wd s d)):=by intro had st had' st' e k u;unfold eU at e;split at e;rename_i st1 P;cases e;obtain⟨v,C,m,h1,h2,B,H⟩:=U _ _ _ P k u;exact⟨([],v),C,m,⟨rfl,h1⟩,h2,B,H⟩;cases e
  have F:uQ s (KO s (PV s d)) (d7 s (Wd s d)):=by intro had st had' st' e k u;unfold d7 at e;split at e;unfold PSt.err at e;cases e;rename_i t r f;split at e;rename_i V;split at e;unfold PSt.err at e;cases e;rename_i p;split at e;rename_i Y;obtain⟨q,S,b,Z⟩:=m8 Y (by decide);rw[Yf f]at b;dsimp only at b;rw[Yf f,Yf (st:=⟨r,t.2.2,st.nodes⟩) b]at e;split at e;rename_i st1 P;cases e;rw[f,b]at k;obtain⟨v,C,m,h1,h2,B,H⟩:=U _ _ _ P (λx O=>k x (Uo _ (Uo _ O))) u;dsimp only at h2 B;exact⟨((Xp (Wc s t.2)).1,v),t::q::C,m,⟨t,q,C,rfl,V,Z,rfl,k t Uu,p,rfl,h1⟩,by rw[f,b,h2];rfl,B,H⟩;cases e;unfold PSt.err at e;cases e;unfold PSt.err at e;cases e
  rw[Wd]at h;split at h;unfold PSt.err at h;cases h;rename_i I;split at h;unfold PSt.err at h;cases h;rename_i Q;split at h;rename_i st1 e;cases h;have E:=ny I;obtain⟨t,r,f⟩:∃t r,st.rest=t::r:=by
   cases f:st.rest with
   |nil=>exact absurd f E
   |cons t r=>exact⟨t,r,rfl⟩
  have L:st.kind=t.1:=by unfold PSt.kind;rw[f]
  have G:st.open key=⟨r,t.2.2,st.nodes++[(zx t.1,t.2,key,[],[])]⟩:=by unfold PSt.open;rw[f]
  rw[L]at e I;rw[G]at e;have w:WfT s r:=by rw[f]at k;exact λx O=>k x (Uo _ O)
  have i:(st.nodes++[(zx t.1,t.2,key,[],[])]).length=st.nodes.length+1:=by simp
  have l:(st1.setTo st.nodes.length).rest=st1.rest:=rfl;rw[l,oH,f];unfold eE at e;split at e;rename_i z;unfold Xy at e;split at e;rename_i n;obtain⟨c,S,b,n⟩:=m8 n (by decide);rw[Yf b]at e;cases e;dsimp only at b ⊢;rw[i,b];exact⟨_,[t,c],1,⟨t,.inr (.inl ⟨c,rfl,.inl ⟨DD z,n,rfl⟩,rfl⟩)⟩,rfl,rfl,by omega⟩;obtain⟨kvs,D,m,N,o,y,M⟩:=uJ (by decide) J _ _ _ _ e w (by dsimp only;omega);dsimp only at o y;rw[i]at y;exact⟨_,t::D,m+1,⟨t,.inr (.inr (.inl ⟨D,kvs,m,rfl,DD z,N,rfl,rfl⟩))⟩,by rw[o];rfl,by omega,M⟩;rename_i z;split at e;rename_i A;unfold Xy at e;split at e;rename_i n;obtain⟨c,S,b,n⟩:=m8 n (by decide);rw[Yf b]at e;cases e;dsimp only at b ⊢;rw[i,b];exact⟨_,[t,c],1,⟨t,.inr (.inl ⟨c,rfl,.inr ⟨Aj A,n,rfl⟩,rfl⟩)⟩,rfl,rfl,by omega⟩;obtain⟨kvs,D,m,N,o,y,M⟩:=uJ (by decide) F _ _ _ _ e w (by dsimp only;omega);dsimp only at o y;rw[i]at y;exact⟨_,t::D,m+1,⟨t,.inr (.inr (.inr ⟨D,kvs,m,rfl,Aj A,N,rfl,rfl⟩))⟩,by rw[o];rfl,by omega,M⟩;rename_i A;cases e;dsimp only;rw[i];exact⟨_,[t],1,⟨t,.inl ⟨rfl,I,z,A,rfl,rfl⟩⟩,rfl,rfl,by omega⟩;cases h
end
section
variable {s:Bs} {a b:Nat}
inductive Lex (s:Bs):Nat->Nat->List Tk->Prop
 |nil {i:Nat}:Lex s i i []
 |cons {i j:Nat} {T:List Tk}:i<s.length->(Qa s i).2.2=0->Lex s (Qa s i).2.1 j T->Lex s i j (((Qa s i).1,((i:Int),((Qa s i).2.1:Int)))::T)
theorem Ec:∀(f:Nat) (s:Bs) (a:Nat) (o:List Tk),(Yd f s a o).2.2=0->s.length-a<=f->a<=s.length->∃T,(Yd f s a o).1=o++T/\Lex s a s.length T
 |0,s,a,o,h,hf,ha=>by
  have:a=s.length:=by omega
  subst this;exact⟨[],by simp[Yd],.nil⟩
 |f+1,s,a,o,h,hf,ha=>by
  rw[Yd]at h ⊢;split at h;rename_i h1;rw[zA h1];split at h;rename_i h2;rw[zA h2];have b:=Jz h1 h2;obtain⟨T,e,L⟩:=Ec f s _ _ h (by omega) b.2;exact⟨_::T,by rw[e];simp,.cons h1 h2 L⟩;rename_i h2;exact absurd h h2;rename_i h1;rw[za h1];have:a=s.length:=by omega
  subst this;exact⟨[],by simp,.nil⟩
theorem Lex.le{T:List Tk}(H:Lex s a b T):a+T.length<=b/\(T≠[]->b<=s.length):=by
 induction H with
 |nil=>exact⟨by simp,λh=>absurd rfl h⟩
 | @cons a b T h1 h2 h3 ih=>
  have c:=Jz h1 h2;refine⟨by simp only[Uk];omega,λ_=>?_⟩;cases h3 with
  |nil=>exact c.2
  |cons=>exact ih.2 (by simp)
theorem MA{T:List Tk}(H:Lex s a b T):∀(f:Nat) (o:List Tk),b=s.length->T.length<=f->Yd f s a o=(o++T,s.length,0):=by
 induction H with
 | @nil a=>
  intro f o e c;subst e;cases f with
  |zero=>simp[Yd]
  |succ f=>rw[Yd,za (by omega)];simp
 | @cons a b T h1 h2 h3 ih=>intro f o e c;obtain⟨g,rfl⟩:∃g,f=g+1:=⟨f-1,by simp at c;omega⟩;rw[Yd,zA h1,zA h2,ih g _ e (by simpa using c)];simp
theorem Ld{T:List Tk}(H:Lex s 0 s.length T)(b:s.length<=65536):y9 s=(T,s.length,0):=by unfold y9;rw[za (by omega),MA H _ _ rfl (by have:=H.le.1;omega),UX]
theorem DL(h:(y9 s).2.2=0):s.length<=65536/\Lex s 0 s.length (y9 s).1:=by unfold y9 at h ⊢;split at h;cases h;rename_i h1;rw[za h1];obtain⟨T,e,L⟩:=Ec _ _ _ _ h (by omega) (by omega);rw[e];exact⟨by omega,L⟩
theorem Lex.append{e f:List Tk}{a m b:Nat}(H:Lex s a m e)(c:Lex s m b f):Lex s a b (e++f):=by
 induction H with
 |nil=>exact c
 |cons h1 h2 _ h=>exact .cons h1 h2 (h c)
theorem Lex.tok{T:List Tk}(H:Lex s a b T):∀t∈T,(a:Int)<=t.2.1/\t.2.1<t.2.2/\t.2.2<=(b:Int)/\b<=s.length:=by
 induction H with
 |nil=>intro t c;cases c
 | @cons a b T h1 h2 h3 ih=>
  have f:=Jz h1 h2;have e:=h3.le;intro t c;rcases Uj.1 c with rfl|c;refine⟨by dsimp only;omega,by dsimp only;omega,by dsimp only;omega,?_⟩;cases h3 with
  |nil=>exact f.2
  |cons=>exact e.2 (by simp)
  have:=ih t c;exact⟨by omega,this.2.1,this.2.2.1,this.2.2.2⟩
theorem nP{p:Sp}(h0:0<=p.1)(h1:p.1<p.2)(h2:p.2<=(s.length:Int)):ya s p=Wc s p:=by unfold ya;rw[za (by omega)]
theorem MW(b:(Yl s).2.2=0):(y9 s).2.2=0/\∃v C m,PV s 32 v C m/\m<=4096/\qa (y9 s).1=C/\Made s 32 0 (0,0) (Yl s).1.2 v C m:=by
 have c:(y9 s).2.2=0:=by unfold Yl at b;split at b;assumption;exact b
 refine⟨c,?_⟩;obtain⟨p,L⟩:=DL c;have l:WfT s (qa (y9 s).1):=λt h=>by have:=L.tok t (WV.1 h).1;exact nP (by omega) this.2.1 (by omega)
 unfold Yl at b ⊢;rw[zA c]at b ⊢;cases e:Wd s 32 (0,0) ⟨qa (y9 s).1,0,[]⟩with
 |inr x=>rw[e]at b;dsimp only at b;exfalso;exact pM s 32 _ _ _ e b
 |inl st=>
  rw[e]at b;dsimp only at b ⊢;split at b;rename_i i;rw[zA i];obtain⟨v,C,m,h1,h2,f,o⟩:=Ad 32 _ _ _ e l (by simp);rw[i,UM]at h2;have h2:qa (y9 s).1=C:=h2;have n:m<=4096:=by simp only[UG]at f;omega
  obtain⟨_,_,g⟩:=uc 32 v C m h1;obtain⟨new,k,M⟩:=g (0,0) ⟨qa (y9 s).1,0,[]⟩ [] (by rw[h2];simp) (by simp at f ⊢;omega);rw[k]at e;simp only[Sum.inl.injEq]at e;subst e;simp only[UX,UG]at f M ⊢;exact⟨v,C,m,h1,n,h2,M⟩;cases b
end
section
variable {l:Bs} {u:Nat}
theorem lF{k:Nat}(h:k<10):(UL (48+k)).toNat=48+k:=by rw[UInt8.toNat_ofNat'];omega
theorem An:∀(n u:Nat),u<=n->(decDigits u).all yb=Ta/\decDigits u≠[]/\zl (decDigits u)=u/\(1<=u->(decDigits u).head?≠Td 48)
 |0,u,h=>by
  have:u=0:=by omega
  subst this;rw[decDigits,dif_pos (by omega)];exact⟨by decide,by simp,by decide,λh=>by omega⟩
 |n+1,u,h=>by by_cases b:u<10;rw[decDigits,dif_pos b];refine⟨?_,by simp,?_,λh1=>?_⟩;simp only[WQ,List.all_nil,V4,yb,lF b];simp;omega;simp only[zl,List.foldl_cons,List.foldl_nil,lF b];omega;intro e;simp only[List.head?_cons,Ud]at e;have:=congrArg UInt8.toNat e;rw[lF b]at this;have k:(48:UInt8).toNat=48:=rfl;omega;rw[decDigits,dif_neg b];obtain⟨h1,h2,l,i⟩:=An n (u / 10) (by omega);have f:u % 10<10:=Nat.mod_lt _ (by omega);refine⟨?_,by simp,?_,λ_=>?_⟩;rw[WX,h1];simp only[WQ,List.all_nil,V4,Vo,yb,lF f];simp;omega;rw[yO,l,lF f];omega;obtain⟨c,t,e⟩:=U9 h2;have:=i (by omega);rw[e]at this ⊢;exact this
theorem p8{c:UInt8}(h:l.all yb=Ta)(e:yb c=Tc):l.head?≠Td c:=by
 cases l with
 |nil=>simp
 |cons b t=>simp only[WQ,Ui]at h;simp only[List.head?_cons,ne_eq,Ud];rintro rfl;rw[h.1]at e;cases e
theorem pR(h:l.head?≠Td 48):l.dropWhile (· == 48)=l:=by
 cases l with
 |nil=>rfl
 |cons b t=>simp only[List.head?_cons,ne_eq,Ud]at h;rw[WM,za (by simpa using h)]
theorem Sz(h:l.head?≠Td 48)(h2:l.getLast?≠Td 48):jw l=l:=by unfold jw;rw[pR h,pR (by rw[List.head?_reverse];exact h2),List.reverse_reverse]
theorem CJ:∀(k u:Nat),u<10 ^ (k+1)->(decDigits u).length<=k+1
 |0,u,h=>by rw[decDigits,dif_pos (by omega)];exact Uc _
 |k+1,u,h=>by by_cases b:u<10;rw[decDigits,dif_pos b];simp;have:=CJ k (u / 10) (by rw[YI]at h;omega);rw[decDigits,dif_neg b,Uf];simpa using this
theorem Qv(h:u<=1000000):(decDigits u).length<=9:=CJ 8 u (by omega)
theorem Tt(u:Nat):itoa (u:Int)=decDigits u:=by unfold itoa;rw[za (by omega)];simp
theorem I5(h:1<=u):itoa (-(u:Int))=45::decDigits u:=by unfold itoa;rw[zA (by omega)];simp
theorem Hl{n:Nm}(h:qk n=Ta):zm (ql n)=(n,0):=by
 obtain⟨neg,d,e⟩:=n;by_cases f:d=[];have Y:=qN h f;subst f;unfold Q9 at Y;simp at Y;obtain⟨rfl,rfl⟩:=Y;rfl;have hr:Q9 (neg,d,e)=Tc:=by
  unfold Q9;cases d with
  |nil=>exact absurd rfl f
  |cons c t=>simp
 have N:=h;unfold qk at N;rw[hr,XN]at N;simp only[Ui,zB,bne_iff_ne,ne_eq]at N;obtain⟨⟨⟨⟨⟨D,hl⟩,M⟩,A⟩,af⟩,ae⟩:=N;have o:=Qp D;obtain⟨u,hu,I⟩:∃u:Nat,u<=1000000/\(e=(u:Int)\/e=-(u:Int)/\1<=u):=by by_cases h0:e<0;exact⟨e.natAbs,by omega,.inr ⟨by omega,by omega⟩⟩;exact⟨e.toNat,by omega,.inl (by omega)⟩
 obtain⟨S,f2,f3,f4⟩:=An u u (Uc _);have G:∀c∈d,eC c=Tc:=λc hc=>by have:=Us.1 o c hc;unfold yb at this;simp at this;unfold eC;simp only[XB,beq_eq_false_iff_ne,ne_eq];constructor <;> (rintro rfl;revert this;decide)
 have O:∀c∈d,eM c=Tc:=λc hc=>by have:=Us.1 o c hc;unfold yb at this;simp at this;unfold eM;simp only[beq_eq_false_iff_ne,ne_eq];rintro rfl;revert this;decide
 generalize P:(if e=0 then []else 101::itoa e:Bs)=X;have w:ql (neg,d,e)=(if neg then [45]else [])++d++X:=by unfold ql;rw[zA h,za f,P]
 have z:yb 45=Tc:=by decide
 have hS:dG (ql (neg,d,e))=d++X:=by
  rw[w];unfold dG;cases neg with
  |true=>simp
  |false=>
   have:(d++X).head?≠Td 45:=by obtain⟨c,t,rfl⟩:=U9 f;exact p8 (l:=c::t) o z
   simp only[UR,if_false,UX];rw[za (by simpa using this)]
 have L:((ql (neg,d,e)).head?==Td 45)=neg:=by
  rw[w];cases neg with
  |true=>simp
  |false=>
   have:(d++X).head?≠Td 45:=by obtain⟨c,t,rfl⟩:=U9 f;exact p8 (l:=c::t) o z
   simpa using this
 have U:cutAt eM d=(d,[],Tc):=Qz O;have E:=pR M;have ab:=Sz M A;have fin:∀(low:Bool) (B:Bs) (r:Bool),jl (ql (neg,d,e))=(d,(jl (ql (neg,d,e))).2.1,r)->xr (ql (neg,d,e))=low->(r=Ta->Zn (dh (ql (neg,d,e)))=Ta)->(if r then dh (ql (neg,d,e))else [])=B->(B.dropWhile (· == 48)).length<=9->(if low then-(zl (B.dropWhile (· == 48)):Int)else zl (B.dropWhile (· == 48)))=e->zm (ql (neg,d,e))=((neg,d,e),0):=by
  intro low B r q b F V h9 Q;have hW:jm (ql (neg,d,e))=(d,[],Tc):=by unfold jm;rw[q];exact U
  have aa:Wy (ql (neg,d,e))=Ta:=by
   unfold Wy;rw[hW,q,D];cases r with
   |true=>rw[F rfl];simp;exact .inr M
   |false=>simp;exact .inr M
  have Z:Yb (ql (neg,d,e))=⟨neg,d,[],low,B⟩:=by unfold Yb;rw[hW,L,b,show(jl (ql (neg,d,e))).2.2=r from by rw[q],V]
  unfold zm Qj;rw[zA aa,Z];dsimp only;rw[za (by simp;omega),za (by omega),Q,UM,E,ab,za f,zA (by simp;omega)];simp
 by_cases h0:e=0;subst h0;have y:X=[]:=by rw[<-P];rfl
 subst y;have q:jl (ql (neg,d,0))=(d,[],Tc):=by unfold jl;rw[hS,UM];exact Qz G
 exact fin Tc [] Tc (by rw[q]) (by unfold xr;rw[q];rfl) (λh=>by cases h) rfl (by simp) (by simp[zl]);have y:X=101::itoa e:=by rw[<-P,za h0]
 subst y;have q:jl (ql (neg,d,e))=(d,itoa e,Ta):=by unfold jl;rw[hS];have:=mj (p:=eC) (l:=d++101::itoa e) (k:=d.length) (by simp) (λi hi=>by rw[Vt hi];exact G _ (Up hi)) (by simp;decide);rw[this];simp
 have C:1<=u:=by rcases I with h|h <;> omega
 have m:=pR (f4 C);have J:Zn (decDigits u)=Ta:=by
  unfold Zn;rw[S,Vo];cases hq:decDigits u with
  |nil=>exact absurd hq f2
  |cons=>rfl
 rcases I with x|⟨s,_⟩;have hi:itoa e=decDigits u:=by rw[x,Tt]
 have b:xr (ql (neg,d,e))=Tc:=by unfold xr;rw[q,hi];have:=p8 S z;simpa using this
 have H:dh (ql (neg,d,e))=decDigits u:=by unfold dh;rw[b,q,hi];have:=p8 S (show yb 43=Tc by decide);simp only[UR,if_false];rw[za (by simpa using this)]
 exact fin Tc (decDigits u) Ta (by rw[q]) b (λ_=>by rw[H];exact J) (by rw[H];rfl) (by rw[m];exact Qv hu) (by rw[m,f3];exact x.symm);have hi:itoa e=45::decDigits u:=by rw[s,I5 C]
 have b:xr (ql (neg,d,e))=Ta:=by unfold xr;rw[q,hi];rfl
 have H:dh (ql (neg,d,e))=decDigits u:=by unfold dh;rw[b,q,hi];rfl
 exact fin Ta (decDigits u) Ta (by rw[q]) b (λ_=>by rw[H];exact J) (by rw[H];rfl) (by rw[m];exact Qv hu) (by rw[m,f3];exact s.symm)
end
section
variable {r a m:Nat} {s:Bs} {close:Int}
def fA(r:Nat):Prop:=r<55296\/(57344<=r/\r<=1114111)
theorem fk{x:Int}(h0:0<=x)(h1:x<256):(x.toNat.toUInt8).toNat=x.toNat:=by simp_all
theorem qZ(h:fA r)(m:Bs):dec (encodeRune (r:Int)++m)=(r,(encodeRune (r:Int)).length)/\1<=(encodeRune (r:Int)).length/\(128<=r->2<=(encodeRune (r:Int)).length):=by
 unfold fA at h;by_cases h1:r<=127;have e:encodeRune (r:Int)=[(r:Int).toNat.toUInt8]:=by unfold encodeRune;rw[encodeRuneZ_one (by omega) (by omega)];rfl
 grind [fk,lV];by_cases h2:r<=2047;have e:encodeRune (r:Int)=[(192+(r:Int) / 64).toNat.toUInt8,(128+(r:Int) % 64).toNat.toUInt8]:=by unfold encodeRune;rw[encodeRuneZ_two (by omega) (by omega)];rfl
 rw[e];have b0:=fk (x:=192+(r:Int) / 64) (by omega) (by omega);have b1:=fk (x:=128+(r:Int) % 64) (by omega) (by omega);refine⟨?_,by simp,λh=>by simp⟩;simp only[dec,UF,UX,List.getD_cons_zero,List.getD_cons_succ,Uk,b0,b1];unfold decodeN;grind;by_cases b:r<=65535;have e:encodeRune (r:Int)=[(224+(r:Int) / 4096).toNat.toUInt8,(128+(r:Int) / 64 % 64).toNat.toUInt8,(128+(r:Int) % 64).toNat.toUInt8]:=by unfold encodeRune;rw[encodeRuneZ_three (by omega)];rfl
 rw[e];have b0:=fk (x:=224+(r:Int) / 4096) (by omega) (by omega);have b1:=fk (x:=128+(r:Int) / 64 % 64) (by omega) (by omega);have b2:=fk (x:=128+(r:Int) % 64) (by omega) (by omega);refine⟨?_,by simp,λh=>by simp⟩;simp only[dec,UF,UX,List.getD_cons_zero,List.getD_cons_succ,Uk,b0,b1,b2];unfold decodeN;grind;have e:encodeRune (r:Int)=[(240+(r:Int) / 262144).toNat.toUInt8,(128+(r:Int) / 4096 % 64).toNat.toUInt8,(128+(r:Int) / 64 % 64).toNat.toUInt8,(128+(r:Int) % 64).toNat.toUInt8]:=by unfold encodeRune;rw[encodeRuneZ_four (by omega) (by omega)];rfl
 rw[e];have b0:=fk (x:=240+(r:Int) / 262144) (by omega) (by omega);have b1:=fk (x:=128+(r:Int) / 4096 % 64) (by omega) (by omega);have b2:=fk (x:=128+(r:Int) / 64 % 64) (by omega) (by omega);have b3:=fk (x:=128+(r:Int) % 64) (by omega) (by omega);refine⟨?_,by simp,λh=>by simp⟩;simp only[dec,UF,UX,List.getD_cons_zero,List.getD_cons_succ,Uk,b0,b1,b2,b3];unfold decodeN;rw[za (by omega),za (by omega),za (by omega),zA ⟨by omega,⟨by omega,by omega⟩,⟨by omega,by omega⟩,by omega,by omega⟩,zA (by omega)];simp;omega
theorem Gr(h:fA r)(m:Bs):xd (encodeRune (r:Int)++m)=xd m:=by
 obtain⟨h1,h2,i⟩:=qZ h m;have b:encodeRune (r:Int)++m≠[]:=by intro e;have:=(List.append_eq_nil_iff.1 e).1;rw[this]at h2;simp at h2
 have f:dD (dec (encodeRune (r:Int)++m))=Tc:=by rw[h1];unfold dD;simp only[VW,beq_eq_false_iff_ne,ne_eq];by_cases c:r=65533;omega;exact .inl c
 rw[Zc b,f,h1];simp
theorem rn(l:Bs):fA (dec l).1:=by have h0:=(l.getD 0 0).toNat_lt;have h1:=(l.getD 1 0).toNat_lt;have h2:=(l.getD 2 0).toNat_lt;have b:=(l.getD 3 0).toNat_lt;unfold fA dec decodeN;grind
theorem FY{l:Bs}{r n:Nat}(h:d9 l=Td (r,n)):fA r:=by
 unfold d9 at h;split at h
 match l,h with
 |a::c::t,h=>
  unfold i9 at h;dsimp only at h;cases e:gP c with
  |some q=>rw[e]at h;cases h;have:=Ds e;exact .inl (by omega)
  |none=>
   rw[e]at h;dsimp only at h;split at h;unfold iG at h;cases e4:dH t with
   |none=>simp_all
   |some m=>
    have b:=jN e4;rw[e4]at h;dsimp only at h;split at h;cases h;split at h;cases h;unfold fA;omega;split at h;cases e5:dH (t.drop 6)with
    |none=>simp_all
    |some k=>rw[e5]at h;dsimp only at h;split at h;simp only[Ud,Vg]at h;obtain⟨rfl,_⟩:=h;have:=jN e5;unfold fA;omega;cases h
    cases h
   cases h
 grind [rn]
theorem FZ:∀(k:Nat) (l:Bs),l.length=k->xd (eY l).1=Ta:=by
 intro k;induction k using YD with
 |_ k f=>
  intro l c;by_cases h:l=[];subst h;exact Qo;have b:=U5.2 h;rw[Jy h];split;exact Qo;cases e:d9 l with
  |none=>exact Qo
  |some x=>obtain⟨r,n⟩:=x;obtain⟨i,_,m,_⟩:=Yc h e;grind [Gr,FY]
theorem wW(t:Bs):xd (Xp t).1=Ta:=by unfold Xp;dsimp only;split;exact Qo;unfold y8;split;dsimp only;split;exact FZ _ _ rfl;exact Qo;exact Qo
theorem AH(t:Bs):(Xp t).1.length<=4*t.length:=by unfold Xp;dsimp only;split;simp;unfold y8;split;dsimp only;split;have:=(yC _ (t.drop (0+1)) rfl).2;grind;simp;simp
def jx(s:Bs)(t:Tk):Prop:=(t.1=10->ya s t.2=[116,114,117,101])/\(t.1=11->ya s t.2=[102,97,108,115,101])/\(t.1=9->(zm (ya s t.2)).2=0)
theorem KD(w:Bs):(Qu w=10->w=[116,114,117,101])/\(Qu w=11->w=[102,97,108,115,101])/\Qu w≠9:=by unfold Qu;grind
theorem PH(i:a<s.length)(ok:(Qa s a).2.2=0):jx s ((Qa s a).1,((a:Int),((Qa s a).2.1:Int))):=by
 have b:=Jz i ok;have f:ya s ((a:Int),((Qa s a).2.1:Int))=(s.drop a).take ((Qa s a).2.1-a):=by rw[nP (by omega) (by omega) (by omega)];unfold Wc;simp only[Ue]
 unfold jx;dsimp only;rw[f];clear f;have e:s.drop a=s[a]::s.drop (a+1):=UZ i;rw[e];unfold Qa at ok b ⊢;rw[e]at ok b ⊢;dsimp only at ok b ⊢;have k:=λh:s[a]∈yl=>Ze s[a] yl;split;rename_i h1;have n:indexByte yl s[a]<6:=by
  have:∀c∈yl,indexByte yl c<6:=by decide
  exact this _ h1
 omega;rename_i h1;rw[za h1]at ok b;split;omega;rename_i h2;rw[za h2]at ok b;split;grind;rename_i l;rw[za l]at ok b;split;grind;rename_i m;rw[za m]at ok b;grind [KD]
theorem Lex.good{a b:Nat}{T:List Tk}(H:Lex s a b T):∀t∈T,jx s t:=by
 induction H with
 |nil=>simp
 |cons h1 h2 _ e=>intro t c;rcases Uj.1 c with rfl|c;exact PH h1 h2;grind
theorem TD(h:(zm s).2=0):qk (zm s).1=Ta:=by
 unfold zm at h ⊢;cases e:Qj s with
 |none=>rfl
 |some x=>obtain⟨b,d2,c⟩:=sE e;rw[e]at h;dsimp only at h ⊢;generalize (if x.low=Ta then -((zl (List.dropWhile (· == 48) x.exp):Nat):Int)else((zl (List.dropWhile (· == 48) x.exp):Nat):Int))=ee at h ⊢;split;rfl;rename_i c1;rw[za c1]at h;split;rfl;rename_i c2;rw[za c2]at h;split;rfl;rename_i c3;rw[za c3]at h;grind [Dw,Qp]
theorem LJ(n:Nm):(ql n).length<=1100:=by
 unfold ql;split;rename_i h;obtain⟨h1,h2,b⟩:=Ya h;split;simp;have:(itoa n.2.2).length<=10:=by unfold itoa;split;grind [Qv];grind [Qv]
 grind;simp
def cX(x:Tr):Bool:=decide (x.kind≠7)&&zn x
mutual
theorem lT{p q:Tr->Bool}(h:∀x,p x=Ta->q x=Ta):∀v:Tr,Zy p v=Ta->Zy q v=Ta
 |.mk k s ks xs,hv=>by rw[Zy,Ui]at hv ⊢;exact⟨h _ hv.1,AK h xs hv.2⟩
theorem AK{p q:Tr->Bool}(h:∀x,p x=Ta->q x=Ta):∀l:List Tr,eZ p l=Ta->eZ q l=Ta
 |[],_=>rfl
 |x::l,hl=>by rw[eZ,Ui]at hl ⊢;exact⟨lT h x hl.1,AK h l hl.2⟩
end
structure GoodV (d:Nat) (v:Tr) (m:Nat):Prop where
 sz:bR v=m
 dp:c6 v<=d
 ok:Zy cX v=Ta
 tx:dw 1048576 v
structure GoodK (d:Nat) (xs:List Tr) (m:Nat):Prop where
 sz:xn xs=m
 dp:Wb xs<=d
 ok:eZ cX xs=Ta
 tx:dS 1048576 xs
theorem Fv{d:Nat}{P:List Bs->List Bs->Bs×Tr->List Tk->Nat->Prop}{G:Tk->Prop}{N:Nat}(h:∀had had' f C m,P had had' f C m->(∀t∈C,G t)->m<=N->GoodV d f.2 m){had:List Bs}{kvs:List (Bs×Tr)}{D:List Tk}(H:KidsG P close had kvs D m):(∀t∈D,G t)->m<=N->GoodK d (kvs.map (·.2)) m:=by
 induction H with
 |last e o=>intro c i;have g:=h _ _ _ _ _ e (λt b=>c t (Un _ b)) i;refine⟨?_,?_,?_,?_⟩;simp only[Uq,V6,xn];rw[g.sz];omega;simp only[Uq,V6,Wb];have:=g.dp;omega;simp only[Uq,V6,eZ];rw[g.ok];rfl;simp only[Uq,V6,dS];exact⟨g.tx,trivial⟩
 |more e n _ l=>intro c i;have g:=h _ _ _ _ _ e (λt b=>c t (Un _ b)) (by omega);have k:=l (λt b=>c t (Uw _ (Uo _ b))) (by omega);refine⟨?_,?_,?_,?_⟩;simp only[Uq,xn];rw[g.sz,k.sz];simp only[Uq,Wb];have:=g.dp;have:=k.dp;omega;simp only[Uq,eZ];rw[g.ok,k.ok];rfl;simp only[Uq,dS];exact⟨g.tx,k.tx⟩
theorem R9{P:Tr->List Tk->Nat->Prop}{had:List Bs}{kvs:List (Bs×Tr)}{D:List Tk}(p:s.length<=65536)(H:KidsG (KO s P) close had kvs D m):(kvs.map (·.1)).Nodup/\(∀k∈kvs.map (·.1),k∉had/\xd k=Ta/\k.length<=262144):=by
 have one:∀{t:Tk},xd (Xp (Wc s t.2)).1=Ta/\(Xp (Wc s t.2)).1.length<=262144:=λ {t}=>⟨wW _,by
  have:=AH (Wc s t.2);have:(Wc s t.2).length<=s.length:=by unfold Wc;rw[UQ,UD];omega
  omega⟩
 induction H with
 |last h u=>obtain⟨t,q,n,rfl,o,i,f,c,e,b,l⟩:=h;simp_all
 |more h i _ r=>obtain⟨t,q,n,rfl,o,i,f,c,e,b,l⟩:=h;grind
theorem PM{k:Int}(h0:zx k≠0)(e:zx k≠5)(b:zx k≠6):(k=12/\zx k=1)\/(k=10/\zx k=2)\/(k=11/\zx k=2)\/(k=9/\zx k=3)\/(k=8/\zx k=4):=by unfold zx at *;by_cases h1:k=12 <;> by_cases h2:k=10 <;> by_cases c:k=11 <;> by_cases l:k=9 <;> by_cases i:k=8 <;> by_cases h:k=4 <;> by_cases f:k=2 <;> simp[*]at h0 e b ⊢
theorem Eb{s:Bs}(F:s.length<=65536):∀(d:Nat) (v:Tr) (C:List Tk) (m:Nat),PV s d v C m->(∀t∈C,jx s t)->m<=4096->GoodV d v m
 |0,v,C,m,h,_,_=>h.elim
 |d+1,v,C,m,h,hg,B=>by
  have H:=Eb F d;obtain⟨t,u|⟨c,B,u,b⟩|⟨D,kvs,m',f,i,p,A,b⟩|⟨D,kvs,m',f,i,p,A,b⟩⟩:=h;obtain⟨rfl,J,L,M,rfl,rfl⟩:=u;obtain⟨V,U,S⟩:=hg t Uu;have I:=uy s t.2;refine⟨by simp[bR,xn],by simp[c6,Wb],?_,?_⟩;rw[yp];simp only[eZ,V4];unfold cX zn;rcases PM J L M with⟨e,n⟩|⟨e,n⟩|⟨e,n⟩|⟨e,n⟩|⟨e,n⟩ <;> simp only[Tr.kind,Tr.text,Tr.keys,Tr.items,n,ym] <;> unfold Yr;simp;grind;grind;have O:=Hl (TD (S e));simp[dO,O];simp[wW];rw[i6];simp only[Tr.text,Tr.keys,dS,and_true,zh];refine⟨?_,by simp,by simp⟩;unfold Yr;grind [LJ,AH];subst B b;have:v=.mk 5 (bl []) [] []\/v=.mk 6 (bl []) [] []:=by rcases u with⟨_,_,h⟩|⟨_,_,h⟩;exact .inl h;exact .inr h
  rcases this with rfl|rfl;exact⟨by simp[bR,xn],by simp[c6,Wb],rfl,by rw[dw,dS];exact⟨by decide,trivial⟩⟩;exact⟨by simp[bR,xn],by simp[c6,Wb],rfl,by rw[dw,dS];exact⟨by decide,trivial⟩⟩;subst f b A;have k:=Fv (d:=d) (N:=4096) (G:=jx s) (P:=KA (PV s d)) (λhad had' w C m ⟨_,r⟩ z b=>H _ _ _ r z b) p (λt i=>hg t (Uo _ i)) (by omega);refine⟨?_,?_,?_,?_⟩;rw[bR,k.sz];omega;rw[c6];have:=k.dp;omega;rw[yp];simp only[Tr.items,k.ok,V4];rfl;rw[dw];exact⟨⟨by decide,by simp,by simp⟩,k.tx⟩;subst f b A;have k:=Fv (d:=d) (N:=4096) (G:=jx s) (P:=KO s (PV s d)) (λhad had' w C m ⟨_,_,_,e,_,_,_,_,_,_,r⟩ z b=>H _ _ _ r (λt i=>z t (by simp_all)) b) p (λt i=>hg t (Uo _ i)) (by omega);obtain⟨Z,Q⟩:=R9 F p;have o:=ww (kvs.map (·.2));rw[k.sz,Um]at o;have l:(kvs.map λw=>bl w.1)=(kvs.map (·.1)).map bl:=by rw[U3];rfl
  refine⟨?_,?_,?_,?_⟩;rw[bR,k.sz];omega;rw[c6];have:=k.dp;omega;rw[yp];simp only[Tr.items,k.ok,V4];unfold cX zn qw;simp only[Tr.kind,Tr.keys,Tr.items,Tr.text,l];have Y:((kvs.map (·.1)).map bl).all (λk=>xd (lb k))=Ta:=by rw[Us];intro x q;obtain⟨y,E,rfl⟩:=US.1 q;rw[ym];exact(Q y E).2.1
  grind;rw[dw];refine⟨⟨by decide,by grind,λx q=>?_⟩,k.tx⟩;rw[l]at q;obtain⟨y,E,rfl⟩:=US.1 q;rw[zh];grind
theorem GG(p:(Yl s).2.2=0):zz (Ys s (Yl s).1.2 33 0)=Ta/\Zg (Ys s (Yl s).1.2 33 0)=Ta/\Sm (Ys s (Yl s).1.2 33 0):=by
 obtain⟨f,v,C,m,h,n,e,M⟩:=MW p;obtain⟨k,L⟩:=DL f;have o:Ys s (Yl s).1.2 33 0=v:=M.val _ (λi y r=>by simp_all) 33 (by omega);have g:=Eb k 32 v C m h (λt b=>by rw[<-e]at b;exact L.good t (WV.1 b).1) n;rw[o];have c:wm v=Ta:=by unfold wm;have:=g.sz;have:=g.dp;simp;omega
 have q:Zy zn v=Ta:=lT (λx l=>by unfold cX at l;simp_all) v g.ok;refine⟨?_,?_,⟨by have:=g.sz;omega,g.tx⟩⟩;unfold zz;rw[c];exact g.ok;unfold Zg;grind
end
section
theorem qL(a b:Bs):Yp (a++b)=Yp a++Yp b:=by unfold Yp;rw[List.flatMap_append]
theorem RD(c:UInt8):(eR c).length<=6:=by
 unfold eR;repeat' split
 all_goals simp
theorem qD:∀l:Bs,(Yp l).length<=6*l.length
 |[]=>by simp[Yp]
 |c::l=>by have:=qD l;have h1:=RD c;have e:Yp (c::l)=eR c++Yp l:=rfl;rw[e,Uf,Uk];omega
theorem Rz{c:UInt8}(h:128<=c.toNat):eR c=[c]:=by
 have ne:∀n:Nat,n<128->c≠UL n:=λn b e=>by rw[e,UInt8.toNat_ofNat']at h;omega
 unfold eR;rw[za (by rintro(e|e);exact ne 34 (by omega) e;exact ne 92 (by omega) e),za (show¬c=8 from ne 8 (by omega)),za (show¬c=12 from ne 12 (by omega)),za (show¬c=10 from ne 10 (by omega)),za (show¬c=13 from ne 13 (by omega)),za (show¬c=9 from ne 9 (by omega)),za (by omega)]
theorem AJ:∀{l:Bs},(∀c∈l,128<=c.toNat)->Yp l=l
 |[],_=>rfl
 |c::l,h=>by have e:Yp (c::l)=eR c++Yp l:=rfl;rw[e,Rz (h c Uu),AJ λx b=>h x (Uo _ b)];rfl
theorem BP{r:Nat}(h:fA r)(i:128<=r):∀c∈encodeRune (r:Int),128<=c.toNat:=by
 unfold fA at h;intro c f;unfold encodeRune at f;obtain⟨x,b,rfl⟩:=US.1 f;have key:∀y:Int,x=y->128<=y->y<256->128<=x.toNat.toUInt8.toNat:=λy e h1 h2=>by subst e;rw[fk (by omega) h2];omega
 by_cases h2:r<=2047;rw[encodeRuneZ_two (by omega) (by omega)]at b;simp only[Uj,XY,or_false]at b;rcases b with e|e <;> exact key _ e (by omega) (by omega);by_cases k:r<=65535;rw[encodeRuneZ_three (by omega)]at b;simp only[Uj,XY,or_false]at b;rcases b with e|e|e <;> exact key _ e (by omega) (by omega);rw[encodeRuneZ_four (by omega) (by omega)]at b;simp only[Uj,XY,or_false]at b;rcases b with e|e|e|e <;> exact key _ e (by omega) (by omega)
def d6(r:Nat):Nat:=if r=34\/r=92 then r else if r=8 then 98 else if r=12 then 102 else if r=10 then 110 else if r=13 then 114 else if r=9 then 116 else 0
def iU(k:Nat):UInt8:=UL (if k<10 then 48+k else 87+k)
def fw(r:Nat):Bs:=if d6 r≠0 then [92,UL (d6 r)]else if 32<=r then encodeRune (r:Int)else [92,117,48,48,UL (48+r / 16),iU (r % 16)]
theorem NK:(U8 128).all (λk=>decide (eR (UL k)=fw k))=Ta:=by kernel_rfl
theorem Ce{l:Bs}(h:l≠[])(i:dD (dec l)=Tc):Yp (l.take (dec l).2)=fw (dec l).1:=by
 by_cases b:(dec l).1<128;obtain⟨c,t,rfl⟩:=U9 h;have k:c.toNat<128:=by
  rcases U1 c.toNat 128 with h1|h1;exact h1;exfalso;have h2:=u7 h i;have p:=(j6 (c::t)).1;have o:encodeRune ((dec (c::t)).1:Int)=[((dec (c::t)).1:Int).toNat.toUInt8]:=by unfold encodeRune;rw[encodeRuneZ_one (by omega) (by omega)];rfl
  obtain⟨n,f⟩:∃n,(dec (c::t)).2=n+1:=⟨(dec (c::t)).2-1,by omega⟩;rw[o,f,V7]at h2;injection h2 with h2 _;rw[<-h2,fk (by omega) (by omega)]at h1;omega
 rw[lV k]at b ⊢;have:=Us.1 NK c.toNat (UY.2 k);have:=zC this;rw[UInt8.ofNat_toNat]at this;rw[<-this];simp[Yp];have b:128<=(dec l).1:=by omega
 have e:=u7 h i;have m:d6 (dec l).1=0:=by unfold d6;rw[za (by omega),za (by omega),za (by omega),za (by omega),za (by omega),za (by omega)]
 unfold fw;rw[za (by rw[m];exact λh=>h rfl),zA (by omega),<-e];exact AJ (BP (rn l) b)
end
end
section
open Go.RowKit
variable {h:zb} {it:Nat} {s:Bt} {K:Value -> zb -> Prop}
theorem IF{P:Program}{p:Nat}(e:h[it]?=Td (.stringIter s p)){T:TypeId}(h1:p<s.size->K (.tuple #[.bool Ta,.int .i64 (p:Int),.int .i32 (eA s p)]) (h.setIfInBounds it (.stringIter s (dE s p))))
  (h0:s.size<=p->K (.tuple #[.bool Tc]) h):XRun P (WS (.pointer (Td ⟨it,0,Te⟩)) Ta T) h K:=by
 have f:∀(w:World),w.heap[it]?=Td (.stringIter s p)->(getObj it).run P w=.ok (.stringIter s p) w:=λw e=>by simp[getObj,Sem.run,e]
 have i:∀(w:World) (c:Obj),w.heap[it]?=Td (.stringIter s p)->(setObj it c).run P w=.ok () { w with heap:=w.heap.setIfInBounds it c }:=λw c e=>by simp[setObj,Sem.run,e]
 intro B d;by_cases b:p<s.size;have l:dy s p=Ta:=by simpa[dy,YK]using b
 have k:dE s p=p+(YS s p).2:=by unfold dE;rw[show Nat.blt p s.size=Ta from l];rfl
 refine⟨_,d,_,?_,h1 b⟩;unfold WS;simp only;rw[Sem.run_bind,f (mk B d h) e];simp only[Result.andThen_ok,b,if_true];rw[Sem.run_bind,i (mk B d h) _ e,k];rfl;refine⟨_,d,h,?_,h0 (by omega)⟩;unfold WS;simp only;rw[Sem.run_bind,f (mk B d h) e];simp;omega
theorem Bld.other{h h':zb}{b:Nat}{l:Bs}(H:Bld h b l){p:Nat}(e:h[it]?=Td (.stringIter s p))(f:∀i,i≠it->h'[i]?=h[i]?):Bld h' b l:=by obtain⟨q,r,w,n,k⟩:=H;refine⟨q,r,?_,n,k.keep λa u=>?_⟩;grind;refine f _ λt=>?_;rcases k.2 with⟨o,_⟩|⟨g,cap,c,o,_,m,_⟩;simp_all;have m:h[g]?=Td (.cells c 5 (0,0)):=m;simp_all
theorem Bld.zero(h:zb):Bld (h.push (.cells #[.pointer Te,.slice Te 0 0] 89)) h.size []:= ⟨Te,⟨Te,0,0⟩,yx _ _,.inl rfl,Owns.nil _ _ _ _⟩
theorem JA{r:Nat}(u:r<=1114111)(l:K (.int .u8 (d6 r:Int)) h):XC Tp 197 #[.int .i32 (r:Int)] h K:=by
 apply LH;intro p f;have c:∀n:Nat,((r:Int)==(n:Int))=decide (r=n):=λn=>by grind
 have o:((r:Int)==34)=decide (r=34):=c 34;have m:((r:Int)==92)=decide (r=92):=c 92;have w:((r:Int)==8)=decide (r=8):=c 8;have t:((r:Int)==12)=decide (r=12):=c 12;have s:((r:Int)==10)=decide (r=10):=c 10;have q:((r:Int)==13)=decide (r=13):=c 13;have x:((r:Int)==9)=decide (r=9):=c 9;unfold d6 at l;have fin:∀b:Bool,(b=Ta↔r=34\/r=92)->p b h:=λb k=>by
  refine f _ _ ⟨λi=>?_,λi=>?_⟩;rw[zA (k.1 i)]at l;have e:T9 .u8 (r:Int)=(r:Int):=by rcases k.1 i with rfl|rfl <;> rfl
  grind;grind
 grind
theorem Li{c:Nat}(b:c<32):[92,117]++Lib.repeatL [48] (4-(cZ c).length)++cZ c=[92,117,48,48,UL (48+c / 16),iU (c % 16)]/\((cZ c).length=1\/(cZ c).length=2):=by
 have:(U8 32).all (λc=>decide ([92,117]++Lib.repeatL [48] (4-(cZ c).length)++cZ c=[92,117,48,48,UL (48+c / 16),iU (c % 16)]/\((cZ c).length=1\/(cZ c).length=2)))=Ta:=by kernel_rfl
 simp_all
set_option maxRecDepth 100000 in
set_option maxHeartbeats 4000000 in
theorem Im{gl:Fr}(hg:GL gl){t:Bs}(ht:t.length<=1048576){M:Fr}(hM:Fr.le gl M)(hb:Brn M)(ag:AgM M h)(U:∀h',Keep h.size h h'->K (.tuple #[.string (bl (dv t).1),.int .i64 (dv t).2]) h'):
  XC Tp 125 #[.string (bl t)] h K:=by
 apply IB
 refine(Ca hg.tabs (l:=t) (by omega) (R:=λr=>r.2=xd t) λk=>rfl).go hM ag (zq (a:=Arg.mk .str _) (rdStr _) zy) λv h2 M2 r L2 N hr=>?_
 obtain⟨n,is⟩:=r
 have hr:is=xd t:=hr
 subst hr
 obtain⟨_,⟨u1,_,rfl,aB,u2,rfl,y⟩,rfl⟩:=N
 obtain rfl:=qz aB
 have y:u2=.bool (xd t):=by rw[c7 rfl]at y;simpa[Rd]using y
 subst y
 refine⟨_,_,rfl,?_⟩
 unfold dv at U
 refine⟨λf=>?_,λf=>?_⟩
 ·have:xd t=Tc:=by simpa using f
  rw[this]at U
  exact U h2 L2.keep
 have hu:xd t=Ta:=by simpa using f
 rw[zA hu]at U
 intro h5
 obtain⟨k5,z5,_⟩:=jf (g:=h5) rfl
 have B5:Bld h5 h2.size []:=Bld.zero h2
 clear_value h5
 have z2:=L2.keep.size
 refine Xb B5 (by simp) 34 λo B7 k7 i7=>⟨_,rfl,?_⟩
 have z7:h2.size<o.size:=B7.lt
 intro A
 have k9:Keep o.size o A:=Keep.push _ _ (Uc _)
 have z9:A.size=o.size+1:=Ur _
 have B9:Bld A h2.size [34]:=B7.keep k9
 have e9:A[o.size]?=Td (.stringIter (bl t) 0):=yx _ _
 clear_value A
 have L:Keep h.size h A:=⟨by omega,λj F=>by rw[k9.get j (by omega),k7.get j (by omega),k5.get j (by omega),L2.keep.get j F]⟩
 refine⟨λg=>∃p,p<=t.length/\Bld g h2.size (34::Yp (t.take p))/\g[o.size]?=Td (.stringIter (bl t) p)/\xd (t.drop p)=Ta/\Keep h2.size A g,λg=>match g[o.size]? with
  |some (.stringIter _ p)=>t.length-p
  |_=>0,⟨0,by omega,B9,e9,hu,Keep.refl _ _⟩,?_⟩
 rintro g ⟨p,hp,Bg,eg,H,kg⟩
 have aZ:(Yp (t.take p)).length<=6*t.length:=by
  have:=qD (t.take p)
  rw[UQ]at this;omega
 refine IF eg (λO=>.inr ⟨_,_,rfl,λ_=>?_,λf=>(by cases f)⟩) (λu=>.inl ⟨rfl,λf=>(by cases f),λ_=>?_⟩)
 ·-- a rune more
  rw[zh]at O
  have hd:t.drop p≠[]:=by intro e;rw[List.drop_eq_nil_iff]at e;omega
  have C:dD (dec (t.drop p))=Tc:=by
   rw[Zc hd]at H
   cases hbd:dD (dec (t.drop p))with
   |true=>simp_all
   |false=>rfl
  have I:xd (t.drop (p+(dec (t.drop p)).2))=Ta:=by
   rw[Zc hd,C]at H
   rw[<-Vl];simpa using H
  have hq:=Ce hd C
  have hw:=j6 (t.drop p)
  have Y:=mN hd
  rw[UD]at Y
  have E:=Ai (t.drop p)
  have q:Yp (t.take (p+(dec (t.drop p)).2))=Yp (t.take p)++fw (dec (t.drop p)).1:=by
   rw[<-hq,<-qL,List.take_add]
  rw[k0,iH t p O]
  generalize hr:(dec (t.drop p)).1=r at E q ⊢
  generalize hn:(dec (t.drop p)).2=n at hw Y I q ⊢
  have ay:o.size<g.size:=(Ut.1 eg).1
  generalize D:g.setIfInBounds o.size (.stringIter (bl t) (p+n))=h14
  have J:∀i,i≠o.size->h14[i]?=g[i]?:=λi hi=>by grind
  have aa:h14[o.size]?=Td (.stringIter (bl t) (p+n)):=by rw[<-D,Array.getElem?_setIfInBounds_self_of_lt ay]
  have aQ:h14.size=g.size:=by rw[<-D];simp
  have z:=Bg.other eg J
  have Q:Keep h2.size A h14:=⟨by omega,λj F=>by rw[J j (by omega)];exact kg.get j F⟩
  have fin:∀g':zb,Bld g' h2.size (34::Yp (t.take p)++fw r)->Keep h2.size h14 g'->Itk h14 g'->(∃p,p<=t.length/\Bld g' h2.size (34::Yp (t.take p))/\g'[o.size]?=Td (.stringIter (bl t) p)/\xd (t.drop p)=Ta/\Keep h2.size A g') /\
    (match g'[o.size]? with|some (.stringIter _ p)=>t.length-p|_=>0)<(match g[o.size]? with|some (.stringIter _ p)=>t.length-p|_=>0):=λg' B' k' i'=>by
   have e':=i' _ _ _ aa
   refine⟨⟨p+n,by omega,by grind,e',I,Q.trans k' (Uc _)⟩,?_⟩
   grind
  have aI:(34::Yp (t.take p)).length=(Yp (t.take p)).length+1:=rfl
  unfold fw at fin
  refine JA E ⟨_,rfl,λf=>?_,λf=>?_⟩
  ·have h0:d6 r≠0:=by intro e;rw[e]at f;simp at f
   rw[zA h0]at fin
   have Z:d6 r<256:=by
    unfold d6
    repeat' split
    all_goals omega
   have e8:((UL (d6 r)).toNat:Int)=(d6 r:Int):=by rw[UInt8.toNat_ofNat'];omega
   refine Xb z (by omega) 92 λaJ ah aF aC=>⟨_,rfl,?_⟩
   rw[<-e8]
   refine Xb ah (by simp;omega) (UL (d6 r)) λaz aL ar aE=>⟨_,rfl,?_⟩
   refine fin az ?_ (aF.trans ar (Uc _)) (aC.trans aE)
   simp_all
  ·have h0:d6 r=0:=by
    have:((d6 r:Int) != 0)=Tc:=f
    simpa using this
   rw[za (by omega)]at fin
   refine⟨λu=>?_,λb=>?_⟩
   ·have u:32<=r:=by have:=zC u;omega
    rw[zA u]at fin
    refine FC z (by omega) (by omega) (by omega) λaM m aS aV aP=>⟨_,_,rfl,?_⟩
    grind
   ·have b:r<32:=by have:=zD b;omega
    rw[za (by omega)]at fin
    obtain⟨an,a1⟩:=Li b
    rw[cK (by omega)]
    have S:Keep h.size h h14:=⟨by omega,λj F=>by rw[Q.get j (by omega),L.get j F]⟩
    have B:AgM M h14:=ag.keep S
    refine G9 b hb B λaU w=>⟨_,rfl,?_⟩
    have aG:(cZ r).length<=4:=by omega
    rw[zh,cK (by omega),show(4:Int)-((cZ r).length:Int)=((4-(cZ r).length:Nat):Int)from by omega]
    refine(rS (gl:=gl) (s:=bl [48]) (c:=4-(cZ r).length) (by omega) (by rw[zh];simp;omega) (R:=λx=>x=bl (Lib.repeatL [48] (4-(cZ r).length))) (by rw[ym])).go hM (B.keep w) (zq (a:=Arg.mk .str _) (rdStr _) (zq (a:=Arg.mk p3 _) (Zw _ _) zy)) λv au aO x G N f=>?_
    subst f
    have N:=ju (Yk.1 N)
    have af:=Lib.repeatL_length [48] (4-(cZ r).length)
    have hz:(Lib.repeatL [48] (4-(cZ r).length)).length<=4:=by rw[af];simp
    refine⟨_,N,?_,?_,?_⟩
    ·show zw ((bl [92,117]).size+(bl (Lib.repeatL [48] (4-(cZ r).length))).size)
     unfold zw
     rw[zh,zh];grind
    ·show zw ((bl [92,117]++bl (Lib.repeatL [48] (4-(cZ r).length))).size+(bl (cZ r)).size)
     unfold zw
     rw[qb,zh,zh,Uf];grind
    ·have e:((⟨#[92,117]⟩:Bt)++bl (Lib.repeatL [48] (4-(cZ r).length)))++bl (cZ r)=bl ([92,117]++Lib.repeatL [48] (4-(cZ r).length)++cZ r):=by
      show(bl [92,117]++bl (Lib.repeatL [48] (4-(cZ r).length)))++bl (cZ r)=_
      rw[qb,qb]
     rw[e,an]
     have aY:=w.size
     have ak:=(z.keep w).keep G.keep
     have aA:Itk h14 au:=(Itk.keep w).trans (Itk.keep G.keep)
     have aH:=z.lt
     refine O3 ak _ (by grind) λaj ae ax am=>⟨_,_,rfl,?_⟩
     exact fin aj ae (((w.mono (m:=h2.size) (by omega)).trans (G.keep.mono (m:=h2.size) (by omega)) (Uc _)).trans ax (Uc _)) (aA.trans am)
 ·rw[zh]at u
  have ap:p=t.length:=by omega
  subst ap
  rw[Uz]at Bg
  refine Xb Bg (by grind) 34 λaN ab P aT=>⟨_,rfl,?_⟩
  refine As ab λai V=>⟨_,rfl,?_⟩
  refine U ai ⟨?_,λj F=>?_⟩
  ·have:=kg.size;have:=P.size;have:=V.size;omega
  ·rw[V.get j (by omega),P.get j (by omega),kg.get j (by omega),L.get j F]
end
section
open Go.Lib
def jd(ln:Bool)(nd lv:Nat):Bs:=if ln then 10::Vh (nd*lv) 32 else []
def we(ln:Bool)(nd lv:Nat):List Bs->Bs
 |[]=>[]
 |p::ps=>jd ln nd lv++p++ps.flatMap λq=>44::(jd ln nd lv++q)
def J5(ln:Bool)(nd lv:Nat)(ps:List Bs):Bs:=we ln nd (lv+1) ps++(if ps=[]then []else jd ln nd lv)
def du(ln:Bool)(k:Bt)(p:Bs):Bs:=(dv (lb k)).1++58::((if ln then [32]else [])++p)
mutual
def jy(ln:Bool)(nd:Nat):Tr->Nat->Bs
 |.mk k s ks xs,lv=>if k=1 then [110,117,108,108]else if k=4 then(dv (lb s)).1 else if k=5 then 91::J5 ln nd lv (lr ln nd xs (lv+1))++[93]
  else if k=6 then 123::J5 ln nd lv (List.zipWith (du ln) ks (lr ln nd xs (lv+1)))++[125]else lb s
def lr(ln:Bool)(nd:Nat):List Tr->Nat->List Bs
 |[],_=>[]
 |x::l,lv=>jy ln nd x lv::lr ln nd l lv
end
theorem zL(ln:Bool)(nd:Nat)(lv:Nat):∀l:List Tr,lr ln nd l lv=l.map λx=>jy ln nd x lv
 |[]=>rfl
 |x::l=>by rw[lr,zL ln nd lv l];rfl
theorem xo(ln:Bool)(nd:Nat)(v:Tr)(lv:Nat):jy ln nd v lv=if v.kind=1 then [110,117,108,108]else if v.kind=4 then(dv (lb v.text)).1 else if v.kind=5 then 91::J5 ln nd lv (v.items.map λx=>jy ln nd x (lv+1))++[93]
  else if v.kind=6 then 123::J5 ln nd lv (List.zipWith (du ln) v.keys (v.items.map λx=>jy ln nd x (lv+1)))++[125]else lb v.text:=by
 cases v with
 |mk k s ks xs=>rw[jy,zL]
theorem Ss(ln:Bool)(nd lv:Nat)(ps:List Bs)(p:Bs):we ln nd lv (ps++[p])=we ln nd lv ps++((if ps=[]then []else [44])++(jd ln nd lv++p)):=by
 cases ps with
 |nil=>simp[we]
 |cons q b=>rw[UF,we,we,List.flatMap_append,za (by simp)];simp[UB]
theorem oA(ln:Bool)(nd lv:Nat){ps:List Bs}{n:Nat}(h:n<ps.length):we ln nd lv (ps.take (n+1))=we ln nd lv (ps.take n)++((if n=0 then []else [44])++(jd ln nd lv++ps[n])):=by rw[Uh h,Ss];congr 2;by_cases h0:n=0;subst h0;rfl;rw[za h0,za (by intro e;rw[List.take_eq_nil_iff]at e;rcases e with e|e;exact h0 e;rw[e]at h;simp at h)]
theorem nD(ln:Bool)(nd lv:Nat){ps:List Bs}:∀{n:Nat},n<=ps.length->(we ln nd lv (ps.take n)).length<=(we ln nd lv ps).length:=by
 have step:∀k n,n+k=ps.length->(we ln nd lv (ps.take n)).length<=(we ln nd lv ps).length:=by
  intro k;induction k with
  |zero=>intro n h;rw[WP]at h;subst h;rw[Uz];exact Uc _
  |succ k b=>intro n h;have h1:=b (n+1) (by omega);rw[oA ln nd lv (by omega),Uf]at h1;omega
 intro n h;exact step (ps.length-n) n (by omega)
theorem w0:∀n:Nat,repeatL [32] n=Vh n 32
 |0=>rfl
 |n+1=>by rw[show repeatL [32] (n+1)=[32]++repeatL [32] n from rfl,w0 n];rfl
theorem ED:∀{l:List Tr} {y:Tr},y∈l->c6 y<=Wb l
 |x::l,y,h=>by rw[Wb];rcases Uj.1 h with rfl|h;omega;have:=ED h;omega
theorem oZ{v x:Tr}(h:x∈v.items):c6 x<c6 v:=by have:=ED h;rw[gZ v];omega
end
section
open Go.RowKit
section
variable {b:Nat} {g g':zb} {K:Value -> zb -> Prop}
structure FrP (b:Nat) (g g':zb):Prop where
 keep:Keep b g g'
 oth:Otk g g'
theorem FrP.refl(b:Nat)(g:zb):FrP b g g:=⟨Keep.refl _ _,λi o e _=>e⟩
theorem FrP.trans{g g' c:zb}(h:FrP b g g')(k:FrP b g' c):FrP b g c:=⟨h.keep.trans k.keep (Uc _),h.oth.trans k.oth⟩
theorem FrP.ofKeep(k:Keep g.size g g')(c:b<=g.size):FrP b g g':=⟨k.mono c,Otk.keep k⟩
theorem FrP.blk(h:FrP b g g'){c:Nat}{cs:Array Value}(e:g[c]?=Td (.cells cs 25 (0,0))):g'[c]?=Td (.cells cs 25 (0,0)):=h.oth c _ e rfl
structure Low (gl M:Fr) (b:Nat) (g:zb):Prop where
 hM:Fr.le gl M
 ag:AgM M g
 low:∀c cs,M c=Td cs->c<b
theorem Low.frp{gl M:Fr}(L:Low gl M b g)(f:FrP b g g'):Low gl M b g':=⟨L.hM,λc cs e=>by rw[f.keep.get c (L.low c cs e)];exact L.ag c cs e,L.low⟩
theorem add0(b:Nat):Ua ⟨b,0,Te⟩ 0=⟨b,0,Te⟩:=rfl
section
variable {gl M : Fr} {b N : Nat} {ln : Bool} {l : Bs} {g : zb}
theorem Lk(i:GL gl)(o:Brn gl)(H:Prn g b ln (N:Int) l)(L:Low gl M b g){t:Bs}(m:t.length<=1048576)(c:l.length+(dv t).1.length<=140737488355328)(p:∀g',Prn g' b ln (N:Int) (l++(dv t).1)->FrP b g g'->K (.tuple #[]) g'):
  XC Tp 253 #[.pointer (Td ⟨b,0,Te⟩),.string (bl t)] g K:=by
 apply Xc;refine Im i m L.hM (o.mono L.hM) L.ag λh' k=>⟨_,_,rfl,_,rfl,?_⟩;rw[add0];have f:=FrP.ofKeep k (XX H.lt);refine Yz (H.keep k) _ c λe h q n=>⟨_,_,rfl,p e h (f.trans ⟨q,n⟩)⟩
theorem CW(i:GL gl)(h:Brn gl)(H:Prn g b ln (N:Int) l)(L:Low gl M b g){s:Bt}(f:(lb s).length<=1048576)(c:l.length+(dv (lb s)).1.length<=140737488355328)(e:∀g',Prn g' b ln (N:Int) (l++(dv (lb s)).1)->FrP b g g'->K (.tuple #[]) g'):
  XC Tp 253 #[.pointer (Td ⟨b,0,Te⟩),.string s] g K:=by
 have:=Lk i h H L (t:=lb s) f c e;rw[Zx]at this;exact this
theorem Bz(H:Prn g b ln (N:Int) l)(L:Low gl M b g){lv:Nat}(Y:N<=8)(y:lv<=100)(D:l.length+(jd ln N lv).length<=140737488355328)(m:∀g',Prn g' b ln (N:Int) (l++jd ln N lv)->FrP b g g'->K (.tuple #[]) g'):
  XC Tp 307 #[.pointer (Td ⟨b,0,Te⟩),.int .i64 (lv:Int)] g K:=by
 apply Kz;obtain⟨p,s,e,A,B⟩:=H;refine⟨_,rfl,ln,Blk.cellAdd (o:=0) (k:=2) (cs:=#[.pointer p,aK s,.bool ln,.int .i64 (N:Int)]) ⟨_,e⟩ rfl,λf=>?_,λf=>?_⟩;subst f;unfold jd at D m;simp only[if_true,Uk,VI]at D m;refine⟨_,rfl,?_⟩;rw[add0];refine Q0 (b:=b) (nd:=(N:Int)) ⟨p,s,e,A,B⟩ (by omega) 10 λP t Q J=>⟨_,rfl,_,rfl,_,rfl,?_⟩;have u:=t;obtain⟨F,Z,G,I,O⟩:=u;have E:FrP b g P:=⟨Q,J⟩;have z:=L.frp E;have C:N*lv<=800:=VB (Nat.mul_le_mul Y y) (by omega);refine⟨(N:Int),Blk.cellAdd (o:=0) (k:=3) (cs:=#[.pointer F,aK Z,.bool Ta,.int .i64 (N:Int)]) ⟨_,G⟩ rfl,?_⟩;rw[show((N:Int)*(lv:Int))=((N*lv:Nat):Int)from by rw[Int.natCast_mul],cK (by omega)];refine(rS (gl:=gl) (s:=bl [32]) (c:=N*lv) (by omega) (by rw[zh];simp;omega) (R:=λx=>x=bl (Vh (N*lv) 32)) (by rw[ym,w0])).go z.hM z.ag (zq (a:=Arg.mk .str _) (rdStr _) (zq (a:=Arg.mk p3 _) (Zw _ _) zy)) λv S V x i y U=>?_;subst U;refine⟨_,ju (Yk.1 y),?_⟩;have w:=FrP.ofKeep i.keep (XX t.lt);rw[add0];refine Yz (t.keep i.keep) _ (by simp only[Uf,Uk,UG,VI];omega) λn h r q=>⟨_,_,rfl,?_⟩;refine m n ?_ ((E.trans w).trans ⟨r,q⟩);rw[UB]at h;exact h;subst f;refine m g ?_ (FrP.refl _ _);have:l++jd Tc N lv=l:=by unfold jd;simp
 rw[this];exact⟨p,s,e,A,B⟩
end
end
section
variable {gl:Fr} {l:Bs} {n:Nat}
theorem KW{s p:Bs}{R:Bool->Prop}(h:R (p.isPrefixOf s)):PC Tp gl 251 [Arg.mk .str (bl s),Arg.mk .str (bl p)] [.bool] R:= PC.of_scal rfl (λ_=>uH _) (r:=p.isPrefixOf s) h λw f=>by have:=KE (bl s) (bl p) w;have b:(bl s).data.toList=s:=ym s;have c:(bl p).data.toList=p:=ym p;rw[b,c]at this;exact this.mono λe w' ⟨h1,h2⟩=>⟨h1,h2 ▸ Below.refl _ _⟩
theorem Ov{a b:UInt8}(l:Bs):[a,b].isPrefixOf l=decide (l.take 2=[a,b]):=by
 match l with
 |[]=>rfl
 |[x]=>simp[List.isPrefixOf]
 |x::y::l=>simp only[List.isPrefixOf,V7,WU,V4,Vu,and_true];rw[Uy,Ui,beq_iff_eq,beq_iff_eq,zB];constructor <;> (rintro⟨rfl,rfl⟩;exact⟨rfl,rfl⟩)
theorem LK(h:dH l=Td n):4<=l.length:=by unfold dH at h;split at h;assumption;cases h
theorem PK(q:GL gl)(h2:2<=l.length)(u:l.length<=1152921504606846976){R:Int×Int->Prop}(h:R (match iG (l.drop 2)with|some (r,n)=>((r:Int),(n:Int))|none=>(0,0))):
  PC Tp gl 409 [Arg.mk .str (bl l)] [.int .i32,.int .i64] R:=by
 apply Kj;simp only[zh,jU (show(2:Int)=((2:Nat):Int)from rfl),jU (show(6:Int)=((6:Nat):Int)from rfl),jU (show(8:Int)=((8:Nat):Int)from rfl)];refine⟨⟨by omega,by omega,by omega⟩,?_⟩;unfold iG at h;refine Ci q (by rw[UD];omega) (λn e=>?_) (λe v=>?_);rw[e]at h;have w:=jN e;have t:=LK e;rw[UD]at t;dsimp only at h;intro K p;refine⟨λb=>(by cases b),λ_=>p _ ?_⟩;refine⟨λb=>?_,λb=>⟨λo=>?_,λo=>⟨⟨by omega,by omega,by omega⟩,?_⟩⟩⟩;simp only[Bool.cond_eq_ite,Bool.if_false_right,Ui,zB]at b;rw[zA (by omega)]at h;exact h;simp only[Bool.cond_eq_ite,Bool.if_false_right,VW,decide_eq_false_iff_not,Bool.if_true_left,Vq,zB]at b o;rw[za (by omega),zA (by omega)]at h;exact h;simp only[Bool.cond_eq_ite,Bool.if_false_right,VW,decide_eq_false_iff_not,Bool.if_true_left,XB,zB]at b o;rw[za (by omega),za (by omega)]at h;rw[Vl,Vl]at h;refine KW ?_;rw[Ov];refine⟨λk=>?_,λk=>⟨⟨by omega,?_,by omega⟩,?_⟩⟩;rw[za (by simpa using k)]at h;exact h;have c:(l.drop 6).take 2=[92,117]:=by simpa using k
 have:=congrArg VA c;simp only[UQ,UD,Uk,UG]at this;omega;have c:(l.drop 6).take 2=[92,117]:=by simpa using k
 rw[zA c]at h;refine Ci q (by rw[UD];omega) (λm i=>?_) (λi v=>?_);rw[show 2+6=8 from rfl,i]at h;have x:=jN i;dsimp only at h;refine⟨λf=>?_,λf=>?_⟩;simp only[Bool.cond_eq_ite,Bool.if_true_left,Vq,zB,Bool.not_true,UR,false_or]at f;rw[za (show¬(56320<=m/\m<57344)by omega)]at h;exact h;simp only[Bool.cond_eq_ite,Bool.if_true_left,XB,decide_eq_false_iff_not,Bool.not_true,UR,decide_false,zB,XN]at f;rw[zA (show 56320<=m/\m<57344 by omega)]at h;dsimp only at h;rw[Qd (n:=(n:Int)-55296) (by omega) (by omega),Qd (n:=((n:Int)-55296)*1024) (by omega) (by omega),Qd (n:=65536+((n:Int)-55296)*1024) (by omega) (by omega),Qd (n:=65536+((n:Int)-55296)*1024+(m:Int)) (by omega) (by omega),Qd (by omega) (by omega)];have s:(((65536+(n-55296)*1024+(m-56320):Nat):Int))=65536+((n:Int)-55296)*1024+(m:Int)-56320:=by omega
 rw[s]at h;exact h;rw[show 2+6=8 from rfl,i]at h;exact⟨λ_=>h,λf=>by simp at f⟩;rw[e]at h;intro K p;exact⟨λ_=>p _ ⟨λ_=>h,λb=>by cases b⟩,λb=>by cases b⟩
theorem kP{c:UInt8}(b:n<256):((c.toNat:Int)==(n:Int))=decide (c=UL n):=by rw[Uy,beq_iff_eq,zB,Rr b];omega
theorem Hx{c:UInt8}{R:Int×Bool->Prop}(h:R (match gP c with|some r=>((r:Int),Ta)|none=>(0,Tc))):PC Tp gl 408 [Arg.mk (.int .u8) (c.toNat:Int)] [.int .i32,.bool] R:=by
 apply SV;have B:=c.toNat_lt;have q:∀n:Nat,n<256->((c.toNat:Int)==(n:Int))=decide (c=UL n):=λn z=>kP z;have m:=q 34 (by omega);have s:=q 92 (by omega);have p:=q 47 (by omega);have o:=q 98 (by omega);have f:=q 102 (by omega);have e:=q 110 (by omega);have i:=q 114 (by omega);have k:=q 116 (by omega);simp only[Int.cast_ofNat_Int,show UL 34=34 from rfl,show UL 92=92 from rfl,show UL 47=47 from rfl,show UL 98=98 from rfl,show UL 102=102 from rfl,show UL 110=110 from rfl,show UL 114=114 from rfl,show UL 116=116 from rfl]at m s p o f e i k;rw[m,s,p,o,f,e,i,k];unfold gP at h;intro K A;have l:(c=34\/c=92\/c=47)->K Ta:=by intro h1;apply A;rw[zA h1]at h;rw[Qd (by omega) (by omega)];exact⟨λ_=>h,λb=>by cases b⟩
 refine⟨λh1=>by rw[h1];exact l (.inl (by simpa using h1)),λh1=>⟨λh2=>by rw[h2];exact l (.inr (.inl (by simpa using h2))),λh2=>?_⟩⟩;by_cases x:c=47;rw[zE x];exact l (.inr (.inr x));have z:¬(c=34\/c=92\/c=47):=by rw[decide_eq_false_iff_not]at h1 h2;rintro(h|h|h);exact h1 h;exact h2 h;exact x h
 rw[za z]at h;rw[zF x];apply A;refine⟨λb=>(by cases b),λ_=>?_⟩;by_cases y:c=98;rw[zA y]at h;rw[zE y];exact⟨λ_=>h,λb=>by cases b⟩;rw[za y]at h;rw[zF y];refine⟨λb=>(by cases b),λ_=>?_⟩;by_cases a2:c=102;rw[zA a2]at h;rw[zE a2];exact⟨λ_=>h,λb=>by cases b⟩;rw[za a2]at h;rw[zF a2];refine⟨λb=>(by cases b),λ_=>?_⟩;by_cases t:c=110;rw[zA t]at h;rw[zE t];exact⟨λ_=>h,λb=>by cases b⟩;rw[za t]at h;rw[zF t];refine⟨λb=>(by cases b),λ_=>?_⟩;by_cases w:c=114;rw[zA w]at h;rw[zE w];exact⟨λ_=>h,λb=>by cases b⟩;rw[za w]at h;rw[zF w];refine⟨λb=>(by cases b),λ_=>?_⟩;by_cases u:c=116;rw[zA u]at h;rw[zE u];exact⟨λ_=>h,λb=>by cases b⟩;rw[za u]at h;rw[zF u];exact⟨λb=>(by cases b),λ_=>h⟩
end
section
variable {gl M:Fr} {l:Bs}
theorem HS(m:GL gl)(f:l.length<=1152921504606846976){R:Int×Int->Prop}(h:R (match i9 l with|some (r,n)=>((r:Int),(n:Int))|none=>(0,0))):
  PC Tp gl 407 [Arg.mk .str (bl l)] [.int .i32,.int .i64] R:=by
 apply N7;rw[zh]
 match l,f,h with
 |[],_,h=>exact⟨λ_=>h,λb=>by simp at b⟩
 |[a],_,h=>exact⟨λ_=>h,λb=>by simp at b⟩
 |a::c::t,f,h=>
  have i:((a::c::t).length:Int)=t.length+2:=by simp;omega
  refine⟨λb=>(by rw[zB]at b;omega),λ_=>⟨⟨by omega,by omega⟩,?_⟩⟩;have k:ze (bl (a::c::t)) (1:Int).toNat=(c.toNat:Int):=by rw[qc];rfl
  rw[k];refine Hx ?_;unfold i9 at h;dsimp only at h;cases e:gP c with
  |some r=>rw[e]at h;exact⟨λ_=>h,λb=>(by cases b)⟩
  |none=>rw[e]at h;dsimp only at h;refine⟨λb=>(by cases b),λ_=>⟨⟨by omega,by omega⟩,?_⟩⟩;have o:((c.toNat:Int)==117)=decide (c=117):=kP (n:=117) (by omega);rw[o];refine⟨λb=>?_,λb=>?_⟩;rw[zA (by simpa using b)]at h;refine PK m (by simp) f ?_;exact h;rw[za (by simpa using b)]at h;exact h
theorem TL(h:l≠[]):Lib.decodeGo (bl l)=dec l:=by unfold Lib.decodeGo;have b:=U5.2 h;rw[za (by rw[zh];omega),nK,ym,VD]
theorem SI(e:GL gl)(b:l≠[])(k:l.length<=1152921504606846976){R:Int×Int->Prop}(h:R (match d9 l with|some (r,n)=>((r:Int),(n:Int))|none=>(0,0))):
  PC Tp gl 403 [Arg.mk .str (bl l)] [.int .i32,.int .i64] R:=by
 apply QZ;have f:=U5.2 b;rw[zh,qc,show(0:Int).toNat=0 from rfl,gJ f];refine⟨⟨by omega,by omega⟩,?_⟩;have o:((l[0].toNat:Int)==92)=decide (l[0]=92):=kP (n:=92) (by omega);have m:l.head?=Td l[0]:=by cases l with
  |nil=>exact absurd rfl b
  |cons a t=>rfl
 rw[o];unfold d9 at h;rw[m]at h;refine⟨λc=>?_,λc=>?_⟩;rw[zA (by rw[zC c])]at h;exact HS e k h;rw[za (by rw[Ud];exact zD c)]at h;refine zW e.tabs ?_;rw[TL b];have i:(bif (decide (((dec l).1:Int)<32))then Ta else(bif (((dec l).1:Int)==65533)then(((dec l).2:Int)==1)else Tc))=decide ((dec l).1<32\/dD (dec l)=Ta):=by rw[Uy];unfold dD;simp only[Bool.cond_eq_ite,Bool.if_true_left,Bool.if_false_right,Vq,Ui,zB,beq_iff_eq];constructor;rintro(h1|⟨h1,h2⟩);left;omega;right;exact⟨by omega,by omega⟩;rintro(h1|⟨h1,h2⟩);left;omega;right;exact⟨by omega,by omega⟩
 rw[i];refine⟨λc=>?_,λc=>?_⟩;rw[zA (zC c)]at h;exact h;rw[za (zD c)]at h;exact h
theorem nS(s:Bt)(i j:Int):Zp M [.str,.int .i64,.int .i64] (s,i,j) (.tuple #[.string s,.int .i64 i,.int .i64 j]):= ⟨[_,_,_],⟨_,_,rfl,rdStr s,_,_,rfl,Zw _ i,_,rfl,Zw _ j⟩,rfl⟩
theorem Bl{k:IntKind}{r:Int×Int}{v:Value}(h:Zp M [.int k,.int .i64] r v):v=.tuple #[.int k r.1,.int .i64 r.2]:=by obtain⟨vs,⟨f,rest,rfl,c,e,rfl,b⟩,rfl⟩:=h;rw[qz c,qz b];rfl
set_option maxHeartbeats 1000000 in
theorem A6(Y:GL gl){t:Bs}{a:Nat}(aa:a<=1152921504606846976)(hl:t.length<=1099511627776){R:Bt×Int×Int->Prop}(u:R (bl (y8 t a).1,((y8 t a).2.1:Int),(y8 t a).2.2)):
  PC Tp gl 377 [Arg.mk .str (bl t),Arg.mk p3 (a:Int)] [.str,.int .i64,.int .i64] R:=by
 intro h M vs Q ag ha
 match vs,ha with
 |[u1,u2],⟨a1,a2,_⟩=>
  obtain rfl:=ju (s:=bl t) a1;obtain rfl:=qz (i:=(a:Int)) a2;apply PX.of;apply JQ;rw[zh,qc,Ue];have f:∀{k:Nat},k<t.length->(t.drop k).head?=Td (t[k]?.getD 0):=λ {k} J=>by rw[List.head?_drop,Ul J];rfl
  have E:∀k:Nat,(((t[k]?.getD 0).toNat:Int)==34)=decide (t[k]?.getD 0=34):=λk=>kP (n:=34) (by omega);have I:(((t[a]?.getD 0).toNat:Int) != 34)=!decide (t[a]?.getD 0=34):=by rw[bne,E]
  rw[I];refine⟨λl=>?_,λl=>?_,λl=>?_⟩;have:¬((a:Int)>=(t.length:Int)):=by simpa using l
  exact⟨by omega,by omega⟩;have hn:¬(t.drop a).head?=Td 34:=by
   intro e;have o:a<t.length:=by rcases U1 a t.length with h1|h1;exact h1;rw[Vr h1]at e;cases e
   rw[f o]at e;have e:=UO e;have D:decide ((a:Int)>=(t.length:Int))=Tc:=by rw[decide_eq_false_iff_not];omega
   rw[D,e]at l;simp at l
  have e:y8 t a=([],a,2):=by unfold y8;rw[za hn]
  rw[e]at u;exact⟨M,(bl [],(a:Int),2),Later.refl ag,nS _ _ _,u⟩;have o:a<t.length:=by
   rcases U1 a t.length with h1|h1;exact h1;have D:decide ((a:Int)>=(t.length:Int))=Ta:=by rw[zB];omega
   rw[D]at l;cases l
  have D:decide ((a:Int)>=(t.length:Int))=Tc:=by rw[decide_eq_false_iff_not];omega
  have Z:(t.drop a).head?=Td 34:=by rw[f o];rw[D]at l;congr 1;simpa using l
  have S:y8 t a=(let q:=eY (t.drop (a+1));if q.2.2 then(q.1,a+1+q.2.1,0)else([],a+1+q.2.1,2)):=by unfold y8;rw[zA Z]
  rw[qn o (by omega)];intro h1;have B1:Bld h1 h.size []:=Bld.new h;have N:Keep h.size h h1:=Keep.push _ _ (Uc _);clear_value h1;refine⟨λi g=>∃(k:Nat) (out:Bs),i=(k:Int)/\k<=t.length/\out.length<=4*k/\Bld g h.size out/\Keep h.size h g/\y8 t a=(let q:=eY (t.drop k);if q.2.2 then(out++q.1,k+q.2.1,0)else([],k+q.2.1,2)),λi _=>t.length-i.toNat,⟨a+1,[],rfl,by omega,by simp,B1,N,by rw[S];rfl⟩,?_⟩;rintro i g ⟨k,out,rfl,J,ho,B,y,z⟩;simp only[Ue];refine⟨λl=>?_,λl=>?_⟩;have p:k<t.length:=by rw[zB]at l;omega
  have w:t.drop k≠[]:=by rw[<-U5,UD];omega
  refine⟨⟨by omega,by omega⟩,?_⟩;rw[qc,E];have b:=Jy w;rw[f p]at b;refine⟨λA=>?_,λA=>⟨⟨by omega,by omega,by omega⟩,?_⟩⟩;rw[zA (by rw[zC A])]at b;rw[b]at z;refine As B λh7 V=>⟨_,rfl,M,(bl out,((k+1:Nat):Int),0),Later.same ag (y.trans V (Uc _)),?_,?_⟩;rw[qn p (by omega)];exact nS _ _ _;rw[z]at u;simpa using u;rw[za (by rw[Ud];exact zD A)]at b;have O:(bl t).extract k t.length=bl (t.drop k):=jU (n:=(k:Int)) rfl;rw[O];refine(SI Y w (by rw[UD];omega) (R:=λr=>r=(match d9 (t.drop k)with|some (r,n)=>((r:Int),(n:Int))|none=>(0,0))) rfl).go Q (ag.keep y) (zq (a:=Arg.mk .str _) (rdStr _) zy) λv h9 M9 r L hv C=>?_;obtain rfl:=Bl hv;cases ep:d9 (t.drop k)with
  |none=>rw[ep]at C b;dsimp only at C;subst C;refine⟨_,_,rfl,λ_=>?_,λG=>by cases G⟩;dsimp only at b;rw[b]at z;refine⟨M,(bl [],(k:Int),2),Later.same ag (y.trans L.keep y.size),nS _ _ _,?_⟩;rw[z]at u;simpa using u
  |some x=>
   obtain⟨c,n⟩:=x;rw[ep]at C b;dsimp only at C;subst C;obtain⟨n1,n2,U,n4⟩:=Yc w ep;rw[UD]at U;dsimp only at b;refine⟨(c:Int),(n:Int),rfl,λG=>?_,λ_=>?_⟩;simp only[beq_iff_eq]at G;omega;refine Ie (B.keep L.keep) (by omega) (by omega) (by omega) λP m H F=>⟨_,_,rfl,?_,?_⟩;refine⟨k+n,out++Lib.encodeRune (c:Int),?_,by omega,?_,H,?_,?_⟩;rw[cK (by omega)];omega;have h4:(Lib.encodeRune (c:Int)).length<=4:=by have:=(Lib.encodeRuneZ_length (c:Int)).2;rw[Lib.encodeRune,Um];exact this
   rw[Uf];omega;exact(y.trans L.keep y.size).trans F (Uc _);rw[z,b,Vl];dsimp only;rw[UB,Nat.add_assoc];show t.length-(hZ ((k:Int)+(n:Int))).toNat<t.length-((k:Nat):Int).toNat;rw[cK (by omega)];omega
  have p:k=t.length:=by rw[decide_eq_false_iff_not]at l;omega
  rw[p,List.drop_length,G6]at z;refine⟨M,(bl [],(t.length:Int),2),Later.same ag y,nS _ _ _,?_⟩;rw[z]at u;simpa using u
end
section
variable {t:Bs} {gl:Fr}
def lO(t:Bs)(a:Int):Int×Int:=if a<0\/(t.length:Int)<a then(0,2)else((y8 t a.toNat).2.1,(y8 t a.toNat).2.2)
theorem LS{R:Bt×Int×Int->Prop}(h:R (bl (Xp t).1,((Xp t).2.1:Int),(Xp t).2.2)):
  ((bif ((y8 t 0).2.2==0)then(decide (((y8 t 0).2.1:Int)<(t.length:Int)))else Tc)=Ta->R (bl [],((y8 t 0).2.1:Int),2))/\((bif ((y8 t 0).2.2==0)then(decide (((y8 t 0).2.1:Int)<(t.length:Int)))else Tc)=Tc->R (bl (y8 t 0).1,((y8 t 0).2.1:Int),(y8 t 0).2.2)):=by
 have e:(bif ((y8 t 0).2.2==0)then(decide (((y8 t 0).2.1:Int)<(t.length:Int)))else Tc)=decide ((y8 t 0).2.2=0/\(y8 t 0).2.1<t.length):=by rw[Uy];simp only[Bool.cond_eq_ite,Bool.if_false_right,Ui,zB,beq_iff_eq];omega
 rw[e];unfold Xp at h;refine⟨λb=>?_,λb=>?_⟩;rw[zA (zC b)]at h;exact h;rw[za (zD b)]at h;exact h
theorem vL(b:GL gl)(c:t.length<=1099511627776){R:Bt×Int×Int->Prop}(h:R (bl (Xp t).1,((Xp t).2.1:Int),(Xp t).2.2)):
  PC Tp gl 343 [Arg.mk .str (bl t)] [.str,.int .i64,.int .i64] R:=by
 apply G1;rw[zh];exact A6 b (a:=0) (by omega) c (LS h)
theorem JO(k:GL gl){a:Int}(f:t.length<=1099511627776){R:Int×Int->Prop}(h:R (lO t a)):PC Tp gl 400 [Arg.mk .str (bl t),Arg.mk p3 a] [.int .i64,.int .i64] R:=by
 apply JH;rw[zh];have e:(bif (decide (a<0))then Ta else(decide (a>(t.length:Int))))=decide (a<0\/(t.length:Int)<a):=by rw[Uy];simp only[Bool.cond_eq_ite,Bool.if_true_left,Vq,zB]
 rw[e];unfold lO at h;refine⟨λc=>?_,λc=>?_⟩;rw[zA (zC c)]at h;exact h;have l:=zD c;rw[za l]at h;have i:a=((a.toNat:Nat):Int):=by omega
 have:=A6 k (t:=t) (a:=a.toNat) (by omega) f (R:=λb=>R (b.2.1,b.2.2)) h;rw[<-i]at this;exact this
end
end
section
open Go.RowKit
section
theorem Lh{n:Nat}{bf:Nat->List Nat}:((U8 n).flatMap bf).Nodup↔(∀i,i<n->(bf i).Nodup)/\∀i j,i<j->j<n->∀x∈bf i,∀y∈bf j,x≠y:=by unfold List.Nodup;rw[List.pairwise_flatMap,List.pairwise_iff_getElem];constructor;rintro⟨h1,h2⟩;refine⟨λi hi=>h1 i (by simpa using hi),λi j b c=>?_⟩;have:=h2 i j (by simp;omega) (by simpa using c) b;simpa using this;rintro⟨h1,h2⟩;refine⟨λi hi=>h1 i (by simpa using hi),λi j hi c b=>?_⟩;simp at hi c;simpa using h2 i j b c
end
section
variable {h:zb} {v:Tr} {sk si:Sl} {bk bb:List Nat} {b n i k:Nat} {cs:Array Value} {cw:List Value}
structure OTp (h:zb) (v:Tr) (sk si:Sl) (bk bb:List Nat) (b:Nat) (cs:Array Value) (bf:Nat->List Nat):Prop where
 keys:OKeys h v.keys bk sk
 hn:si.len=v.items.length/\v.items.length<=140737488355328/\v.items.length<=si.cap
 hz:(v.items=[]/\bb=[]/\si.cap=0)\/(bb=[b]/\si.a=Td ⟨b,0,Te⟩/\Blk h b cs/\si.cap*4<=cs.size)
 hi:∀i (hx:i<v.items.length),OT h v.items[i] (bf i) (cut cs (i*4) 4)
 nk:bk.Nodup
 d1:∀c∈bk,c∉bb
 d2:∀c∈bk,∀i,i<v.items.length->c∉bf i
 d3:∀c∈bb,∀i,i<v.items.length->c∉bf i
 d4:∀i j,i<v.items.length->j<v.items.length->i≠j->∀c∈bf i,c∉bf j
def Qm(v:Tr)(sk si:Sl):List Value:=[.int .i64 v.kind,.string v.text,aK sk,aK si]
theorem OTp.ot{bf:Nat->List Nat}(H:OTp h v sk si bk bb b cs bf):OT h v (bk++(bb++(U8 v.items.length).flatMap bf)) (Qm v sk si):=by obtain⟨k,s,ks,xs⟩:=v;refine OT.mk (b:=b) (cs:=cs) H.keys H.hn H.hz H.hi ?_;rw[List.nodup_append];refine⟨H.nk,?_,λx f y c e=>?_⟩;rw[List.nodup_append];refine⟨?_,Lh.2 ⟨λi hi=>(H.hi i hi).nodup,λi j l m x f y c e=>?_⟩,λx f y c e=>?_⟩;rcases H.hz with⟨_,e,_⟩|⟨e,_⟩;simp_all;rw[e];simp;subst e;exact H.d4 i j (Nat.lt_trans l m) m (by omega) x f c;subst e;obtain⟨i,hi,c⟩:=VO.1 c;exact H.d3 x f i (by simpa using hi) c;subst e;rcases Uv.1 c with c|c;exact H.d1 x f c;obtain⟨i,hi,c⟩:=VO.1 c;exact H.d2 x f i (by simpa using hi) c
theorem SZ{bf:Nat->List Nat}{n c:Nat}:c∈bk++(bb++(U8 n).flatMap bf)↔c∈bk\/c∈bb\/∃i,i<n/\c∈bf i:=by simp
theorem s8(h:i+4<=n):cut cs i 4=((cut cs 0 n).drop i).take 4:=by unfold cut;rw[VD,List.drop_take,List.take_take,V9 (by omega)]
theorem HA{α:Type}{xs:List α}{w:α}(b:k<=xs.length)(h:i<(xs.take k++w::xs.drop k).length):
  (i<k/\∃h':i<xs.length,(xs.take k++w::xs.drop k)[i]=xs[i])\/(i=k/\(xs.take k++w::xs.drop k)[i]=w)\/(k<i/\∃h':i-1<xs.length,(xs.take k++w::xs.drop k)[i]=xs[i-1]):=by
 grind
theorem JY{c cw:List Value}(h:c.length=n*4)(b:cw.length=4)(f:k<=n):
  (∀i,i<k->((c.take (k*4)++cw++c.drop (k*4)).drop (i*4)).take 4=(c.drop (i*4)).take 4)/\((c.take (k*4)++cw++c.drop (k*4)).drop (k*4)).take 4=cw/\∀i,k<i->((c.take (k*4)++cw++c.drop (k*4)).drop (i*4)).take 4=(c.drop ((i-1)*4)).take 4:=by
 have e:(c.take (k*4)).length=k*4:=by rw[UQ];omega
 refine⟨λi hi=>?_,?_,λi hi=>?_⟩;apply Vd;intro j;rw[UU,UU];grind;simp_all;rw[List.drop_append,Vr (by grind),UX,Uf,e,b,Vl];congr 2;omega
theorem OTp.ins{h h':zb}{bf:Nat->List Nat}(H:OTp h v sk si bk bb b cs bf)(E:k<=v.items.length){w:Tr}{bw:List Nat}(U:OT h' w bw cw) (G:∀i,i<v.items.length->∀c∈bf i,h'[c]?=h[c]?) {p:Sl} {r:Nat} {cs':Array Value} (Z:p.a=Td ⟨r,0,Te⟩) (O:Blk h' r cs') (e3:p.len=v.items.length+1) (e4:v.items.length+1<=p.cap) (I:p.cap*4<=cs'.size) (e6:v.items.length+1<=140737488355328) (N:cut cs' 0 ((v.items.length+1)*4)=(cut cs 0 (v.items.length*4)).take (k*4)++cw++(cut cs 0 (v.items.length*4)).drop (k*4)) (aa:∀i,i<v.items.length->r∉bf i) (z:r∉bw) (F:∀c∈bw,∀i,i<v.items.length->c∉bf i) {t:List Bt} {x:Sl} {o:List Nat} (ok:OKeys h' t o x) (V:o.Nodup) (M:r∉o) (J:∀c∈o,∀i,i<v.items.length->c∉bf i) (Y:∀c∈o,c∉bw):
  OTp h' (.mk v.kind v.text t (v.items.take k++w::v.items.drop k)) x p o [r] r cs' (λi=>if i<k then bf i else if i=k then bw else bf (i-1)):=by
 have l:(v.items.take k++w::v.items.drop k).length=v.items.length+1:=by simp;omega
 have C:∀i (A:i<v.items.length),(cut cs 0 (v.items.length*4)).length=v.items.length*4:=by intro i A;rcases H.hz with⟨h0,_⟩|⟨_,_,_,S⟩;simp_all;unfold cut;simp;have:=H.hn.2.2;omega
 have y:(cut cs 0 (v.items.length*4)).length=v.items.length*4:=by
  by_cases h0:0<v.items.length;exact C 0 h0;have:v.items.length=0:=by omega
  rw[this];unfold cut;simp
 have D:cw.length=4:=U.len;obtain⟨c1,c2,c3⟩:=JY y D E;have u:∀i,i<v.items.length+1->∀c,c∈(if i<k then bf i else if i=k then bw else bf (i-1))->(∃j,j<v.items.length/\c∈bf j)\/c∈bw:=by intro i hi c m;split at m;grind;split at m;grind;exact .inl ⟨i-1,by omega,m⟩
 refine⟨ok,⟨by simp_all,by simp_all,by simp_all⟩,.inr ⟨rfl,Z,O,I⟩,λi A=>?_,V,λc m f=>?_,λc m i hi f=>?_,λc m i hi f=>?_,λi j hi B L c m f=>?_⟩;have s:i<(v.items.take k++w::v.items.drop k).length:=A;have P:i<v.items.length+1:=by rw[<-l];exact s
 rw[s8 (n:=(v.items.length+1)*4) (by omega),N];show OT h' (v.items.take k++w::v.items.drop k)[i] _ _;rcases HA E s with⟨hi,h2,e⟩|⟨hi,e⟩|⟨hi,h2,e⟩;rw[e,zA hi,c1 i hi,<-s8 (by omega)];exact(H.hi i h2).frame (G i h2);simp_all;rw[e,za (by omega),za (by omega),c3 i hi,<-s8 (by omega)];exact(H.hi (i-1) h2).frame (G (i-1) h2);simp_all;have q:i<v.items.length+1:=by rw[<-l];exact hi
 rcases u i q c f with⟨j,B,f⟩|f;simp_all;grind;have q:i<v.items.length+1:=by rw[<-l];exact hi
 simp at m;subst m;rcases u i q c f with⟨j,B,f⟩|f;grind;exact z f
 ·have q:i<v.items.length+1:=by rw[<-l];exact hi
  have Q:j<v.items.length+1:=by rw[<-l];exact B
  try simp only at m f
  split at m;split at f;grind [d4];split at f;grind;exact H.d4 i (j-1) (by omega) (by omega) (by omega) c m f;split at m;split at f;grind;split at f;omega;exact F c m (j-1) (by omega) f;split at f;exact H.d4 (i-1) j (by omega) (by omega) (by omega) c m f;split at f;exact F c f (i-1) (by omega) m;exact H.d4 (i-1) (j-1) (by omega) (by omega) (by omega) c m f
end
section
variable {cs:Array Value} {o n b:Nat} {h:zb}
theorem jp(h:o+n<=cs.size):(cut cs o n).length=n:=by unfold cut;simp;omega
theorem C5(H:Blk h b cs):fD h.size h (Td ⟨b,o,Te⟩) (cut cs o n):=by refine .inr ⟨b,o,rfl,H.lt,λi v c=>H.cell ?_⟩;rw[yj]at c;split at c;rw[<-VF];exact c;cases c
theorem Hn{P:Program}(H:Blk h b cs){vs:List Value}(k:o+vs.length<=cs.size)(h1:∀u∈vs,u.oneCell'=Ta)(B:World)(d:Nat):
  ∃h',(storeCells ⟨b,o,Te⟩ vs 0).run P (mk B d h)=.ok () (mk B d h')/\Blk h' b (upd cs o vs)/\h'.size=h.size/\∀j,j≠b->h'[j]?=h[j]?:=by
 obtain⟨T,e⟩:=H;obtain⟨h',l,c,i,f⟩:=Ek (P:=P) e k h1 B d;exact⟨h',l,⟨T,c⟩,i,f⟩
end
section
variable {cs:Array Value} {vs:List Value}
structure RowO (h:zb) (s:Sl) (b:Nat) (cs:Array Value) (sz:Nat):Prop where
 le:s.len<=s.cap
 at_:(s.len=0/\s.cap=0)\/(s.a=Td ⟨b,0,Te⟩/\Blk h b cs/\s.cap*sz<=cs.size)
structure RowN (h h':zb) (s':Sl) (b b':Nat) (cs':Array Value) (sz n:Nat) (cells:List Value):Prop where
 a:s'.a=Td ⟨b',0,Te⟩
 len:s'.len=n
 cap:n<=s'.cap
 blk:Blk h' b' cs'
 size:s'.cap*sz<=cs'.size
 cut:cut cs' 0 (n*sz)=cells
 new:b'=b\/h.size<=b'
 grow:h.size<=h'.size
 old:∀j,j<h.size->j≠b'->h'[j]?=h[j]?
theorem LA{n m:Nat}(f:n+vs.length<=cs.size)(c:m=n+vs.length):cut (upd cs n vs) 0 m=cut cs 0 n++vs:=by subst c;have b:(cut cs 0 n).length=n:=jp (by omega);apply Vd;intro q;rw[yj];split;rename_i e;rw[UI,FL f];split;rename_i h1;rw[VQ (by rw[b];exact h1),yj,zA h1,UI];rename_i h1;rw[VK (by rw[b];omega),b];rename_i e;rw[WC];rw[Uf,b];omega
theorem oz{P:Program}{t e:TypeId}{z:Value}{sz bytes:Nat}(T:ElemT P t e z sz bytes){ty:TypeId}{h:zb}{s:Sl}{b:Nat}(H:RowO h s b cs sz){bv cv:Nat}(Y:Blk h bv vs.toArray)(i:vs.length=sz)(h1:∀u∈vs,u.oneCell'=Ta)(I:(s.len+1)*bytes<=140737488355328)(U:s.len+1<=140737488355328){K:Value->zb->Prop} (y:∀(w:Sl) (h':zb) (G:Nat) (cs':Array Value),RowN h h' w b G cs' sz (s.len+1) (cut cs 0 (s.len*sz)++vs)->K (.slice w.a w.len w.cap) h'):
  XRun P (Ug #[t,t] ty #[.slice s.a s.len s.cap,.slice (Td ⟨bv,0,Te⟩) 1 cv]) h K:=by
 intro B d;have m:fD h.size h (Td ⟨bv,0,Te⟩) vs:=by have:=C5 Y (o:=0) (n:=vs.length);rw[show cut vs.toArray 0 vs.length=vs by unfold cut;simp]at this;exact this
 have D:∀B d,Src P sz t (.slice (Td ⟨bv,0,Te⟩) 1 cv) 1 vs (mk B d h):=λB d=>yH (P:=P) (s:=⟨Td ⟨bv,0,Te⟩,1,cv⟩) m (by simp[i]) T.pos h1 T.slice B d;have O:(s.len+1)*sz=s.len*sz+sz:=WO _ _;by_cases x:s.len+1<=s.cap;rcases H.at_ with⟨_,h0⟩|⟨r,k,E⟩;omega;have Q:(s.len+1)*sz<=s.cap*sz:=UC _ x;obtain⟨h',F,S,r3,J⟩:=Hn (P:=P) k (o:=s.len*sz) (vs:=vs) (by rw[i];omega) h1 B d;have q:=Wr (P:=P) (ty:=ty) T (s:=s) (h':=h') (D B d) x (λp A=>by rw[r]at A;cases A;rw[zj,UI];exact F) (λC=>by rw[r]at C;cases C);refine⟨_,d,h',q,y ⟨s.a,s.len+1,s.cap⟩ h' b _ ⟨r,rfl,x,S,by rw[y7 (by rw[i];omega)];exact E,LA (by rw[i];omega) (by rw[i];exact O),.inl rfl,by omega,λj V l=>J j l⟩⟩;have f:fD h.size h s.a (cut cs 0 (s.len*sz))/\(cut cs 0 (s.len*sz)).length=s.len*sz:=by rcases H.at_ with⟨h0,_⟩|⟨r,k,E⟩;rw[h0,Nat.zero_mul];exact⟨.inl (by unfold cut;simp),by unfold cut;simp⟩;have Q:s.len*sz<=s.cap*sz:=UC _ H.le;rw[r];exact⟨C5 k,jp (by omega)⟩
 obtain⟨c,blk,L,Z,q3,N,M⟩:=sA (P:=P) (ty:=ty) (base:=0) T f.2 (λB d=>Jq f.1 f.2 T.pos B d) D I U (UH _) (by omega) B d;refine⟨_,d+1,_,L,y ⟨Td ⟨h.size,0,Te⟩,s.len+1,c⟩ _ h.size blk ⟨rfl,rfl,Z,Blk.new _ _ _,by rw[N];exact Uc _,by unfold cut;rw[VD];exact M,.inr (Uc _),by simp,λj V l=>by rw[Array.getElem?_push,za (by omega)]⟩⟩
end
end
section
variable {lo:Nat} {h h':zb} {M M':Fr} {s:Sl} {bs:List Nat}
def ORow(lo:Nat)(h:zb)(M:Fr)(T:Ty)(xs:List (El T))(s:Sl)(bs:List Nat):Prop:=
 (xs=[]/\s.len=0/\s.cap=0/\bs=[])\/∃(b:Nat) (cs:Array Value),bs=[b]/\s.a=Td ⟨b,0,Te⟩/\s.len=xs.length/\s.len<=s.cap/\Blk h b cs/\s.cap*sz T<=cs.size/\lo<=b/\M b=Te/\∀i (hi:i<xs.length),Rd M T xs[i] (cut cs (i*sz T) (sz T))
theorem ORow.nil{T:Ty}:ORow lo h M T [] ⟨Te,0,0⟩ []:=.inl ⟨rfl,rfl,rfl,rfl⟩
theorem ORow.len{T:Ty}{xs:List (El T)}(H:ORow lo h M T xs s bs):s.len=xs.length:=by rcases H with⟨rfl,h1,_⟩|⟨b,cs,_,_,h1,_⟩;exact h1;exact h1
theorem ORow.own{T:Ty}{xs:List (El T)}(H:ORow lo h M T xs s bs):∀c∈bs,lo<=c/\c<h.size/\M c=Te:=by rcases H with⟨_,_,_,rfl⟩|⟨b,cs,rfl,_,_,_,e,_,h1,h2,_⟩;intro c f;cases f;intro c f;rw[Vb.1 f];exact⟨h1,e.lt,h2⟩
theorem ORow.frame{T:Ty}{xs:List (El T)}(H:ORow lo h M T xs s bs)(f:∀c∈bs,h'[c]?=h[c]?)(le:Fr.le M M')(l:∀c∈bs,M' c=Te):ORow lo h' M' T xs s bs:=by rcases H with H|⟨b,cs,rfl,h1,h2,m,e,o,n,p,k⟩;exact .inl H;refine .inr ⟨b,cs,rfl,h1,h2,m,?_,o,n,l b (by simp),λi hi=>Rd.mono le (k i hi)⟩;unfold Blk at e ⊢;rw[f b (by simp)];exact e
theorem ORow.call{T:Ty}{xs:List (El T)}(H:ORow lo h M T xs s bs)(L:Later h M h' M'):ORow lo h' M' T xs s bs:=by refine H.frame (λc b=>L.keep.get c (H.own c b).2.1) L.le λc b=>?_;rw[L.old c (H.own c b).2.1];exact(H.own c b).2.2
theorem ORow.rd{T:Ty}{xs:List (El T)}{bs all:List Nat}(H:ORow lo h M T xs s bs)(ag:AgM M h)(k:∀c∈bs,c∈all)(n:xs.length<=1000000):Rd (MxL M h all) (.row T) xs [aK s]:=by rcases H with⟨rfl,h1,h2,rfl⟩|⟨b,cs,rfl,h1,h2,m,l,q,o,p,e⟩;refine⟨_,rfl,s.a,s.cap,?_,⟨by simp,by simp⟩,.inl rfl⟩;show aK s=_;unfold aK;rw[h1];rfl;refine⟨_,rfl,s.a,s.cap,?_,⟨by omega,by omega⟩,?_⟩;unfold aK;rw[h2];by_cases f:xs=[];exact .inl f;refine .inr ⟨b,0,cs,h1,MxL.at (k b (by simp)) l,λi hi=>?_⟩;rw[UI];exact Rd.mono (gv ag all) (e i hi)
theorem ORow.app{t e:TypeId}{z:Value}{bytes:Nat}{T:Ty}(E:ElemT Tp t e z (sz T) bytes)(G:bytes<=1000){ty:TypeId}{xs:List (El T)}(ag:AgM M h)(H:ORow lo h M T xs s bs)(ah:lo<=h.size){bv cv:Nat}{vs:List Value}{x:El T}(hv:Blk h bv vs.toArray)(I:Rd M T x vs)(S:xs.length<=1000000){K:Value->zb->Prop} (hK:∀(o:Sl) (h':zb) (bs':List Nat),ORow lo h' M T (xs++[x]) o bs'->h.size<=h'.size->(∀c∈bs',c∈bs\/h.size<=c)->(∀j,j<h.size->j∉bs->h'[j]?=h[j]?)->K (.slice o.a o.len o.cap) h'):
  XRun Tp (Ug #[t,t] ty #[.slice s.a s.len s.cap,.slice (Td ⟨bv,0,Te⟩) 1 cv]) h K:=by
 have C:vs.length=sz T:=Rd.len I;have h1:∀u∈vs,u.oneCell'=Ta:=Rd.one I;have m:=H.len;have A:∀c,h.size<=c->M c=Te:=by
  intro c U;cases e:M c with
  |none=>rfl
  |some cs=>have:=ag.lt e;omega
 obtain⟨b,cs,f,Z,D⟩:∃b cs,RowO h s b cs (sz T)/\((bs=[b]/\lo<=b/\M b=Te)\/(b=h.size/\bs=[]))/\∀i (hi:i<xs.length),i*sz T+sz T<=cs.size/\Rd M T xs[i] (cut cs (i*sz T) (sz T)):=by rcases H with⟨rfl,J,Q,rfl⟩|⟨b,cs,rfl,J,Q,e3,e4,V,e6,Y,e8⟩;exact⟨h.size,#[],⟨by omega,.inl ⟨J,Q⟩⟩,.inr ⟨rfl,rfl⟩,λi hi=>by simp at hi⟩;refine⟨b,cs,⟨e3,.inr ⟨J,e4,V⟩⟩,.inl ⟨rfl,e6,Y⟩,λi hi=>⟨?_,e8 i hi⟩⟩;have:(i+1)*sz T<=s.cap*sz T:=UC _ (by omega);rw[WO]at this;omega
 have w:(s.len+1)*bytes<=140737488355328:=by have:(s.len+1)*bytes<=1000001*1000:=Nat.mul_le_mul (by omega) G;omega
 refine oz E f hv C h1 w (by omega) λo h' n cs' N=>?_;have l:(n∈bs/\lo<=n/\M n=Te)\/h.size<=n:=by rcases N.new with e|e;rcases Z with⟨r,P,F⟩|⟨r,_⟩;subst e;exact .inl ⟨by rw[r];simp,P,F⟩;exact .inr (by omega);exact .inr e
 refine hK o h' [n] (.inr ⟨n,cs',rfl,N.a,by rw[N.len,Uf,m];rfl,by rw[N.len];exact N.cap,N.blk,N.size,?_,?_,λi hi=>?_⟩) N.grow (λc U=>?_) λj hj S=>N.old j hj λe=>?_;rcases l with q|q;exact q.2.1;omega;rcases l with q|q;exact q.2.2;exact A n q;have y:=N.cut;have aa:i<xs.length+1:=by simpa using hi
 have hm:(i+1)*sz T<=(s.len+1)*sz T:=UC _ (by omega);have ae:(i+1)*sz T=i*sz T+sz T:=WO _ _;have af:(s.len+1)*sz T=s.len*sz T+sz T:=WO _ _;have key:∀q,q<sz T->(cut cs' (i*sz T) (sz T))[q]?=(cut cs 0 (s.len*sz T)++vs)[i*sz T+q]?:=by intro q k;rw[yj,zA k,<-y,yj,zA (by omega),UI]
 by_cases p:i<xs.length;rw[Vt p];obtain⟨g1,g2⟩:=D i p;have ab:(i+1)*sz T<=s.len*sz T:=UC _ (by omega);have e:cut cs' (i*sz T) (sz T)=cut cs (i*sz T) (sz T):=by
  apply Vd;intro q;by_cases k:q<sz T;rw[key q k,VQ ?_,yj,yj,zA k,zA (by omega),UI];have B:s.len*sz T<=cs.size:=by rcases f.at_ with⟨r,P⟩|⟨_,_,F⟩;omega;have:s.len*sz T<=s.cap*sz T:=UC _ f.le;omega
  rw[jp (by omega)];omega;rw[yj,yj,za k,za k]
 rw[e];exact g2;have L:i=xs.length:=by omega
 subst L;rw[VP (Uc _)];have O:(cut cs 0 (s.len*sz T)).length=xs.length*sz T:=by
  rcases f.at_ with⟨r,P⟩|⟨_,_,F⟩;have:xs.length=0:=by omega
  rw[r,this];unfold cut;simp;have:s.len*sz T<=s.cap*sz T:=UC _ f.le;rw[jp (by omega),m]
 have e:cut cs' (xs.length*sz T) (sz T)=vs:=by apply Vd;intro q;by_cases k:q<sz T;rw[key q k,VK (by omega),O];congr 1;omega;rw[yj,za k,WC (by omega)]
 rw[e];simpa using I;rw[Vb.1 U];rcases l with q|q;exact .inl q.1;exact .inr q;rcases l with q|q;exact S (by rw[e];exact q.1);omega
end
section
open Go.RowKit
section
variable {cs:Array Value} {o n q z b bv cv lo c:Nat} {l:List Value} {g g':zb} {t e ty:TypeId} {zv v:Value} {K:Value -> zb -> Prop} {M:Fr}
abbrev gh:Ty:=.pair p3 (.int .i64)
abbrev fv:Ty:=.pair p3 (.pair gh (.pair gh (.pair (.row p3) (.row gh))))
structure Ax where
 ks:Sl
 kb:List Nat
 ps:Sl
 pb:List Nat
def eF:Ax:=⟨⟨Te,0,0⟩,[],⟨Te,0,0⟩,[]⟩
def fh(p:Nd×Ax):List Value:=[.int .i64 p.1.1,.int .i64 p.1.2.1.1,.int .i64 p.1.2.1.2,.int .i64 p.1.2.2.1.1,.int .i64 p.1.2.2.1.2,aK p.2.ks,aK p.2.ps]
structure CR (g:zb) (z:Nat) (els:List (List Value)) (sl:Sl) (b:Nat) (cs:Array Value):Prop where
 ro:RowO g sl b cs z
 ln:sl.len=els.length
 el:∀(i:Nat) (e:List Value),els[i]?=Td e->(i+1)*z<=cs.size/\cut cs (i*z) z=e
theorem Xe(c:l.length=n)(h:∀q,q<n->cs.toList[o+q]?=l[q]?):cut cs o n=l:=by apply Vd;intro q;rw[yj];split;rename_i b;exact h q b;rename_i b;rw[WC (by omega)]
theorem m5(h:cut cs o n=l)(b:q<n):cs.toList[o+q]?=l[q]?:=by rw[<-h,yj,zA b]
theorem CR.blk{els:List (List Value)}{sl:Sl}(H:CR g z els sl b cs)(c:els≠[]):sl.a=Td ⟨b,0,Te⟩/\Blk g b cs:=by rcases H.ro.at_ with⟨h1,_⟩|⟨h1,h2,_⟩;have:=H.ln;rw[h1]at this;exact absurd (Vk.1 this.symm) c;exact⟨h1,h2⟩
theorem CR.frame{els:List (List Value)}{sl:Sl}(H:CR g z els sl b cs)(f:els≠[]\/sl.cap≠0->g'[b]?=g[b]?):CR g' z els sl b cs:=by refine⟨⟨H.ro.le,?_⟩,H.ln,H.el⟩;rcases H.ro.at_ with h1|⟨h1,h2,e⟩;exact .inl h1;by_cases c:sl.cap=0;exact .inl ⟨by have:=H.ro.le;omega,c⟩;exact .inr ⟨h1,h2.keep (f (.inr c)),e⟩
theorem CR.app{bytes z:Nat}(E:ElemT Tp t e zv z bytes)(y:bytes<=1000){els:List (List Value)}{sl:Sl}(H:CR g z els sl b cs){vs:List Value}(O:Blk g bv vs.toArray)(m:vs.length=z)(h1:∀u∈vs,u.oneCell'=Ta)(Q:els.length<=1000000) (F:∀(h:Sl) (g':zb) (k:Nat) (cs':Array Value),CR g' z (els++[vs]) h k cs'->g.size<=g'.size->((k=b/\¬(sl.len=0/\sl.cap=0))\/g.size<=k)->k<g'.size->(∀j,j<g.size->j≠k->g'[j]?=g[j]?)->K (.slice h.a h.len h.cap) g'):
  XRun Tp (Ug #[t,t] ty #[.slice sl.a sl.len sl.cap,.slice (Td ⟨bv,0,Te⟩) 1 cv]) g K:=by
 have c:=H.ln;have o:(sl.len+1)*bytes<=140737488355328:=by have:(sl.len+1)*bytes<=1000001*1000:=Nat.mul_le_mul (by omega) y;omega
 obtain⟨b0,f,s,x,n⟩:∃b0 f,RowO g sl b0 f z/\((b0=b/\¬(sl.len=0/\sl.cap=0))\/g.size<=b0)/\(∀(i:Nat) (e:List Value),els[i]?=Td e->(i+1)*z<=f.size/\cut f (i*z) z=e):=by by_cases h0:sl.len=0/\sl.cap=0;have M:els=[]:=Vk.1 (by omega);exact⟨g.size,#[],⟨H.ro.le,.inl h0⟩,.inr (Uc _),λi e hi=>by rw[M]at hi;cases hi⟩;exact⟨b,cs,H.ro,.inl ⟨rfl,h0⟩,H.el⟩
 refine oz E s O m h1 o (by omega) λh g' k cs' N=>F h g' k cs' ⟨⟨by rw[N.len];exact N.cap,.inr ⟨N.a,N.blk,N.size⟩⟩,by rw[N.len,Uf,c];rfl,λi e hi=>?_⟩ N.grow ?_ N.blk.lt N.old;have C:i<els.length+1:=by have:=(UE.1 hi).1;rw[Uf]at this;exact this
 have S:(i+1)*z<=(sl.len+1)*z:=UC _ (by omega);have G:(sl.len+1)*z<=h.cap*z:=UC _ N.cap;have I:(i+1)*z=i*z+z:=WO _ _;have L:(sl.len+1)*z=sl.len*z+z:=WO _ _;have:=N.size;refine⟨by omega,?_⟩;have p:=N.cut;have key:∀q,i*z+q<(sl.len+1)*z->cs'.toList[i*z+q]?=(cut f 0 (sl.len*z)++vs)[i*z+q]?:=λq r=>by rw[<-p,yj,zA r,UI]
 have l:(cut f 0 (sl.len*z)).length=sl.len*z:=by
  by_cases h0:els=[];have:sl.len=0:=by rw[c,h0];rfl
  rw[this,Nat.zero_mul];unfold cut;simp;have J:els.length-1<els.length:=by have:=U5.2 h0;omega
  have:=(n (els.length-1) _ (Ul J)).1;rw[show els.length-1+1=els.length by omega,<-c]at this;exact jp (by omega)
 by_cases w:i<els.length;rw[VQ w]at hi;obtain⟨P,B⟩:=n i e hi;have D:(i+1)*z<=sl.len*z:=UC _ (by omega);refine Xe (by rw[<-B];exact jp (by omega)) λq r=>?_;rw[key q (by omega),VQ (by rw[l];omega),yj,zA (by omega),UI];exact m5 B r;have A:i=els.length:=by omega
 subst A;rw[VK (Uc _),Nat.sub_self]at hi;cases hi;refine Xe m λq r=>?_;have U:els.length*z=sl.len*z:=by rw[c]
 rw[key q (by omega),VK (by rw[l];omega),l];congr 1;omega;rcases N.new with e|e;rcases x with q|q;exact .inl ⟨e.trans q.1,q.2⟩;exact .inr (by omega);exact .inr e
theorem CR.set{els:List (List Value)}{sl:Sl}(H:CR g z els sl b cs)(p:n<els.length)(w:q<z)(B:Blk g' b (cs.setIfInBounds (n*z+q) v)):CR g' z (els.modify n (·.set q v)) sl b (cs.setIfInBounds (n*z+q) v):=by
 have l:els≠[]:=λh=>by rw[h]at p;simp at p
 have h1:=(H.blk l).1;refine⟨⟨H.ro.le,?_⟩,by rw[List.length_modify];exact H.ln,λi e hi=>?_⟩;rcases H.ro.at_ with⟨h2,_⟩|⟨h2,_,u⟩;have:=H.ln;omega;exact .inr ⟨h2,B,by rw[U6];exact u⟩;rw[Vj]at hi;cases hx:els[i]? with
 |none=>rw[hx]at hi;cases hi
 |some x=>
  rw[hx]at hi;obtain⟨s,m⟩:=H.el i x hx;have t:(i+1)*z=i*z+z:=WO _ _;have k:x.length=z:=by rw[<-m];exact jp (by omega)
  rw[U6];refine⟨s,?_⟩;have hi:(if n=i then x.set q v else x)=e:=by simpa using hi
  rw[<-hi];refine Xe (by split <;> simp[k]) λr o=>?_;rw[Array.toList_setIfInBounds,List.getElem?_set];by_cases c:n=i;subst c;rw[zA rfl,List.getElem?_set];by_cases f:q=r;subst f;rw[zA rfl,zA rfl,zA (by rw[Array.length_toList];omega),zA (by omega)];rw[za (by omega),za f];exact m5 m o;rw[za c,za ?_];exact m5 m o;intro y;rcases Nat.lt_or_gt_of_ne c with h|h;have:(n+1)*z<=i*z:=UC _ h;rw[WO]at this;omega;have:(i+1)*z<=n*z:=UC _ h;omega
abbrev NA:=List (Nd×Ax)
def dQ(p:Nd×Ax)(c:Nat):Prop:=c∈p.2.kb\/c∈p.2.pb
def ez(na:NA)(sl:Sl)(b c:Nat):Prop:=(sl.cap≠0/\c=b)\/∃p∈na,dQ p c
structure NdI (lo:Nat) (g:zb) (M:Fr) (p:Nd×Ax):Prop where
 kk:ORow lo g M (.int .i64) p.1.2.2.2.1 p.2.ks p.2.kb
 pp:ORow lo g M gh p.1.2.2.2.2 p.2.ps p.2.pb
 dd:∀c∈p.2.kb,c∉p.2.pb
structure NS (lo:Nat) (g:zb) (M:Fr) (na:NA) (sl:Sl) (b:Nat) (cs:Array Value):Prop where
 cr:CR g 7 (na.map fh) sl b cs
 lb:sl.cap≠0->lo<=b/\b<g.size/\M b=Te
 nd:∀p∈na,NdI lo g M p
 dj:∀(i j:Nat) (p p':Nd×Ax) (c:Nat),na[i]?=Td p->na[j]?=Td p'->dQ p c->dQ p' c->i=j
 nb:∀p∈na,¬dQ p b
theorem NS.len{na:NA}{sl:Sl}(H:NS lo g M na sl b cs):sl.len=na.length:=by rw[H.cr.ln,Um]
theorem NdI.own{p:Nd×Ax}(H:NdI lo g M p)(h:dQ p c):lo<=c/\c<g.size/\M c=Te:=by rcases h with h|h;exact H.kk.own c h;exact H.pp.own c h
theorem NS.own{na:NA}{sl:Sl}(H:NS lo g M na sl b cs)(h:ez na sl b c):lo<=c/\c<g.size/\M c=Te:=by rcases h with⟨h1,rfl⟩|⟨p,e,h⟩;exact H.lb h1;exact(H.nd p e).own h
theorem NdI.frame{p:Nd×Ax}(H:NdI lo g M p)(f:∀c,dQ p c->g'[c]?=g[c]?):NdI lo g' M p:= ⟨H.kk.frame (λc b=>f c (.inl b)) (Fr.le.refl _) λc b=>(H.kk.own c b).2.2,H.pp.frame (λc b=>f c (.inr b)) (Fr.le.refl _) λc b=>(H.pp.own c b).2.2,H.dd⟩
theorem NS.frame{na:NA}{sl:Sl}(H:NS lo g M na sl b cs)(k:g.size<=g'.size)(f:∀c,ez na sl b c->g'[c]?=g[c]?):NS lo g' M na sl b cs:=by refine⟨H.cr.frame λh=>f b (.inl ⟨?_,rfl⟩),λh=>by have:=H.lb h;exact⟨this.1,by omega,this.2.2⟩,λp e=>(H.nd p e).frame λc i=>f c (.inr ⟨p,e,i⟩),H.dj,H.nb⟩;rcases h with h|h;have:=H.cr.ln;have h2:=H.cr.ro.le;have:=U5.2 h;omega;exact h
theorem NS.nil:NS lo g M [] ⟨Te,0,0⟩ b cs:= ⟨⟨⟨Uc _,.inl ⟨rfl,rfl⟩⟩,rfl,λi e h=>(by cases h)⟩,λh=>absurd rfl h,λp f=>(by cases f),λi j p k c h=>(by cases h),λp f=>(by cases f)⟩
theorem xH(p:Nd×Ax):∀u∈fh p,u.oneCell'=Ta:=by intro u b;unfold fh aK at b;simp at b;rcases b with rfl|rfl|rfl|rfl|rfl|rfl|rfl <;> rfl
theorem NS.push{bytes:Nat}(E:ElemT Tp t e zv 7 bytes)(D:bytes<=1000)(ag:AgM M g)(O:lo<=g.size){na:NA}{sl:Sl}(H:NS lo g M na sl b cs){x:Nd}(B:x.2.2.2.1=[])(A:x.2.2.2.2=[])(P:Blk g bv (fh (x,eF)).toArray)(F:na.length<=1000000) (N:∀(n:Sl) (g':zb) (m:Nat) (cs':Array Value),NS lo g' M (na++[(x,eF)]) n m cs'->g.size<=g'.size->(∀c,ez (na++[(x,eF)]) n m c->ez na sl b c\/g.size<=c)->(∀j,j<g.size->¬ez na sl b j->g'[j]?=g[j]?)->K (.slice n.a n.len n.cap) g'):
  XRun Tp (Ug #[t,t] ty #[.slice sl.a sl.len sl.cap,.slice (Td ⟨bv,0,Te⟩) 1 cv]) g K:=by
 have z:∀c,g.size<=c->M c=Te:=by
  intro c f;cases e:M c with
  |none=>rfl
  |some cs=>have:=ag.lt e;omega
 refine CR.app E D H.cr P rfl (xH _) (by rw[Um];exact F) λn g' m cs' C L w u I=>?_;have o:ez na sl b m\/g.size<=m:=by rcases w with⟨r,Q⟩|r;exact .inl (.inl ⟨by have:=H.cr.ro.le;omega,r⟩);exact .inr r
 have y:∀p∈na,¬dQ p m:=λp k f=>by rcases w with⟨r,_⟩|r;rw[r]at f;exact H.nb p k f;have:=((H.nd p k).own f).2.1;omega
 have l:∀c,¬dQ (x,eF) c:=λc f=>by rcases f with f|f <;> exact absurd f (by simp[eF])
 have mem:∀p∈na++[(x,eF)],p∈na\/p=(x,eF):=λp k=>by simpa using k
 refine N n g' m cs' ⟨by rw[U7];exact C,λ_=>?_,λp k=>?_,?_,λp k=>?_⟩ L (λc f=>?_) (λj G F=>I j G λe=>?_);rcases o with h|h;have:=H.own h;exact⟨this.1,u,this.2.2⟩;exact⟨by omega,u,z m h⟩;rcases mem p k with k|rfl;exact(H.nd p k).frame λc f=>I c ((H.nd p k).own f).2.1 λe=>y p k (e ▸ f)
 refine⟨?_,?_,λc f=>by simp[eF]at f⟩;show ORow lo g' M (.int .i64) x.2.2.2.1 _ _;rw[B];exact .nil;show ORow lo g' M gh x.2.2.2.2 _ _;rw[A];exact .nil;intro i j p J c hi G f s;have q:∀(i:Nat) (p:Nd×Ax),(na++[(x,eF)])[i]?=Td p->dQ p c->na[i]?=Td p:=λi p hi f=>by rw[List.getElem?_append]at hi;split at hi;exact hi;have:=Vf hi;rw[Vb]at this;subst this;exact absurd f (l c)
 exact H.dj i j p J c (q i p hi f) (q j J G s) f s;rcases mem p k with k|rfl;exact y p k;exact l _;rcases f with⟨_,rfl⟩|⟨p,k,f⟩;exact o;rcases mem p k with k|rfl;exact .inl (.inr ⟨p,k,f⟩);exact absurd f (l c);subst e;rcases o with h|h;exact F h;omega
theorem NS.upd{na:NA}{sl:Sl}(H:NS lo g M na sl b cs)(A:n<na.length){f:Nd×Ax->Nd×Ax}(D:q<7)(B:Blk g' b (cs.setIfInBounds (n*7+q) v))(J:g.size<=g'.size)(m:fh (f na[n])=(fh na[n]).set q v)(F:NdI lo g' M (f na[n]))(y:∀c,dQ (f na[n]) c->dQ na[n] c\/g.size<=c)(E:∀j,j<g.size->j≠b->¬dQ na[n] j->g'[j]?=g[j]?):
  NS lo g' M (na.modify n f) sl b (cs.setIfInBounds (n*7+q) v)/\∀c,ez (na.modify n f) sl b c->ez na sl b c\/g.size<=c:=by
 have k:na[n]?=Td na[n]:=Ul A;have mem:∀p∈na.modify n f,p=f na[n]\/∃j,j≠n/\na[j]?=Td p:=λp r=>by obtain⟨j,o⟩:=List.mem_iff_getElem?.1 r;rw[Vj]at o;by_cases e:n=j;subst e;rw[k]at o;left;simpa using o.symm;right;refine⟨j,λh=>e h.symm,?_⟩;simpa[e]using o
 have u:sl.cap≠0:=by have:=H.len;have:=H.cr.ro.le;omega
 have t:=H.lb u;refine⟨⟨?_,λh=>⟨t.1,by omega,t.2.2⟩,λp r=>?_,?_,λp r=>?_⟩,λc h=>?_⟩;have:=H.cr.set (n:=n) (q:=q) (v:=v) (by rw[Um];exact A) D B;have e:(na.modify n f).map fh=(na.map fh).modify n (·.set q v):=by apply Vd;intro i;rw[U2,Vj,Vj,U2];by_cases e:n=i;subst e;rw[k];simp[m];simp[e]
 rw[e];exact this;rcases mem p r with rfl|⟨j,o,l⟩;exact F;have s:=Vf l;exact(H.nd p s).frame λc m=>E c ((H.nd p s).own m).2.1 (λe=>H.nb p s (e ▸ m)) λh=>o (H.dj j n p _ c l k m h)
 intro i j p G c hi o m x;have q:∀(i:Nat) (p:Nd×Ax),(na.modify n f)[i]?=Td p->dQ p c->∃w,na[i]?=Td w/\((dQ w c)\/(i=n/\g.size<=c)):=λi p hi m=>by
  rw[Vj]at hi;by_cases e:n=i;subst e;rw[k]at hi;have:f na[n]=p:=by simpa using hi
  subst this;rcases y c m with h|h;exact⟨_,k,.inl h⟩;exact⟨_,k,.inr ⟨rfl,h⟩⟩;exact⟨p,by simpa[e]using hi,.inl m⟩
 obtain⟨w,C,a2⟩:=q i p hi m;obtain⟨z,b1,b2⟩:=q j G o x;rcases a2 with a2|⟨a2,I⟩;rcases b2 with b2|⟨b2,b3⟩;exact H.dj i j w z c C b1 a2 b2;have:=((H.nd w (Vf C)).own a2).2.1;omega;rcases b2 with b2|⟨b2,b3⟩;have:=((H.nd z (Vf b1)).own b2).2.1;omega;omega;rcases mem p r with rfl|⟨j,o,l⟩;intro m;rcases y b m with h|h;exact H.nb _ (Vf k) h;omega;exact H.nb p (Vf l);rcases h with⟨h1,h2⟩|⟨p,r,h⟩;exact .inl (.inl ⟨h1,h2⟩);rcases mem p r with rfl|⟨j,o,l⟩;rcases y c h with h|h;exact .inl (.inr ⟨_,Vf k,h⟩);exact .inr h;exact .inl (.inr ⟨p,Vf l,h⟩)
end
section
variable {t:Bs} {gl:Fr}
abbrev jV:Ty:=.pair .str (.row fv)
theorem slice_form{p:Sp}{R:Bt->Prop}(h:R (bl (ya t p))): ((bif (bif (decide ((p.1:Int)<0))then Ta else(decide ((p.1:Int)>p.2)))then Ta else(decide ((p.2:Int)>((bl t).size:Int))))=Ta->R (⟨#[]⟩:Bt)) /\
  ((bif (bif (decide ((p.1:Int)<0))then Ta else(decide ((p.1:Int)>p.2)))then Ta else(decide ((p.2:Int)>((bl t).size:Int))))=Tc->(0<=(p.1:Int)/\(p.1:Int)<=p.2/\(p.2:Int)<=((bl t).size:Int))/\R ((bl t).extract (p.1:Int).toNat (p.2:Int).toNat)):=by
 rw[zh];have e:(bif (bif (decide ((p.1:Int)<0))then Ta else(decide ((p.1:Int)>p.2)))then Ta else(decide ((p.2:Int)>(t.length:Int))))=decide (p.1<0\/p.2<p.1\/(t.length:Int)<p.2):=by rw[Uy];simp only[Bool.cond_eq_ite,Bool.if_true_left,Vq,zB];omega
 rw[e];unfold ya at h;refine⟨λb=>?_,λb=>?_⟩;rw[zA (zC b)]at h;exact h;have b:=zD b;rw[za b]at h;refine⟨by omega,?_⟩;rw[qe];exact h
theorem Dt{nodes:List Nd}{p:Sp}{R:Bt->Prop}(h:R (bl (ya t p))):PC Tp gl 284 [Arg.mk jV (bl t,nodes),Arg.mk gh p] [.str] R:=by apply OF;exact slice_form h
theorem F6(c:GL gl){k:Int}(e:t.length<=65536){R:Bt->Prop}(h:R (bl (Yr k t))):PC Tp gl 283 [Arg.mk p3 k,Arg.mk .str (bl t)] [.str] R:=by apply OB;unfold Yr at h;refine⟨λh1=>?_,λh1=>⟨λh2=>?_,λh2=>⟨λb=>?_,λb=>?_⟩⟩⟩;rw[zA (by simpa using h1)]at h;exact h;rw[za (by simpa using h1),zA (by simpa using h2)]at h;exact pG (by omega) (tB c.pow (xt t (by omega)) h);rw[za (by simpa using h1),za (by simpa using h2),zA (by simpa using b)]at h;exact vL c (by omega) h;rw[za (by simpa using h1),za (by simpa using h2),za (by simpa using b)]at h;exact h
end
section
variable {h:zb} {l:Bs} {K:Value -> zb -> Prop} {lo:Nat}
theorem sJ{c:UInt8}(b:K (.int .i64 (Lib.indexByte l c)) h):XC Tp 319 #[.string (bl l),.int .u8 (c.toNat:Int)] h K:=by refine XC.of_calls λB d=>(jv (bl l) (c.toNat:Int) (mk B d h)).mono ?_;rintro e w' ⟨rfl,rfl⟩;refine⟨_,rfl,rfl,rfl,rfl,?_⟩;have f:(bl l).data.toList=l:=ym l;rw[f,Dx];exact b
def re(F:FuncId)(A C:Array Value)(lo:Nat)(p:UInt8->Bool)(h0:zb):Prop:=
 zo Tp F=Ta/\∀(c:UInt8) (h:zb) (K:Value->zb->Prop),Keep lo h0 h->(∀h',Keep lo h h'->K (.bool (p c)) h')->XC Tp F (A++#[.int .u8 (c.toNat:Int)]++C) h K
theorem rE{F:FuncId}{A C:Array Value}{p:UInt8->Bool}(H:re F A C lo p h)(y:l.length<=1152921504606846976)(s:∀h',Keep lo h h'->K (.int .i64 (Yq p l:Int)) h'):
  XC Tp 398 #[.string (bl l),.func (.func F) A C] h K:=by
 obtain⟨x,H⟩:=H;apply Gj;rw[zh];refine⟨λi g=>∃k:Nat,i=(k:Int)/\k<=l.length/\Keep lo h g/\∀j (c:j<k) (f:j<l.length),p l[j]=Ta,λi _=>l.length-i.toNat,⟨0,rfl,by omega,Keep.refl _ _,λj c=>by omega⟩,?_⟩;rintro i g ⟨k,rfl,w,m,n⟩;refine⟨λo=>?_,λo=>?_⟩;have b:k<l.length:=by have:=zC o;omega
 refine⟨⟨by omega,by omega⟩,x,?_⟩;rw[qc,Ue,gJ b];refine H _ _ _ m λh' t=>⟨_,rfl,λq=>?_,λq=>?_⟩;have e:Yq p l=k:=uN w (λj c=>n j c (by omega)) (λ_=>by simpa using q);rw[<-e];exact s h' (m.trans t (Uc _));rw[qn b (by omega)];refine⟨⟨k+1,rfl,by omega,m.trans t (Uc _),λj c f=>?_⟩,by show l.length-((k+1:Nat):Int).toNat<l.length-((k:Nat):Int).toNat;omega⟩;rcases U1 j k with r|r;exact n j r f;have:j=k:=by omega
 subst this;simpa using q;have b:k=l.length:=by have:=zD o;omega
 have e:Yq p l=l.length:=uN (Uc _) (λj c=>n j (by omega) c) (λu=>absurd u (by omega));rw[<-e];exact s g m
theorem EV{b:Nat}(n:Blk h b #[.string (bl l)])(i:b<lo):re 406 #[] #[.pointer (Td ⟨b,0,Te⟩)] lo (xy l) h:=by
 refine⟨by kernel_rfl,λc g K k m=>?_⟩;show XC Tp 406 #[.int .u8 (c.toNat:Int),.pointer (Td ⟨b,0,Te⟩)] g K;apply Sn;have f:Blk g b #[.string (bl l)]:=by obtain⟨T,e⟩:=n;exact⟨T,by rw[k.get b i];exact e⟩
 refine⟨bl l,f.cell rfl,sJ ⟨_,rfl,?_⟩⟩;have e:decide (Lib.indexByte l c>=0)=xy l c:=by unfold xy;rw[Uy,zB,zB];exact(Ze c l).2
 rw[e];exact m g (Keep.refl _ _)
theorem NF{gl M:Fr}(l:Fr.le gl M)(ag:AgM M h):re 401 #[] #[] h.size (xy w8) h:=by
 refine⟨by kernel_rfl,λc g K i o=>?_⟩;have e:(bif decide ((c.toNat:Int)>=97)then decide ((c.toNat:Int)<=122)else Tc)=xy w8 c:=by
  have f:(U8 256).all (λn=>(bif decide ((n:Int)>=97)then decide ((n:Int)<=122)else Tc)==xy w8 (UL n))=Ta:=by kernel_rfl
  have:=Us.1 f c.toNat (UY.2 c.toNat_lt);rw[beq_iff_eq,UInt8.ofNat_toNat]at this;exact this
 refine(PC.px (gl:=gl) (args:=[Arg.mk (.int .u8) (c.toNat:Int)]) (rt:=[.bool]) (R:=λb=>b=xy w8 c) ?_ l (ag.keep i) (zq (a:=Arg.mk (.int .u8) _) (Zw _ _) zy)).go λv h' M' r L m k=>?_;apply TZ;exact e;obtain rfl:=dt m;rw[k];exact o h' (L.keep.mono i.size)
end
section
variable {K:Value -> zb -> Prop} {h:zb} {a e:Int} {M:Fr} {v:Value}
theorem Tq:qj Tp 236=Ta:=by kernel_rfl
theorem LX:jg Tp 236=3:=by kernel_rfl
abbrev fZ(k f t:Int):List Value:=[.int .i64 k,.int .i64 f,.int .i64 t]
theorem ig{g:zb}{b:Nat}{x y z p q r:Int}(B:Blk g b (fZ x y z).toArray){K:zb->Prop}(f:∀g',(∀j,j≠b->g'[j]?=g[j]?)->g'.size=g.size->Blk g' b (fZ p q r).toArray->K g'):
  XRunU Tp (Ub 236 (.pointer (Td ⟨b,0,Te⟩)) (.agg #[.int .i64 p,.int .i64 q,.int .i64 r])) g K:=by
 refine fT (vs:=fZ p q r) Tq B rfl LX (Uc 3) (λu c=>?_) λg' e i h=>f g' h i e;simp at c;rcases c with rfl|rfl|rfl <;> rfl
theorem nc{c:Nat}{a k t:Int}(n:Blk h c #[.int .i64 a])(m:∀h',Keep h.size h h'->K (.tuple #[.agg #[.int .i64 k,.int .i64 a,.int .i64 t],.int .i64 0]) h'):
  XC Tp 396 #[.int .i64 k,.int .i64 t,.pointer (Td ⟨c,0,Te⟩)] h K:=by
 apply TI;intro h1;have e:Keep h.size h h1:=Keep.push _ _ (Uc _);have f:Blk h1 h.size (fZ 0 0 0).toArray:=Blk.new _ _ _;have b:Blk h1 c #[.int .i64 a]:=n.ofKeep e;refine⟨a,b.cell rfl,ig f λg' l p o=>⟨k,a,t,o.ld,m g' (e.trans ⟨by omega,λi hi=>l i (by omega)⟩ (Uc _))⟩⟩
theorem Lc{x:Int×Int×Int}(h:Zp M [.pair p3 (.pair p3 (.int .i64)),.int .i64] (x,e) v):v=.tuple #[.agg #[.int .i64 x.1,.int .i64 x.2.1,.int .i64 x.2.2],.int .i64 e]:=by obtain⟨vs,⟨n,rest,rfl,b,m,rfl,k⟩,rfl⟩:=h;rw[qz k];unfold RdV at b;simp only[dB,if_true]at b;obtain⟨cs,rfl,c1,c2,rfl,c,c3,l,rfl,f,i⟩:=b;have c:c1=[.int .i64 x.1]:=c;have f:c3=[.int .i64 x.2.1]:=f;have i:l=[.int .i64 x.2.2]:=i;subst c f i;rfl
theorem tK{gl M:Fr}(f:Fr.le gl M)(ag:AgM M h)(i:∀h',Keep h.size h h'->K (.tuple #[.agg #[.int .i64 0,.int .i64 a,.int .i64 a],.int .i64 e]) h'):
  XC Tp 397 #[.int .i64 a,.int .i64 e] h K:=by
 refine(PC.px (gl:=gl) (args:=[Arg.mk p3 a,Arg.mk p3 e]) (rt:=[.pair p3 (.pair p3 (.int .i64)),.int .i64]) (R:=λr=>r=((0,(a,a)),e)) ?_ f ag (zq (a:=Arg.mk p3 _) (Zw _ _) (zq (a:=Arg.mk p3 _) (Zw _ _) zy))).go λv h' M' r L b c=>?_;apply OK;rfl;subst c;rw[Lc b];exact i h' L.keep
theorem FJ{l:Bs}(b:∀h',Keep h.size h h'->h'.size=h.size+1->Blk h' h.size #[.string (bl l)]->K (.func (.func 406) #[] #[.pointer (Td ⟨h.size,0,Te⟩)]) h'):
  XC Tp 399 #[.string (bl l)] h K:=by
 apply Hv;intro h1;exact b h1 (Keep.push _ _ (Uc _)) (Ur _) (Blk.new _ _ _)
def hY(s:Bs)(a:Nat):Value:=if(Qa s a).2.2=0 then .tuple #[.agg #[.int .i64 (Qa s a).1,.int .i64 (a:Int),.int .i64 ((Qa s a).2.1:Int)],.int .i64 0]else .tuple #[.agg #[.int .i64 0,.int .i64 ((Qa s a).2.1:Int),.int .i64 ((Qa s a).2.1:Int)],.int .i64 (Qa s a).2.2]
theorem FM{x:Bool×Bt×Int}(h:Zp M [.pair .bool (.pair .str (.int .i64)),.int .i64] (x,e) v):v=.tuple #[.agg #[.bool x.1,.string x.2.1,.int .i64 x.2.2],.int .i64 e]:=by obtain⟨vs,⟨n,rest,rfl,b,m,rfl,k⟩,rfl⟩:=h;rw[qz k];unfold RdV at b;simp only[dB,if_true]at b;obtain⟨cs,rfl,c1,c2,rfl,c,c3,l,rfl,f,i⟩:=b;have c:c1=[.bool x.1]:=c;have f:c3=[.string x.2.1]:=f;have i:l=[.int .i64 x.2.2]:=i;subst c f i;rfl
end
section
variable {gl:Fr} {s:Bs} {a t:Nat} {k:Int}
theorem Aa(l:Bs)(c:UInt8):decide (Lib.indexByte l c>=0)=xy l c:=by unfold xy;rw[Uy,zB,zB];exact(Ze c l).2
theorem IL:(U8 256).all (λn=>(bif ((n:Int)==45)then Ta else(bif decide ((n:Int)>=48)then decide ((n:Int)<=57)else Tc))==xy eK (UL n))=Ta:=by kernel_rfl
theorem Tw(c:UInt8):(bif ((c.toNat:Int)==45)then Ta else(bif decide ((c.toNat:Int)>=48)then decide ((c.toNat:Int)<=57)else Tc))=xy eK c:=by have:=Us.1 IL c.toNat (UY.2 c.toNat_lt);rw[beq_iff_eq,UInt8.ofNat_toNat]at this;exact this
theorem Ku{R:Int->Prop}(h:R (Qu s)):PC Tp gl 402 [Arg.mk .str (bl s)] [.int .i64] R:=by apply SN;have e:∀l:Bs,((bl s:Bt).toList==((⟨l.toArray⟩:Bt):Bt).toList)=decide (s=l):=λl=>eB s l;have i:=e [116,114,117,101];have m:=e [102,97,108,115,101];have k:=e [110,117,108,108];rw[i,m,k];unfold Qu at h;refine⟨λb=>?_,λb=>⟨λc=>?_,λc=>⟨λf=>?_,λf=>?_⟩⟩⟩;rw[zA (zC b)]at h;exact h;rw[za (zD b),zA (zC c)]at h;exact h;rw[za (zD b),za (zD c),zA (zC f)]at h;exact h;rw[za (zD b),za (zD c),za (zD f)]at h;exact h
theorem SB{c:UInt8}{t:Bs}(h:s.drop a=c::t):Qa s a=
  if c∈yl then(2+Lib.indexByte yl c,a+1,0)
  else if c∈xw then(1,a+Yq (xy xw) (s.drop a),0)
  else if c=34 then(if(y8 s a).2.2=0 then(8,(y8 s a).2.1,0)else(0,(y8 s a).2.1,(y8 s a).2.2))
  else if c∈eK then(if(zm ((s.drop a).take (Yq (xy dk) (s.drop a)))).2=0 then(9,a+Yq (xy dk) (s.drop a),0)else(0,a,(zm ((s.drop a).take (Yq (xy dk) (s.drop a)))).2))
  else if Qu ((s.drop a).take (Yq (xy w8) (s.drop a)))=0 then(0,a,2)else(Qu ((s.drop a).take (Yq (xy w8) (s.drop a))),a+Yq (xy w8) (s.drop a),0):=by
 unfold Qa;rw[h]
theorem lm(h:Qa s a=(k,t,0)):hY s a=.tuple #[.agg #[.int .i64 k,.int .i64 (a:Int),.int .i64 (t:Int)],.int .i64 0]:=by unfold hY;rw[h];rfl
theorem pW{k e:Int}(h:Qa s a=(k,t,e))(b:¬e=0):hY s a=.tuple #[.agg #[.int .i64 0,.int .i64 (t:Int),.int .i64 (t:Int)],.int .i64 e]:=by unfold hY;rw[h,za b]
set_option maxHeartbeats 2000000 in
theorem OE{gl M:Fr}(hg:GL gl)(N:Fr.le gl M){h:zb}(ag:AgM M h)(hs:s.length<=65536)(ha:a<s.length){K:Value->zb->Prop}(hK:∀h',Keep h.size h h'->K (hY s a) h'):
  XC Tp 375 #[.string (bl s),.int .i64 (a:Int)] h K:=by
 have Y:s.drop a=s[a]::s.drop (a+1):=UZ ha;have ai:s.drop a≠[]:=by rw[Y];exact List.cons_ne_nil _ _
 have aj:(s.drop a).length=s.length-a:=UD;have l:=SB Y;generalize hc:s[a]=c at l Y;apply IH;intro h1 h2;have z1:h1.size=h.size+1:=Ur _;have z2:h2.size=h1.size+1:=Ur _;have k1:Keep h.size h h1:=Keep.push _ _ (Uc _);have k2:Keep h1.size h1 h2:=Keep.push _ _ (Uc _);have V:Keep h.size h h2:=k1.trans k2 (by omega);have z:Blk h2 h.size #[.int .i64 (a:Int)]:=(Blk.new h #[.int .i64 (a:Int)] 3).ofKeep k2;have B1:Blk h2 h1.size (fZ 0 0 0).toArray:=Blk.new _ _ _;clear_value h1 h2;have x:AgM M h2:=ag.keep V;have done:∀(k f t e:Int) (g:zb),Keep h2.size h2 g->.tuple #[.agg #[.int .i64 k,.int .i64 f,.int .i64 t],.int .i64 e]=hY s a ->
   XRunU Tp (Ub 236 (.pointer (Td ⟨h1.size,0,Te⟩)) (.agg #[.int .i64 k,.int .i64 f,.int .i64 t])) g (λg'=>∃r1 r2 r3:Int,zd g' ⟨h1.size,0,Te⟩ 0 [.int .i64 r1,.int .i64 r2,.int .i64 r3]/\K (.tuple #[.agg #[.int .i64 r1,.int .i64 r2,.int .i64 r3],.int .i64 e]) g'):=by
  intro k f t e g B he;refine ig (B1.ofKeep B) λg' q1 q2 q3=>⟨k,f,t,q3.ld,?_⟩;rw[he];have C:=B.size;exact hK g' ((V.trans B (by omega)).trans (c:=g') (m:=h.size) ⟨by omega,λi hi=>q1 i (by omega)⟩ (Uc _))
 have ex:(bl s).extract (a:Int).toNat (s.length:Int).toNat=bl (s.drop a):=jU (n:=(a:Int)) rfl;have b0:ze (bl (s.drop a)) (0:Int).toNat=(c.toNat:Int):=by rw[qc,Y];rfl
 rw[zh];refine⟨(a:Int),z.cell rfl,?_⟩;rw[ex,zh,b0];refine⟨⟨by omega,by omega,by omega⟩,⟨by omega,by omega⟩,?_⟩;have bs:(⟨#[123,125,91,93,44,58]⟩:Bt)=bl yl:=rfl;have bb:(⟨#[32,9,10,13]⟩:Bt)=bl xw:=rfl;have bn:(⟨#[45,43,46,48,49,50,51,52,53,54,55,56,57,101,69]⟩:Bt)=bl dk:=rfl;rw[bs,bb,bn];have E:∀n:Nat,n<=s.length->hZ ((a:Int)+(n:Int))=((a+n:Nat):Int):=λn A=>by rw[cK (by omega)];omega
 refine sJ ⟨_,rfl,?_⟩;rw[Aa];refine⟨λF=>?_,λF=>?_⟩
 ·have F:=zC F;rw[zA F]at l;have S:0<=Lib.indexByte yl c/\Lib.indexByte yl c<6:=by
   have:∀c∈yl,0<=Lib.indexByte yl c/\Lib.indexByte yl c<6:=by decide
   exact this c F
  refine⟨(a:Int),z.cell rfl,by kernel_rfl,?_⟩;refine nc z λg B=>⟨_,_,_,_,rfl,done _ _ _ _ g B ?_⟩;rw[lm l,cK (n:=2+Lib.indexByte yl c) (by omega),show hZ ((a:Int)+1)=((a+1:Nat):Int)from E 1 (by omega)]
 have F:=zD F;rw[za F]at l;refine sJ ⟨_,rfl,?_⟩;rw[Aa];have H:=λp=>AT p (s.drop a);refine⟨λI=>?_,λI=>?_⟩
 ·have I:=zC I;rw[zA I]at l;refine⟨(a:Int),z.cell rfl,FJ λg B zg Bg=>⟨_,rfl,B.get h.size (by omega),?_⟩⟩;refine rE (lo:=g.size) (EV Bg (by omega)) (by omega) λG b=>⟨_,rfl,?_,by kernel_rfl,?_⟩;unfold g7;rw[b.get h.size (by omega)];exact B.get h.size (by omega);have D:Keep h2.size h2 G:=B.trans b (by omega);refine nc (z.ofKeep D) λZ ab=>⟨_,_,_,_,rfl,done _ _ _ _ Z (D.trans ab D.size) ?_⟩;have:=H (xy xw);rw[lm l,E _ (by omega)]
 have I:=zD I;rw[za I]at l;rw[show((c.toNat:Int)==34)=decide (c=34)from kP (n:=34) (by omega),Tw];refine⟨λC=>?_,λC=>⟨λO=>?_,λO=>?_⟩⟩
 ·have C:=zC C;rw[zA C]at l;refine⟨(a:Int),z.cell rfl,?_⟩;refine((JO hg (t:=s) (a:=(a:Int)) (by omega) (R:=λr=>r=lO s (a:Int)) rfl).px N x (zq (a:=Arg.mk .str _) (rdStr _) (zq (a:=Arg.mk p3 _) (Zw _ _) zy))).go λv g M' r L U S=>?_;have he:lO s (a:Int)=(((y8 s a).2.1:Int),(y8 s a).2.2):=by unfold lO;rw[za (by omega),Ue]
  rw[he]at S;subst S;rw[Bl U];refine⟨_,_,rfl,λo=>⟨by kernel_rfl,?_⟩,λo=>⟨by kernel_rfl,?_⟩⟩
  ·refine tK N (x.keep L.keep) λG b=>⟨_,_,_,_,rfl,done _ _ _ _ G (L.keep.trans b L.keep.size) ?_⟩;have A:¬(y8 s a).2.2=0:=by simpa using o
   rw[za A]at l;rw[pW l A]
  ·refine nc (z.ofKeep L.keep) λG b=>⟨_,_,_,_,rfl,done _ _ _ _ G (L.keep.trans b L.keep.size) ?_⟩;have A:(y8 s a).2.2=0:=by simpa using o
   rw[zA A]at l;rw[lm l]
 ·have C:=zD C;have O:=zC O;rw[za C,zA O]at l;refine⟨(a:Int),z.cell rfl,FJ λg B zg Bg=>⟨_,rfl,B.get h.size (by omega),?_⟩⟩;have aa:=H (xy dk);refine rE (lo:=g.size) (EV Bg (by omega)) (by omega) λG b=>⟨_,rfl,?_,?_⟩;unfold g7;rw[b.get h.size (by omega)];exact B.get h.size (by omega);have D:Keep h2.size h2 G:=B.trans b (by omega);rw[E _ (by omega)];have Q:(bl s).extract (a:Int).toNat ((a+Yq (xy dk) (s.drop a):Nat):Int).toNat=bl ((s.drop a).take (Yq (xy dk) (s.drop a))):=by rw[Ue,Ue,qe,show a+Yq (xy dk) (s.drop a)-a=Yq (xy dk) (s.drop a)by omega]
  refine⟨(a:Int),(z.ofKeep D).cell rfl,⟨by omega,by omega,by omega⟩,?_⟩;rw[Q];refine((pG (gl:=gl) (s:=(s.drop a).take (Yq (xy dk) (s.drop a))) (by rw[UQ];omega) (R:=λr=>r=(ei (zm ((s.drop a).take (Yq (xy dk) (s.drop a)))).1,(zm ((s.drop a).take (Yq (xy dk) (s.drop a)))).2)) rfl).px N (x.keep D) (zq (a:=Arg.mk .str _) (rdStr _) zy)).go λv Z M' r L U S=>?_;subst S;rw[FM U];generalize hq:(s.drop a).take (Yq (xy dk) (s.drop a))=w at l;refine⟨_,_,_,_,rfl,?_⟩;intro J;obtain⟨af,_,ae⟩:=jf (g:=J) rfl;have k4:Keep h2.size h2 J:=(D.trans L.keep D.size).trans af (by have:=L.keep.size;have:=D.size;omega);clear_value J;refine fT (vs:=[.bool (ei (zm w).1).1,.string (ei (zm w).1).2.1,.int .i64 (ei (zm w).1).2.2]) (by kernel_rfl) ae rfl (by kernel_rfl) (Uc 3) (λu hu=>?_) λah q1 q2 q3=>?_;simp at hu;rcases hu with rfl|rfl|rfl <;> rfl;have q:Keep h2.size h2 ah:=k4.trans ⟨by omega,λi hi=>q3 i (by have:=L.keep.size;have:=D.size;omega)⟩ (Uc _);refine⟨λo=>⟨(a:Int),(z.ofKeep q).cell rfl,by kernel_rfl,?_⟩,λo=>⟨by kernel_rfl,?_⟩⟩
  ·refine tK N (x.keep q) λP y=>⟨_,_,_,_,rfl,done _ _ _ _ P (q.trans y q.size) ?_⟩;have A:¬(zm w).2=0:=by simpa using o
   rw[za A]at l;rw[pW l A]
  ·refine nc (z.ofKeep q) λP y=>⟨_,_,_,_,rfl,done _ _ _ _ P (q.trans y q.size) ?_⟩;have A:(zm w).2=0:=by simpa using o
   rw[zA A]at l;rw[lm l]
 ·have C:=zD C;have O:=zD O;rw[za C,za O]at l;have aa:=H (xy w8);refine rE (lo:=h2.size) (NF N x) (by omega) λG b=>⟨_,rfl,⟨by omega,by omega,by omega⟩,?_⟩;have Q:(bl (s.drop a)).extract (0:Int).toNat ((Yq (xy w8) (s.drop a):Nat):Int).toNat=bl ((s.drop a).take (Yq (xy w8) (s.drop a))):=by rw[Ue,qe];rfl
  rw[Q];refine((Ku (gl:=gl) (s:=(s.drop a).take (Yq (xy w8) (s.drop a))) (R:=λr=>r=Qu ((s.drop a).take (Yq (xy w8) (s.drop a)))) rfl).px N (x.keep b) (zq (a:=Arg.mk .str _) (rdStr _) zy)).go λv Z M' r L U S=>?_;subst S;rw[nG U];generalize hq:(s.drop a).take (Yq (xy w8) (s.drop a))=w at l;have q:Keep h2.size h2 Z:=b.trans L.keep b.size;refine⟨_,rfl,λo=>⟨(a:Int),(z.ofKeep q).cell rfl,by kernel_rfl,?_⟩,λo=>⟨(a:Int),(z.ofKeep q).cell rfl,by kernel_rfl,?_⟩⟩
  ·refine nc (z.ofKeep q) λP y=>⟨_,_,_,_,rfl,done _ _ _ _ P (q.trans y q.size) ?_⟩;have A:¬Qu w=0:=by simpa using o
   rw[za A]at l;rw[lm l,E _ (by omega)]
  ·refine tK N (x.keep q) λP y=>⟨_,_,_,_,rfl,done _ _ _ _ P (q.trans y q.size) ?_⟩;have A:Qu w=0:=by simpa using o
   rw[zA A]at l;rw[pW l (by decide)]
end
end
section
open Go.Code
variable {ro:Option Nat} {n:Nat} {P:Program} {f:FuncId} {args:Array Value} {w:World} {o:Oper} {a:Act} {e:bK} {h:zb}
abbrev rf(ro:Option Nat):Fence:={ Fence.wide with round:=ro }
def fy(K:Act->World->Prop):Exit->Act->World->Prop
 |.normal,a,w=>K a w
 |_,_,_=>False
theorem Yg{K:Act->World->Prop}:¬LetsOut (fy K):=λ⟨_,_,h⟩=>h
theorem KS{R:Ending->World->Prop}(h:Calls P f args w R):CallsIn (rf ro) n P f args w R:=by have h1:CallsIn Fence.wide n P f args w R:=callsIn_wide.2 h;exact h1
theorem OM{row:String}{R:Value->World->Prop}(h:Rows P row args w R):RowsIn (rf ro) n P row args w R:=by have h1:RowsIn Fence.wide n P row args w R:=λc cs _=>let ⟨v,w',r,s⟩:=h c cs;⟨v,w',r,stepsIn_wide.2 s⟩;exact h1
def Zh(o:Oper):Bool:=match o.op with
 |.defer _=>Tc
 |_=>Ta
theorem Hs(h:Zh o=Ta):∀c,o.op≠.defer c:=by intro c e;unfold Zh at h;grind
theorem DF(c:Zh o=Ta){K:Act->World->Prop}{Q:Exit->Act->World->Prop}(h:o.wp P a w K Q):o.wpIn (rf ro) n P a w K Q:=by
 refine⟨λ_ _=>trivial,?_⟩;rw[Oper.semAt_eq _ _ _ (Hs c)];unfold Oper.wp at h;generalize (execOp a.eval o).run P w=r at *;cases r with
 |ok x w'=>
  cases x with
  |enter f args=>exact⟨λb=>(by cases b),KS h⟩
  |row row args=>exact⟨λb=>(by cases b),OM h⟩
  |value v=>exact h
  |skip=>exact h
  |defer d=>exact h
  |_=>exact h.elim
 |halt x w'=>cases x <;> first|exact h|exact h.elim
theorem kY{ro:Option Nat}{n:Nat}{P:Program}{ops:Array Oper}{K:Act->World->Prop}{Q:Exit->Act->World->Prop}: ∀(l i:List Oper) (a:Act) (w:World),l.all Zh=Ta->wpList P ops (fy K) l a w->(∀a w,K a w->wpListIn (rf ro) n P ops Q i a w)->wpListIn (rf ro) n P ops Q (l++i) a w
 |[],i,a,w,_,h,hK=>hK a w h
 |o::l,i,a,w,hd,h,hK=>by
  rw[WQ,Ui]at hd;rw[UF];unfold wpListIn;unfold wpList at h;by_cases m:UV o (yielded ops a.tmps)=Ta;rw[zA m]at h ⊢;rcases h with h|⟨_,h⟩;have h1:=DF (ro:=ro) (n:=n) hd.1 h;have h2:=Oper.wpIn_mono (λa w p=>kY l i a w hd.2 p hK) h1;refine⟨h2.1,?_⟩;have b:=h2.2;revert b;generalize (o.semAt (rf ro).round a.eval).run P w=r;cases r with
  |ok x w'=>
   cases x with
   |enter f args=>exact λb=>⟨b.1,CallsIn.mono b.2 λe k c=>by cases e <;> first|exact c|exact c.elim|exact(Yg c).elim⟩
   |round l f tmps assign body=>exact λb=>⟨b.1,RoundIn.mono b.2 λe k c=>by cases e <;> first|exact c|exact c.elim|exact(Yg c).elim⟩
   |_=>exact λb=>b
  |halt x w'=>cases x <;> first|exact λb=>b|exact λb=>b.elim
  exact(Yg h).elim;rw[za m]at h ⊢;exact⟨λ_ _=>trivial,kY l i _ _ hd.2 h hK⟩
theorem oU{ro:Option Nat}{n:Nat}{P:Program}{f:Region.Mode}{ops:Array Oper}{K:Act->World->Prop}(b:∀(i:Nat) (o:Oper),ops[i]?=Td o->Zh o=Ta):∀(fuel:Nat) (listed:Array Bool) (a:Act) (w:World),wpAny P f ops (fy K) fuel listed a w->wpAnyIn (rf ro) n P f ops (fy K) fuel listed a w
 |0,_,_,_,h=>h
 |fuel+1,listed,a,w,h=>by refine⟨h.1,λi hi=>?_⟩;have h2:=h.2 i hi;unfold wpOp at h2;unfold wpOpIn;split at h2;rename_i c;rw[c];exact oU b fuel _ _ _ h2;rename_i o c;rw[c];simp only;by_cases e:UV o (yielded ops a.tmps)=Ta;rw[zA e]at h2 ⊢;rcases h2 with h2|⟨_,h2⟩;exact Oper.wpIn_mono (λa w k=>oU b fuel _ a w k) (DF (b i o c) h2);exact(Yg h2).elim;rw[za e]at h2 ⊢;exact⟨λ_ _=>trivial,oU b fuel _ _ _ h2⟩
def Y0(D:List Deferred)(a:Act):Act:={ a with defers:=a.defers++D }
theorem wF{D:List Deferred}{K:Act->World->Prop}{R:Act->World->Prop}(h:o.wp P a w K (fy R)):o.wp P (Y0 D a) w (λl w1=>∃c,l=Y0 D c/\K c w1) (fy λl w1=>∃c,l=Y0 D c/\R c w1):=by
 unfold Oper.wp at h ⊢;have b:(Y0 D a).eval=a.eval:=rfl;rw[b];have i:∀d v,(Y0 D a).put d v=Y0 D (a.put d v):=λd v=>by cases d <;> rfl
 generalize (execOp a.eval o).run P w=r at *;cases r with
 |ok x w'=>
  cases x with
  |enter f args=>exact Calls.mono h λe k b=>by cases e with
    |returned v=>grind
    |panicked ch=>exact b
    |outgrown=>exact(Yg b).elim
  |row row args=>exact Rows.mono h λv k b=>⟨_,i _ _,b⟩
  |value v=>exact⟨_,i _ _,h⟩
  |skip=>exact⟨_,i _ _,h⟩
  |defer d=>exact⟨(Act.put { a with defers:=d::a.defers } o.dst undef),(by cases o.dst <;> rfl),(show K (Act.put { a with defers:=d::a.defers } o.dst undef) w' from h)⟩
  |_=>exact h.elim
 |halt x w'=>cases x <;> first|exact h|exact h.elim
theorem nj{P:Program}{f:Region.Mode}{ops:Array Oper}{D:List Deferred}{K:Act->World->Prop}:∀(fuel:Nat) (listed:Array Bool) (a:Act) (w:World),wpAny P f ops (fy K) fuel listed a w->wpAny P f ops (fy λk w1=>∃b,k=Y0 D b/\K b w1) fuel listed (Y0 D a) w
 |0,_,a,_,h=>⟨h.1,a,rfl,h.2⟩
 |fuel+1,listed,a,w,h=>by
  refine⟨λn=>⟨a,rfl,h.1 n⟩,λi hi=>?_⟩;have h2:=h.2 i hi;unfold wpOp at h2 ⊢;have m:yielded ops (Y0 D a).tmps=yielded ops a.tmps:=rfl;split at h2;exact nj fuel _ _ _ h2;rename_i o q;rw[m];by_cases c:UV o (yielded ops a.tmps)=Ta;rw[zA c]at h2 ⊢;rcases h2 with h2|⟨_,h2⟩;exact .inl (Oper.wp_mono (λk w1 ⟨b,e,p⟩=>by rw[e];exact nj fuel _ b w1 p) (wF h2));exact(Yg h2).elim;rw[za c]at h2 ⊢;have l:(Y0 D a).put o.dst undef=Y0 D (a.put o.dst undef):=by cases o.dst <;> rfl
  rw[l];exact nj fuel _ _ _ h2
def YX(P:Program)(l:Nat)(args:Array Value)(h:zb)(K:Value->zb->Prop):Prop:=
 ∀(m:Nat) (B:World) (d:Nat),∃fn tmps assign body,(Instr.yield l args).run P (mk B d h)=.ok (.round l fn tmps assign body) (mk B d h) /\
  RoundIn (rf Te) m P l fn tmps assign body (mk B d h) λe w'=>∃v b h',e=.returned v/\w'=mk B b h'/\K v h'
def Po(o:Oper):Bool:=match o.op with
 |.call c=>match c.callee with
  |.value x=>!(kX x)
  |_=>Tc
 |_=>Tc
def nX:List Oper->Option (List Oper×Oper×List Oper)
 |[]=>Te
 |o::l=>bif Po o then Td ([],o,l)else match nX l with
  |some (pre,o',post)=>Td (o::pre,o',post)
  |none=>Te
theorem Hh{l:List Oper}:∀{pre b:List Oper} {o:Oper},nX l=Td (pre,o,b)->l=pre++o::b:=by
 induction l with
 |nil=>intro pre b o h;cases h
 |cons x l c=>intro pre b o h;rw[nX]at h;grind
def pA(P:Program)(o:Oper)(e:bK)(h:zb)(K:Value->zb->Prop):Prop:=match o.op with
 |.call c=>match c.callee with
  |.value x=>match Xq e [] x with
   |some (.func (.yield l) A C)=>bif (bif (Nat.beq A.size 0)then(Nat.beq C.size 0)else Tc)then(bif known e [] c.args.toList then YX P l (c.args.map (eG e [])) h λv h'=>typed P o.type v λb=>K b h' else False)else False
   |_=>False
  |_=>False
 |_=>False
theorem SL{n m:Nat}{K:Value->zb->Prop}(H:pA P o e h K)(i:Sat n e a)(B:World)(d:Nat){next:Act->World->Prop}{Q:Exit->Act->World->Prop}
  (z:∀v t h',K v h'->next (a.put o.dst v) (mk B t h')):o.wpIn (rf Te) m P a (mk B d h) next Q:=by
 unfold pA at H;split at H;rename_i c k;split at H;rename_i x f;split at H;rename_i l A C r;obtain⟨hA,p,H⟩:A=#[]/\C=#[]/\(bif known e [] c.args.toList then YX P l (c.args.map (eG e [])) h λv h'=>typed P o.type v λq=>K q h' else False):=by simp_all
 subst hA;subst p;cases hk:known e [] c.args.toList with
 |false=>simp_all
 |true=>
  rw[hk]at H;simp only[zG]at H;obtain⟨fn,tmps,assign,body,h1,h2⟩:=H (m-1) B d;have w:a.eval x=.func (.yield l) #[] #[]:=qt i (c:=[]) trivial r;have b:c.args.map a.eval=c.args.map (eG e []):=by apply Array.map_congr_left;intro y s;exact Wg i (c:=[]) trivial hk y (by simpa using s)
  have u:(o.semAt (rf Te).round a.eval).run P (mk B d h)=.ok (.round l fn tmps assign body) (mk B d h):=by show(execOp a.eval o).run P (mk B d h)=_;simp only[execOp,k,resolve,f,w,XW,Sem.run_bind,Sem.run_pure,Result.andThen_ok,invoke];rw[b];simpa using h1
  refine⟨λ_ _=>trivial,?_⟩;rw[u];refine⟨λf=>(by cases f),h2.mono ?_⟩;grind [Za]
 simp_all;simp_all;simp_all
def vR(P:Program)(n:Nat)(f:List (Nat×Nat))(id:Nat)(ops:Array Oper)(b:Bool)(K:bK->zb->Prop)(e:bK)(h:zb):Prop:=
 match nX ops.toList with
 |none=>regionF P n f id ops b K e h
 |some (pre,o,post)=>bif b then False else bif (pre.all Zh&&post.all Zh)then(match o.guard with
  |none=>bif xg n [] o.dst then wR P n ops (λc h1=>pA P o c h1 λv h2=>wR P n ops K post (putO c o.dst [] v) h2) pre e h else False
  |some _=>False)else False
theorem TY(O:P.follows .mixedOrders=Ta){F:List (Nat×Nat)}{id:Nat}{ops:Array Oper}{c:Bool}{K:bK->zb->Prop} (H:vR P n F id ops c K e h) (m:Nat) (B:World) (d:Nat) (D:Sat n e a) {Q:Exit->Act->World->Prop}
  (C:∀e' a' k h',Sat n e' a'->Same (xx ops.toList) a a'->K e' h'->Q .normal a' (mk B k h')):(YR id ops c).wpIn (rf Te) m P Q a (mk B d h):=by
 unfold vR at H;split at H;exact wpIn_wide.2 (C9 O H B d D C);rename_i pre o b y;have p:=Hh y;cases c with
 |true=>grind
 |false=>
  simp only[zH]at H;cases hnd:(pre.all Zh&&b.all Zh)with
  |false=>simp_all
  |true=>
   rw[hnd]at H;simp only[zG]at H;rw[Ui]at hnd;split at H;rename_i I;cases hd:xg n [] o.dst with
   |false=>simp_all
   |true=>
    rw[hd]at H;simp only[zG]at H;refine wpIn_region_list ?_;have q:∀x∈xx pre,x∈xx ops.toList:=λx M=>by rw[p,Wm];simp_all
    have r:∀i,o.dst=Td i->i∈xx ops.toList:=λi hi=>by rw[p,Wm];exact Uw _ (by simp[xx,hi])
    have A:∀x∈xx b,x∈xx ops.toList:=λx M=>by rw[p,Wm];refine Uw _ ?_;unfold xx;grind
    rw[p];refine kY (K:=λf w1=>∃l u h1,w1=mk B u h1/\Sat n l f/\Same (xx ops.toList) a f/\pA P o l h1 λv h2=>wR P n ops K b (putO l o.dst [] v) h2) pre (o::b) a _ hnd.1 (mr B pre e h a d H D λe' a' k h' t z J=>⟨e',k,h',rfl,t,z.mono q,J⟩) ?_;rintro f w1 ⟨l,u,h1,rfl,s1,L,t⟩;unfold wpListIn;have s:UV o (yielded ops f.tmps)=Ta:=by simp[UV,I]
    rw[zA s];refine SL t s1 B u λv d2 h2 z=>?_;have s2:Sat n (putO l o.dst [] v) (f.put o.dst v):=s1.putO hd (λ_=>rfl) (λS=>absurd trivial S);rw[<-UM b];refine kY (K:=λa' w'=>Q .normal a' w') b [] _ _ hnd.2 (mr B b _ _ _ _ z s2 λe' a' k h' G N E=>?_) λa w h=>h;exact C e' a' k h' G ((L.trans (Same.put f o.dst v r)).trans (N.mono A)) E
   simp_all
def WI(P:Program)(n:Nat)(pl:Plan):Code->Ji->bK->zb->Prop
 |.skip,Q,e,h=>Q .normal e h
 |.ret,Q,e,h=>Q .ret e h
 |.exit id,Q,e,h=>Q (.exit id) e h
 |.label _,Q,e,h=>Q .normal e h
 |.goto l,Q,e,h=>Q (.goto l) e h
 |.region id ops draw,Q,e,h=>vR P n pl.tails id ops draw (λe h=>Q .normal e h) e h
 |.seq x y,Q,e,h=>match lw pl.joins (je y)with
  |none=>WI P n pl x (gU (λe h=>WI P n pl y Q e h) Q) e h
  |some J=>zN J (λe h=>WI P n pl y Q e h) (λK=>WI P n pl x (gU K Q) e h) (Wn (xj x) e)
 |.cond c x y,Q,e,h=>match Xq e [] c with
  |some (.bool b)=>(b=Ta->WI P n pl x Q e h)/\(b=Tc->WI P n pl y Q e h)
  |_=>False
 |.block id x,Q,e,h=>WI P n pl x (gM id Q) e h
 |.loop x,Q,e,h=>match lw pl.loops (je x)with
  |some J=>v9 J (λf e h=>WI P n pl x (gU f Q) e h) (Wn (xj x) e) e h
  |none=>False
 |_,_,_,_=>False
theorem LW(hm:P.follows .mixedOrders=Ta){pl:Plan}:∀(c:Code) (Q:Ji) (e:bK) (h:zb),WI P n pl c Q e h ->
  ∀(m:Nat) (B:World) (d:Nat) (a:Act),Sat n e a->c.wpIn (rf Te) m P (AD n B (xj c) a Q) a (mk B d h):=by
 intro c;induction c with
 |skip=>exact λQ e h H m B d a f=>wpIn_skip ⟨e,d,h,rfl,f,Same.refl _ _,H⟩
 |ret=>exact λQ e h H m B d a f=>wpIn_ret ⟨e,d,h,rfl,f,Same.refl _ _,H⟩
 |exit id=>exact λQ e h H m B d a f=>wpIn_exit ⟨e,d,h,rfl,f,Same.refl _ _,H⟩
 |label l=>exact λQ e h H m B d a f=>wpIn_label ⟨e,d,h,rfl,f,Same.refl _ _,H⟩
 |goto l=>exact λQ e h H m B d a f=>wpIn_goto ⟨e,d,h,rfl,f,Same.refl _ _,H⟩
 |region id ops an=>exact λQ e h H m B d a f=>TY hm H m B d f λe' a' d' h' r t q3=>⟨e',d',h',rfl,r,t,q3⟩
 |seq x y C D=>
  intro Q e h H m B d a f;simp only[WI]at H;have L:∀i∈xj x,i∈xj (x.seq y):=λi hi=>Un _ hi;have S:∀i∈xj y,i∈xj (x.seq y):=λi hi=>Uw _ hi;split at H;refine wpIn_seq (wpIn_mono (C _ _ _ H m B d a f) ?_);rintro ex k w1 ⟨A,s,h1,rfl,s1,w,r⟩;cases ex with
  |normal=>refine wpIn_mono (D _ _ _ r m B s k s1) ?_;rintro ex a2 w2 ⟨u,d2,h2,rfl,s2,z,t⟩;exact⟨u,d2,h2,rfl,s2,(w.mono L).trans (z.mono S),t⟩
  |_=>exact⟨A,s,h1,rfl,s1,w.mono L,r⟩
  rename_i J hJ;have H':=H (i0 (j5 J) λvs=>λh=>WI P n pl y Q (Q4 J vs++Wn (xj x) e) h) (vW λvs h M=>M);refine wpIn_seq (wpIn_mono (C _ _ _ H' m B d a f) ?_);rintro ex k w1 ⟨A,s,h1,rfl,s1,w,r⟩;cases ex with
  |normal=>obtain⟨vs,q,O,M,hk⟩:=iu r;have aa:=tg M;subst aa;have U:Sat n (Q4 J vs++Wn (xj x) e) k:=X9 f s1.defers s1.size w (yd s1 O);refine wpIn_mono (D _ _ _ hk m B s k U) ?_;rintro ex a2 w2 ⟨u,d2,h2,rfl,s2,z,t⟩;exact⟨u,d2,h2,rfl,s2,(w.mono L).trans (z.mono S),t⟩
  |_=>exact⟨A,s,h1,rfl,s1,w.mono L,r⟩
 |cond c x y C D=>intro Q e h H m B d a f;simp only[WI]at H;have L:∀i∈xj x,i∈xj (YJ c x y):=λi hi=>Un _ hi;have S:∀i∈xj y,i∈xj (YJ c x y):=λi hi=>Uw _ hi;split at H;rename_i b E;refine wpIn_cond_split (qt f (c:=[]) trivial E) (λV=>?_) (λaf=>?_);refine wpIn_mono (C _ _ _ (H.1 V) m B d a f) ?_;rintro ex a2 w2 ⟨u,d2,h2,rfl,s2,z,t⟩;exact⟨u,d2,h2,rfl,s2,z.mono L,t⟩;refine wpIn_mono (D _ _ _ (H.2 af) m B d a f) ?_;rintro ex a2 w2 ⟨u,d2,h2,rfl,s2,z,t⟩;exact⟨u,d2,h2,rfl,s2,z.mono S,t⟩;exact H.elim
 |block id x ih=>
  intro Q e h H m B d a f;refine wpIn_block (wpIn_mono (ih _ _ _ H m B d a f) ?_);rintro ex k w1 ⟨A,s,h1,rfl,s1,w,r⟩;cases ex with
  |exit i=>simp only[gM]at r;simp only[Exit.inBlock];by_cases E:Nat.beq i id=Ta;rw[zA (Ux E)];simp only[E,zG]at r;exact⟨A,s,h1,rfl,s1,w,r⟩;rw[za (λhe=>E (by rw[he];simp))];simp only[E,zH]at r;exact⟨A,s,h1,rfl,s1,w,r⟩
  |_=>exact⟨A,s,h1,rfl,s1,w,r⟩
 |loop x ih=>
  intro Q e h H m B d a f;simp only[WI]at H;split at H;rename_i J hJ;obtain⟨I,μ,h0,G⟩:=H;obtain⟨ae,p0,ak,am,aj⟩:=iu h0;let F:=iW (j5 J) I μ;let at_:Act->Option ((zb->Prop)×(zb->Nat)):=λk=>(Xs (λi=>Td (qg k i)) J).bind λvs=>dW (j5 J) vs F;refine wpIn_loop (λk w1=>∃s h1 vs p,w1=mk B s h1/\k.defers=[]/\k.tmps.size=n/\Same (xj x) a k/\Xs (λi=>Td (qg k i)) J=Td vs/\dW (j5 J) vs F=Td p/\p.1 h1) (λk w1=>match at_ k with|some p=>p.2 w1.heap|none=>0) ⟨d,h,ae,p0,rfl,f.defers,f.size,Same.refl _ _,yd f ak,am,aj⟩ ?_;rintro k w1 ⟨s,h1,vs,p,rfl,Y,ai,o,O,hp,hI⟩;have s1:Sat n (Q4 J vs++Wn (xj x) e) k:=X9 f Y ai o O;have E:=pa hp G h1 hI;refine wpIn_mono (ih _ _ _ E m B s k s1) ?_;rintro ex a2 w2 ⟨u,d2,h2,rfl,s2,z,t⟩;cases ex with
  |normal=>
   obtain⟨ab,q,N,M,Z,ah⟩:=iu t;refine⟨⟨d2,h2,ab,q,rfl,s2.defers,s2.size,o.trans z,yd s2 N,M,Z⟩,?_⟩;have A:at_ k=Td p:=by simp only[at_,O,VM];exact hp
   have u:at_ a2=Td q:=by simp only[at_,yd s2 N,VM];exact M
   rw[A,u];exact ah
  |_=>exact⟨u,d2,h2,rfl,s2,o.trans z,t⟩
  exact H.elim
 |_=>exact λQ e h H=>H.elim
def gE(P:Program)(f:FuncId)(args:Array Value)(h:zb)(R:Value->zb->Prop):Prop:=
 ∀(m:Nat) (B:World) (d:Nat),CallsIn (rf Te) m P f args (mk B d h) λe w'=>∃v b h',e=.returned v/\w'=mk B b h'/\R v h'
theorem Cd(u:P.follows .mixedOrders=Ta)(pl:Plan)(vs:List Value){fn:Func}{rs:List ResultVar}(r:P.funcs[f]?=Td fn)(c:Q7 fn=Ta)(p:fn.results.toList=rs)(t:fn.ntmps=n)
  (q:Nat.ble vs.length n=Ta) {R:Value->zb->Prop} (H:WI P n pl (codeOf fn) (pH P rs R) (fM 0 vs) h):gE P f vs.toArray h R:=by
 have l:fn.body=Td (codeOf fn):=by unfold Q7 at c;unfold codeOf;split at c;omega;cases c
 intro m B d;subst t;refine callsIn_of_wp r l trivial ?_ rfl;have y:vs.length<=fn.ntmps:=VE q;have s:Sat fn.ntmps (fM 0 vs) { tmps:=vs.toArray++VL (fn.ntmps-vs.toArray.size) undef,defers:=[] }:=by
  refine⟨rfl,by simp;omega,?_⟩;refine oQ vs.toArray _ vs 0 λj v x=>?_;have k:j<vs.length:=by rcases U1 j vs.length with h|h;exact h;simp_all
  simp only[UI,Vm];rw[V5 (by simpa using k)];simp[x]
 refine wpIn_mono (LW u (codeOf fn) _ _ _ H m B d _ s) ?_;rintro ex a w ⟨A,b,h1,rfl,s1,z,i⟩;cases ex with
 |normal=>obtain⟨v,o,e⟩:=Q6 s1 p i;exact⟨s1.defers,v,e B b,v,b,h1,rfl,rfl,o⟩
 |ret=>obtain⟨v,o,e⟩:=Q6 s1 p i;exact⟨s1.defers,v,e B b,v,b,h1,rfl,rfl,o⟩
 |_=>exact i.elim
end
section
section
variable {P:Program} {n m id:Nat} {ro:Option Nat} {e:bK} {h:zb} {a:Act}
theorem vP{P:Program}{ops:Array Oper}{D:List Deferred}{K:Act->World->Prop}:∀(l:List Oper) (a:Act) (w:World),wpList P ops (fy K) l a w->wpList P ops (fy λf w1=>∃b,f=Y0 D b/\K b w1) l (Y0 D a) w
 |[],a,w,h=>⟨a,rfl,h⟩
 |o::l,a,w,h=>by
  unfold wpList at h ⊢;have m:yielded ops (Y0 D a).tmps=yielded ops a.tmps:=rfl;rw[m];by_cases c:UV o (yielded ops a.tmps)=Ta;rw[zA c]at h ⊢;rcases h with h|⟨_,h⟩;exact .inl (Oper.wp_mono (λf w1 ⟨b,e,k⟩=>by rw[e];exact vP l b w1 k) (wF h));exact(Yg h).elim;rw[za c]at h ⊢;have i:(Y0 D a).put o.dst undef=Y0 D (a.put o.dst undef):=by cases o.dst <;> rfl
  rw[i];exact vP l _ w h
def mE(P:Program)(n:Nat)(ops:Array Oper)(b:Bool)(K:bK->zb->Prop)(e:bK)(h:zb):Prop:=
 bif ops.toList.all Zh then(bif b then(bif iB Tc ops then wI P n h Ta ops (λe'=>gt Tc P n ops h K (dX Tc ops).length [] (dX Tc ops) e' h) (Jh [] (Jg Tc ops [] ops.size) ops.size) e else False)else wR P n ops K ops.toList e h)else False
theorem rG(u:P.follows .mixedOrders=Ta){D:List Deferred}{ops:Array Oper}{f:Bool}{K:bK->zb->Prop}(H:mE P n ops f K e h)(B:World)(d:Nat)(r:Sat n e a){Q:Exit->Act->World->Prop}
  (t:∀e' a' b h',Sat n e' a'->Same (xx ops.toList) a a'->K e' h'->Q .normal (Y0 D a') (mk B b h')):(YR id ops f).wpIn (rf ro) m P Q (Y0 D a) (mk B d h):=by
 unfold mE at H;cases hd:ops.toList.all Zh with
 |false=>simp_all
 |true=>
  rw[hd,zG]at H;have fin:∀k w1,(∃c,k=Y0 D c/\∃e' b h',w1=mk B b h'/\Sat n e' c/\Same (xx ops.toList) a c/\K e' h')->Q .normal k w1:=by rintro k w1 ⟨c,rfl,e',b,h',rfl,l,q,p⟩;exact t e' c b h' l q p
  cases f with
  |false=>refine wpIn_region_list ?_;rw[<-UM ops.toList];exact kY _ [] _ _ hd (vP (K:=λc w1=>∃e' b h',w1=mk B b h'/\Sat n e' c/\Same (xx ops.toList) a c/\K e' h') _ _ _ (mr B _ _ _ _ _ H r λe' a' b h' l q p=>⟨e',b,h',rfl,l,q,p⟩)) fin
  |true=>
   rw[zG]at H;cases hB:iB Tc ops with
   |false=>simp_all
   |true=>
    rw[hB]at H;have h0:wpAny P .any ops (fy λc w1=>∃e' b h',w1=mk B b h'/\Sat n e' c/\Same (xx ops.toList) a c/\K e' h') ops.size (VL ops.size Tc) a (mk B (d+1) h):= Cq B hB H r (λe' a' b h' l q p=>⟨e',b,h',rfl,l,q,p⟩) (d+1);refine wpIn_mono (wpIn_region_any (Q:=fy λk w1=>∃c,k=Y0 D c/\∃e' b h',w1=mk B b h'/\Sat n e' c/\Same (xx ops.toList) a c/\K e' h') u (oU (λi o w=>?_) _ _ _ _ (nj _ _ _ _ h0))) λx a' w' s=>?_;grind;cases x with
    |normal=>exact fin _ _ s
    |_=>exact s.elim
def WG(P:Program)(n:Nat):Code->Ji->bK->zb->Prop
 |.skip,Q,e,h=>Q .normal e h
 |.ret,Q,e,h=>Q .ret e h
 |.exit id,Q,e,h=>Q (.exit id) e h
 |.region _ ops draw,Q,e,h=>mE P n ops draw (λe h=>Q .normal e h) e h
 |.seq x y,Q,e,h=>WG P n x (gU (λe h=>WG P n y Q e h) Q) e h
 |.cond c x y,Q,e,h=>match Xq e [] c with
  |some (.bool b)=>(b=Ta->WG P n x Q e h)/\(b=Tc->WG P n y Q e h)
  |_=>False
 |.block id x,Q,e,h=>WG P n x (gM id Q) e h
 |_,_,_,_=>False
def uC(n:Nat)(B:World)(D:List Deferred)(Q:Ji):Exit->Act->World->Prop:=
 λx a w=>∃e d h b,a=Y0 D b/\w=mk B d h/\Sat n e b/\Q x e h
theorem II{B:World}{D:List Deferred}{Q:Ji}:∀c a w,uC n B D (gM id Q) c a w->Exit.inBlock id (uC n B D Q) c a w:=by
 rintro c a1 w1 ⟨h,k,h1,f,rfl,rfl,s1,b⟩;cases c with
 |exit i=>simp only[gM]at b;simp only[Exit.inBlock];by_cases e:Nat.beq i id=Ta;rw[zA (Ux e)];simp only[e,zG]at b;exact⟨h,k,h1,f,rfl,rfl,s1,b⟩;rw[za (λl=>e (by rw[l];simp))];simp only[e,zH]at b;exact⟨h,k,h1,f,rfl,rfl,s1,b⟩
 |_=>exact⟨h,k,h1,f,rfl,rfl,s1,b⟩
theorem Ap(w:P.follows .mixedOrders=Ta){D:List Deferred}:∀(c:Code) (Q:Ji) (e:bK) (h:zb),WG P n c Q e h ->
  ∀(B:World) (d:Nat) (a:Act),Sat n e a->c.wpIn (rf ro) m P (uC n B D Q) (Y0 D a) (mk B d h):=by
 intro c;induction c with
 |skip=>exact λQ e h H B d a f=>wpIn_skip ⟨e,d,h,a,rfl,rfl,f,H⟩
 |ret=>exact λQ e h H B d a f=>wpIn_ret ⟨e,d,h,a,rfl,rfl,f,H⟩
 |exit id=>exact λQ e h H B d a f=>wpIn_exit ⟨e,d,h,a,rfl,rfl,f,H⟩
 |region id ops r=>exact λQ e h H B d a f=>rG w H B d f λe' a' u h' l _ E=>⟨e',u,h',a',rfl,rfl,l,E⟩
 |seq x y k i=>
  intro Q e h H B d a f;refine wpIn_seq (wpIn_mono (k _ _ _ H B d a f) ?_);rintro ex a1 w1 ⟨z,q,h1,s,rfl,rfl,s1,l⟩;cases ex with
  |normal=>exact i _ _ _ l B q s s1
  |_=>exact⟨z,q,h1,s,rfl,rfl,s1,l⟩
 |cond c x y k i=>intro Q e h H B d a f;simp only[WG]at H;split at H;rename_i b t;have C:(Y0 D a).eval c=.bool b:=qt f (c:=[]) trivial t;exact wpIn_cond_split C (λp=>k _ _ _ (H.1 p) B d a f) (λo=>i _ _ _ (H.2 o) B d a f);exact H.elim
 |block id x A=>intro Q e h H B d a f;exact wpIn_block (wpIn_mono (A _ _ _ H B d a f) II)
 |_=>exact λQ e h H=>H.elim
def WL(P:Program)(n:Nat)(pl:List (Nat×dN)):Code->Ji->bK->zb->Prop
 |.skip,Q,e,h=>Q .normal e h
 |.ret,Q,e,h=>Q .ret e h
 |.exit id,Q,e,h=>Q (.exit id) e h
 |.region _ ops draw,Q,e,h=>mE P n ops draw (λe h=>Q .normal e h) e h
 |.seq x y,Q,e,h=>WL P n pl x (gU (λe h=>WL P n pl y Q e h) Q) e h
 |.cond c x y,Q,e,h=>match Xq e [] c with
  |some (.bool b)=>(b=Ta->WL P n pl x Q e h)/\(b=Tc->WL P n pl y Q e h)
  |_=>False
 |.block id x,Q,e,h=>WL P n pl x (gM id Q) e h
 |.loop x,Q,e,h=>match lw pl (je x)with
  |some J=>v9 J (λf e h=>WL P n pl x (gU f Q) e h) (Wn (xj x) e) e h
  |none=>False
 |_,_,_,_=>False
def S0(n:Nat)(B:World)(D:List Deferred)(ms:List Nat)(c:Act)(Q:Ji):Exit->Act->World->Prop:=
 λx a w=>∃e d h b,a=Y0 D b/\w=mk B d h/\Sat n e b/\Same ms c b/\Q x e h
theorem GZ(hm:P.follows .mixedOrders=Ta){D:List Deferred}{pl:List (Nat×dN)}:∀(c:Code) (Q:Ji) (e:bK) (h:zb),WL P n pl c Q e h ->
  ∀(B:World) (d:Nat) (a:Act),Sat n e a->c.wpIn (rf ro) m P (S0 n B D (xj c) a Q) (Y0 D a) (mk B d h):=by
 intro c;induction c with
 |skip=>exact λQ e h H B d a f=>wpIn_skip ⟨e,d,h,a,rfl,rfl,f,Same.refl _ _,H⟩
 |ret=>exact λQ e h H B d a f=>wpIn_ret ⟨e,d,h,a,rfl,rfl,f,Same.refl _ _,H⟩
 |exit id=>exact λQ e h H B d a f=>wpIn_exit ⟨e,d,h,a,rfl,rfl,f,Same.refl _ _,H⟩
 |region id ops ak=>exact λQ e h H B d a f=>rG hm H B d f λe' a' d' h' o s q3=>⟨e',d',h',a',rfl,rfl,o,s,q3⟩
 |seq x y G L=>
  intro Q e h H B d a f;have S:∀i∈xj x,i∈xj (.seq x y):=λi hi=>Uv.2 (.inl hi);have hy:∀i∈xj y,i∈xj (.seq x y):=λi hi=>Uv.2 (.inr hi);refine wpIn_seq (wpIn_mono (G _ _ _ H B d a f) ?_);rintro A r w1 ⟨E,t,h1,k,rfl,rfl,s1,N,o⟩;cases A with
  |normal=>refine wpIn_mono (L _ _ _ o B t k s1) ?_;rintro A a2 w2 ⟨u,d2,h2,w,rfl,rfl,s2,C,s⟩;exact⟨u,d2,h2,w,rfl,rfl,s2,(N.mono S).trans (C.mono hy),s⟩
  |_=>exact⟨E,t,h1,k,rfl,rfl,s1,N.mono S,o⟩
 |cond c x y G L=>intro Q e h H B d a f;have S:∀i∈xj x,i∈xj (.cond c x y):=λi hi=>Uv.2 (.inl hi);have hy:∀i∈xj y,i∈xj (.cond c x y):=λi hi=>Uv.2 (.inr hi);simp only[WL]at H;split at H;rename_i b z;have hc:(Y0 D a).eval c=.bool b:=qt f (c:=[]) trivial z;exact wpIn_cond_split hc (λU=>wpIn_mono (G _ _ _ (H.1 U) B d a f) λA a2 w2 ⟨u,d2,h2,w,r1,r2,s2,C,s⟩=>⟨u,d2,h2,w,r1,r2,s2,C.mono S,s⟩) (λab=>wpIn_mono (L _ _ _ (H.2 ab) B d a f) λA a2 w2 ⟨u,d2,h2,w,r1,r2,s2,C,s⟩=>⟨u,d2,h2,w,r1,r2,s2,C.mono hy,s⟩);exact H.elim
 |block id x ih=>
  intro Q e h H B d a f;refine wpIn_block (wpIn_mono (ih _ _ _ H B d a f) ?_);rintro A r w1 ⟨E,t,h1,k,rfl,rfl,s1,N,o⟩;cases A with
  |exit i=>simp only[gM]at o;simp only[Exit.inBlock];by_cases z:Nat.beq i id=Ta;rw[zA (Ux z)];simp only[z,zG]at o;exact⟨E,t,h1,k,rfl,rfl,s1,N,o⟩;rw[za (λhe=>z (by rw[he];simp))];simp only[z,zH]at o;exact⟨E,t,h1,k,rfl,rfl,s1,N,o⟩
  |_=>exact⟨E,t,h1,k,rfl,rfl,s1,N,o⟩
 |loop x ih=>
  intro Q e h H B d a f;simp only[WL]at H;split at H;rename_i J hJ;obtain⟨I,μ,h0,M⟩:=H;obtain⟨aa,p0,ai,aj,ah⟩:=iu h0;let F:=iW (j5 J) I μ;let at_:Act->Option ((zb->Prop)×(zb->Nat)):=λr=>(Xs (λi=>Td (qg r i)) J).bind λvs=>dW (j5 J) vs F;refine wpIn_loop (λr w1=>∃t h1 vs p k,r=Y0 D k/\w1=mk B t h1/\k.defers=[]/\k.tmps.size=n/\Same (xj x) a k/\Xs (λi=>Td (qg k i)) J=Td vs/\dW (j5 J) vs F=Td p/\p.1 h1) (λr w1=>match at_ r with|some p=>p.2 w1.heap|none=>0) ⟨d,h,aa,p0,a,rfl,rfl,f.defers,f.size,Same.refl _ _,yd f ai,aj,ah⟩ ?_;rintro r w1 ⟨t,h1,vs,p,k,rfl,rfl,V,af,l,hv,hp,hI⟩;have s1:Sat n (Q4 J vs++Wn (xj x) e) k:=X9 f V af l hv;have z:=pa hp M h1 hI;refine wpIn_mono (ih _ _ _ z B t k s1) ?_;rintro A a2 w2 ⟨u,d2,h2,w,rfl,rfl,s2,C,s⟩;have va:∀(r:Act),(λi=>Td (qg (Y0 D r) i))=λi=>Td (qg r i):=λ_=>rfl;cases A with
  |normal=>
   obtain⟨Z,q,O,hq,Y,ae⟩:=iu s;refine⟨⟨d2,h2,Z,q,w,rfl,rfl,s2.defers,s2.size,l.trans C,yd s2 O,hq,Y⟩,?_⟩;have E:at_ (Y0 D k)=Td p:=by simp only[at_,va,hv,VM];exact hp
   have u:at_ (Y0 D w)=Td q:=by simp only[at_,va,yd s2 O,VM];exact hq
   rw[E,u];exact ae
  |_=>exact⟨u,d2,h2,w,rfl,rfl,s2,l.trans C,s⟩
  exact H.elim
 |_=>exact λQ e h H=>H.elim
abbrev dZ:=LoopState->Option Code->Loop
def Pn(rec:dZ)(l:Nat)(K:Value->zb->Prop):Ji
 |.normal,_,h=>h[l]?=Td (.loop (rec .busy Te))/\K (.bool Ta) (h.setIfInBounds l (.loop (rec .ready Te)))
 |.ret,_,h=>h[l]?=Td (.loop (rec .busy Te))/\K (.bool Tc) (h.setIfInBounds l (.loop (rec .done (Td .ret))))
 |_,_,_=>False
def fF(P:Program)(n:Nat)(b bd:Code)(rec:dZ)(l:Nat)(K:Value->zb->Prop)(e:bK)(h:zb):Prop:=
 WG P n b (λx c h1=>match x with
  |.normal=>h1[l]?=Td (.loop (rec .ready Te))/\WG P n bd (Pn rec l K) c (h1.setIfInBounds l (.loop (rec .busy Te)))
  |_=>False) e h
theorem zO(a:Act):Y0 [] a=a:=by unfold Y0;simp
def t6:bK->List Nat->List Value->bK
 |e,p::ps,v::vs=>t6 (putO e (Td p) [] v) ps vs
 |e,_,_=>e
def lj:Array Value->List Nat->List Value->Array Value
 |t,p::ps,v::vs=>lj (t.setIfInBounds p v) ps vs
 |t,_,_=>t
theorem Ew:∀(ps:List Nat) (vs:List Value) (t:Array Value),(ps.zip vs).foldl (λ(t:Array Value) (x:Tmp×Value)=>t.setIfInBounds x.1 x.2) t=lj t ps vs
 |[],_,_=>rfl
 |_::_,[],_=>rfl
 |p::ps,v::vs,t=>Ew ps vs (t.setIfInBounds p v)
theorem D7{n:Nat}:∀(ps:List Nat) (vs:List Value) (e:bK) (a:Act),(∀p∈ps,xg n [] (Td p)=Ta)->Sat n e a->Sat n (t6 e ps vs) { tmps:=lj a.tmps ps vs,defers:=[] }
 |[],vs,e,a,_,hs=>by have:=hs.defers;cases a;simp only at this;subst this;exact hs
 |p::ps,[],e,a,_,hs=>by have:=hs.defers;cases a;simp only at this;subst this;exact hs
 |p::ps,v::vs,e,a,h,hs=>D7 ps vs _ (a.put (Td p) v) (λq b=>h q (Uo _ b)) (hs.putO (h p Uu) (λ_=>rfl) (λc=>absurd trivial c))
theorem yQ(C:P.follows .mixedOrders=Ta){n l:Nat}{ps:List Nat}{f bd:Code}{fn:FuncId}{D:Nat}(x:∀p∈ps,xg n [] (Td p)=Ta) {rec:dZ} (b:rec=λst N=>{ state:=st,pending:=N,fn:=fn,tmps:=a.tmps,params:=ps.toArray,assign:=f,body:=bd,defers:=D }) {vs:List Value} (V:ps.length=vs.length) (Q:Sat n e a) (I:h[l]?=Td (.loop (rec .ready Te))) {K:Value->zb->Prop}
  (H:fF P n f bd rec l K (t6 e ps vs) h):YX P l vs.toArray h K:=by
 intro m B d;have u:(mk B d h).heap[l]?=Td (.loop (rec .ready Te)):=I;have A:=run_yield (P:=P) (w:=mk B d h) (args:=vs.toArray) u (by simp_all);refine⟨_,_,_,_,A,?_⟩;rw[b]at A ⊢;have s2:=D7 ps vs e a x Q;have key:RoundIn (rf Te) m P l fn (lj a.tmps ps vs) f bd (mk B d h) (λe w'=>∃v J h',e=.returned v/\w'=mk B J h'/\K v h'):=by
  refine roundIn_of_wpIn (F:=rf Te) trivial ?_;have O:(rf Te).inRound l=rf (Td l):=rfl;rw[O,<-zO { tmps:=lj a.tmps ps vs,defers:=[] }];refine wpIn_mono (Ap C f _ _ _ H B d _ s2) ?_;rintro ex a1 w1 ⟨U,z,h1,L,rfl,rfl,s1,y⟩;cases ex with
  |normal=>
   obtain⟨G,M⟩:=y;have q:(mk B z h1).heap[l]?=Td (.loop (rec .ready Te)):=G;have E:=run_beginRound (P:=P) q (by rw[b]);refine⟨_,E,?_⟩;have k:({ rec .ready Te with state:=.busy }:Loop)=rec .busy Te:=by rw[b]
   rw[k];refine wpIn_mono (Ap C bd _ _ _ M B z L s1) ?_;rintro ex a2 w2 ⟨S,d2,h2,Y,rfl,rfl,s3,r⟩;cases ex with
   |normal=>
    obtain⟨t,s⟩:=r;have i:(mk B d2 h2).heap[l]?=Td (.loop (rec .busy Te)):=t;have c:=run_endRound (P:=P) Te i;refine⟨_,_,c,.bool Ta,d2,h2.setIfInBounds l (.loop (rec .ready Te)),rfl,?_,s⟩;have o:({ rec .busy Te with state:=if(Te:Option Code).isNone then .ready else .done,pending:=Te }:Loop)=rec .ready Te:=by rw[b];rfl
    rw[o];rfl
   |ret=>
    obtain⟨t,s⟩:=r;have i:(mk B d2 h2).heap[l]?=Td (.loop (rec .busy Te)):=t;have c:=run_endRound (P:=P) (Td .ret) i;refine⟨_,_,c,.bool Tc,d2,h2.setIfInBounds l (.loop (rec .done (Td .ret))),rfl,?_,s⟩;have o:({ rec .busy Te with state:=if(Td Code.ret:Option Code).isNone then .ready else .done,pending:=Td .ret }:Loop)=rec .done (Td .ret):=by rw[b];rfl
    rw[o];rfl
   |_=>exact r.elim
  |_=>exact y.elim
 simp_all[Ew]
def fU:Code->Code
 |.rangeFunc _ _ x _=>x
 |.seq x y=>match fU x with
  |.skip=>fU y
  |c=>c
 |.block _ x=>fU x
 |_=>.skip
def fI:Code->Code
 |.rangeFunc _ _ _ y=>y
 |.seq x y=>match fI x with
  |.skip=>fI y
  |c=>c
 |.block _ x=>fI x
 |_=>.skip
def marks(c:List Nat):List Deferred:=c.map λb=>{ target:=.collected b,args:=#[] }
abbrev fR:=Exit->List Nat->bK->zb->Prop
def NO(K:List Nat->bK->zb->Prop)(Q:fR):fR
 |.normal,ds,e,h=>K ds e h
 |x,ds,e,h=>Q x ds e h
def Ff(id:Nat)(Q:fR):fR
 |.exit i,ds,e,h=>bif Nat.beq i id then Q .normal ds e h else Q (.exit i) ds e h
 |x,ds,e,h=>Q x ds e h
def m7(rec:dZ)(l:Nat)(N R:zb->Prop)(h:zb):Prop:=
 (h[l]?=Td (.loop (rec .ready Te))/\N (h.setIfInBounds l (.loop (rec .exhausted Te))))\/(h[l]?=Td (.loop (rec .done (Td .ret)))/\R (h.setIfInBounds l (.loop (rec .exhausted (Td .ret)))))
def Cy(P:Program)(n:Nat)(f i:Nat)(c bd:Code)(v:Value)(Q:fR)(m:List Nat)(e:bK)(h:zb):Prop:=
 bif xg n [] (Td f)&&xg n [] (Td i)then(∃g lb,v=.func (.func g) #[] lb/\zo P g=Ta/\∀rec:dZ,
  (∀{l k:Value} {h2:zb} {K:Value->zb->Prop},h2[h.size+1]?=Td (.loop (rec .ready Te))->fF P n c bd rec (h.size+1) K (putO (putO e (Td f) [] l) (Td i) [] k) h2->YX P (h.size+1) #[l,k] h2 K) ->
  gE P g (#[.func (.yield (h.size+1)) #[] #[]]++lb) ((h.push (.deferred (Td []))).push (.loop (rec .ready Te))) λ_ o=>m7 rec (h.size+1) (λb=>Q .normal (h.size::m) e b) (λb=>Q .ret (h.size::m) e b) o)else False
def xE(P:Program)(n:Nat)(f:Nat)(c bd:Code)(v:Value)(Q:fR)(k:List Nat)(e:bK)(h:zb):Prop:=
 bif xg n [] (Td f)then(∃g lb,v=.func (.func g) #[] lb/\zo P g=Ta/\∀rec:dZ,
  (∀{i:Value} {h2:zb} {K:Value->zb->Prop},h2[h.size+1]?=Td (.loop (rec .ready Te))->fF P n c bd rec (h.size+1) K (putO e (Td f) [] i) h2->YX P (h.size+1) #[i] h2 K) ->
  gE P g (#[.func (.yield (h.size+1)) #[] #[]]++lb) ((h.push (.deferred (Td []))).push (.loop (rec .ready Te))) λ_ l=>m7 rec (h.size+1) (λb=>Q .normal (h.size::k) e b) (λb=>Q .ret (h.size::k) e b) l)else False
def iJ(e:bK):Nat->Nat->bK
 |0,_=>[]
 |f+1,i=>match gF e i with
  |some v=>(i,[],v)::iJ e f (i+1)
  |none=>iJ e f (i+1)
theorem qX{e:bK}:∀{f i:Nat} {x:Nat×qp×Value},x∈iJ e f i->x.2.1=[]/\gF e x.1=Td x.2.2
 |0,_,_,h=>nomatch h
 |f+1,i,x,h=>by unfold iJ at h;split at h;rename_i v b;rcases Uj.1 h with rfl|h;simp_all;exact qX h;exact qX h
theorem oR(h:Sat n e a)(f i:Nat):Sat n (iJ e f i) a:=⟨h.defers,h.size,λx b=>by obtain⟨k,c,v⟩:=x;obtain⟨h1,h2⟩:=qX b;have h1:c=[]:=h1;subst h1;exact⟨λ_=>Q5 h h2,λl=>absurd trivial l⟩⟩
def WD(P:Program)(n:Nat)(pl:List (Nat×dN)):Code->fR->List Nat->bK->zb->Prop
 |.skip,Q,f,e,h=>Q .normal f e h
 |.ret,Q,f,e,h=>Q .ret f e h
 |.exit id,Q,f,e,h=>Q (.exit id) f e h
 |.region _ ops draw,Q,f,e,h=>mE P n ops draw (λe h=>Q .normal f e h) e h
 |.seq x y,Q,f,e,h=>WD P n pl x (NO (λf e h=>WD P n pl y Q f e h) Q) f e h
 |.cond c x y,Q,f,e,h=>match Xq e [] c with
  |some (.bool b)=>(b=Ta->WD P n pl x Q f e h)/\(b=Tc->WD P n pl y Q f e h)
  |_=>False
 |.block id x,Q,f,e,h=>WD P n pl x (Ff id Q) f e h
 |.rangeFunc g ps asg bd,Q,f,e,h=>match Xq e [] g,ps.toList with
  |some v,[p1,p2]=>Cy P n p1 p2 asg bd v Q f (iJ e n 0) h
  |some v,[p1]=>xE P n p1 asg bd v Q f (iJ e n 0) h
  |_,_=>False
 |.loop x,Q,f,e,h=>WL P n pl (.loop x) (λi e h=>Q i f e h) e h
 |_,_,_,_,_=>False
def CG(n:Nat)(B:World)(Q:fR):Exit->Act->World->Prop:=
 λx a w=>∃c e d h b,a=Y0 (marks c) b/\w=mk B d h/\Sat n e b/\Q x c e h
theorem Eu(w:1<=m){ps:Array Nat}{i bd:Code}{o:FuncId}{lb:Array Value}(C:zo P o=Ta){g:Operand}{Q:fR}{k:List Nat}(y:Sat n e a)(H:(Y0 (marks k) a).eval g=.func (.func o) #[] lb) (D:∀fn (rec:dZ),rec=(λst t=>{ state:=st,pending:=t,fn:=fn,tmps:=a.tmps,params:=ps,assign:=i,body:=bd,defers:=h.size }) -> gE P o (#[.func (.yield (h.size+1)) #[] #[]]++lb) ((h.push (.deferred (Td []))).push (.loop (rec .ready Te))) λ_ r=>m7 rec (h.size+1) (λz=>Q .normal (h.size::k) e z) (λz=>Q .ret (h.size::k) e z) r)
  (B:World) (d:Nat):(Code.rangeFunc g ps i bd).wpIn (rf Te) m P (CG n B Q) (Y0 (marks k) a) (mk B d h):=by
 refine wpIn_rangeFunc λp _=>?_;obtain⟨rec,b⟩:∃rec:dZ,rec=λst t=>{ state:=st,pending:=t,fn:=p,tmps:=a.tmps,params:=ps,assign:=i,body:=bd,defers:=h.size }:=⟨_,rfl⟩;have u:=D p rec b;refine⟨h.size+1,[{ target:=.collected h.size,args:=#[] }],mk B d ((h.push (.deferred (Td []))).push (.loop (rec .ready Te))),{ target:=.fn (.func o) lb,args:=#[.func (.yield (h.size+1)) #[] #[]] },mk B d ((h.push (.deferred (Td []))).push (.loop (rec .ready Te))),o,#[.func (.yield (h.size+1)) #[] #[]]++lb,mk B d ((h.push (.deferred (Td []))).push (.loop (rec .ready Te))),?_,?_,λ_ _=>trivial,?_,λ_=>w,?_⟩;rw[b];exact run_enterLoop_outer _ _ _ _ _;simp only[resolve,H];simp[go_sem,XW];simp only[invoke];exact X5 C _ _;have F:({ Y0 (marks k) a with defers:=[{ target:=.collected h.size,args:=#[] }]++(Y0 (marks k) a).defers }:Act)=Y0 (marks (h.size::k)) a:=by unfold Y0 marks;simp only[y.defers];rfl
 rw[F];refine CallsIn.mono (u (m-1) B d) ?_;rintro e' w' ⟨v,s,r,rfl,rfl,l⟩;rcases l with⟨f,G⟩|⟨f,E⟩;have c:(mk B s r).heap[h.size+1]?=Td (.loop (rec .ready Te)):=f;have q:=run_endLoop (P:=P) c (by simp_all);have A:({ rec .ready Te with state:=.exhausted }:Loop)=rec .exhausted Te:=by rw[b]
 have x:(rec .ready Te).pending=Te:=by rw[b]
 rw[A,x]at q;exact⟨Te,_,q,_,e,s,_,a,rfl,rfl,y,G⟩;have c:(mk B s r).heap[h.size+1]?=Td (.loop (rec .done (Td .ret))):=f;have q:=run_endLoop (P:=P) c (by simp_all);have A:({ rec .done (Td .ret)with state:=.exhausted }:Loop)=rec .exhausted (Td .ret):=by rw[b]
 have x:(rec .done (Td .ret)).pending=Td .ret:=by rw[b]
 rw[A,x]at q;exact⟨Td .ret,_,q,wpIn_ret ⟨_,e,s,_,a,rfl,rfl,y,E⟩⟩
theorem Nc(F:P.follows .mixedOrders=Ta)(E:1<=m){pl:List (Nat×dN)}:∀(c:Code) (Q:fR) (k:List Nat) (e:bK) (h:zb),WD P n pl c Q k e h ->
  ∀(B:World) (d:Nat) (a:Act),Sat n e a->c.wpIn (rf Te) m P (CG n B Q) (Y0 (marks k) a) (mk B d h):=by
 intro c;induction c with
 |skip=>exact λQ k e h H B d a f=>wpIn_skip ⟨k,e,d,h,a,rfl,rfl,f,H⟩
 |ret=>exact λQ k e h H B d a f=>wpIn_ret ⟨k,e,d,h,a,rfl,rfl,f,H⟩
 |exit id=>exact λQ k e h H B d a f=>wpIn_exit ⟨k,e,d,h,a,rfl,rfl,f,H⟩
 |region id ops U=>exact λQ k e h H B d a f=>rG F H B d f λe' a' d' h' l _ q2=>⟨k,e',d',h',a',rfl,rfl,l,q2⟩
 |seq x y C u=>
  intro Q k e h H B d a f;refine wpIn_seq (wpIn_mono (C _ _ _ _ H B d a f) ?_);rintro ex a1 w1 ⟨p,A,r,h1,s,rfl,rfl,s1,l⟩;cases ex with
  |normal=>exact u _ _ _ _ l B r s s1
  |_=>exact⟨p,A,r,h1,s,rfl,rfl,s1,l⟩
 |cond c x y C u=>intro Q k e h H B d a f;simp only[WD]at H;split at H;rename_i b D;have Z:(Y0 (marks k) a).eval c=.bool b:=qt f (c:=[]) trivial D;exact wpIn_cond_split Z (λM=>C _ _ _ _ (H.1 M) B d a f) (λG=>u _ _ _ _ (H.2 G) B d a f);exact H.elim
 |block id x ih=>
  intro Q k e h H B d a f;refine wpIn_block (wpIn_mono (ih _ _ _ _ H B d a f) ?_);rintro ex a1 w1 ⟨p,A,r,h1,s,rfl,rfl,s1,l⟩;cases ex with
  |exit i=>simp only[Ff]at l;simp only[Exit.inBlock];by_cases D:Nat.beq i id=Ta;rw[zA (Ux D)];simp only[D,zG]at l;exact⟨p,A,r,h1,s,rfl,rfl,s1,l⟩;rw[za (λhe=>D (by rw[he];simp))];simp only[D,zH]at l;exact⟨p,A,r,h1,s,rfl,rfl,s1,l⟩
  |_=>exact⟨p,A,r,h1,s,rfl,rfl,s1,l⟩
 |rangeFunc g ps V bd Y aa=>
  intro Q k e h H B d a f;simp only[WD]at H;split at H;rename_i v w I S z;have o:ps=#[w,I]:=by rw[<-Array.toList_inj];exact z
  subst o;unfold Cy at H;cases hok:(xg n [] (Td w)&&xg n [] (Td I))with
  |false=>simp_all
  |true=>rw[hok]at H;rw[Ui]at hok;obtain⟨gf,lb,rfl,J,N⟩:=H;exact Eu E J (oR f n 0) (qt f (c:=[]) trivial S) (λfn rec q=>N rec (λ {L v2 h2 K} O t=>yQ F (ps:=[w,I]) (vs:=[L,v2]) (by simp_all) q rfl (oR f n 0) O t)) B d
  rename_i v w S z;have o:ps=#[w]:=by rw[<-Array.toList_inj];exact z
  subst o;unfold xE at H;cases hok:xg n [] (Td w)with
  |false=>simp_all
  |true=>rw[hok]at H;obtain⟨gf,lb,rfl,J,N⟩:=H;exact Eu E J (oR f n 0) (qt f (c:=[]) trivial S) (λfn rec q=>N rec (λ {L h2 K} O t=>yQ F (ps:=[w]) (vs:=[L]) (by simp_all) q rfl (oR f n 0) O t)) B d
  exact H.elim
 |loop x _=>intro Q k e h H B d a f;refine wpIn_mono (GZ F (.loop x) _ _ _ H B d a f) ?_;rintro ex a1 w1 ⟨A,r,h1,s,rfl,rfl,s1,_,l⟩;exact⟨k,A,r,h1,s,rfl,rfl,s1,l⟩
 |_=>exact λQ k e h H=>H.elim
def takeD:List Nat->(zb->Prop)->zb->Prop
 |[],K,h=>K h
 |b::ds,K,h=>h[b]?=Td (.deferred (Td []))/\takeD ds K (h.setIfInBounds b (.deferred Te))
def QM(P:Program)(rs:List ResultVar)(R:Value->zb->Prop):fR
 |.normal,ds,e,h=>takeD ds (λh'=>fK P h' e rs λvs=>R (fY vs) h') h
 |.ret,ds,e,h=>takeD ds (λh'=>fK P h' e rs λvs=>R (fY vs) h') h
 |_,_,_,_=>False
theorem rM{P:Program}{fn:Func}{n:Nat}{rs:List ResultVar}(i:fn.results.toList=rs){e:bK}{a:Act}(k:Sat n e a){B:World}{R:Value->zb->Prop}{D:Nat}:∀(c:List Nat) (d:Nat) (h:zb),takeD c (λh'=>fK P h' e rs λvs=>R (fY vs) h') h ->
  LeavesInM Fence.wide D P fn a.tmps (λe w'=>∃v l h',e=.returned v/\w'=mk B l h'/\R v h') (marks c) .returning (mk B d h)
 |[],d,h,H=>by obtain⟨v,o,m⟩:=Q6 k i H;exact⟨v,m B d,v,d,h,rfl,rfl,o⟩
 |b::c,d,h,⟨h1,H⟩=>by have f:(mk B d h).heap[b]?=Td (.deferred (Td [])):=h1;exact⟨by simp,.inl ⟨_,_,rfl,run_takeDeferred (P:=P) f,rM i k c d _ H⟩⟩
theorem zY(z:P.follows .mixedOrders=Ta)(vs:List Value){f:FuncId}{fn:Func}{rs:List ResultVar}(u:P.funcs[f]?=Td fn)(c:Q7 fn=Ta)(r:fn.results.toList=rs)(y:fn.ntmps=n)(t:Nat.ble vs.length n=Ta){R:Value->zb->Prop}{F:Prop}(H:F)(pl:List (Nat×dN):=[])(s:F=WD P n pl (codeOf fn) (QM P rs R) [] (fM 0 vs) h):XC P f vs.toArray h R:=by
 have l:fn.body=Td (codeOf fn):=by unfold Q7 at c;unfold codeOf;split at c;omega;cases c
 intro B d;refine callsIn_wide.1 (callsIn_of_wp_marks (F:=Fence.wide) (n:=1) u l trivial ?_ rfl);subst y;have C:vs.length<=fn.ntmps:=VE t;have x:Sat fn.ntmps (fM 0 vs) { tmps:=vs.toArray++VL (fn.ntmps-vs.toArray.size) undef,defers:=[] }:=by
  refine⟨rfl,by simp;omega,?_⟩;refine oQ vs.toArray _ vs 0 λj v A=>?_;have i:j<vs.length:=by rcases U1 j vs.length with h|h;exact h;simp_all
  simp only[UI,Vm];rw[V5 (by simpa using i)];simp[A]
 have:=Nc z (m:=1) (by omega) (codeOf fn) _ [] _ _ (s ▸ H) B d _ x;rw[show marks []=[]from rfl,zO]at this;refine wpIn_mono this ?_;rintro ex a w ⟨b,D,q,h1,k,rfl,rfl,s1,e⟩;have o:(Y0 (marks b) k).defers=marks b:=by unfold Y0;rw[s1.defers];rfl
 have p:(Y0 (marks b) k).tmps=k.tmps:=rfl;cases ex with
 |normal=>show LeavesInM _ _ _ _ _ _ _ _ _;rw[o,p];exact rM r s1 b q h1 e
 |ret=>show LeavesInM _ _ _ _ _ _ _ _ _;rw[o,p];exact rM r s1 b q h1 e
 |_=>exact e.elim
end
section
theorem Ly(c:Nat)(c1:Addr)(h:zb)(R:Value->zb->Prop) (H:∃x:Bt,zc h c1=Td (.string x)/\((decide ((((x).size:Int):Int)>65536))=Ta->YX Tp c #[.agg #[.int .i64 0,.int .i64 0,.int .i64 0],.int .i64 3] h (λG F=>∃z:Bool,G=.bool z/\R (.tuple #[]) F))/\((decide ((((x).size:Int):Int)>65536))=Tc->∃(A:Int->zb->Prop) (E:Int->zb->Nat),A 0 h/\∀e:Int,∀w:zb,A e w->(∃k:Bt,zc w c1=Td (.string k)/\((decide ((e:Int)<((k).size:Int)))=Ta->∃s:Bt,zc w c1=Td (.string s)/\XC Tp 375 #[.string s,.int .i64 e] w (λD l=>∃m:Int,∃t:Int,∃r:Int,∃b:Int,D=.tuple #[.agg #[.int .i64 m,.int .i64 t,.int .i64 r],.int .i64 b]/\let B:zb:=VJ l (.cells #[.int .i64 0,.int .i64 0,.int .i64 0] 236);XRunU Tp (Ub 236 (.pointer (Td ⟨UA l,0,Te⟩)) (.agg #[.int .i64 m,.int .i64 t,.int .i64 r])) B (λy=>∃p:Int,∃o:Int,∃u:Int,zd y ⟨UA l,0,Te⟩ 0 [.int .i64 p,.int .i64 o,.int .i64 u]/\YX Tp c #[.agg #[.int .i64 p,.int .i64 o,.int .i64 u],.int .i64 b] y (λC q=>∃f:Bool,C=.bool f/\((bif (!f)then Ta else((b:Int) != 0))=Ta->R (.tuple #[]) q)/\((bif (!f)then Ta else((b:Int) != 0))=Tc->∃i:Int,zc q (Ua (Ua ⟨UA l,0,Te⟩ 1) 1)=Td (.int .i64 i)/\(A i q/\E i q<E e w))))))/\((decide ((e:Int)<((k).size:Int)))=Tc->R (.tuple #[]) w)))):
  gE Tp 374 #[.func (.yield c) #[] #[],.pointer (Td c1)] h R:=
 Cd Tryz.mixed ⟨[],[(3,[(3,.one (.int .i64))])],[]⟩ [.func (.yield c) #[] #[],.pointer (Td c1)] (rs:=[]) (n:=34) Tryz.func374 (by kernel_rfl) (by kernel_rfl) (by kernel_rfl) (by kernel_rfl) (Eq.mp (by kernel_rfl) H)
theorem RN(C:Bt)(h:zb)(R:Value->zb->Prop) (H:let q:zb:=VJ h (.cells #[.slice Te 0 0] 227);let p:zb:=VJ q (.cells #[.int .i64 0] 3);let A:zb:=VJ p (.cells #[.int .i64 0] 32);let G:zb:=VJ A (.cells #[.slice Te 0 0] 227);XC Tp 334 #[.string C] G (λI c=>∃o:Value,I=o/\∃(r:FuncId) (m:Array Value),o=.func (.func r) #[] m/\zo Tp r=Ta/\∀k:dZ,(∀{x u:Value} {B:zb} {y:Value->zb->Prop},B[(UA c+1)]?=Td (.loop (k .ready Te))->fF Tp 25 (fU (codeOf Tryz.f280)) (fI (codeOf Tryz.f280)) k (UA c+1) y (putO (putO [(0,[],.string C),(2,[],.pointer (Td ⟨UA h,0,Te⟩)),(3,[],.pointer (Td ⟨UA q,0,Te⟩)),(4,[],.pointer (Td ⟨UA p,0,Te⟩)),(5,[],.pointer (Td ⟨UA A,0,Te⟩)),(8,[],.string C),(9,[],o)] (Td 10) [] x) (Td 11) [] u) B->YX Tp (UA c+1) #[x,u] B y)->gE Tp r (#[.func (.yield (UA c+1)) #[] #[]]++m) (VJ (VJ c (.deferred (Td []))) (.loop (k .ready Te))) λ_ F=>m7 k (UA c+1) (λe=>∃b:Sl,zc e ⟨UA A,0,Te⟩=Td (.slice b.a b.len b.cap)/\XRunU Tp (Ub 227 (.pointer (Td ⟨UA h,0,Te⟩)) (.slice b.a b.len b.cap)) e (λD=>XRunU Tp (Ub 3 (.pointer (Td ⟨UA q,0,Te⟩)) (.int .i64 ((C).size:Int))) D (λE=>XRunU Tp (Ub 32 (.pointer (Td ⟨UA p,0,Te⟩)) (.int .i64 0)) E (λl=>(l)[UA c]?=Td (.deferred (Td []))/\∃i:Sl,zc (Array.setIfInBounds l (UA c) (.deferred Te)) ⟨UA h,0,Te⟩=Td (.slice i.a i.len i.cap)/\∃z:Int,zc (Array.setIfInBounds l (UA c) (.deferred Te)) ⟨UA q,0,Te⟩=Td (.int .i64 z)/\∃s:Int,zc (Array.setIfInBounds l (UA c) (.deferred Te)) ⟨UA p,0,Te⟩=Td (.int .i64 s)/\R (.tuple #[.slice i.a i.len i.cap,.int .i64 z,.int .i64 s]) (Array.setIfInBounds l (UA c) (.deferred Te)))))) (λe=>(e)[UA c]?=Td (.deferred (Td []))/\∃f:Sl,zc (Array.setIfInBounds e (UA c) (.deferred Te)) ⟨UA h,0,Te⟩=Td (.slice f.a f.len f.cap)/\∃w:Int,zc (Array.setIfInBounds e (UA c) (.deferred Te)) ⟨UA q,0,Te⟩=Td (.int .i64 w)/\∃t:Int,zc (Array.setIfInBounds e (UA c) (.deferred Te)) ⟨UA p,0,Te⟩=Td (.int .i64 t)/\R (.tuple #[.slice f.a f.len f.cap,.int .i64 w,.int .i64 t]) (Array.setIfInBounds e (UA c) (.deferred Te))) F)):
  XC Tp 280 #[.string C] h R:=
 zY Tryz.mixed [.string C] (rs:=[.cell 2 227,.cell 3 3,.cell 4 32]) (n:=25) Tryz.func280 (by kernel_rfl) (by kernel_rfl) (by kernel_rfl) (by kernel_rfl) H (pl:=[]) (by kernel_rfl)
theorem yA(x0:Value)(E:Addr)(D:Addr)(C:Addr)(B:Addr)(x8:Value)(x9:Value)(n:Int)(o:Int)(p:Int)(q:Int)(rec:dZ)(l:Nat)(K:Value->zb->Prop)(h:zb) (H:let w:zb:=VJ h (.cells #[.int .i64 0,.int .i64 0,.int .i64 0] 236);XRunU Tp (Ub 236 (.pointer (Td ⟨UA h,0,Te⟩)) (.agg #[.int .i64 n,.int .i64 o,.int .i64 p])) w (λr=>(r)[l]?=Td (.loop (rec .ready Te))/\let e:zb:=Array.setIfInBounds r l (.loop (rec .busy Te));(((q:Int) != 0)=Ta->∃f:Int,zc e (Ua (Ua ⟨UA h,0,Te⟩ 1) 0)=Td (.int .i64 f)/\XRunU Tp (Ub 227 (.pointer (Td E)) (.slice Te 0 0)) e (λt=>g7 t e ((Ua (Ua ⟨UA h,0,Te⟩ 1) 0))/\XRunU Tp (Ub 3 (.pointer (Td D)) (.int .i64 f)) t (λA=>XRunU Tp (Ub 32 (.pointer (Td C)) (.int .i64 q)) A (λu=>(u)[l]?=Td (.loop (rec .busy Te))/\K (.bool Tc) (Array.setIfInBounds u l (.loop (rec .done (Td .ret))))))))/\(((q:Int) != 0)=Tc->∃c:Sl,zc e B=Td (.slice c.a c.len c.cap)/\∃m:Int,∃k:Int,∃i:Int,zd e ⟨UA h,0,Te⟩ 0 [.int .i64 m,.int .i64 k,.int .i64 i]/\let y:zb:=VJ e (.cells #[.int .i64 m,.int .i64 k,.int .i64 i] 236);XRun Tp (Ug #[227,227] 227 #[.slice c.a c.len c.cap,.slice (Td ⟨UA e,0,Te⟩) 1 1]) y (λx z=>∃b:Sl,x=.slice b.a b.len b.cap/\XRunU Tp (Ub 227 (.pointer (Td B)) (.slice b.a b.len b.cap)) z (λs=>(s)[l]?=Td (.loop (rec .busy Te))/\K (.bool Ta) (Array.setIfInBounds s l (.loop (rec .ready Te)))))))):
  fF Tp 25 (fU (codeOf Tryz.f280)) (fI (codeOf Tryz.f280)) rec l K [(11,[],.int .i64 q),(10,[],.agg #[.int .i64 n,.int .i64 o,.int .i64 p]),(0,[],x0),(2,[],.pointer (Td E)),(3,[],.pointer (Td D)),(4,[],.pointer (Td C)),(5,[],.pointer (Td B)),(8,[],x8),(9,[],x9)] h:=
 Eq.mp (by kernel_rfl) H
end
end
section
open Go.RowKit
section
variable {g:zb} {i:Nat} {k f t:Int} {x9 x8 x0:Value} {K:Value -> zb -> Prop}
abbrev gm:Ty:=.pair p3 (.pair p3 (.int .i64))
theorem Df:ElemT Tp 227 236 (.agg #[.int .i64 0,.int .i64 0,.int .i64 0]) (sz gm) 24:=⟨by kernel_rfl,⟨Tryz.t236,by kernel_rfl,by kernel_rfl,by kernel_rfl,by kernel_rfl⟩,rfl,by decide⟩
theorem u9:qj Tp 227=Ta:=by kernel_rfl
theorem te:jg Tp 227=1:=by kernel_rfl
theorem Eg:qj Tp 3=Ta:=by kernel_rfl
theorem Fe:jg Tp 3=1:=by kernel_rfl
theorem BW:qj Tp 32=Ta:=by kernel_rfl
theorem zJ:jg Tp 32=1:=by kernel_rfl
theorem wV{M:Fr}(k f t:Int):Rd M gm (k,(f,t)) (fZ k f t):=⟨[.int .i64 k],[.int .i64 f,.int .i64 t],rfl,rfl,[.int .i64 f],[.int .i64 t],rfl,rfl,rfl⟩
structure TkS (h:zb) (M:Fr) (b2 b3 b4 b5 bc D l:Nat) (rec:dZ) (s:Bs) (out:List Tk) (sl:Sl) (bs:List Nat) (g:zb):Prop where
 keep:Keep h.size h g
 c:Blk g bc #[.string (bl s)]
 d:g[D]?=Td (.deferred (Td []))
 rc:g[l]?=Td (.loop (rec .ready Te))
 r2:Blk g b2 #[.slice Te 0 0]
 r3:Blk g b3 #[.int .i64 0]
 r4:Blk g b4 #[.int .i64 0]
 r5:Blk g b5 #[aK sl]
 o:ORow (l+1) g M gm out sl bs
structure Apart (h:zb) (b2 b3 b4 b5 bc D l:Nat):Prop where
 lo:h.size<=b2
 a3:b2<b3
 a4:b3<b4
 a5:b4<b5
 ac:b5<bc
 aD:bc<D
 al:l=D+1
theorem qm{i j:Nat}{o:Obj}(h:j≠i):(g.setIfInBounds i o)[j]?=g[j]?:=Vy (Ne.symm h)
theorem set_self{o:Obj}(h:i<g.size):(g.setIfInBounds i o)[i]?=Td o:=Array.getElem?_setIfInBounds_self_of_lt h
theorem lt_of_some{o:Obj}(h:g[i]?=Td o):i<g.size:=(Ut.1 h).1
section
variable {h : zb} {M : Fr} {b2 b3 b4 b5 bc D l : Nat} {rec : dZ} {s : Bs} {out : List Tk} {sl : Sl} {bs : List Nat} {g : zb}
set_option maxRecDepth 100000 in
set_option maxHeartbeats 1000000 in
theorem TkS.round(A:Apart h b2 b3 b4 b5 bc D l)(ag:AgM M h)(S:TkS h M b2 b3 b4 b5 bc D l rec s out sl bs g)(hn:out.length<=100000) (hK:∀g' af bs',TkS h M b2 b3 b4 b5 bc D l rec s (out++[(k,(f,t))]) af bs' g'->g.size<=g'.size->(∀j,j<g.size->j≠b5->j≠l->j∉bs->g'[j]?=g[j]?)->K (.bool Ta) g'):
  fF Tp 25 (fU (codeOf Tryz.f280)) (fI (codeOf Tryz.f280)) rec l K [(11,[],.int .i64 0),(10,[],.agg #[.int .i64 k,.int .i64 f,.int .i64 t]),(0,[],x0),(2,[],.pointer (Td ⟨b2,0,Te⟩)),(3,[],.pointer (Td ⟨b3,0,Te⟩)),(4,[],.pointer (Td ⟨b4,0,Te⟩)),(5,[],.pointer (Td ⟨b5,0,Te⟩)),(8,[],x8),(9,[],x9)] g:=by
 apply yA;intro L;obtain⟨ab,ai,Y⟩:=jf (g:=L) rfl;clear_value L;have ll:=lt_of_some S.rc;have:=A.lo;have:=A.a3;have:=A.a4;have:=A.a5;have:=A.ac;have:=A.aD;have:=A.al;refine ig Y λx q1 q2 q3=>?_;have C:∀j,j<g.size->x[j]?=g[j]?:=λj n=>by rw[q1 j (by omega)];exact ab.get j n
 refine⟨by rw[C l ll];exact S.rc,?_⟩;intro i;have z:∀j,j≠l->i[j]?=x[j]?:=λj n=>qm n;have Z:i[l]?=Td (.loop (rec .busy Te)):=set_self (by omega);have aj:i.size=x.size:=U6;clear_value i;refine⟨λhx=>by simp at hx,λ_=>?_⟩;have B5:Blk i b5 #[aK sl]:=S.r5.keep (by rw[z b5 (by omega),C b5 (by omega)]);have Bt:Blk i g.size (fZ k f t).toArray:=q3.keep (z g.size (by omega));refine⟨sl,B5.cell rfl,k,f,t,Bt.ld,?_⟩;intro p;obtain⟨y,ak,aa⟩:=jf (g:=p) rfl;clear_value p;have F:∀j,j<g.size->j≠l->p[j]?=g[j]?:=λj n H=>by rw[y.get j (by omega),z j H,C j n]
 have J:AgM M p:=λb c e=>by obtain⟨T,m,e'⟩:=(ag.keep S.keep) b c e;have hb:=ag.lt e;exact⟨T,m,by rw[F b (by have:=S.keep.size;omega) (by omega)];exact e'⟩
 have ae:ORow (l+1) p M gm out sl bs:=S.o.frame (λc r=>by have:=S.o.own c r;exact F c this.2.1 (by omega)) (Fr.le.refl _) (λc r=>(S.o.own c r).2.2);refine ORow.app Df (by omega) J ae (by omega) aa (wV k f t) (by omega) λs' Q bs' w am ah u=>⟨s',rfl,?_⟩;have E:∀c∈bs,l+1<=c:=λc r=>(S.o.own c r).1;have V:Blk Q b5 #[aK sl]:=B5.keep (by rw[u b5 (by omega) (λq=>by have:=E _ q;omega)];exact y.get b5 (by omega));refine qo u9 te V (by show 0<1;omega) rfl λB u1 u3 U=>?_;have I:∀j,j<g.size->j≠l->j≠b5->j∉bs->B[j]?=g[j]?:=λj n H O q=>by rw[U j O,u j (by omega) q,F j n H]
 have P:B[l]?=Td (.loop (rec .busy Te)):=by rw[U l (by omega),u l (by omega) (λq=>by have:=E _ q;omega),y.get l (by omega)];exact Z
 refine⟨P,hK _ s' bs' ?_ ?_ ?_⟩;have N:=lt_of_some P;have G:∀j,j<l->j≠b5->(B.setIfInBounds l (.loop (rec .ready Te)))[j]?=g[j]?:=λj n O=>by rw[qm (by omega)];exact I j (by omega) (by omega) O (λq=>by have:=E _ q;omega)
 refine⟨S.keep.trans ⟨?_,λj n=>G j (by omega) (by omega)⟩ (Uc _),S.c.keep (G bc (by omega) (by omega)),(G D (by omega) (by omega)).trans S.d,set_self N,S.r2.keep (G b2 (by omega) (by omega)),S.r3.keep (G b3 (by omega) (by omega)),S.r4.keep (G b4 (by omega) (by omega)),?_,?_⟩;rw[U6];have:=S.keep.size;omega;exact Blk.keep u1 (qm (by omega));refine w.frame (λc r=>?_) (Fr.le.refl _) (λc r=>(w.own c r).2.2);have:=(w.own c r).1;rw[qm (by omega),U c (by omega)];rw[U6];omega;intro j n O H q;rw[qm H];exact I j n H O q
set_option maxRecDepth 100000 in
set_option maxHeartbeats 1000000 in
theorem TkS.err(A:Apart h b2 b3 b4 b5 bc D l)(S:TkS h M b2 b3 b4 b5 bc D l rec s out sl bs g){k f t e:Int}(Q:¬e=0) (H:∀g',Keep h.size h g'->g'[D]?=Td (.deferred (Td []))->g'[l]?=Td (.loop (rec .done (Td .ret)))->Blk g' b2 #[.slice Te 0 0]->Blk g' b3 #[.int .i64 f]->Blk g' b4 #[.int .i64 e]->K (.bool Tc) g'):
  fF Tp 25 (fU (codeOf Tryz.f280)) (fI (codeOf Tryz.f280)) rec l K [(11,[],.int .i64 e),(10,[],.agg #[.int .i64 k,.int .i64 f,.int .i64 t]),(0,[],x0),(2,[],.pointer (Td ⟨b2,0,Te⟩)),(3,[],.pointer (Td ⟨b3,0,Te⟩)),(4,[],.pointer (Td ⟨b4,0,Te⟩)),(5,[],.pointer (Td ⟨b5,0,Te⟩)),(8,[],x8),(9,[],x9)] g:=by
 apply yA;intro o;obtain⟨B,C,x⟩:=jf (g:=o) rfl;clear_value o;have U:=lt_of_some S.rc;have:=A.lo;have:=A.a3;have:=A.a4;have:=A.a5;have:=A.ac;have:=A.aD;have:=A.al;refine ig x λi F q2 J=>?_;have u:∀j,j<g.size->i[j]?=g[j]?:=λj n=>by rw[F j (by omega)];exact B.get j n
 refine⟨by rw[u l U];exact S.rc,?_⟩;intro c;have q:∀j,j≠l->c[j]?=i[j]?:=λj n=>qm n;have z:c[l]?=Td (.loop (rec .busy Te)):=set_self (by omega);have E:c.size=i.size:=U6;clear_value c;refine⟨λ_=>?_,λO=>by simp[Q]at O⟩;have Bt:Blk c g.size (fZ k f t).toArray:=J.keep (q g.size (by omega));have b:∀j,j<g.size->j≠l->c[j]?=g[j]?:=λj n N=>(q j N).trans (u j n);refine⟨f,?_,?_⟩;rw[qh,qh];exact Bt.cell rfl;refine qo u9 te (S.r2.keep (b b2 (by omega) (by omega))) (by show 0<1;omega) rfl λP L Z m=>⟨?_,?_⟩;rw[qh,qh];exact m g.size (by omega);refine qo Eg Fe (S.r3.keep ((m b3 (by omega)).trans (b b3 (by omega) (by omega)))) (by show 0<1;omega) rfl λI G V r=>?_;refine qo BW zJ (S.r4.keep ((r b4 (by omega)).trans ((m b4 (by omega)).trans (b b4 (by omega) (by omega))))) (by show 0<1;omega) rfl λy w1 Y w=>?_;have p:y[l]?=Td (.loop (rec .busy Te)):=by rw[w l (by omega),r l (by omega),m l (by omega)];exact z
 refine⟨p,H _ ?_ ?_ (set_self (lt_of_some p)) ?_ ?_ ?_⟩;refine S.keep.trans ⟨by rw[U6];have:=S.keep.size;omega,λj n=>?_⟩ (Uc _);rw[qm (by omega),w j (by omega),r j (by omega),m j (by omega)];exact b j (by have:=S.keep.size;omega) (by omega);rw[qm (by omega),w D (by omega),r D (by omega),m D (by omega),b D (by omega) (by omega)];exact S.d;exact Blk.keep L (by rw[qm (by omega),w b2 (by omega),r b2 (by omega)]);exact Blk.keep G (by rw[qm (by omega),w b3 (by omega)]);exact Blk.keep w1 (qm (by omega))
end
end
section
variable {M:Fr} {s:Bs} {g g':zb} {k a e lf:Int} {O:Nat -> Prop} {lo bp b c:Nat} {rs:Sl} {cs:Array Value}
theorem MU{t:Ty}{x:El t}{xs:List (El t)}{s:Sl}(h:Rd M (.row t) (x::xs) [aK s]):Rd M (.row t) xs [aK ⟨de s.a (sz t) 1 s.cap,s.len-1,s.cap-1⟩]:=by
 obtain⟨h1,h2,p⟩:=rowLen h;rw[Uk]at h1 h2 p;refine⟨_,rfl,de s.a (sz t) 1 s.cap,s.cap-1,?_,⟨by omega,by omega⟩,?_⟩;show aK _=_;unfold aK;rw[h1];rfl;by_cases n:xs=[];exact .inl n;have r:=U5.2 n;obtain⟨b,o,cs,k,m,l⟩:∃b o cs,s.a=Td ⟨b,o,Te⟩/\M b=Td cs/\∀i (hi:i<(x::xs).length),Rd M t (x::xs)[i] (cut cs (o+i*sz t) (sz t)):=by obtain⟨w,e,a,c,q,u,f⟩:=h;simp only[Vu,and_true]at e;subst e;simp only[aK,UW]at q;rcases f with f|⟨b,o,cs,k,m,l⟩;cases f;exact⟨b,o,cs,by rw[q.1,k],m,l⟩
 refine .inr ⟨b,o+sz t,cs,?_,m,λi hi=>?_⟩;unfold de;rw[za (by omega),k,XK,qh,YM];have:=l (i+1) (by simp;omega);rw[List.getElem_cons_succ]at this;rw[show o+sz t+i*sz t=o+(i+1)*sz t by rw[WO];omega];exact this
theorem jC(ag:AgM M g){xs:List Tk}{s:Sl}(H:Rd M (.row gm) xs [aK s]){k:Nat}(n:k<xs.length):∃b o,s.a=Td ⟨b,o,Te⟩/\zc g ⟨b,o+k*3,Te⟩=Td (.int .i64 xs[k].1)/\zc g ⟨b,o+k*3+1,Te⟩=Td (.int .i64 xs[k].2.1)/\zc g ⟨b,o+k*3+2,Te⟩=Td (.int .i64 xs[k].2.2):=by obtain⟨b,o,cs,p,t,q⟩:=Go.X.rowAt H n;refine⟨b,o,p,?_⟩;obtain⟨c1,c2,e,h1,c3,r,h2,c,f⟩:=q;have h1:c1=[.int .i64 xs[k].1]:=h1;have c:c3=[.int .i64 xs[k].2.1]:=c;have f:r=[.int .i64 xs[k].2.2]:=f;subst h1 c f h2;have e:cut cs (o+k*3) 3=fZ xs[k].1 xs[k].2.1 xs[k].2.2:=e;have L:=mn (vs:=fZ xs[k].1 xs[k].2.1 xs[k].2.2) (o:=o+k*3) (i:=0) ag t (by rw[WP];exact e);obtain⟨h,l,m,_⟩:=L;rw[qh]at h l m;exact⟨h,l,m⟩
def oB(s:Bs)(rs:Sl)(lf last:Int)(sl:Sl)(a e:Int):List Value:=[.string (bl s),aK rs,.int .i64 lf,.int .i64 last,aK sl,.int .i64 a,.int .i64 e]
def fp(bp:Nat)(na:NA)(sl:Sl)(b c:Nat):Prop:=c=bp\/ez na sl b c
structure PW (lo:Nat) (g:zb) (M:Fr) (bp:Nat) (s:Bs) (rest:List Tk) (last a e:Int) (rs:Sl) (lf:Int) (na:NA) (sl:Sl) (b:Nat) (cs:Array Value):Prop where
 blk:Blk g bp (oB s rs lf last sl a e).toArray
 rd:Rd M (.row gm) rest [aK rs]
 ns:NS lo g M na sl b cs
 ag:AgM M g
 bl:lo<=bp/\M bp=Te
 nb:¬ez na sl b bp
def PaS(lo:Nat)(g:zb)(M:Fr)(bp:Nat)(s:Bs)(st:PSt)(a e:Int)(O:Nat->Prop):Prop:=
 ∃(rs:Sl) (lf:Int) (na:NA) (sl:Sl) (b:Nat) (cs:Array Value),PW lo g M bp s st.rest st.last a e rs lf na sl b cs/\na.map (·.1)=st.nodes/\O=fp bp na sl b
structure Stp (g:zb) (O:Nat->Prop) (g':zb) (O':Nat->Prop):Prop where
 le:g.size<=g'.size
 sub:∀c,O' c->O c\/g.size<=c
 fr:∀j,j<g.size->¬O j->g'[j]?=g[j]?
theorem Stp.refl(g:zb)(O:Nat->Prop):Stp g O g O:=⟨Uc _,λc h=>.inl h,λj _ _=>rfl⟩
theorem Stp.trans{g g' f:zb}{O O' e:Nat->Prop}(a:Stp g O g' O')(b:Stp g' O' f e):Stp g O f e:=by have:=a.le;have:=b.le;refine⟨by omega,λc h=>?_,λj k i=>?_⟩;rcases b.sub c h with h|h;exact a.sub c h;exact .inr (by omega);rw[b.fr j (by omega) (λh=>?_)];exact a.fr j k i;rcases a.sub j h with h|h;exact i h;omega
theorem Stp.keep(k:Keep g.size g g'):Stp g O g' O:=⟨k.size,λc h=>.inl h,λj b _=>k.get j b⟩
theorem PW.own{rest:List Tk}{last a e:Int}{na:NA}{sl:Sl}(H:PW lo g M bp s rest last a e rs lf na sl b cs)(h:fp bp na sl b c):lo<=c/\c<g.size/\M c=Te:=by rcases h with rfl|h;exact⟨H.bl.1,H.blk.lt,H.bl.2⟩;exact H.ns.own h
theorem PaS.own{st:PSt}(H:PaS lo g M bp s st a e O)(h:O c):lo<=c/\c<g.size/\M c=Te:=by obtain⟨rs,lf,na,sl,b,cs,W,_,rfl⟩:=H;exact W.own h
theorem mh(ag:AgM M g)(f:∀j,j<g.size->M j≠Te->g'[j]?=g[j]?):AgM M g':=λb c e=>by obtain⟨T,m,e'⟩:=ag b c e;exact⟨T,m,by rw[f b (ag.lt e) (by rw[e];simp)];exact e'⟩
theorem PaS.frame{st:PSt}(H:PaS lo g M bp s st a e O)(l:g.size<=g'.size)(f:∀c,c<g.size->(O c\/M c≠Te)->g'[c]?=g[c]?):PaS lo g' M bp s st a e O:=by obtain⟨rs,lf,na,sl,b,cs,W,h1,rfl⟩:=H;refine⟨rs,lf,na,sl,b,cs,⟨W.blk.keep (f bp W.blk.lt (.inl (.inl rfl))),W.rd,W.ns.frame l λc h=>f c (W.ns.own h).2.1 (.inl (.inr h)),mh W.ag λj k i=>f j k (.inr i),W.bl,W.nb⟩,h1,rfl⟩
theorem PaS.keep{st:PSt}(H:PaS lo g M bp s st a e O)(k:Keep g.size g g'):PaS lo g' M bp s st a e O:=H.frame k.size λc b _=>k.get c b
theorem PaS.ag{st:PSt}(H:PaS lo g M bp s st a e O):AgM M g:=by obtain⟨rs,lf,na,sl,b,cs,W,_,_⟩:=H;exact W.ag
theorem PW.put{rest rest':List Tk}{last last' a a' e e':Int}{rs rs':Sl}{lf lf':Int}{na:NA}{sl:Sl}(H:PW lo g M bp s rest last a e rs lf na sl b cs)(B:Blk g' bp (oB s rs' lf' last' sl a' e').toArray)(r:Rd M (.row gm) rest' [aK rs'])(l:g'.size=g.size)(f:∀j,j≠bp->g'[j]?=g[j]?):PW lo g' M bp s rest' last' a' e' rs' lf' na sl b cs:= ⟨B,r,H.ns.frame (by omega) λc k=>f c λh=>H.nb (h ▸ k),mh H.ag λj _ i=>f j λh=>i (h ▸ H.bl.2),H.bl,H.nb⟩
section
variable {lo : Nat} {g : zb} {M : Fr} {bp : Nat} {s : Bs} {st : PSt} {a e : Int} {O : Nat -> Prop} {K : Value -> zb -> Prop}
theorem pK(H:PaS lo g M bp s st a e O)(f:K (.int .i64 st.kind) g):XC Tp 336 #[.pointer (Td ⟨bp,0,Te⟩)] g K:=by
 obtain⟨rs,lf,na,sl,b,cs,W,h1,rfl⟩:=H;apply Ob;have h:=(rowLen W.rd).1;refine⟨_,rfl,rs,by rw[qh];exact W.blk.cell rfl,λc=>?_,λc=>⟨_,rfl,rs,by rw[qh];exact W.blk.cell rfl,?_⟩⟩;have c:rs.len=0:=by simpa using c
 have:st.rest=[]:=Vk.1 (by omega);unfold PSt.kind at f;rw[this]at f;exact f;have c:rs.len≠0:=by simpa using c
 cases hr:st.rest with
 |nil=>rw[hr]at h;exact absurd h c
 |cons t r=>have rd:=W.rd;rw[hr]at rd;obtain⟨m,o,i,l,n,p⟩:=jC W.ag rd (k:=0) (by simp);refine⟨_,⟨i,by omega,by omega⟩,t.1,?_,?_⟩;rw[qh,qh];exact l;unfold PSt.kind at f;rw[hr]at f;exact f
theorem Dn(H:PaS lo g M bp s st a e O)(f:K (.int .i64 (st.here s.length)) g):XC Tp 342 #[.pointer (Td ⟨bp,0,Te⟩)] g K:=by
 obtain⟨rs,lf,na,sl,b,cs,W,h1,rfl⟩:=H;apply JL;have h:=(rowLen W.rd).1;refine⟨_,rfl,rs,by rw[qh];exact W.blk.cell rfl,λc=>?_,λc=>⟨_,rfl,rs,by rw[qh];exact W.blk.cell rfl,?_⟩⟩;have c:rs.len=0:=by simpa using c
 have:st.rest=[]:=Vk.1 (by omega);unfold PSt.here at f;rw[this]at f;refine⟨_,rfl,bl s,by rw[qh];exact W.blk.cell rfl,?_⟩;rw[zh];exact f;have c:rs.len≠0:=by simpa using c
 cases hr:st.rest with
 |nil=>rw[hr]at h;exact absurd h c
 |cons t r=>have rd:=W.rd;rw[hr]at rd;obtain⟨m,o,i,p,l,n⟩:=jC W.ag rd (k:=0) (by simp);refine⟨_,⟨i,by omega,by omega⟩,t.2.1,?_,?_⟩;rw[qh,qh,qh];exact l;unfold PSt.here at f;rw[hr]at f;exact f
theorem lQ:qj Tp 3=Ta:=by kernel_rfl
theorem EZ:jg Tp 3=1:=by kernel_rfl
theorem JI:qj Tp 32=Ta:=by kernel_rfl
theorem Iz:jg Tp 32=1:=by kernel_rfl
theorem yU:qj Tp 234=Ta:=by kernel_rfl
theorem Co:jg Tp 234=2:=by kernel_rfl
theorem BL:qj Tp 227=Ta:=by kernel_rfl
theorem BE:jg Tp 227=1:=by kernel_rfl
theorem Stp.same(l:g'.size=g.size)(b:O bp)(f:∀j,j≠bp->g'[j]?=g[j]?):Stp g O g' O:=⟨by omega,λc h=>.inl h,λj k i=>f j λe=>i (e ▸ b)⟩
theorem Xf(H:PaS lo g M bp s st a e O){x:Int}(l:∀g',PaS lo g' M bp s st (st.here s.length) x O->Stp g O g' O->K (.bool Tc) g'):XC Tp 282 #[.pointer (Td ⟨bp,0,Te⟩),.int .i64 x] g K:=by apply Rb;refine Dn H ⟨_,rfl,_,rfl,?_⟩;obtain⟨rs,lf,na,sl,b,cs,W,h1,rfl⟩:=H;rw[qh];refine qo lQ EZ W.blk (by show 5<7;omega) rfl λo n q k=>⟨_,rfl,?_⟩;rw[qh];refine qo JI Iz n (by show 6<7;omega) rfl λc m p i=>?_;have f:∀j,j≠bp->c[j]?=g[j]?:=λj h=>(i j h).trans (k j h);exact l c ⟨rs,lf,na,sl,b,cs,W.put (rest':=st.rest) (last':=st.last) (a':=st.here s.length) (e':=x) (rs':=rs) (lf':=lf) m W.rd (by omega) f,h1,rfl⟩ (Stp.same (by omega) (.inl rfl) f)
theorem vN(H:PaS lo g M bp s st a e O)(C:st.rest≠[])(w:∀g',PaS lo g' M bp s st.skip a e O->Stp g O g' O->K (.tuple #[]) g'):XC Tp 337 #[.pointer (Td ⟨bp,0,Te⟩)] g K:=by
 apply MK;obtain⟨rs,lf,na,sl,b,cs,W,h1,rfl⟩:=H;obtain⟨m,_,q⟩:=rowLen W.rd;obtain⟨t,r,l⟩:=U9 C;have rd:=W.rd;rw[l]at rd m q;rw[Uk]at m q;obtain⟨J,o,z,F,E,A⟩:=jC W.ag rd (k:=0) (by simp);refine⟨_,rfl,rs,by rw[qh];exact W.blk.cell rfl,_,⟨z,by omega,by omega⟩,t.2.1,t.2.2,?_,_,rfl,rs,by rw[qh];exact W.blk.cell rfl,.inl rfl,⟨by omega,by omega,by omega,by omega⟩,_,rfl,?_⟩;rw[qh,qh];exact⟨by rw[qh];exact E,by rw[qh];exact A,trivial⟩;rw[qh];refine fT (vs:=[.int .i64 t.2.1,.int .i64 t.2.2]) yU W.blk rfl Co (by show 2+2<=7;omega) (λu n=>?_) λL x I y=>⟨_,rfl,?_⟩;simp at n;rcases n with rfl|rfl <;> rfl;rw[qh];refine qo BL BE x (by rw[y7 (by show 2+2<=7;omega)];show 1<7;omega) rfl λi c G B=>?_
 have f:∀j,j≠bp->i[j]?=g[j]?:=λj p=>(B j p).trans (y j p);have h:=MU rd;rw[Ue,Ue]at c;have c:Blk i bp (oB s ⟨de rs.a (sz gm) 1 rs.cap,rs.len-1,rs.cap-1⟩ t.2.1 t.2.2 sl a e).toArray:=c;have D:st.skip=⟨r,t.2.2,st.nodes⟩:=by unfold PSt.skip;rw[l]
 rw[D]at w;exact w i ⟨_,t.2.1,na,sl,b,cs,W.put c h (by omega) f,h1,rfl⟩ (Stp.same (by omega) (.inl rfl) f)
theorem PSt.ne_of_kind{st:PSt}(h:st.kind=k)(b:k≠0):st.rest≠[]:=λe=>by unfold PSt.kind at h;rw[e]at h;exact b h.symm
theorem oE(H:PaS lo g M bp s st a e O)(f:k≠0)(h:st.kind=k->∀g',PaS lo g' M bp s st.skip a e O->Stp g O g' O->K (.bool Ta) g')(c:st.kind≠k->K (.bool Tc) g):XC Tp 376 #[.pointer (Td ⟨bp,0,Te⟩),.int .i64 k] g K:=by
 apply Mk;refine pK H ⟨_,rfl,λb=>c (by simpa using b),λb=>?_⟩;have b:st.kind=k:=by simpa using b
 exact vN H (PSt.ne_of_kind b f) λg' p q=>⟨rfl,h b g' p q⟩
end
end
section
variable {n bv cv:Nat} {t el ty:TypeId} {zv:Value} {ks:Sl} {K:Value -> zb -> Prop}
theorem NS.cell{lo:Nat}{g:zb}{M:Fr}{na:NA}{sl:Sl}{b:Nat}{cs:Array Value}(H:NS lo g M na sl b cs)(e:n<na.length):sl.a=Td ⟨b,0,Te⟩/\Blk g b cs/\sl.cap≠0/\n*7+7<=cs.size/\∀(q:Nat) (v:Value),q<7->(fh na[n])[q]?=Td v->zc g ⟨b,n*7+q,Te⟩=Td v:=by
 have c:na.map fh≠[]:=λh=>by rw[List.map_eq_nil_iff]at h;rw[h]at e;simp at e
 obtain⟨h1,h2⟩:=H.cr.blk c;obtain⟨l,k⟩:=H.cr.el n (fh na[n]) (by rw[U2,Ul e];rfl);refine⟨h1,h2,by have:=H.len;have:=H.cr.ro.le;omega,by omega,λq v f i=>h2.cell ?_⟩;have:=m5 k f;rw[i]at this;rw[<-this,VF]
def gI(k:Int)(c:Sl)(b:List Nat)(p:Nd×Ax):Nd×Ax:=((p.1.1,p.1.2.1,p.1.2.2.1,p.1.2.2.2.1++[k],p.1.2.2.2.2),⟨c,b,p.2.ps,p.2.pb⟩)
def mA(k:Sp)(c:Sl)(b:List Nat)(p:Nd×Ax):Nd×Ax:=((p.1.1,p.1.2.1,p.1.2.2.1,p.1.2.2.2.1,p.1.2.2.2.2++[k]),⟨p.2.ks,p.2.kb,c,b⟩)
def tR(t:Int)(p:Nd×Ax):Nd×Ax:=(iS t p.1,p.2)
theorem vE{f:Nd×Ax->Nd×Ax}{f':Nd->Nd}(h:∀p,(f p).1=f' p.1)(na:NA)(n:Nat):(na.modify n f).map (·.1)=(na.map (·.1)).modify n f':=by
 apply Vd;intro i;rw[U2,Vj,Vj,U2];cases na[i]? with
 |none=>rfl
 |some p=>by_cases e:n=i <;> simp[e,h]
structure NSt (lo:Nat) (g:zb) (M:Fr) (na:NA) (sl:Sl) (b:Nat) (g':zb) (na':NA) (cs':Array Value):Prop where
 ns:NS lo g' M na' sl b cs'
 le:g.size<=g'.size
 sub:∀c,ez na' sl b c->ez na sl b c\/g.size<=c
 fr:∀j,j<g.size->¬ez na sl b j->g'[j]?=g[j]?
section
variable {lo : Nat} {g : zb} {M : Fr} {na : NA} {sl : Sl} {b : Nat} {cs : Array Value}
theorem NS.addK{bytes:Nat}(E:ElemT Tp t el zv (sz (.int .i64)) bytes)(C:bytes<=1000)(ag:AgM M g)(G:lo<=g.size)(H:NS lo g M na sl b cs)(D:n<na.length){k:Int}(Y:Blk g bv #[.int .i64 k])(P:na[n].1.2.2.2.1.length<=1000000)(B:na[n].2.ks=ks) (U:∀(m:Sl) (p:zb) (l:List Nat),Blk p b cs->g.size<=p.size->(∀j,j<g.size->¬ez na sl b j->p[j]?=g[j]?)->(∀r:zb,Blk r b (cs.setIfInBounds (n*7+5) (aK m))->r.size=p.size->(∀j,j≠b->r[j]?=p[j]?)->NSt lo g M na sl b r (na.modify n (gI k m l)) (cs.setIfInBounds (n*7+5) (aK m)))->K (.slice m.a m.len m.cap) p):
  XRun Tp (Ug #[t,t] ty #[.slice ks.a ks.len ks.cap,.slice (Td ⟨bv,0,Te⟩) 1 cv]) g K:=by
 subst B;obtain⟨h1,h2,O,h4,h5⟩:=H.cell D;have x:=Up D;have I:=H.nd _ x;have A:=(H.lb O).2.1;refine ORow.app E C ag I.kk G Y rfl P λm p l J Q c1 z=>?_;have w:b∉na[n].2.kb:=λh=>H.nb _ x (.inl h);have u:b∉l:=λh=>by rcases c1 b h with h|h;exact w h;omega
 refine U m p l (h2.keep (z b A w)) Q (λj y o=>z j y λh=>o (.inr ⟨_,x,.inl h⟩)) λr Z z2 F=>?_;have s:∀j,j<g.size->j≠b->¬dQ na[n] j->r[j]?=g[j]?:=λj y h1 h2=>by rw[F j h1,z j y λh=>h2 (.inl h)]
 have S:NdI lo r M (gI k m l na[n]):=by refine⟨?_,?_,?_⟩;exact J.frame (λc i=>F c λe=>u (e ▸ i)) (Fr.le.refl _) λc i=>(J.own c i).2.2;exact I.pp.frame (λc i=>by have:=(I.pp.own c i).2.1;rw[F c λe=>H.nb _ x (.inr (e ▸ i))];exact z c this λh=>I.dd c h i) (Fr.le.refl _) λc i=>(I.pp.own c i).2.2;intro c i L;rcases c1 c i with h|h;exact I.dd c h L;have:=(I.pp.own c L).2.1;omega
 have q2:∀c,dQ (gI k m l na[n]) c->dQ na[n] c\/g.size<=c:=by intro c i;rcases i with i|i;rcases c1 c i with h|h;exact .inl (.inl h);exact .inr h;exact .inl (.inr i)
 obtain⟨N,V⟩:=H.upd D (f:=gI k m l) (q:=5) (v:=aK m) (by omega) Z (by omega) rfl S q2 s;exact⟨N,by omega,V,λj y o=>s j y (λe=>o (.inl ⟨O,e⟩)) λh=>o (.inr ⟨_,x,h⟩)⟩
theorem NS.addP{bytes:Nat}(E:ElemT Tp t el zv (sz gh) bytes)(C:bytes<=1000)(ag:AgM M g)(G:lo<=g.size)(H:NS lo g M na sl b cs)(D:n<na.length){k:Sp}(Y:Blk g bv #[.int .i64 k.1,.int .i64 k.2])(P:na[n].1.2.2.2.2.length<=1000000)(B:na[n].2.ps=ks) (U:∀(m:Sl) (p:zb) (l:List Nat),Blk p b cs->g.size<=p.size->(∀j,j<g.size->¬ez na sl b j->p[j]?=g[j]?)->(∀r:zb,Blk r b (cs.setIfInBounds (n*7+6) (aK m))->r.size=p.size->(∀j,j≠b->r[j]?=p[j]?)->NSt lo g M na sl b r (na.modify n (mA k m l)) (cs.setIfInBounds (n*7+6) (aK m)))->K (.slice m.a m.len m.cap) p):
  XRun Tp (Ug #[t,t] ty #[.slice ks.a ks.len ks.cap,.slice (Td ⟨bv,0,Te⟩) 1 cv]) g K:=by
 subst B;obtain⟨h1,h2,O,h4,h5⟩:=H.cell D;have x:=Up D;have I:=H.nd _ x;have A:=(H.lb O).2.1;refine ORow.app E C ag I.pp G Y ⟨_,_,rfl,rfl,rfl⟩ P λm p l J Q c1 z=>?_;have w:b∉na[n].2.pb:=λh=>H.nb _ x (.inr h);have u:b∉l:=λh=>by rcases c1 b h with h|h;exact w h;omega
 refine U m p l (h2.keep (z b A w)) Q (λj y o=>z j y λh=>o (.inr ⟨_,x,.inr h⟩)) λr Z z2 F=>?_;have s:∀j,j<g.size->j≠b->¬dQ na[n] j->r[j]?=g[j]?:=λj y h1 h2=>by rw[F j h1,z j y λh=>h2 (.inr h)]
 have S:NdI lo r M (mA k m l na[n]):=by refine⟨?_,?_,?_⟩;exact I.kk.frame (λc i=>by have:=(I.kk.own c i).2.1;rw[F c λe=>H.nb _ x (.inl (e ▸ i))];exact z c this λh=>I.dd c i h) (Fr.le.refl _) λc i=>(I.kk.own c i).2.2;exact J.frame (λc i=>F c λe=>u (e ▸ i)) (Fr.le.refl _) λc i=>(J.own c i).2.2;intro c L i;rcases c1 c i with h|h;exact I.dd c L h;have:=(I.kk.own c L).2.1;omega
 have q2:∀c,dQ (mA k m l na[n]) c->dQ na[n] c\/g.size<=c:=by intro c i;rcases i with i|i;exact .inl (.inl i);rcases c1 c i with h|h;exact .inl (.inr h);exact .inr h
 obtain⟨N,V⟩:=H.upd D (f:=mA k m l) (q:=6) (v:=aK m) (by omega) Z (by omega) rfl S q2 s;exact⟨N,by omega,V,λj y o=>s j y (λe=>o (.inl ⟨O,e⟩)) λh=>o (.inr ⟨_,x,h⟩)⟩
theorem NS.toB(H:NS lo g M na sl b cs)(l:n<na.length){x:Int}{i:zb}(u:Blk i b (cs.setIfInBounds (n*7+2) (.int .i64 x)))(z2:i.size=g.size)(k:∀j,j≠b->i[j]?=g[j]?):NSt lo g M na sl b i (na.modify n (tR x)) (cs.setIfInBounds (n*7+2) (.int .i64 x)):=by
 obtain⟨h1,h2,p,w,y⟩:=H.cell l;have m:=Up l;have I:=H.nd _ m;have t:NdI lo i M (tR x na[n]):=by refine⟨?_,?_,I.dd⟩;exact I.kk.frame (λc h=>k c λe=>H.nb _ m (.inl (e ▸ h))) (Fr.le.refl _) λc h=>(I.kk.own c h).2.2;exact I.pp.frame (λc h=>k c λe=>H.nb _ m (.inr (e ▸ h))) (Fr.le.refl _) λc h=>(I.pp.own c h).2.2
 obtain⟨N,r⟩:=H.upd l (f:=tR x) (q:=2) (v:=.int .i64 x) (by omega) u (by omega) rfl t (λc h=>.inl h) λj s h1 h2=>k j h1;exact⟨N,by omega,r,λj s o=>k j λe=>o (.inl ⟨p,e⟩)⟩
end
end
section
variable {J O O':Nat -> Prop} {g g':zb} {lo bp:Nat} {M:Fr} {s:Bs} {a e:Int}
structure StJ (J:Nat->Prop) (g:zb) (O:Nat->Prop) (g':zb) (O':Nat->Prop):Prop where
 le:g.size<=g'.size
 sub:∀c,O' c->O c\/g.size<=c
 fr:∀j,j<g.size->¬O j->¬J j->g'[j]?=g[j]?
theorem Stp.j{J:Nat->Prop}{g g':zb}{O O':Nat->Prop}(S:Stp g O g' O'):StJ J g O g' O':=⟨S.le,S.sub,λj h1 h2 _=>S.fr j h1 h2⟩
theorem StJ.trans{g g' f:zb}{O O' e:Nat->Prop}(a:StJ J g O g' O')(b:StJ J g' O' f e):StJ J g O f e:=by have:=a.le;have:=b.le;refine⟨by omega,λc h=>?_,λj l k i=>?_⟩;rcases b.sub c h with h|h;exact a.sub c h;exact .inr (by omega);rw[b.fr j (by omega) (λh=>?_) i];exact a.fr j l k i;rcases a.sub j h with h|h;exact k h;omega
def Apt(J:Nat->Prop)(g:zb)(O:Nat->Prop):Prop:=∀j,J j->j<g.size/\¬O j
theorem Apt.step{J D:Nat->Prop}(h:Apt D g O)(S:StJ J g O g' O'):Apt D g' O':=λj c=>by obtain⟨h1,h2⟩:=h j c;have:=S.le;refine⟨by omega,λb=>?_⟩;rcases S.sub j b with h|h;exact h2 h;omega
def vw(r:PR PSt)(b:Bool)(st':PSt)(a e:Int):Prop:=match r with
 |.inl t=>b=Ta/\st'=t
 |.inr x=>b=Tc/\x=(a,e)
def wO(r:PR (List Bs×PSt))(b:Bool)(σ:List Bs)(st':PSt)(a e:Int):Prop:=match r with
 |.inl t=>b=Ta/\t=(σ,st')
 |.inr x=>b=Tc/\x=(a,e)
def nf(g:zb)(bp:Nat):Nat:=match zc g ⟨bp,1,Te⟩with
 |some (.slice _ n _)=>n
 |_=>0
theorem PaS.restLen{st:PSt}(H:PaS lo g M bp s st a e O):nf g bp=st.rest.length:=by obtain⟨rs,lf,na,sl,b,cs,W,h1,rfl⟩:=H;unfold nf;rw[W.blk.cell (o:=1) (v:=aK rs) rfl];exact(rowLen W.rd).1
theorem PW.nst{rest:List Tk}{last a e:Int}{rs:Sl}{lf:Int}{na na':NA}{sl:Sl}{b:Nat}{cs cs':Array Value}(W:PW lo g M bp s rest last a e rs lf na sl b cs)(N:NSt lo g M na sl b g' na' cs'):PW lo g' M bp s rest last a e rs lf na' sl b cs'/\Stp g (fp bp na sl b) g' (fp bp na' sl b):=by refine⟨⟨W.blk.keep (N.fr bp W.blk.lt W.nb),W.rd,N.ns,mh W.ag λj f k=>N.fr j f λh=>k (W.ns.own h).2.2,W.bl,λh=>?_⟩,N.le,λc h=>?_,λj f i=>N.fr j f λh=>i (.inr h)⟩;rcases N.sub bp h with h|h;exact W.nb h;have:=W.blk.lt;omega;rcases h with h|h;exact .inl (.inl h);rcases N.sub c h with h|h;exact .inl (.inr h);exact .inr h
theorem kz:ElemT Tp 29 3 (.int .i64 0) (sz (.int .i64)) 8:=⟨by kernel_rfl,⟨Tryz.t3,by kernel_rfl,by kernel_rfl,by kernel_rfl,by kernel_rfl⟩,rfl,by decide⟩
theorem IC:ElemT Tp 239 234 (.agg #[.int .i64 0,.int .i64 0]) (sz gh) 16:=⟨by kernel_rfl,⟨Tryz.t234,by kernel_rfl,by kernel_rfl,by kernel_rfl,by kernel_rfl⟩,rfl,by decide⟩
theorem RA:qj Tp 29=Ta:=by kernel_rfl
theorem KZ:jg Tp 29=1:=by kernel_rfl
theorem Oo:qj Tp 239=Ta:=by kernel_rfl
theorem HN:jg Tp 239=1:=by kernel_rfl
def AN(lo:Nat)(M:Fr)(bp:Nat)(s:Bs)(F:FuncId)(A C:Array Value)(lv:Int)(kid:dP)(HI:List Bs->zb->Prop)(J D:Nat->Prop):Prop:=
 ∀(σ:List Bs) (g:zb) (st:PSt) (a e:Int) (O:Nat->Prop),PaS lo g M bp s st a e O->HI σ g->Apt D g O->st.nodes.length<=4096->st.T<=200000->(∀t∈st.rest,gC s t) ->
  ∀K:Value->zb->Prop,(∀b g' st' a' e' O' c,PaS lo g' M bp s st' a' e' O'->StJ J g O g' O'->st.nodes.length<=st'.nodes.length->(b=Ta->HI c g')->wO (kid σ st) b c st' a' e'->K (.bool b) g')->XC Tp F (A++#[.int .i64 lv]++C) g K
section
variable {lo : Nat} {g : zb} {M : Fr} {bp : Nat} {s : Bs} {st : PSt} {a e : Int} {O J D : Nat -> Prop} {K : Value -> zb -> Prop} {HI : List Bs -> zb -> Prop} {kid : dP} {F : FuncId} {A C : Array Value}
set_option maxRecDepth 100000 in
set_option maxHeartbeats 4000000 in
theorem Cf(ar:∀σ g g',HI σ g->(∀j,D j->g'[j]?=g[j]?)->HI σ g'){B lv:Int}(bg:hZ (B+1)=lv)(hk:AN lo M bp s F A C lv kid HI J D)(az:jS kid)(hF:zo Tp F=Ta) {closing:Int} (hc:closing≠0) (H:PaS lo g M bp s st a e O) (h0:HI [] g) (hJ:Apt D g O) (h4:st.nodes.length<=4096) (hT:st.T<=200000) (hw:∀t∈st.rest,gC s t) {n:Nat} (hn:n<st.nodes.length) (hK:∀b g' st' a' e' O',PaS lo g' M bp s st' a' e' O'->StJ J g O g' O'->st.nodes.length<=st'.nodes.length->vw (Xy s n closing kid st) b st' a' e'->K (.bool b) g'):
  XC Tp 338 #[.pointer (Td ⟨bp,0,Te⟩),.int .i64 (n:Int),.int .i64 B,.int .i64 closing,.func (.func F) A C] g K:=by
 apply MF;refine oE H hc (λhy g1 P1 S1=>⟨Ta,rfl,λ_=>?_,λh=>(by cases h)⟩) (λaH=>⟨Tc,rfl,λh=>(by cases h),λ_=>?_⟩);refine hK Ta g1 st.skip a e O P1 S1.j (by rw[yv];exact Uc _) ?_;unfold Xy;rw[zA hy];exact⟨rfl,rfl⟩;refine⟨λg'=>∃(f:Nat) (σ:List Bs) (st':PSt) (a' e':Int) (O':Nat->Prop),PaS lo g' M bp s st' a' e' O'/\HI σ g'/\Apt D g' O'/\StJ J g O g' O'/\Okk st st' 0/\st'.rest.length<f/\Xy s n closing kid st=J0 s n closing kid f σ st',λg'=>nf g' bp,⟨st.rest.length+1,[],st,a,e,O,H,h0,hJ,(Stp.refl g O).j,Okk.refl st,by omega,by unfold Xy;rw[za aH]⟩,?_⟩;rintro h6 ⟨f,σ,st1,a1,e1,O1,P1,I1,J1,S1,l,hf,N⟩;obtain⟨f,rfl⟩:∃f',f=f'+1:=⟨f-1,by omega⟩;have bm:n<st1.nodes.length:=by have:=l.n;omega
 have be:st1.nodes.length<=4096:=l.m h4;have a6:st1.T<=200000:=by have:=l.t;omega
 have aF:=P1.restLen;have aB:=P1;obtain⟨bA,bB,bz,ap,b1,bu,W1,a7,_⟩:=aB;have l1:ap.len=st1.nodes.length:=by rw[W1.ns.len,<-a7,Um]
 refine⟨_,rfl,st1.last,by rw[qh,qh];exact W1.blk.cell rfl,_,rfl,ap,by rw[qh];exact W1.blk.cell rfl,hF,?_⟩;rw[bg,l1];refine hk σ h6 st1 a1 e1 O1 P1 I1 J1 be a6 (λt ht=>hw t (l.w t ht)) _ λb g2 st2 a2 e2 O2 σ2 P2 S2 n2 I2 A2=>⟨b,rfl,λhb=>?_,λhb=>?_⟩;have hb:b=Tc:=by simpa using hb
 subst hb;refine hK Tc g2 st2 a2 e2 O2 P2 (S1.trans S2) (by have:=l.n;omega) ?_;rw[N,J0];cases Y:kid σ st1 with
 |inl t=>rw[Y]at A2;exact absurd A2.1 (by simp)
 |inr x=>rw[Y]at A2;exact⟨rfl,A2.2⟩
 have hb:b=Ta:=by simpa using hb
 subst hb;have Y:kid σ st1=.inl (σ2,st2):=by
  cases Y:kid σ st1 with
  |inl t=>rw[Y]at A2;rw[A2.2]
  |inr x=>rw[Y]at A2;exact absurd A2.1 (by simp)
 have ax:=az _ _ _ _ Y;have I2:=I2 rfl;have J2:=J1.step S2;rw[J0,Y]at N;dsimp only at N;have aT:=P2;obtain⟨rs,lf,na,sl,b,cs,W,h1,rfl⟩:=aT;have bq:na.length=st2.nodes.length:=by rw[<-h1,Um]
 have Z:n<na.length:=by omega
 obtain⟨q1,q2,q3,q4,q5⟩:=W.ns.cell Z;have aZ:d5 na[n].1<=200000:=by
  have h:na[n].1∈st2.nodes:=by rw[<-h1];exact List.mem_map_of_mem (Up Z)
  have:=sT h;have:=ax.t;omega
 unfold d5 at aZ;refine⟨_,rfl,sl,by rw[qh];exact W.blk.cell rfl,⟨b,0,Te⟩,⟨q1,by omega,by have:=W.ns.len;omega⟩,⟨b,n*7,Te⟩,by rw[qh,Ue,UI],na[n].2.ks,?_,?_⟩;rw[qh];exact q5 5 _ (by omega) rfl;intro I;obtain⟨V,bn,aY⟩:=jf (g:=I) rfl;clear_value I;have aQ:NSt lo g2 M na sl b I na cs:=⟨W.ns.frame V.size λc hc=>V.get c (W.ns.own hc).2.1,V.size,λc h=>.inl h,λj G _=>V.get j G⟩;obtain⟨S,aV⟩:=W.nst aQ;have au:lo<=I.size:=by have:=(S.own (.inl rfl));omega
 refine NS.addK kz (by omega) S.ag au S.ns Z aY (by omega) rfl λs' bE q aN br bj aJ=>⟨s',rfl,⟨b,n*7,Te⟩,by rw[qh,Ue,UI],?_⟩;rw[qh];refine qo RA KZ aN (by omega) rfl λaj u1 u2 u3=>?_;obtain⟨o,aP⟩:=S.nst (aJ aj u1 u2 u3);have aa:n<(na.modify n (gI (st1.nodes.length:Int) s' q)).length:=by rw[List.length_modify];exact Z
 have am:(na.modify n (gI (st1.nodes.length:Int) s' q))[n]=gI (st1.nodes.length:Int) s' q na[n]:=by rw[List.getElem_modify,zA rfl]
 obtain⟨r1,r2,r3,r4,r5⟩:=o.ns.cell aa;rw[am]at r5;refine⟨⟨b,n*7,Te⟩,by rw[qh,Ue,UI],na[n].2.ps,?_,?_⟩;rw[qh];exact r5 6 _ (by omega) rfl;have a8:PaS lo aj M bp s ⟨st2.rest,st2.last,(na.modify n (gI (st1.nodes.length:Int) s' q)).map (·.1)⟩ a2 e2 _:=⟨_,_,_,_,_,_,o,rfl,rfl⟩;refine Dn a8 ⟨_,rfl,rfl,rfl,?_⟩;intro U;obtain⟨z,bC,aC⟩:=jf (g:=U) rfl;clear_value U;have aI:=(o.ns.own (.inl ⟨r3,rfl⟩)).2.1;refine⟨by rw[qh];exact z.get b aI,?_⟩;have aM:NSt lo aj M _ sl b U _ _:=⟨o.ns.frame z.size λc hc=>z.get c (o.ns.own hc).2.1,z.size,λc h=>.inl h,λj G _=>z.get j G⟩;obtain⟨Q,aG⟩:=o.nst aM;have an:lo<=U.size:=by have:=(Q.own (.inl rfl));omega
 refine NS.addP IC (by omega) Q.ag an Q.ns aa (k:=(st1.last,st2.here s.length)) aC (by rw[am];show na[n].1.2.2.2.2.length<=_;omega) (by rw[am];rfl) λs2 bD aL aU bF bG ay=>⟨s2,rfl,⟨b,n*7,Te⟩,by rw[qh,Ue,UI],?_⟩;rw[qh];refine qo Oo HN aU (by omega) rfl λy v1 v2 v3=>?_;obtain⟨aE,aO⟩:=Q.nst (ay y v1 v2 v3);have P:((na.modify n (gI (st1.nodes.length:Int) s' q)).modify n (mA (st1.last,st2.here s.length) s2 aL)).map (·.1)=(st2.addKid n (st1.nodes.length:Int) (st1.last,st2.here s.length)).nodes:=by
  rw[vE (f':=λx=>(x.1,x.2.1,x.2.2.1,x.2.2.2.1,x.2.2.2.2++[(st1.last,st2.here s.length)])) (λp=>rfl),vE (f':=λx=>(x.1,x.2.1,x.2.2.1,x.2.2.2.1++[(st1.nodes.length:Int)],x.2.2.2.2)) (λp=>rfl),h1];unfold PSt.addKid;apply Vd;intro i;rw[Vj,Vj,Vj];cases st2.nodes[i]? with
  |none=>rfl
  |some x=>by_cases e:n=i <;> simp[e,mw]
 have ai:PaS lo y M bp s (st2.addKid n (st1.nodes.length:Int) (st1.last,st2.here s.length)) a2 e2 _:=⟨_,_,_,_,_,_,aE,P,rfl⟩;have E:=((aV.trans aP).trans aG).trans aO;have aS:HI σ2 y:=ar σ2 g2 y I2 λj G=>E.fr j (J2 j G).1 (J2 j G).2;have ah:=J2.step (E.j (J:=J));have aA:=J3 st2 n (st1.nodes.length:Int) (st1.last,st2.here s.length);have L:(st2.addKid n (st1.nodes.length:Int) (st1.last,st2.here s.length)).kind=st2.kind:=rfl;have ba:(st2.addKid n (st1.nodes.length:Int) (st1.last,st2.here s.length)).here s.length=st2.here s.length:=rfl;have u:=(S1.trans S2).trans E.j;have ae:st.nodes.length<=(st2.addKid n (st1.nodes.length:Int) (st1.last,st2.here s.length)).nodes.length:=by have:=l.n;have:=ax.n;omega
 refine oE ai hc (λhy g' P' S'=>⟨Ta,rfl,λ_=>?_,λh=>(by cases h)⟩) (λab=>⟨Tc,rfl,λh=>(by cases h),λ_=>?_⟩);refine hK Ta g' _ _ _ _ P' (u.trans S'.j) (by rw[yv];exact ae) ?_;rw[L]at hy;rw[N,zA hy];exact⟨rfl,rfl⟩;rw[L]at ab;rw[za ab]at N;refine oE ai (by omega) (λhy g' P' S'=>⟨Ta,rfl,λh=>(by simp at h),λ_=>?_⟩) (λaf=>⟨Tc,rfl,λ_=>?_,λh=>(by simp at h)⟩);rw[L]at hy;rw[zA hy]at N;have ak:=sF az Y (n:=n) (k:=(st1.nodes.length:Int)) (p:=(st1.last,st2.here s.length)) (PSt.ne_kind hy (by omega));refine⟨⟨f,σ2,_,_,_,_,P',ar σ2 y g' aS (λj G=>S'.fr j (ah j G).1 (ah j G).2),ah.step (S'.j (J:=J)),u.trans S'.j,(l.trans ak).le (by omega),?_,N⟩,?_⟩;have:=ak.r;omega;have e1:=P'.restLen;have:=ak.r;show nf g' bp<nf h6 bp;rw[e1,aF];omega;rw[L]at af;rw[za af]at N;refine Xf ai λg' P' S'=>⟨Tc,rfl,hK Tc g' _ _ _ _ P' (u.trans S'.j) ae ?_⟩;rw[N];exact⟨rfl,by rw[ba]⟩
end
end
section
variable {gl:Fr}
theorem DR{k:Int}{R:Int->Prop}(h:R (zx k)):PC Tp gl 335 [Arg.mk p3 k] [.int .i64] R:=by
 apply Oz;unfold zx at h;refine⟨λe=>?_,λe K m=>?_⟩;rw[zA (by simpa using e)]at h;exact h;have e:¬k=12:=by simpa using e
 rw[za e]at h;have key:∀b:Bool,b=decide (k=10\/k=11)->K b:=λb i=>m b ⟨λh1=>by
   rw[h1]at i;rw[zA (zC i.symm)]at h;exact h,λh1=>by
   rw[h1]at i;rw[za (zD i.symm)]at h;refine⟨λh2=>?_,λh2=>⟨λc=>?_,λc=>⟨λf=>?_,λf=>⟨λl=>?_,λl=>?_⟩⟩⟩⟩;rw[zA (by simpa using h2)]at h;exact h;rw[za (by simpa using h2),zA (by simpa using c)]at h;exact h;rw[za (by simpa using h2),za (by simpa using c),zA (by simpa using f)]at h;exact h;rw[za (by simpa using h2),za (by simpa using c),za (by simpa using f),zA (by simpa using l)]at h;exact h;rw[za (by simpa using h2),za (by simpa using c),za (by simpa using f),za (by simpa using l)]at h;exact h⟩
 refine⟨λh1=>key _ ?_,λh1=>key _ ?_⟩;have:k=10:=by simpa using h1
 rw[h1,this];rfl;have:¬k=10:=by simpa using h1
 rw[Uy,beq_iff_eq,zB];omega
def rF(lo:Nat)(M:Fr)(bp:Nat)(s:Bs)(lv:Int)(val:ef):Prop:=
 ∀(key:Sp) (g:zb) (st:PSt) (a e:Int) (O:Nat->Prop),PaS lo g M bp s st a e O->st.nodes.length<=4096->st.T<=200000->(∀t∈st.rest,gC s t) ->
  ∀K:Value->zb->Prop,(∀b g' st' a' e' O',PaS lo g' M bp s st' a' e' O'->Stp g O g' O'->st.nodes.length<=st'.nodes.length->vw (val key st) b st' a' e'->K (.bool b) g')->XC Tp 281 #[.pointer (Td ⟨bp,0,Te⟩),.int .i64 lv,.agg #[.int .i64 key.1,.int .i64 key.2]] g K
section
variable {lo : Nat} {g : zb} {M : Fr} {bp : Nat} {s : Bs} {lv : Int} {val : ef}
theorem Hk(k:rF lo M bp s lv val):AN lo M bp s 339 #[.pointer (Td ⟨bp,0,Te⟩)] #[] lv (eU val) (λ_ _=>True) (λ_=>False) (λ_=>False):=by
 intro σ g st a e O P I J l m f K n;show XC Tp _ #[.pointer (Td ⟨bp,0,Te⟩),.int .i64 lv] g K;apply Rp;refine k (0,0) g st a e O P l m f _ λb g' st' a' e' O' o i h c=>⟨b,rfl,n b g' st' a' e' O' σ o i.j h (λ_=>trivial) ?_⟩;unfold eU;cases hr:val (0,0) st with
 |inl t=>rw[hr]at c;exact⟨c.1,by rw[c.2]⟩
 |inr x=>rw[hr]at c;exact c
theorem Ba:MapT Tp 213 9 4 (.bool Tc):=⟨by kernel_rfl,by kernel_rfl,⟨Tryz.t4,by kernel_rfl,by kernel_rfl⟩⟩
def nV(m:Nat)(σ:List Bs)(g:zb):Prop:=∃l,MapAt g m l/\∀k:Bs,dx l (bl k)=if k∈σ then Td (.bool Ta)else Te
theorem Dh{M:Fr}{r:Bt×Int×Int}{v:Value}(h:Zp M [.str,.int .i64,.int .i64] r v):v=.tuple #[.string r.1,.int .i64 r.2.1,.int .i64 r.2.2]:=by obtain⟨vs,⟨l,rest,rfl,f,k,b,rfl,c,i,rfl,e⟩,rfl⟩:=h;rw[ju f,qz c,qz e];rfl
set_option maxRecDepth 100000 in
set_option maxHeartbeats 2000000 in
theorem H7(hg:GL gl)(hM:Fr.le gl M)(hs:s.length<=65536)(hv:rF lo M bp s lv val){m:Nat}{J:Nat->Prop}(hm:J m){σ:List Bs}{st:PSt}{a e:Int}{O:Nat->Prop}(P:PaS lo g M bp s st a e O)(I:nV m σ g)(hJ:Apt J g O)(h4:st.nodes.length<=4096)(hT:st.T<=200000)(hw:∀t∈st.rest,gC s t)(ai:∀j,J j->M j=Te){K:Value->zb->Prop} (hK:∀b g' st' a' e' O' σ',PaS lo g' M bp s st' a' e' O'->StJ (λj=>j=m) g O g' O'->st.nodes.length<=st'.nodes.length->(b=Ta->nV m σ' g')->wO (d7 s val σ st) b σ' st' a' e'->K (.bool b) g'):
  XC Tp 341 #[.pointer (Td ⟨bp,0,Te⟩),.int .i64 lv,.map (Td m)] g K:=by
 have A:=hJ m hm;apply OY;refine pK P ⟨_,rfl,λq=>?_,λq=>?_⟩;have q:¬st.kind=8:=by simpa using q
 refine Xf P λg' Q G=>⟨Tc,rfl,hK Tc g' st _ _ O σ Q G.j (Uc _) (λh=>(by cases h)) ?_⟩;unfold d7;cases U:st.rest with
 |nil=>exact⟨rfl,rfl⟩
 |cons t r=>
  have:¬t.1=8:=by unfold PSt.kind at q;rw[U]at q;exact q
  dsimp only;rw[za this];exact⟨rfl,rfl⟩
 have q:st.kind=8:=by simpa using q
 have E:=PSt.ne_kind q (by omega);obtain⟨t,r,er⟩:=U9 E;have am:t.1=8:=by unfold PSt.kind at q;rw[er]at q;exact q
 obtain⟨w1,w2,w3,_⟩:=hw t (by rw[er];simp);have an:=gY E;have P0:=P;obtain⟨rs,lf,na,sl,b,cs,W,h1,eO⟩:=P0;have rd:=W.rd;have hl:=(rowLen W.rd).1;rw[er]at rd hl;rw[Uk]at hl;obtain⟨tb,o,e1,e2,e3,e4⟩:=jC W.ag rd (k:=0) (by simp);refine⟨_,rfl,rs,by rw[qh];exact W.blk.cell rfl,_,⟨e1,by omega,by omega⟩,t.2.1,t.2.2,?_,?_⟩;rw[qh,qh];exact⟨by rw[qh];exact e3,by rw[qh];exact e4,trivial⟩;intro aa;obtain⟨aB,aH,aC⟩:=jf (g:=aa) rfl;clear_value aa;refine fT (vs:=[.int .i64 t.2.1,.int .i64 t.2.2]) yU aC rfl Co (Uc _) (λu hu=>?_) λV y aF aE=>⟨_,rfl,?_⟩;simp at hu;rcases hu with rfl|rfl <;> rfl;have y:Blk V g.size #[.int .i64 t.2.1,.int .i64 t.2.2]:=y;have z:Keep g.size g V:=⟨by omega,λj hj=>(aE j (by omega)).trans (aB.get j hj)⟩;have ax:=P.keep z;have ay:=W.blk.keep (z.get bp W.blk.lt);refine⟨bl s,by rw[qh];exact ay.cell rfl,t.2.1,by rw[qh];exact y.cell rfl,t.2.2,by rw[qh];exact y.cell rfl,⟨w1,by omega,by rw[zh];exact w3⟩,?_⟩;have ex:(bl s).extract t.2.1.toNat t.2.2.toNat=bl (Wc s t.2):=by rw[qe];rfl
 rw[ex];have aJ:(Wc s t.2).length<=65536:=by unfold Wc;rw[UQ,UD];omega
 refine(vL hg (t:=Wc s t.2) (by omega) (R:=λr=>r=(bl (Xp (Wc s t.2)).1,((Xp (Wc s t.2)).2.1:Int),(Xp (Wc s t.2)).2.2)) rfl).go hM ax.ag (zq (a:=Arg.mk .str _) (rdStr _) zy) λv Y M' rr L au U=>?_;subst U;rw[Dh au];refine⟨_,_,_,rfl,?_⟩;have f:Keep g.size g Y:=z.trans L.keep z.size;have af:=P.keep f;obtain⟨l,ml,mk⟩:=I;have D:MapAt Y m l:=ml.keep (f.get m A.1);have i:=Wp Ba D (bl (Xp (Wc s t.2)).1) Tc;rw[za (by simp)]at i;have az:eX l (bl (Xp (Wc s t.2)).1) (.bool Tc)=.bool (decide ((Xp (Wc s t.2)).1∈σ)):=by unfold eX;rw[mk];by_cases C:(Xp (Wc s t.2)).1∈σ;rw[zA C];simp[C];rw[za C];simp[C]
 rw[az]at i;have S:d7 s val σ st=if(Xp (Wc s t.2)).1∈σ then st.err s 7
   else if st.skip.kind=7 then match val t.2 st.skip.skip with
    |.inl st'=>.inl (σ++[(Xp (Wc s t.2)).1],st')
    |.inr e=>.inr e
   else st.skip.err s 2:=by
  unfold d7;rw[er];dsimp only;exact(zA am).trans rfl
 refine⟨_,i,λN=>?_,λN=>?_⟩;have N:=zC N;refine Xf af λg' Q G=>⟨Tc,rfl,hK Tc g' st _ _ O σ Q ((Stp.keep (O:=O) f).trans G).j (Uc _) (λh=>(by cases h)) ?_⟩;rw[S,zA N];exact⟨rfl,rfl⟩;have N:=zD N;rw[za N]at S;refine yZ Ba D (bl (Xp (Wc s t.2)).1) (.bool Ta) λB aA aG F=>?_;have aj:PaS lo B M bp s st a e O:=af.frame (by omega) λc hc ho=>F c λh=>by subst h;rcases ho with ho|ho;exact A.2 ho;exact ho (ai _ hm)
 have Z:StJ (λj=>j=m) g O B O:=⟨by have:=f.size;omega,λc h=>.inl h,λj hj hn hJ=>(F j hJ).trans (f.get j hj)⟩;have H:∀g',g'[m]?=B[m]?->nV m (σ++[(Xp (Wc s t.2)).1]) g':=λg' ap=>by
  refine⟨_,aA.keep ap,λk=>?_⟩;rw[Dz,mk];by_cases hk:(Xp (Wc s t.2)).1=k;subst hk;simp;have ak:¬bl (Xp (Wc s t.2)).1=bl k:=λh=>hk (tH.1 h);rw[za ak];have:(k∈σ++[(Xp (Wc s t.2)).1])↔k∈σ:=by simp;intro h;exact absurd h.symm hk
  simp only[this]
 have ae:m<B.size:=by have:=A.1;have:=f.size;omega
 refine vN aj E λg3 P3 S3=>⟨rfl,?_⟩;refine oE P3 (by omega) (λh7 g4 P4 S4=>⟨Ta,rfl,λh=>(by simp at h),λ_=>?_⟩) (λh7=>⟨Tc,rfl,λ_=>?_,λh=>(by simp at h)⟩);rw[zA h7]at S;have ar:=gY (PSt.ne_kind h7 (by omega));have p:=an.trans ar;have ah:¬O g.size:=λh=>by have:=(P.own h).2.1;omega
 have B4:Blk g4 g.size #[.int .i64 t.2.1,.int .i64 t.2.2]:=by refine y.keep ?_;have aI:=z.size;rw[S4.fr _ (by have:=S3.le;have:=f.size;have:=L.keep.size;omega) ah,S3.fr _ (by have:=f.size;have:=L.keep.size;omega) ah,F _ (by have:=A.1;omega)];exact L.keep.get _ (by omega)
 refine⟨t.2.1,t.2.2,B4.ld (cs:=[.int .i64 t.2.1,.int .i64 t.2.2]),?_⟩;refine hv t.2 g4 st.skip.skip a e O P4 (by have:=p.m h4;exact this) (by have:=p.t;omega) (λx q=>hw x (p.w x q)) _ λb g' st' a' e' O' Q G n' A'=>⟨b,rfl,?_⟩;have ab:=(S3.trans S4).trans G;refine hK b g' st' a' e' O' _ Q (Z.trans ab.j) (by have:=p.n;omega) (λ_=>H g' (ab.fr m ae λh=>A.2 h)) ?_;rw[S];cases U:val t.2 st.skip.skip with
 |inl x=>rw[U]at A';exact⟨A'.1,by rw[A'.2]⟩
 |inr x=>rw[U]at A';exact A'
 rw[za h7]at S;refine Xf P3 λg' Q G=>⟨Tc,rfl,hK Tc g' _ _ _ O σ Q (Z.trans (S3.trans G).j) (by rw[yv];exact Uc _) (λh=>(by cases h)) ?_⟩;rw[S];exact⟨rfl,rfl⟩
end
end
end
section
variable {h:zb} {sk si:Sl} {bk bb:List Nat} {b bv cv:Nat} {cs:Array Value} {K:Value -> zb -> Prop}
theorem OTp.row{v:Tr}{bf:Nat->List Nat}(H:OTp h v sk si bk bb b cs bf){h':zb}(k:∀c∈bb,h'[c]?=h[c]?):RowO h' si b cs 4:=by refine⟨by have:=H.hn;omega,?_⟩;rcases H.hz with⟨h0,_,h2⟩|⟨e,f,i,l⟩;exact .inl ⟨by rw[H.hn.1,h0];rfl,h2⟩;exact .inr ⟨f,i.keep (k b (by rw[e];simp)),l⟩
theorem IU(x:Tr)(sk si:Sl):∀u∈Qm x sk si,u.oneCell'=Ta:=by intro u b;simp[Qm]at b;rcases b with rfl|rfl|rfl|rfl <;> simp[Value.oneCell',aK]
theorem Is{ks:List Bt}(H:OKeys h ks bk sk){s:Bt}(B:Blk h bv #[.string s])(x:ks.length<=1048576) (D:∀(f:Sl) (h':zb) (kb:Nat),OKeys h' (ks++[s]) [kb] f->(kb∈bk\/h.size<=kb)->h.size<=h'.size->(∀c,c<h.size->c∉bk->h'[c]?=h[c]?)->K (.slice f.a f.len f.cap) h'):
  XRun Tp (Ug #[22,22] 22 #[.slice sk.a sk.len sk.cap,.slice (Td ⟨bv,0,Te⟩) 1 cv]) h K:=by
 obtain⟨n,E,F,q⟩:=H;obtain⟨b,cs,o,w,k⟩:∃b cs,RowO h sk b cs 1/\(b∈bk\/h.size<=b)/\cut cs 0 (sk.len*1)=ks.map UJ:=by rcases q with⟨rfl,rfl,h0⟩|⟨b,cs,rfl,A,i,p,C⟩;refine⟨h.size,#[],⟨by omega,.inl ⟨n,h0⟩⟩,.inr (Uc _),?_⟩;rw[n];rfl;exact⟨b,cs,⟨by omega,.inr ⟨A,i,by omega⟩⟩,.inl (by simp),by rw[n,Vz];exact C⟩
 have z:∀c∈bk,c<h.size:=by intro c l;rcases q with⟨_,rfl,_⟩|⟨b,cs,rfl,_,i,_⟩;cases l;simp at l;subst l;exact i.lt
 refine oz (vs:=[.string s]) Eo o B rfl (λu r=>by simp at r;subst r;simp[Value.oneCell']) (by omega) (by omega) λy h' t cs' N=>?_;rw[k]at N;have m:(ks++[s]).length=sk.len+1:=by simp[n]
 refine D y h' t ⟨by rw[m];exact N.len,by rw[m];omega,by rw[m];exact N.cap,.inr ⟨t,cs',rfl,N.a,N.blk,by have:=N.size;omega,?_⟩⟩ ?_ N.grow λc l x=>N.old c l λe=>?_;rw[m];have:=N.cut;rw[Vz]at this;rw[this];simp;rcases N.new with e|e;rw[e];exact w;exact .inr e;rcases N.new with i|i;rcases w with p|p;exact x (by rw[e,i];exact p);omega;omega
theorem RR{g h:zb}{x:Tr}{bf:Nat->List Nat}(H:OTp g x sk si bk bb b cs bf)(kb:∀c∈bb,h[c]?=g[c]?){w:Tr}{q p:Sl}(z:Blk h bv (Qm w q p).toArray)(u:x.items.length<=1000000000) (A:∀(f:Sl) (h':zb) (i:Nat) (cs':Array Value),f.a=Td ⟨i,0,Te⟩->f.len=x.items.length+1->x.items.length+1<=f.cap->Blk h' i cs'->f.cap*4<=cs'.size->cut cs' 0 ((x.items.length+1)*4)=cut cs 0 (x.items.length*4)++Qm w q p -> ((i=b/\b∈bb)\/h.size<=i)->h.size<=h'.size->(∀c,c<h.size->c∉bb->h'[c]?=h[c]?)->K (.slice f.a f.len f.cap) h'):
  XRun Tp (Ug #[23,23] 23 #[.slice si.a si.len si.cap,.slice (Td ⟨bv,0,Te⟩) 1 cv]) h K:=by
 have k:=H.hn.1;obtain⟨b0,n,r⟩:∃b0,RowO h si b0 cs 4/\((b0=b/\b∈bb)\/b0=h.size):=by have l:=OTp.row H (h':=h) kb;rcases H.hz with⟨h0,_,h2⟩|⟨s,_⟩;exact⟨h.size,⟨l.le,.inl ⟨by rw[k,h0];rfl,h2⟩⟩,.inr rfl⟩;exact⟨b,l,.inl ⟨rfl,by rw[s];simp⟩⟩
 refine oz (vs:=Qm w q p) nl n z rfl (IU w q p) (by omega) (by omega) λy h' i cs' N=>?_;rw[k]at N;have m:(i=b/\b∈bb)\/h.size<=i:=by rcases N.new with e|e;rcases r with⟨o,t⟩|o;exact .inl ⟨by rw[e,o],t⟩;exact .inr (by omega);exact .inr e
 refine A y h' i cs' N.a N.len N.cap N.blk N.size N.cut m N.grow λc B u=>N.old c B λe=>?_;rcases m with⟨o,t⟩|o;exact u (by rw[e,o];exact t);omega
end
end Go.X
