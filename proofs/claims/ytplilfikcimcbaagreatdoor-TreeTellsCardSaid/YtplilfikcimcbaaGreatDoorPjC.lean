/- A part of the proof: nothing is stated here for its own sake. -/
import Derived.Test.YtplilfikcimcbaaGreatDoorPjB
open _root_.Go.Addr renaming add->YH
open _root_.Array renaming getElem?_eq_some_iff->YZ,getElem?_setIfInBounds_ne->zbr,replicate->zbu,size_push->YW
open _root_.BitVec renaming ofInt->za9
open _root_.Bool renaming and_eq_false_iff->zas,and_eq_true->YR,and_true->zb9,cond_false_right->zbo,eq_iff_iff->ZI,false_eq_true->zaq,false_or->zdu,or_eq_false_iff->zbs,or_eq_true->za1,true_and->zbb
open _root_.Go.Builtin renaming append_->YN
open _root_.Classical renaming byContradiction->zce
open _root_.Go.Extern.AbiNoEscape renaming same->zd0
open _root_.Go.Instr renaming lookup->zc0,mapUpdate->zbk,next->zcm,storeAt->YI
open _root_.Int renaming toNat_natCast->YL
open _root_.Go.IntKind renaming bits->zan,signed->zdd,wrap->YG
open _root_.List renaming all_append->zcr,all_cons->zcu,all_eq_true->ZB,append_assoc->ZL,append_nil->ZY,cons_append->ZT,drop_drop->zap,drop_eq_getElem_cons->ZG,drop_zero->zbi,exists_cons_of_ne_nil->zag,getElem?_append_right->zcb,getElem?_eq_getElem->YS,getElem?_eq_some_iff->ZN,getElem_mem->YY,length->za6,length_append->YM,length_cons->YU,length_drop->ZE,length_eq_zero_iff->za2,length_map->YO,length_nil->ZW,length_pos_iff->zaj,length_replicate->zb3,length_take->ZV,map_append->zaa,map_cons->ZC,map_nil->zbg,mem_append->ZF,mem_append_left->YV,mem_append_right->ZH,mem_cons->YT,mem_cons_of_mem->ZA,mem_cons_self->ZD,mem_filter->zdl,mem_map->zab,mem_of_getElem?->zbj,mem_range->zaz,mem_singleton->za8,nil_append->zal,range->zac,replicate->zay,take_append_drop->zba,take_length->ZX,take_succ_eq_append_getElem->YP
open _root_.List.cons renaming injEq->za7
open _root_.Nat renaming add_zero->zc3,le_of_lt->zdg,le_refl->YJ,lt_or_ge->zam,mul_one->zbf,zero_add->ZO
open _root_.Option renaming map_eq_some_iff->zbx
open _root_.Option.some renaming inj->ZZ,injEq->YK
open _root_.Prod.mk renaming injEq->za5
open _root_.Go.Proofs.Tryz renaming prog->ZM
open _root_.UInt8 renaming ofNat->ZR
open _root_.Go.Utf8 renaming decode->zdy,encode->zcy
open _root_.Go.Value renaming slice->zb2
open _root_.Go renaming World->MN,FuncId->n5,Addr->n8
open _root_.Decidable renaming decide->hV
open _root_.Go.Value renaming oneCell'->i2
open _root_.Bool renaming cond_eq_ite->ph
open _root_.Go.X.Arg renaming mk->qr
open _root_.Go.X.wr renaming same->up
open _root_.List renaming length->DB
set_option linter.all false
set_option maxRecDepth 1000000
set_option maxHeartbeats 20000000
open Go.Proofs.Tryz
namespace Go.X
end Go.X
namespace Go.Proofs
end Go.Proofs
open Go Go.X Go.Proofs
open _root_.Bool renaming true->Ta,false->Tc
open _root_.Option renaming some->Td,none->Te
namespace Go.X
section
section
def Pq(s0:Bt)(h:zb)(R:vvv) (H:let b:=h.push (.cells #[aa6 (⟨#[]⟩:Bt),.slice Te 0 0] 162);aa4 280 #[aa6 s0] b (λc d=>∃e f g,c=.tuple #[aK e,iV f,iV g]/\((g != 0)=Ta->wf Tp (YI 162 (aa7 (aa8 h)) (.agg #[aa6 (⟨#[]⟩:Bt),.slice Te 0 0])) d (λi=>∃j k,zc i (aa8 h) 0 [aa6 j,aK k]/\R (.tuple #[.agg #[aa6 j,aK k],iV f,iV g]) i))/\((g != 0)=Tc->let l:=d.push (.cells #[aa6 s0,.slice Te 0 0,iV 0,iV 0,.slice Te 0 0,iV 0,iV 0] 289);∃(m:ab7) (n:ab9),m 0 l/\∀o:Int,∀p:zb,m o p->((hV (o<e.len)=Ta->∃q,(e.a=Td q/\0<=o/\o<e.len)/\∃r s t,zc p (q.add (o.toNat*3)) 0 [iV r,iV s,iV t]/\let u:=p.push (.cells #[iV 0,iV 0,iV 0] 236);wf Tp (YI 236 (aa7 (aa8 p)) (.agg #[iV r,iV s,iV t])) u (λv=>∃w,zd v (YH (aa8 p) 0)=Td (iV w)/\((w != 1)=Ta->∃x:n8,Td (aa8 d)=Td x/\∃y,zd v (YH x 1)=Td (aK y)/\∃z A B,zc v (aa8 p) 0 [iV z,iV A,iV B]/\let C:=v.push (.cells #[iV z,iV A,iV B] 236);g6 C v (YH x 1)/\CA Tp (YN #[227,227] 227 #[aK y,.slice (Td (aa8 v)) 1 1]) C (λD E=>∃F,D=aK F/\∃G:n8,Td (aa8 d)=Td G/\wf Tp (YI 227 (.pointer (Td (YH G 1))) (aK F)) E (λI=>(m (p3 (o+1)) I/\n (p3 (o+1)) I<n o p))))/\((w != 1)=Tc->(m (p3 (o+1)) v/\n (p3 (o+1)) v<n o p))))/\(hV (o<e.len)=Tc->aa4 281 #[aa7 (aa8 d),iV 1,.agg #[iV 0,iV 0]] p (λJ L=>∃M,J=.bool M/\∀N:Bool->zb->Prop,(∀O:Bool,∀P:zb,(((!O)=Ta->∃Q:n8,Td (aa8 d)=Td Q/\∃S,zd P (YH Q 5)=Td (iV S)/\∃T:n8,Td (aa8 d)=Td T/\∃U,zd P (YH T 6)=Td (iV U)/\g6 P P (YH T 6)/\g6 P P (YH Q 5)/\wf Tp (YI 162 (aa7 (aa8 h)) (.agg #[aa6 (⟨#[]⟩:Bt),.slice Te 0 0])) P (λV=>g6 V P (YH T 6)/\g6 V P (YH Q 5)/\g6 V P (YH T 6)/\∃W X,zc V (aa8 h) 0 [aa6 W,aK X]/\R (.tuple #[.agg #[aa6 W,aK X],iV S,iV U]) V))/\((!O)=Tc->∃Y:n8,Td (aa8 d)=Td Y/\∃Z,zd P (YH Y 4)=Td (aK Z)/\wf Tp (YI 162 (aa7 (aa8 h)) (.agg #[aa6 s0,aK Z])) P (λaa=>∃ab ac,zc aa (aa8 h) 0 [aa6 ab,aK ac]/\R (.tuple #[.agg #[aa6 ab,aK ac],iV (s0.size:Int),iV 0]) aa)))->N O P)->∃ad,(M=Ta->Td (aa8 d)=Td ad)/\∃ae,(M=Ta->zd L (YH ad 1)=Td (aK ae))/\((cond M (hV ((ae.len:Int)>0)) Tc)=Ta->aa4 282 #[aa7 (aa8 d),iV 2] L (λaf ag=>∃ah,af=.bool ah/\N ah ag))/\((cond M (hV ((ae.len:Int)>0)) Tc)=Tc->N M L))))))):aa4 226 #[aa6 s0] h R:=XF ⟨[(9,8000),(15,8000)],[(6,[(28,.one (.int .i64))])],[(14,[(11,.one (.bool))])]⟩ [.cell 2 162,.tmp 3,.tmp 4] 79 func226 H
def U5(s0:Bt)(h:zb)(R:vvv) (H:let b:=h.push (.cells #[aa6 (⟨#[]⟩:Bt),.slice Te 0 0] 162);aa4 228 #[aa6 s0] b (λc d=>∃e f g,c=.tuple #[aK e,iV f,iV g]/\((g != 0)=Ta->wf Tp (YI 162 (aa7 (aa8 h)) (.agg #[aa6 (⟨#[]⟩:Bt),.slice Te 0 0])) d (λi=>∃j k,zc i (aa8 h) 0 [aa6 j,aK k]/\R (.tuple #[.agg #[aa6 j,aK k],iV f,iV g]) i))/\((g != 0)=Tc->let l:=d.push (.cells #[aa6 s0,.slice Te 0 0,iV 0,.slice Te 0 0,iV 0,iV 0] 232);∃(m:ab7) (n:ab9),m 0 l/\∀o:Int,∀p:zb,m o p->((hV (o<e.len)=Ta->∃q,(e.a=Td q/\0<=o/\o<e.len)/\∃r,zd p (YH (q.add (o.toNat*3)) 0)=Td (iV r)/\((r != 1)=Ta->∃s:n8,Td (aa8 d)=Td s/\∃t,zd p (YH s 1)=Td (aK t)/\∃u,(e.a=Td u/\0<=o/\o<e.len)/\∃v w x,zc p (u.add (o.toNat*3)) 0 [iV v,iV w,iV x]/\let y:=p.push (.cells #[iV v,iV w,iV x] 236);g6 y p (YH s 1)/\CA Tp (YN #[227,227] 227 #[aK t,.slice (Td (aa8 p)) 1 1]) y (λz A=>∃B,z=aK B/\∃C:n8,Td (aa8 d)=Td C/\wf Tp (YI 227 (.pointer (Td (YH C 1))) (aK B)) A (λD=>(m (p3 (o+1)) D/\n (p3 (o+1)) D<n o p))))/\((r != 1)=Tc->(m (p3 (o+1)) p/\n (p3 (o+1)) p<n o p)))/\(hV (o<e.len)=Tc->aa4 229 #[aa7 (aa8 d),iV 1,.agg #[iV 0,iV 0]] p (λE F=>∃G,E=.bool G/\∀I:Bool->zb->Prop,(∀J:Bool,∀L:zb,(((!J)=Ta->∃M:n8,Td (aa8 d)=Td M/\∃N,zd L (YH M 4)=Td (iV N)/\∃O:n8,Td (aa8 d)=Td O/\∃P,zd L (YH O 5)=Td (iV P)/\g6 L L (YH O 5)/\g6 L L (YH M 4)/\wf Tp (YI 162 (aa7 (aa8 h)) (.agg #[aa6 (⟨#[]⟩:Bt),.slice Te 0 0])) L (λQ=>g6 Q L (YH O 5)/\g6 Q L (YH M 4)/\g6 Q L (YH O 5)/\∃S T,zc Q (aa8 h) 0 [aa6 S,aK T]/\R (.tuple #[.agg #[aa6 S,aK T],iV N,iV P]) Q))/\((!J)=Tc->∃U:n8,Td (aa8 d)=Td U/\∃V,zd L (YH U 3)=Td (aK V)/\wf Tp (YI 162 (aa7 (aa8 h)) (.agg #[aa6 s0,aK V])) L (λW=>∃X Y,zc W (aa8 h) 0 [aa6 X,aK Y]/\R (.tuple #[.agg #[aa6 X,aK Y],iV (s0.size:Int),iV 0]) W)))->I J L)->∃Z,(G=Ta->Td (aa8 d)=Td Z)/\∃aa,(G=Ta->zd F (YH Z 2)=Td (iV aa))/\∃ab,(G=Ta->Td (aa8 d)=Td ab)/\∃ac,(G=Ta->zd F (YH ab 1)=Td (aK ac))/\((cond G (hV (aa<ac.len)) Tc)=Ta->aa4 230 #[aa7 (aa8 d),iV 2] F (λad ae=>∃af,ad=.bool af/\I af ae))/\((cond G (hV (aa<ac.len)) Tc)=Tc->I G F))))))):aa4 166 #[aa6 s0] h R:=XF ⟨[(9,8000),(14,8000)],[(6,[(9,.one (.int .i64))])],[(13,[(10,.one (.bool))])]⟩ [.cell 2 162,.tmp 3,.tmp 4] 87 func166 H
def MX(b:Bt)(c:Sl)(k1:Int)(h:zb)(R:vvv) (H:let d:=h.push (.cells #[aa6 b,aK c] 162);let e:=d.push (.cells tC 25);∃f,zd e (YH (aa8 h) 1)=Td (aK f)/\∃g,(f.a=Td g/\0<=k1/\k1<f.len)/\∃i j k l m n o,zc e (g.add (k1.toNat*7)) 0 [iV i,iV j,iV k,iV l,iV m,aK n,aK o]/\let p:=e.push (.cells #[iV 0,iV 0,iV 0,iV 0,iV 0,.slice Te 0 0,.slice Te 0 0] 241);wf Tp (YI 241 (aa7 (aa8 e)) (.agg #[iV i,iV j,iV k,iV l,iV m,aK n,aK o])) p (λq=>∃r s,zc q (aa8 h) 0 [aa6 r,aK s]/\∃t u,zc q (YH (aa8 e) 1) 0 [iV t,iV u]/\aa4 231 #[.agg #[aa6 r,aK s],.agg #[iV t,iV u]] q (λv w=>∃x,v=.string x/\∃y,zd w (YH (aa8 e) 0)=Td (iV y)/\let z:=w.push (.cells tC 25);wf Tp (YI 25 (aa7 (aa8 w)) (.agg #[iV y,aa6 (⟨#[]⟩:Bt),.slice Te 0 0,.slice Te 0 0])) z (λA=>∀B:zb->Prop,(∀C:zb,(∃(D:ab7) (E:ab9),D 0 C/\∀F:Int,∀G:zb,D F G->(∃I,zd G (YH (aa8 e) 5)=Td (aK I)/\(hV (F<I.len)=Ta->∀J:zb->Prop,(∀L:zb,(∃M,zd L (YH (aa8 w) 3)=Td (aK M)/\∃N O,zc L (aa8 h) 0 [aa6 N,aK O]/\∃P,zd L (YH (aa8 e) 5)=Td (aK P)/\∃Q,(P.a=Td Q/\0<=F/\F<P.len)/\∃S,zd L (Q.add (F.toNat*1))=Td (iV S)/\aa4 167 #[.agg #[aa6 N,aK O],iV S] L (λT U=>∃V W X Y,T=tA V W X Y/\g6 U L (YH (aa8 w) 3)/\let Z:=U.push (.cells #[iV V,aa6 W,aK X,aK Y] 25);g6 Z L (YH (aa8 w) 3)/\CA Tp (YN #[23,23] 23 #[aK M,.slice (Td (aa8 U)) 1 1]) Z (λaa ab=>∃ac,aa=aK ac/\wf Tp (YI 23 (.pointer (Td (YH (aa8 w) 3))) (aK ac)) ab (λad=>(D (p3 (F+1)) ad/\E (p3 (F+1)) ad<E F G)))))->J L)->∃ae,zd G (YH (aa8 e) 0)=Td (iV ae)/\((ae==6)=Ta->∃af ag,zc G (aa8 h) 0 [aa6 af,aK ag]/\∃ah,zd G (YH (aa8 h) 1)=Td (aK ah)/\∃ai,zd G (YH (aa8 e) 5)=Td (aK ai)/\∃aj,(ai.a=Td aj/\0<=F/\F<ai.len)/\∃ak,zd G (aj.add (F.toNat*1))=Td (iV ak)/\∃al,(ah.a=Td al/\0<=ak/\ak<ah.len)/\∃am an,zc G (YH (al.add (ak.toNat*7)) 3) 0 [iV am,iV an]/\aa4 231 #[.agg #[aa6 af,aK ag],.agg #[iV am,iV an]] G (λao ap=>∃aq,ao=.string aq/\aa4 234 #[aa6 aq] ap (λar au=>∃av aw ax,ar=.tuple #[aa6 av,iV aw,iV ax]/\∃ay,zd au (YH (aa8 w) 2)=Td (aK ay)/\let az:=au.push (.cells #[aa6 av] 9);CA Tp (YN #[22,22] 22 #[aK ay,.slice (Td (aa8 au)) 1 1]) az (λaA aB=>∃aC,aA=aK aC/\wf Tp (YI 22 (.pointer (Td (YH (aa8 w) 2))) (aK aC)) aB (λaD=>J aD)))))/\((ae==6)=Tc->J G))/\(hV (F<I.len)=Tc->∃aE aF aG aH,zc G (aa8 w) 0 (tL aE aF aG aH)/\wf Tp (YI 25 (aa7 (aa8 d)) (tA aE aF aG aH)) G (λaI=>∃aJ aL aM aN,zc aI (aa8 d) 0 (tL aJ aL aM aN)/\R (tA aJ aL aM aN) aI))))->B C)->∃aO,zd A (YH (aa8 e) 0)=Td (iV aO)/\((aO==2)=Ta->wf Tp (YI 9 (.pointer (Td (YH (aa8 w) 1))) (aa6 x)) A (λaP=>B aP))/\((aO==2)=Tc->((aO==3)=Ta->aa4 232 #[aa6 x] A (λaQ aS=>∃aT aU aV aW,aQ=.tuple #[.agg #[aa9 aT,aa6 aU,iV aV],iV aW]/\let aX:=aS.push (.cells #[aa9 Tc,aa6 (⟨#[]⟩:Bt),iV 0] 110);wf Tp (YI 110 (aa7 (aa8 aS)) (.agg #[aa9 aT,aa6 aU,iV aV])) aX (λaY=>∃aZ a0 a1,zc aY (aa8 aS) 0 [aa9 aZ,aa6 a0,iV a1]/\aa4 233 #[.agg #[aa9 aZ,aa6 a0,iV a1]] aY (λa2 a3=>∃a4,a2=.string a4/\wf Tp (YI 9 (.pointer (Td (YH (aa8 w) 1))) (aa6 a4)) a3 (λa5=>B a5)))))/\((aO==3)=Tc->((aO==4)=Ta->aa4 234 #[aa6 x] A (λa6 a7=>∃a8 a9 ba,a6=.tuple #[aa6 a8,iV a9,iV ba]/\wf Tp (YI 9 (.pointer (Td (YH (aa8 w) 1))) (aa6 a8)) a7 (λbb=>B bb)))/\((aO==4)=Tc->B A))))))):aa4 167 #[.agg #[aa6 b,.slice c.a c.len c.cap],ab0 k1] h R:=XF ⟨[(18,8000),(16,8000)],[(13,[(10,.one (.int .i64))])],[(12,[]),(18,[])]⟩ [.cell 4 25] 97 func167 H
def Nu(s0:Bt)(h:zb)(R:vvv) (H:aa4 196 #[aa6 s0] h (λa b=>∃c d,a=.tuple #[iV c,aa9 d]/\((!d)=Ta->R (.tuple #[aa6 (⟨#[]⟩:Bt),iV 2]) b)/\((!d)=Tc->let e:=b.push (.cells #[.pointer Te,.slice Te 0 0] 89);aa4 133 #[aa7 (aa8 b),.int .u8 34] e (λf g=>∃i:Value,f=i/\let j:=g.push (.stringIter s0 0);∃(k:zb->Prop) (l:zb->Nat),k j/\∀m:zb,k m->(CA Tp (zcm (aa7 (aa8 g)) Ta 0) m (λn o=>(n=.tuple #[aa9 Tc]/\(Tc=Ta->False)/\(Tc=Tc->aa4 133 #[aa7 (aa8 b),.int .u8 34] o (λp q=>∃r:Value,p=r/\aa4 70 #[aa7 (aa8 b)] q (λs t=>∃u,s=.string u/\R (.tuple #[aa6 u,iV 0]) t))))\/∃v w:Int,n=.tuple #[aa9 Ta,iV v,.int .i32 w]/\(Ta=Ta->aa4 197 #[.int .i32 w] o (λx y=>∃z,x=.int .u8 z/\((z != 0)=Ta->aa4 133 #[aa7 (aa8 b),.int .u8 92] y (λA B=>∃C:Value,A=C/\aa4 133 #[aa7 (aa8 b),.int .u8 z] B (λD E=>∃F:Value,D=F/\(k E/\l E<l m))))/\((z != 0)=Tc->(hV (w>=32)=Ta->aa4 198 #[aa7 (aa8 b),.int .i32 w] y (λG I=>∃J,∃L:Value,G=.tuple #[iV J,L]/\(k I/\l I<l m)))/\(hV (w>=32)=Tc->aa4 199 #[iV (p3 w),iV 16] y (λM N=>∃O,M=.string O/\aa4 200 #[aa6 (⟨#[48]⟩:Bt),iV (p3 (4-(O.size:Int)))] N (λP Q=>∃S,P=.string S/\qb (((⟨#[92,117]⟩:Bt)).size+S.size)/\qb (((⟨#[92,117]⟩:Bt)++S).size+O.size)/\aa4 68 #[aa7 (aa8 b),aa6 (((⟨#[92,117]⟩:Bt)++S)++O)] Q (λT U=>∃V,∃W:Value,T=.tuple #[iV V,W]/\(k U/\l U<l m))))))))/\(Ta=Tc->aa4 133 #[aa7 (aa8 b),.int .u8 34] o (λX Y=>∃Z:Value,X=Z/\aa4 70 #[aa7 (aa8 b)] Y (λaa ab=>∃ac,aa=.string ac/\R (.tuple #[aa6 ac,iV 0]) ab))))))))):aa4 125 #[aa6 s0] h R:=XF ⟨[],[(7,[])],[]⟩ [.tmp 2,.tmp 3] 48 func125 H
def Rx(b:Bt)(c:Sl)(k1:Int)(be:Int)(h:zb)(R:vvv) (H:let d:=h.push (.cells #[aa6 b,aK c] 162);let e:=d.push (.cells tC 25);∃f,zd e (YH (aa8 h) 1)=Td (aK f)/\∃g,(f.a=Td g/\0<=k1/\k1<f.len)/\∃i j k l m n o,zc e (g.add (k1.toNat*7)) 0 [iV i,iV j,iV k,iV l,iV m,aK n,aK o]/\let p:=e.push (.cells #[iV 0,iV 0,iV 0,iV 0,iV 0,.slice Te 0 0,.slice Te 0 0] 241);wf Tp (YI 241 (aa7 (aa8 e)) (.agg #[iV i,iV j,iV k,iV l,iV m,aK n,aK o])) p (λq=>∀r:n8->zb->Prop,(∀s:n8,∀t:zb,(∃u,zd t (YH (aa8 e) 5)=Td (aK u)/\∃(v:ab7) (w:ab9),v 0 t/\∀x:Int,∀y:zb,v x y->((hV (x<u.len)=Ta->∃z,zd y (YH (aa8 e) 5)=Td (aK z)/\∃A,(z.a=Td A/\0<=x/\x<z.len)/\∃B,zd y (A.add (x.toNat*1))=Td (iV B)/\∃C,((!(hV (B<0)))=Ta->zd y (YH (aa8 h) 1)=Td (aK C))/\((cond (cond (hV (B<0)) Ta (hV (B>=C.len))) Ta (hV (be>32)))=Ta->∃D E F G,zc y s 0 (tL D E F G)/\wf Tp (YI 25 (aa7 (aa8 d)) (tA D E F G)) y (λI=>∃J L M N,zc I (aa8 d) 0 (tL J L M N)/\R (tA J L M N) I))/\((cond (cond (hV (B<0)) Ta (hV (B>=C.len))) Ta (hV (be>32)))=Tc->∀O:zb->Prop,(∀P:zb,(∃Q,zd P (YH s 3)=Td (aK Q)/\∃S T,zc P (aa8 h) 0 [aa6 S,aK T]/\aa4 227 #[.agg #[aa6 S,aK T],iV B,iV (p3 (be+1))] P (λU V=>∃W X Y Z,U=tA W X Y Z/\g6 V P (YH s 3)/\let aa:=V.push (.cells #[iV W,aa6 X,aK Y,aK Z] 25);g6 aa P (YH s 3)/\CA Tp (YN #[23,23] 23 #[aK Q,.slice (Td (aa8 V)) 1 1]) aa (λab ac=>∃ae,ab=aK ae/\wf Tp (YI 23 (.pointer (Td (YH s 3))) (aK ae)) ac (λaf=>(v (p3 (x+1)) af/\w (p3 (x+1)) af<w x y)))))->O P)->∃ag,zd y (YH (aa8 e) 0)=Td (iV ag)/\((ag==6)=Ta->∃ah,zd y (YH s 2)=Td (aK ah)/\∃ai aj,zc y (aa8 h) 0 [aa6 ai,aK aj]/\aa4 285 #[.agg #[aa6 ai,aK aj],iV B] y (λak al=>∃am,ak=.string am/\g6 al y (YH s 2)/\let an:=al.push (.cells #[aa6 am] 9);g6 an y (YH s 2)/\CA Tp (YN #[22,22] 22 #[aK ah,.slice (Td (aa8 al)) 1 1]) an (λao ap=>∃aq,ao=aK aq/\wf Tp (YI 22 (.pointer (Td (YH s 2))) (aK aq)) ap (λar=>O ar))))/\((ag==6)=Tc->O y)))/\(hV (x<u.len)=Tc->∃au av aw ax,zc y s 0 (tL au av aw ax)/\wf Tp (YI 25 (aa7 (aa8 d)) (tA au av aw ax)) y (λay=>∃az aA aB aC,zc ay (aa8 d) 0 (tL az aA aB aC)/\R (tA az aA aB aC) ay))))->r s t)->∃aD,zd q (YH (aa8 e) 0)=Td (iV aD)/\∃aE,zd q (YH (aa8 e) 0)=Td (iV aE)/\∃aF aG,zc q (aa8 h) 0 [aa6 aF,aK aG]/\∃aH aI,zc q (YH (aa8 e) 1) 0 [iV aH,iV aI]/\let aJ:n8->Bt->zb->Prop:=λ(aL:n8) aM (aN:zb)=>(wf Tp (YI 25 (aa7 aL) (.agg #[iV aD,aa6 aM,.slice Te 0 0,.slice Te 0 0])) aN (λaO=>r aL aO));let aP:n8->Bt->zb->Prop:=λ(aQ:n8) aS (aT:zb)=>(aJ aQ aS aT);let aU:n8->Bt->zb->Prop:=λ(aV:n8) aW (aX:zb)=>(aa4 283 #[iV aE,aa6 aW] aX (λaY aZ=>∃a0,aY=.string a0/\g6 aZ q (YH (aa8 e) 0)/\aP aV a0 aZ));(aa4 284 #[.agg #[aa6 aF,aK aG],.agg #[iV aH,iV aI]] q (λa1 a2=>∃a3,a1=.string a3/\g6 a2 q (YH (aa8 e) 0)/\g6 a2 q (YH (aa8 e) 0)/\(aa4 283 #[iV aE,aa6 a3] a2 (λa4 a5=>∃a6,a4=.string a6/\g6 a5 q (YH (aa8 e) 0)/\(let a7:=a5.push (.cells tC 25);aJ (aa8 a5) a6 a7)/\(let a8:=a5.push (.cells tC 25);g6 a8 q (YH (aa8 e) 0)/\aP (aa8 a5) a6 a8)))/\(let a9:=a2.push (.cells tC 25);g6 a9 q (YH (aa8 e) 0)/\g6 a9 q (YH (aa8 e) 0)/\aU (aa8 a2) a3 a9)))/\(let ba:=q.push (.cells tC 25);g6 ba q (YH (aa8 e) 1)/\g6 ba q (aa8 h)/\g6 ba q (YH (aa8 e) 0)/\g6 ba q (YH (aa8 e) 0)/\aa4 284 #[.agg #[aa6 aF,aK aG],.agg #[iV aH,iV aI]] ba (λbb bc=>∃bd,bb=.string bd/\g6 bc q (YH (aa8 e) 0)/\g6 bc q (YH (aa8 e) 0)/\aU (aa8 q) bd bc)))):aa4 227 #[.agg #[aa6 b,.slice c.a c.len c.cap],ab0 k1,ab0 be] h R:=XF ⟨[(11,8000),(10,8000),(2,8000)],[(4,[(29,.one (.int .i64))])],[(3,[(8,.one (.ad))]),(11,[])]⟩ [.cell 6 25] 74 func227 H
def Q2(p0:Option n8)(aC:Int)(b:Int)(c:Int)(h:zb)(R:vvv) (H:let d:=h.push (.cells #[.pointer p0] 287);let e:=d.push (.cells #[iV b,iV c] 234);∃f:Option n8,zd e (aa8 h)=Td (.pointer f)/\aa4 336 #[.pointer f] e (λg i=>∃j,g=iV j/\aa4 335 #[iV j] i (λk l=>∃m,k=iV m/\((m==0)=Ta->∃n:Option n8,zd l (aa8 h)=Td (.pointer n)/\aa4 282 #[.pointer n,iV 2] l (λo p=>∃q,o=.bool q/\R (aa9 q) p))/\((m==0)=Tc->(hV (aC>32)=Ta->∃r:Option n8,zd l (aa8 h)=Td (.pointer r)/\aa4 282 #[.pointer r,iV 5] l (λs t=>∃u,s=.bool u/\R (aa9 u) t))/\(hV (aC>32)=Tc->∃v:Option n8,zd l (aa8 h)=Td (.pointer v)/\∃w,v=Td w/\∃x,zd l (YH w 4)=Td (aK x)/\(((x.len:Int)==4096)=Ta->∃y:Option n8,zd l (aa8 h)=Td (.pointer y)/\aa4 282 #[.pointer y,iV 6] l (λz A=>∃B,z=.bool B/\R (aa9 B) A))/\(((x.len:Int)==4096)=Tc->∃C:Option n8,zd l (aa8 h)=Td (.pointer C)/\∃D,C=Td D/\∃E,zd l (YH D 4)=Td (aK E)/\∃F:Option n8,zd l (aa8 h)=Td (.pointer F)/\∃G:Option n8,zd l (aa8 h)=Td (.pointer G)/\∃I,G=Td I/\∃J,zd l (YH I 4)=Td (aK J)/\∃L:Option n8,zd l (aa8 h)=Td (.pointer L)/\∃M,L=Td M/\∃N,zd l (YH M 1)=Td (aK N)/\∃O,(N.a=Td O/\0<=(0:Int)/\(0:Int)<(N.len:Int))/\∃P Q,zc l (YH (O.add ((0:Int).toNat*3)) 1) 0 [iV P,iV Q]/\∃S T,zc l (aa8 d) 0 [iV S,iV T]/\g6 l l (YH I 4)/\g6 l l (aa8 h)/\g6 l l (aa8 h)/\let U:=l.push (.cells #[iV m,iV P,iV Q,iV S,iV T,.slice Te 0 0,.slice Te 0 0] 241);g6 U l (YH I 4)/\g6 U l (aa8 h)/\g6 U l (aa8 h)/\CA Tp (YN #[160,160] 160 #[aK J,.slice (Td (aa8 l)) 1 1]) U (λV W=>∃X,V=aK X/\∃Y,F=Td Y/\g6 W l (aa8 h)/\wf Tp (YI 160 (.pointer (Td (YH Y 4))) (aK X)) W (λZ=>∃aa:Option n8,zd Z (aa8 h)=Td (.pointer aa)/\aa4 337 #[.pointer aa] Z (λab ac=>ab=.tuple #[]/\∀ad:Bool->zb->Prop,(∀ae:Bool,∀af:zb,(∃ag:Option n8,zd af (aa8 h)=Td (.pointer ag)/\∃ah,ag=Td ah/\∃ai,zd af (YH ah 4)=Td (aK ai)/\∃aj:Option n8,zd af (aa8 h)=Td (.pointer aj)/\∃ak,aj=Td ak/\∃al,zd af (YH (YH ak 2) 1)=Td (iV al)/\∃am,(ai.a=Td am/\0<=(E.len:Int)/\(E.len:Int)<(ai.len:Int))/\wf Tp (YI 3 (.pointer (Td (YH (YH (am.add ((E.len:Int).toNat*7)) 1) 1))) (iV al)) af (λan=>R (aa9 ae) an))->ad ae af)->((m==5)=Ta->∃ao:Option n8,zd ac (aa8 h)=Td (.pointer ao)/\∃ap:Option n8,zd ac (aa8 h)=Td (.pointer ap)/\aa4 338 #[.pointer ao,iV (E.len:Int),iV aC,iV 5,.func (.func 339) #[.pointer ap] #[]] ac (λaq ar=>∃au,aq=.bool au/\ad au ar))/\((m==5)=Tc->((m==6)=Ta->let av:=ac.push (.map #[] 0);let aw:=av.push (.cells #[.map Te] 213);wf Tp (YI 213 (aa7 (aa8 av)) (.map (Td ac.size))) aw (λax=>∃ay:Option n8,zd ax (aa8 h)=Td (.pointer ay)/\aa4 338 #[.pointer ay,iV (E.len:Int),iV aC,iV 3,.func (.func 340) #[] #[aa7 (aa8 h),aa7 (aa8 av)]] ax (λaz aA=>∃aB,az=.bool aB/\ad aB aA)))/\((m==6)=Tc->ad Ta ac))))))))))):aa4 281 #[.pointer p0,ab0 aC,.agg #[ab0 b,ab0 c]] h R:=XF ⟨[(9,8000),(18,8000)],[],[(18,[(9,.one (.bool))])]⟩ [.tmp 6] 90 func281 H
def NU(k:Option n8)(i:Int)(h:zb)(R:vvv) (H:aa4 342 #[.pointer k] h (λa b=>∃c,a=iV c/\∃d,k=Td d/\wf Tp (YI 3 (.pointer (Td (YH d 5))) (iV c)) b (λe=>∃f,k=Td f/\wf Tp (YI 32 (.pointer (Td (YH f 6))) (iV i)) e (λg=>R (aa9 Tc) g)))):aa4 282 #[.pointer k,ab0 i] h R:=XF ⟨[],[],[]⟩ [.tmp 4] 14 func282 H
def Jb(p0:Option n8)(aG:Int)(b:Int)(c:Int)(h:zb)(R:vvv) (H:let d:=h.push (.cells #[iV b,iV c] 234);aa4 288 #[.pointer p0] d (λe f=>∃g,e=iV g/\aa4 287 #[iV g] f (λi j=>∃k,i=iV k/\∀l:Int->zb->Prop,(∀m:Int,∀n:zb,(∀o:Int->zb->Prop,(∀p:Int,∀q:zb,(((p==0)=Ta->aa4 230 #[.pointer p0,iV 2] q (λr s=>∃t,r=.bool t/\R (aa9 t) s))/\((p==0)=Tc->(hV (aG>32)=Ta->aa4 230 #[.pointer p0,iV 5] q (λu v=>∃w,u=.bool w/\R (aa9 w) v))/\(hV (aG>32)=Tc->∃x,p0=Td x/\∃y,zd q (YH x 3)=Td (aK y)/\(hV ((y.len:Int)>=4096)=Ta->aa4 230 #[.pointer p0,iV 6] q (λz A=>∃B,z=.bool B/\R (aa9 B) A))/\(hV ((y.len:Int)>=4096)=Tc->∃C,p0=Td C/\∃D,zd q (YH C 3)=Td (aK D)/\∃E,p0=Td E/\∃F,zd q (YH E 3)=Td (aK F)/\∃G,p0=Td G/\∃I,zd q (YH G 1)=Td (aK I)/\∃J,p0=Td J/\∃L,zd q (YH J 2)=Td (iV L)/\∃M,(I.a=Td M/\0<=L/\L<I.len)/\∃N O,zc q (YH (M.add (L.toNat*3)) 1) 0 [iV N,iV O]/\∃P Q,zc q (aa8 h) 0 [iV P,iV Q]/\g6 q q (YH E 3)/\let S:=q.push (.cells #[iV p,iV N,iV O,iV P,iV Q,.slice Te 0 0,.slice Te 0 0] 241);g6 S q (YH E 3)/\CA Tp (YN #[160,160] 160 #[aK F,.slice (Td (aa8 q)) 1 1]) S (λT U=>∃V,T=aK V/\∃W,p0=Td W/\wf Tp (YI 160 (.pointer (Td (YH W 3))) (aK V)) U (λX=>∃Y,p0=Td Y/\∃Z,zd X (YH Y 2)=Td (iV Z)/\∃aa,p0=Td aa/\wf Tp (YI 3 (.pointer (Td (YH aa 2))) (iV (p3 (Z+1)))) X (λab=>∀ac:Bool->zb->Prop,(∀ad:Bool,∀ae:zb,(∀af:Bool->zb->Prop,(∀ag:Bool,∀ah:zb,((ag=Ta->∃ai,p0=Td ai/\∃aj,zd ah (YH ai 3)=Td (aK aj)/\∃ak,p0=Td ak/\∃al,zd ah (YH ak 1)=Td (aK al)/\∃am,p0=Td am/\∃an,zd ah (YH am 2)=Td (iV an)/\∃ao,(al.a=Td ao/\0<=(p3 (an-1))/\(p3 (an-1))<(al.len:Int))/\∃ap,zd ah (YH (YH (ao.add ((p3 (an-1)).toNat*3)) 1) 1)=Td (iV ap)/\∃aq,(aj.a=Td aq/\0<=(D.len:Int)/\(D.len:Int)<(aj.len:Int))/\wf Tp (YI 3 (.pointer (Td (YH (YH (aq.add ((D.len:Int).toNat*7)) 1) 1))) (iV ap)) ah (λar=>R (aa9 ag) ar))/\(ag=Tc->R (aa9 ag) ah))->af ag ah)->((p==6)=Ta->aa4 289 #[.pointer p0,iV (D.len:Int),iV aG,iV 3] ae (λau av=>∃aw,au=.bool aw/\af aw av))/\((p==6)=Tc->af ad ae))->ac ad ae)->((p==5)=Ta->aa4 289 #[.pointer p0,iV (D.len:Int),iV aG,iV 5] ab (λax ay=>∃az,ax=.bool az/\ac az ay))/\((p==5)=Tc->ac Ta ab))))))))->o p q)->aa4 288 #[.pointer p0] n (λaA aB=>∃aC,aA=iV aC/\((aC==2)=Ta->o 6 aB)/\((aC==2)=Tc->o m aB)))->l m n)->aa4 288 #[.pointer p0] j (λaD aE=>∃aF,aD=iV aF/\((aF==4)=Ta->l 5 aE)/\((aF==4)=Tc->l k aE))))):aa4 229 #[.pointer p0,ab0 aG,.agg #[ab0 b,ab0 c]] h R:=XF ⟨[(13,8000),(21,8000)],[],[(4,[(7,.one (.int .i64))]),(6,[(7,.one (.int .i64))]),(18,[(9,.one (.bool))]),(20,[(9,.one (.bool))])]⟩ [.tmp 6] 105 func229 H
def Jc(i:Option n8)(k:Int)(h:zb)(R:vvv) (H:aa4 290 #[.pointer i] h (λa b=>∃c,a=iV c/\∃d,i=Td d/\wf Tp (YI 3 (.pointer (Td (YH d 4))) (iV c)) b (λe=>∃f,i=Td f/\wf Tp (YI 32 (.pointer (Td (YH f 5))) (iV k)) e (λg=>R (aa9 Tc) g)))):aa4 230 #[.pointer i,ab0 k] h R:=XF ⟨[],[],[]⟩ [.tmp 4] 14 func230 H
def Q9(b0:Option n8)(p:Int)(h:zb)(R:vvv) (H:aa4 123 #[.pointer b0] h (λb c=>b=.tuple #[]/\∃d,b0=Td d/\∃e,zd c (YH d 1)=Td (aK e)/\∃f,b0=Td f/\∃g,zd c (YH f 1)=Td (aK g)/\aa4 248 #[aK g,.int .i32 p] c (λi j=>∃k,i=aK k/\∃l,b0=Td l/\wf Tp (YI 87 (.pointer (Td (YH l 1))) (aK k)) j (λm=>∃n,b0=Td n/\∃o,zd m (YH n 1)=Td (aK o)/\R (.tuple #[iV (p3 ((o.len:Int)-(e.len:Int))),.nilIface]) m)))):aa4 198 #[.pointer b0,.int .i32 p] h R:=XF ⟨[],[],[]⟩ [.tmp 4,.tmp 5] 30 func198 H
def XZ(b:Bt)(h:zb)(R:vvv) (H:let a:=h.push (.cells #[aa6 b] 9);R (.func (.func 374) #[] #[aa7 (aa8 h)]) a):aa4 334 #[aa6 b] h R:=XF ⟨[],[],[]⟩ [.tmp 2] 4 func334 H
def SU(i:Option n8)(h:zb)(R:vvv) (H:∃b,i=Td b/\∃c,zd h (YH b 1)=Td (aK c)/\(((c.len:Int)==0)=Ta->R (iV 0) h)/\(((c.len:Int)==0)=Tc->∃d,i=Td d/\∃e,zd h (YH d 1)=Td (aK e)/\∃f,(e.a=Td f/\0<=(0:Int)/\(0:Int)<(e.len:Int))/\∃g,zd h (YH (f.add ((0:Int).toNat*3)) 0)=Td (iV g)/\R (iV g) h)):aa4 336 #[.pointer i] h R:=XF ⟨[],[],[]⟩ [.tmp 2] 16 func336 H
def R8(n:Option n8)(h:zb)(R:vvv) (H:∃b,n=Td b/\∃c,zd h (YH b 1)=Td (aK c)/\∃d,(c.a=Td d/\0<=(0:Int)/\(0:Int)<(c.len:Int))/\∃e f,zc h (YH (d.add ((0:Int).toNat*3)) 1) 0 [iV e,iV f]/\∃g,n=Td g/\∃i,zd h (YH g 1)=Td (aK i)/\((Te:ab8)=Te\/∃v,(Te:ab8)=Td v)/\(0<=(1:Int)/\(1:Int)<=(i.len:Int)/\(i.len:Int)<=(i.cap:Int)/\(i.cap:Int)<=(i.cap:Int))/\∃j,n=Td j/\wf Tp (YI 234 (.pointer (Td (YH j 2))) (.agg #[iV e,iV f])) h (λk=>∃l,n=Td l/\wf Tp (YI 227 (.pointer (Td (YH l 1))) (.slice (eL i.a 3 ((1:Int).toNat) ((i.cap:Int).toNat)) ((i.len:Int).toNat-(1:Int).toNat) ((i.cap:Int).toNat-(1:Int).toNat))) k (λm=>R (.tuple #[]) m))):aa4 337 #[.pointer n] h R:=XF ⟨[(0,8000)],[],[]⟩ [] 20 func337 H
def RZ(p0:Option n8)(n1:Int)(aa:Int)(Y:Int)(Z:n5)(ae:ab3)(ab:ab3)(h:zb)(R:vvv) (H:aa4 376 #[.pointer p0,iV Y] h (λb c=>∃d,b=.bool d/\(d=Ta->R (aa9 Ta) c)/\(d=Tc->∃(e:zb->Prop) (f:zb->Nat),e c/\∀g:zb,e g->(∃i,p0=Td i/\∃j,zd g (YH (YH i 2) 1)=Td (iV j)/\∃k,p0=Td k/\∃l,zd g (YH k 4)=Td (aK l)/\zr Tp Z=Ta/\aa4 Z (ae++#[iV (p3 (aa+1))]++ab) g (λm n=>∃o,m=.bool o/\((!o)=Ta->R (aa9 Tc) n)/\((!o)=Tc->∃p,p0=Td p/\∃q,zd n (YH p 4)=Td (aK q)/\∃r,(q.a=Td r/\0<=n1/\n1<q.len)/\∃s,Td (r.add (n1.toNat*7))=Td s/\∃t,zd n (YH s 5)=Td (aK t)/\let u:=n.push (.cells #[iV (l.len:Int)] 3);CA Tp (YN #[29,29] 29 #[aK t,.slice (Td (aa8 n)) 1 1]) u (λv w=>∃x,v=aK x/\∃y,Td (r.add (n1.toNat*7))=Td y/\wf Tp (YI 29 (.pointer (Td (YH y 5))) (aK x)) w (λz=>∃A,Td (r.add (n1.toNat*7))=Td A/\∃B,zd z (YH A 6)=Td (aK B)/\aa4 342 #[.pointer p0] z (λC D=>∃E,C=iV E/\g6 D z (YH A 6)/\g6 D z (YH A 6)/\let F:=D.push (.cells #[iV j,iV E] 234);g6 F z (YH A 6)/\CA Tp (YN #[239,239] 239 #[aK B,.slice (Td (aa8 D)) 1 1]) F (λG I=>∃J,G=aK J/\∃L,Td (r.add (n1.toNat*7))=Td L/\wf Tp (YI 239 (.pointer (Td (YH L 6))) (aK J)) I (λM=>aa4 376 #[.pointer p0,iV Y] M (λN O=>∃P,N=.bool P/\(P=Ta->R (aa9 Ta) O)/\(P=Tc->aa4 376 #[.pointer p0,iV 6] O (λQ S=>∃T,Q=.bool T/\((!T)=Ta->aa4 282 #[.pointer p0,iV 2] S (λU V=>∃W,U=.bool W/\R (aa9 W) V))/\((!T)=Tc->(e S/\f S<f g)))))))))))))))):aa4 338 #[.pointer p0,ab0 n1,ab0 aa,ab0 Y,.func (.func Z) ae ab] h R:=XF ⟨[(8,8000)],[(3,[])],[]⟩ [.tmp 10] 71 func338 H
def PG(f:Option n8)(e:Int)(h:zb)(R:vvv) (H:aa4 281 #[.pointer f,iV e,.agg #[iV 0,iV 0]] h (λa b=>∃c,a=.bool c/\R (aa9 c) b)):aa4 339 #[.pointer f,ab0 e] h R:=XF ⟨[],[],[]⟩ [.tmp 4] 9 func339 H
def Pm(f:Int)(c1:n8)(c2:n8)(h:zb)(R:vvv) (H:∃a:Option n8,zd h c1=Td (.pointer a)/\∃b:Option Nat,zd h c2=Td (.map b)/\aa4 341 #[.pointer a,iV f,.map b] h (λc d=>∃e,c=.bool e/\R (aa9 e) d)):aa4 340 #[ab0 f,aa7 c1,aa7 c2] h R:=XF ⟨[],[],[]⟩ [.tmp 4] 9 func340 H
def Tu(Y:Option n8)(U:Int)(V:ac3)(h:zb)(R:vvv) (H:aa4 336 #[.pointer Y] h (λb c=>∃d,b=iV d/\((d != 8)=Ta->aa4 282 #[.pointer Y,iV 2] c (λe f=>∃g,e=.bool g/\R (aa9 g) f))/\((d != 8)=Tc->∃i,Y=Td i/\∃j,zd c (YH i 1)=Td (aK j)/\∃k,(j.a=Td k/\0<=(0:Int)/\(0:Int)<(j.len:Int))/\∃l m,zc c (YH (k.add ((0:Int).toNat*3)) 1) 0 [iV l,iV m]/\let n:=c.push (.cells #[iV 0,iV 0] 234);wf Tp (YI 234 (aa7 (aa8 c)) (.agg #[iV l,iV m])) n (λo=>∃p,Y=Td p/\∃q,zd o (YH p 0)=Td (aa6 q)/\∃r,zd o (YH (aa8 c) 0)=Td (iV r)/\∃s,zd o (YH (aa8 c) 1)=Td (iV s)/\(0<=r/\r<=s/\s<=q.size)/\aa4 343 #[aa6 (q.extract r.toNat s.toNat)] o (λt u=>∃v w x,t=.tuple #[aa6 v,iV w,iV x]/\∃y,At Tp (zc0 213 (.map V) (aa6 v) Tc) u (aa9 y)/\(y=Ta->aa4 282 #[.pointer Y,iV 7] u (λz A=>∃B,z=.bool B/\R (aa9 B) A))/\(y=Tc->wf Tp (zbk 213 (.map V) (aa6 v) (aa9 Ta)) u (λC=>aa4 337 #[.pointer Y] C (λD E=>D=.tuple #[]/\aa4 376 #[.pointer Y,iV 7] E (λF G=>∃I,F=.bool I/\((!I)=Ta->aa4 282 #[.pointer Y,iV 2] G (λJ L=>∃M,J=.bool M/\R (aa9 M) L))/\((!I)=Tc->∃N O,zc G (aa8 c) 0 [iV N,iV O]/\aa4 281 #[.pointer Y,iV U,.agg #[iV N,iV O]] G (λP Q=>∃S,P=.bool S/\R (aa9 S) Q))))))))))):aa4 341 #[.pointer Y,ab0 U,.map V] h R:=XF ⟨[(4,8000)],[],[]⟩ [.tmp 6] 55 func341 H
def U6(k:Option n8)(h:zb)(R:vvv) (H:∃b,k=Td b/\∃c,zd h (YH b 1)=Td (aK c)/\(((c.len:Int)==0)=Ta->∃d,k=Td d/\∃e,zd h (YH d 0)=Td (aa6 e)/\R (iV (e.size:Int)) h)/\(((c.len:Int)==0)=Tc->∃f,k=Td f/\∃g,zd h (YH f 1)=Td (aK g)/\∃i,(g.a=Td i/\0<=(0:Int)/\(0:Int)<(g.len:Int))/\∃j,zd h (YH (YH (i.add ((0:Int).toNat*3)) 1) 0)=Td (iV j)/\R (iV j) h)):aa4 342 #[.pointer k] h R:=XF ⟨[],[],[]⟩ [.tmp 2] 22 func342 H
def Jy(m:Option n8)(h:zb)(R:vvv) (H:∃b,m=Td b/\∃c,zd h (YH b 2)=Td (iV c)/\∃d,m=Td d/\∃e,zd h (YH d 1)=Td (aK e)/\(hV (c>=e.len)=Ta->R (iV 0) h)/\(hV (c>=e.len)=Tc->∃f,m=Td f/\∃g,zd h (YH f 1)=Td (aK g)/\∃i,m=Td i/\∃j,zd h (YH i 2)=Td (iV j)/\∃k,(g.a=Td k/\0<=j/\j<g.len)/\∃l,zd h (YH (k.add (j.toNat*3)) 0)=Td (iV l)/\R (iV l) h)):aa4 288 #[.pointer m] h R:=XF ⟨[],[],[]⟩ [.tmp 2] 24 func288 H
def Jz(p0:Option n8)(n1:Int)(a7:Int)(a6:Int)(h:zb)(R:vvv) (H:∃b,p0=Td b/\∃c,zd h (YH b 1)=Td (aK c)/\∃d,p0=Td d/\∃e,zd h (YH d 2)=Td (iV e)/\∃f,(c.a=Td f/\0<=(p3 (e-1))/\(p3 (e-1))<(c.len:Int))/\∃g,zd h (YH (YH (f.add ((p3 (e-1)).toNat*3)) 1) 1)=Td (iV g)/\aa4 288 #[.pointer p0] h (λi j=>∃k,i=iV k/\((k==a6)=Ta->∃l,p0=Td l/\∃m,zd j (YH l 2)=Td (iV m)/\∃n,p0=Td n/\wf Tp (YI 3 (.pointer (Td (YH n 2))) (iV (p3 (m+1)))) j (λo=>R (aa9 Ta) o))/\((k==a6)=Tc->∃(p:Sl->Int->zb->Prop) (q:Sl->Int->zb->Nat),p (⟨Te,0,0⟩:Sl) g j/\∀r:Sl,∀s:Int,∀t:zb,p r s t->(let u:=t.push (.cells #[iV 0,iV 0] 234);∀v:Sl->zb->Prop,(∀w:Sl,∀x:zb,(∃y,p0=Td y/\∃z,zd x (YH y 3)=Td (aK z)/\∃A B,zc x (aa8 t) 0 [iV A,iV B]/\aa4 229 #[.pointer p0,iV (p3 (a7+1)),.agg #[iV A,iV B]] x (λC D=>∃E,C=.bool E/\((!E)=Ta->R (aa9 Tc) D)/\((!E)=Tc->aa4 288 #[.pointer p0] D (λF G=>∃I,F=iV I/\∃J:vvv,((I != 6)=Ta->aa4 288 #[.pointer p0] G (λL M=>∃N,L=iV N/\J (iV N) M))/\((I != 6)=Tc->∃O,J (iV O) G)/\((I != 6)=Ta->∀P Q,J P Q->∃S,P=iV S)/\∀T:Int,∀U,J (iV T) U->((cond (I != 6) (T != a6) Tc)=Ta->aa4 230 #[.pointer p0,iV 2] U (λV W=>∃X,V=.bool X/\R (aa9 X) W))/\((cond (I != 6) (T != a6) Tc)=Tc->∃Y,p0=Td Y/\∃Z,zd U (YH Y 3)=Td (aK Z)/\∃aa,p0=Td aa/\∃ab,zd U (YH aa 3)=Td (aK ab)/\∃ac,(ab.a=Td ac/\0<=n1/\n1<ab.len)/\∃ad,zd U (YH (ac.add (n1.toNat*7)) 5)=Td (aK ad)/\let ae:=U.push (.cells #[iV (z.len:Int)] 3);g6 ae U ((YH (ac.add (n1.toNat*7)) 5))/\g6 ae U (YH aa 3)/\g6 ae U (YH Y 3)/\CA Tp (YN #[29,29] 29 #[aK ad,.slice (Td (aa8 U)) 1 1]) ae (λaf ag=>∃ah,af=aK ah/\∃ai,(Z.a=Td ai/\0<=n1/\n1<Z.len)/\g6 ag U (YH Y 3)/\wf Tp (YI 29 (.pointer (Td (YH (ai.add (n1.toNat*7)) 5))) (aK ah)) ag (λaj=>∃ak,p0=Td ak/\∃al,zd aj (YH ak 3)=Td (aK al)/\∃am,p0=Td am/\∃an,zd aj (YH am 3)=Td (aK an)/\∃ao,(an.a=Td ao/\0<=n1/\n1<an.len)/\∃ap,zd aj (YH (ao.add (n1.toNat*7)) 6)=Td (aK ap)/\aa4 290 #[.pointer p0] aj (λaq ar=>∃au,aq=iV au/\g6 ar aj ((YH (ao.add (n1.toNat*7)) 6))/\g6 ar aj (YH am 3)/\g6 ar aj (YH ak 3)/\g6 ar aj ((YH (ao.add (n1.toNat*7)) 6))/\g6 ar aj (YH am 3)/\g6 ar aj (YH ak 3)/\let av:=ar.push (.cells #[iV s,iV au] 234);g6 av aj ((YH (ao.add (n1.toNat*7)) 6))/\g6 av aj (YH am 3)/\g6 av aj (YH ak 3)/\CA Tp (YN #[239,239] 239 #[aK ap,.slice (Td (aa8 ar)) 1 1]) av (λaw ax=>∃ay,aw=aK ay/\∃az,(al.a=Td az/\0<=n1/\n1<al.len)/\g6 ax aj (YH ak 3)/\wf Tp (YI 239 (.pointer (Td (YH (az.add (n1.toNat*7)) 6))) (aK ay)) ax (λaA=>aa4 288 #[.pointer p0] aA (λaB aC=>∃aD,aB=iV aD/\aa4 290 #[.pointer p0] aC (λaE aF=>∃aG,aE=iV aG/\∃aH,p0=Td aH/\∃aI,zd aF (YH aH 2)=Td (iV aI)/\∃aJ,p0=Td aJ/\wf Tp (YI 3 (.pointer (Td (YH aJ 2))) (iV (p3 (aI+1)))) aF (λaL=>((aD==a6)=Ta->R (aa9 Ta) aL)/\((aD==a6)=Tc->(p w (p3 (aG+1)) aL/\q w (p3 (aG+1)) aL<q r s t)))))))))))))))->v w x)->((a6==3)=Ta->aa4 347 #[.pointer p0,aK r] u (λaM aN=>∃aO aP aQ aS,aM=.tuple #[aa6 aO,.agg #[iV aP,iV aQ],aa9 aS]/\let aT:=aN.push (.cells #[iV 0,iV 0] 234);wf Tp (YI 234 (aa7 (aa8 aN)) (.agg #[iV aP,iV aQ])) aT (λaU=>((!aS)=Ta->R (aa9 Tc) aU)/\((!aS)=Tc->let aV:=aU.push (.cells #[aa6 aO] 9);CA Tp (YN #[22,22] 22 #[aK r,.slice (Td (aa8 aU)) 1 1]) aV (λaW aX=>∃aY,aW=aK aY/\∃aZ a0,zc aX (aa8 aN) 0 [iV aZ,iV a0]/\wf Tp (YI 234 (aa7 (aa8 t)) (.agg #[iV aZ,iV a0])) aX (λa1=>v aY a1))))))/\((a6==3)=Tc->v r u))))):aa4 289 #[.pointer p0,ab0 n1,ab0 a7,ab0 a6] h R:=XF ⟨[(19,8000),(20,8000)],[(6,[(9,.one (.sl)),(10,.one (.int .i64))])],[(13,[(9,.one (.sl))])]⟩ [.tmp 8] 135 func289 H
def J0(o:Option n8)(h:zb)(R:vvv) (H:∃b,o=Td b/\∃c,zd h (YH b 2)=Td (iV c)/\∃d,o=Td d/\∃e,zd h (YH d 1)=Td (aK e)/\(hV (c>=e.len)=Ta->∃f,o=Td f/\∃g,zd h (YH f 0)=Td (aa6 g)/\R (iV (g.size:Int)) h)/\(hV (c>=e.len)=Tc->∃i,o=Td i/\∃j,zd h (YH i 1)=Td (aK j)/\∃k,o=Td k/\∃l,zd h (YH k 2)=Td (iV l)/\∃m,(j.a=Td m/\0<=l/\l<j.len)/\∃n,zd h (YH (YH (m.add (l.toNat*3)) 1) 0)=Td (iV n)/\R (iV n) h)):aa4 290 #[.pointer o] h R:=XF ⟨[],[],[]⟩ [.tmp 2] 30 func290 H
def LJ(s0:Bt)(bz:Int)(h:zb)(R:vvv) (H:let a:=h.push (.cells #[iV bz] 3);let b:=a.push (.cells #[iV 0,iV 0,iV 0] 236);∃c,zd b (aa8 h)=Td (iV c)/\(0<=c/\c<=s0.size/\(s0.size:Int)<=(s0.size:Int))/\(0<=(0:Int)/\(0:Int)<((s0.extract c.toNat (s0.size:Int).toNat).size:Int))/\aa4 319 #[aa6 (⟨#[123,125,91,93,44,58]⟩:Bt),.int .u8 (ze (s0.extract c.toNat (s0.size:Int).toNat) (0:Int).toNat)] b (λd e=>∃f,d=iV f/\(hV (f>=0)=Ta->∃g,zd e (aa8 h)=Td (iV g)/\zr Tp 396=Ta/\aa4 396 #[iV (p3 (2+f)),iV (p3 (g+1)),aa7 (aa8 h)] e (λi j=>∃k l m n,i=.tuple #[.agg #[iV k,iV l,iV m],iV n]/\wf Tp (YI 236 (aa7 (aa8 a)) (.agg #[iV k,iV l,iV m])) j (λo=>∃p q r,zc o (aa8 a) 0 [iV p,iV q,iV r]/\R (.tuple #[.agg #[iV p,iV q,iV r],iV n]) o)))/\(hV (f>=0)=Tc->aa4 319 #[aa6 (⟨#[32,9,10,13]⟩:Bt),.int .u8 (ze (s0.extract c.toNat (s0.size:Int).toNat) (0:Int).toNat)] e (λs t=>∃u,s=iV u/\(hV (u>=0)=Ta->∃v,zd t (aa8 h)=Td (iV v)/\aa4 399 #[aa6 (⟨#[32,9,10,13]⟩:Bt)] t (λw x=>∃y:Value,w=y/\g6 x t (aa8 h)/\aa4 398 #[aa6 (s0.extract c.toNat (s0.size:Int).toNat),y] x (λz A=>∃B,z=iV B/\g6 A t (aa8 h)/\zr Tp 396=Ta/\aa4 396 #[iV 1,iV (p3 (v+B)),aa7 (aa8 h)] A (λC D=>∃E F G I,C=.tuple #[.agg #[iV E,iV F,iV G],iV I]/\wf Tp (YI 236 (aa7 (aa8 a)) (.agg #[iV E,iV F,iV G])) D (λJ=>∃L M N,zc J (aa8 a) 0 [iV L,iV M,iV N]/\R (.tuple #[.agg #[iV L,iV M,iV N],iV I]) J)))))/\(hV (u>=0)=Tc->(((ze (s0.extract c.toNat (s0.size:Int).toNat) (0:Int).toNat:Int)==34)=Ta->∃O,zd t (aa8 h)=Td (iV O)/\aa4 400 #[aa6 s0,iV O] t (λP Q=>∃S T,P=.tuple #[iV S,iV T]/\((T != 0)=Ta->zr Tp 397=Ta/\aa4 397 #[iV S,iV T] Q (λU V=>∃W X Y Z,U=.tuple #[.agg #[iV W,iV X,iV Y],iV Z]/\wf Tp (YI 236 (aa7 (aa8 a)) (.agg #[iV W,iV X,iV Y])) V (λaa=>∃ab ac ad,zc aa (aa8 a) 0 [iV ab,iV ac,iV ad]/\R (.tuple #[.agg #[iV ab,iV ac,iV ad],iV Z]) aa)))/\((T != 0)=Tc->zr Tp 396=Ta/\aa4 396 #[iV 8,iV S,aa7 (aa8 h)] Q (λae af=>∃ag ah ai aj,ae=.tuple #[.agg #[iV ag,iV ah,iV ai],iV aj]/\wf Tp (YI 236 (aa7 (aa8 a)) (.agg #[iV ag,iV ah,iV ai])) af (λak=>∃al am an,zc ak (aa8 a) 0 [iV al,iV am,iV an]/\R (.tuple #[.agg #[iV al,iV am,iV an],iV aj]) ak)))))/\(((ze (s0.extract c.toNat (s0.size:Int).toNat) (0:Int).toNat:Int)==34)=Tc->((cond ((ze (s0.extract c.toNat (s0.size:Int).toNat) (0:Int).toNat:Int)==45) Ta (cond (hV ((ze (s0.extract c.toNat (s0.size:Int).toNat) (0:Int).toNat:Int)>=48)) (hV ((ze (s0.extract c.toNat (s0.size:Int).toNat) (0:Int).toNat:Int)<=57)) Tc))=Ta->∃ao,zd t (aa8 h)=Td (iV ao)/\aa4 399 #[aa6 (ad0:Bt)] t (λap aq=>∃ar:Value,ap=ar/\g6 aq t (aa8 h)/\aa4 398 #[aa6 (s0.extract c.toNat (s0.size:Int).toNat),ar] aq (λau av=>∃aw,au=iV aw/\g6 av t (aa8 h)/\∃ax,zd av (aa8 h)=Td (iV ax)/\(0<=ax/\ax<=(p3 (ao+aw))/\(p3 (ao+aw))<=(s0.size:Int))/\aa4 160 #[aa6 (s0.extract ax.toNat (p3 (ao+aw)).toNat)] av (λay az=>∃aA aB aC aD,ay=.tuple #[.agg #[aa9 aA,aa6 aB,iV aC],iV aD]/\let aE:=az.push (.cells #[aa9 Tc,aa6 (⟨#[]⟩:Bt),iV 0] 110);wf Tp (YI 110 (aa7 (aa8 az)) (.agg #[aa9 aA,aa6 aB,iV aC])) aE (λaF=>((aD != 0)=Ta->∃aG,zd aF (aa8 h)=Td (iV aG)/\zr Tp 397=Ta/\aa4 397 #[iV aG,iV aD] aF (λaH aI=>∃aJ aL aM aN,aH=.tuple #[.agg #[iV aJ,iV aL,iV aM],iV aN]/\wf Tp (YI 236 (aa7 (aa8 a)) (.agg #[iV aJ,iV aL,iV aM])) aI (λaO=>∃aP aQ aS,zc aO (aa8 a) 0 [iV aP,iV aQ,iV aS]/\R (.tuple #[.agg #[iV aP,iV aQ,iV aS],iV aN]) aO)))/\((aD != 0)=Tc->zr Tp 396=Ta/\aa4 396 #[iV 9,iV (p3 (ao+aw)),aa7 (aa8 h)] aF (λaT aU=>∃aV aW aX aY,aT=.tuple #[.agg #[iV aV,iV aW,iV aX],iV aY]/\wf Tp (YI 236 (aa7 (aa8 a)) (.agg #[iV aV,iV aW,iV aX])) aU (λaZ=>∃a0 a1 a2,zc aZ (aa8 a) 0 [iV a0,iV a1,iV a2]/\R (.tuple #[.agg #[iV a0,iV a1,iV a2],iV aY]) aZ))))))))/\((cond ((ze (s0.extract c.toNat (s0.size:Int).toNat) (0:Int).toNat:Int)==45) Ta (cond (hV ((ze (s0.extract c.toNat (s0.size:Int).toNat) (0:Int).toNat:Int)>=48)) (hV ((ze (s0.extract c.toNat (s0.size:Int).toNat) (0:Int).toNat:Int)<=57)) Tc))=Tc->aa4 398 #[aa6 (s0.extract c.toNat (s0.size:Int).toNat),.func (.func 401) #[] #[]] t (λa3 a4=>∃a5,a3=iV a5/\(0<=(0:Int)/\(0:Int)<=a5/\a5<=((s0.extract c.toNat (s0.size:Int).toNat).size:Int))/\aa4 402 #[aa6 ((s0.extract c.toNat (s0.size:Int).toNat).extract (0:Int).toNat a5.toNat)] a4 (λa6 a7=>∃a8,a6=iV a8/\((a8 != 0)=Ta->∃a9,zd a7 (aa8 h)=Td (iV a9)/\zr Tp 396=Ta/\aa4 396 #[iV a8,iV (p3 (a9+a5)),aa7 (aa8 h)] a7 (λba bb=>∃bc bd be bf,ba=.tuple #[.agg #[iV bc,iV bd,iV be],iV bf]/\wf Tp (YI 236 (aa7 (aa8 a)) (.agg #[iV bc,iV bd,iV be])) bb (λbg=>∃bh bi bj,zc bg (aa8 a) 0 [iV bh,iV bi,iV bj]/\R (.tuple #[.agg #[iV bh,iV bi,iV bj],iV bf]) bg)))/\((a8 != 0)=Tc->∃bk,zd a7 (aa8 h)=Td (iV bk)/\zr Tp 397=Ta/\aa4 397 #[iV bk,iV 2] a7 (λbl bm=>∃bn bo bp bq,bl=.tuple #[.agg #[iV bn,iV bo,iV bp],iV bq]/\wf Tp (YI 236 (aa7 (aa8 a)) (.agg #[iV bn,iV bo,iV bp])) bm (λbr=>∃bs bt bu,zc br (aa8 a) 0 [iV bs,iV bt,iV bu]/\R (.tuple #[.agg #[iV bs,iV bt,iV bu],iV bq]) br)))))))))))):aa4 375 #[aa6 s0,ab0 bz] h R:=XF ⟨[(9,8000),(16,8000)],[],[]⟩ [.cell 4 236,.tmp 5] 130 func375 H
def MZ(i:Option n8)(f:Int)(h:zb)(R:vvv) (H:aa4 336 #[.pointer i] h (λa b=>∃c,a=iV c/\((c != f)=Ta->R (aa9 Tc) b)/\((c != f)=Tc->aa4 337 #[.pointer i] b (λd e=>d=.tuple #[]/\R (aa9 Ta) e)))):aa4 376 #[.pointer i,ab0 f] h R:=XF ⟨[],[],[]⟩ [.tmp 4] 11 func376 H
def Wv(p0:Option n8)(af:Sl)(h:zb)(R:vvv) (H:let b:=h.push (.cells #[iV 0,iV 0] 234);aa4 288 #[.pointer p0] b (λc d=>∃e,c=iV e/\((e != 8)=Ta->aa4 230 #[.pointer p0,iV 2] d (λf g=>∃i,f=.bool i/\wf Tp (YI 234 (aa7 (aa8 h)) (.agg #[iV 0,iV 0])) g (λj=>∃k l,zc j (aa8 h) 0 [iV k,iV l]/\R (.tuple #[aa6 (⟨#[]⟩:Bt),.agg #[iV k,iV l],aa9 i]) j)))/\((e != 8)=Tc->∃m,p0=Td m/\∃n,zd d (YH m 1)=Td (aK n)/\∃o,p0=Td o/\∃p,zd d (YH o 2)=Td (iV p)/\∃q,(n.a=Td q/\0<=p/\p<n.len)/\∃r s,zc d (YH (q.add (p.toNat*3)) 1) 0 [iV r,iV s]/\let t:=d.push (.cells #[iV 0,iV 0] 234);g6 t d ((YH (q.add (p.toNat*3)) 1))/\g6 t d (YH o 2)/\g6 t d (YH m 1)/\wf Tp (YI 234 (aa7 (aa8 d)) (.agg #[iV r,iV s])) t (λu=>∃v,p0=Td v/\∃w,zd u (YH v 0)=Td (aa6 w)/\∃x,zd u (YH (aa8 d) 0)=Td (iV x)/\∃y,zd u (YH (aa8 d) 1)=Td (iV y)/\(0<=x/\x<=y/\y<=w.size)/\aa4 234 #[aa6 (w.extract x.toNat y.toNat)] u (λz A=>∃B C D,z=.tuple #[aa6 B,iV C,iV D]/\∃(E:ab7) (F:ab9),E 0 A/\∀G:Int,∀I:zb,E G I->((hV (G<af.len)=Ta->∃J,(af.a=Td J/\0<=G/\G<af.len)/\∃L,zd I (J.add (G.toNat*1))=Td (aa6 L)/\((L.toList==B.toList)=Ta->aa4 230 #[.pointer p0,iV 7] I (λM N=>∃O,M=.bool O/\wf Tp (YI 234 (aa7 (aa8 h)) (.agg #[iV 0,iV 0])) N (λP=>∃Q S,zc P (aa8 h) 0 [iV Q,iV S]/\R (.tuple #[aa6 (⟨#[]⟩:Bt),.agg #[iV Q,iV S],aa9 O]) P)))/\((L.toList==B.toList)=Tc->(E (p3 (G+1)) I/\F (p3 (G+1)) I<F G I)))/\(hV (G<af.len)=Tc->∃T,p0=Td T/\∃U,zd I (YH T 2)=Td (iV U)/\∃V,p0=Td V/\wf Tp (YI 3 (.pointer (Td (YH V 2))) (iV (p3 (U+1)))) I (λW=>∃X Y,zc W (aa8 d) 0 [iV X,iV Y]/\aa4 378 #[.pointer p0,iV 7] W (λZ aa=>∃ab,Z=.bool ab/\g6 aa W (aa8 d)/\g6 aa W (aa8 d)/\wf Tp (YI 234 (aa7 (aa8 h)) (.agg #[iV X,iV Y])) aa (λac=>∃ad ae,zc ac (aa8 h) 0 [iV ad,iV ae]/\R (.tuple #[aa6 B,.agg #[iV ad,iV ae],aa9 ab]) ac)))))))))):aa4 347 #[.pointer p0,.slice af.a af.len af.cap] h R:=XF ⟨[(3,8000),(4,8000),(11,8000)],[(6,[(11,.one (.int .i64))])],[]⟩ [.tmp 4,.cell 5 234,.tmp 6] 69 func347 H
def LO(s:Bt)(r:Int)(h:zb)(R:vvv) (H:((!(hV (r>=s.size)))=Ta->(0<=r/\r<s.size))/\((cond (hV (r>=s.size)) Ta ((ze s r.toNat:Int) != 34))=Ta->R (.tuple #[aa6 (⟨#[]⟩:Bt),iV r,iV 2]) h)/\((cond (hV (r>=s.size)) Ta ((ze s r.toNat:Int) != 34))=Tc->let a:=h.push (.cells #[.pointer Te,.slice Te 0 0] 89);∃(b:ab7) (c:ab9),b (p3 (r+1)) a/\∀d:Int,∀e:zb,b d e->((hV (d<s.size)=Ta->(0<=d/\d<s.size)/\(((ze s d.toNat:Int)==34)=Ta->aa4 70 #[aa7 (aa8 h)] e (λf g=>∃i,f=.string i/\R (.tuple #[aa6 i,iV (p3 (d+1)),iV 0]) g))/\(((ze s d.toNat:Int)==34)=Tc->(0<=d/\d<=s.size/\(s.size:Int)<=(s.size:Int))/\aa4 403 #[aa6 (s.extract d.toNat (s.size:Int).toNat)] e (λj k=>∃l m,j=.tuple #[.int .i32 l,iV m]/\((m==0)=Ta->R (.tuple #[aa6 (⟨#[]⟩:Bt),iV d,iV 2]) k)/\((m==0)=Tc->aa4 198 #[aa7 (aa8 h),.int .i32 l] k (λn o=>∃p,∃q:Value,n=.tuple #[iV p,q]/\(b (p3 (d+m)) o/\c (p3 (d+m)) o<c d e))))))/\(hV (d<s.size)=Tc->R (.tuple #[aa6 (⟨#[]⟩:Bt),iV (s.size:Int),iV 2]) e)))):aa4 377 #[aa6 s,ab0 r] h R:=XF ⟨[],[(5,[(1,.one (.int .i64))])],[]⟩ [.tmp 4,.tmp 5,.tmp 6] 51 func377 H
def Ul(i:Int)(k:Int)(c2:n8)(h:zb)(R:vvv) (H:let a:=h.push (.cells #[iV 0,iV 0,iV 0] 236);∃b,zd a c2=Td (iV b)/\wf Tp (YI 236 (aa7 (aa8 h)) (.agg #[iV i,iV b,iV k])) a (λc=>∃d e f,zc c (aa8 h) 0 [iV d,iV e,iV f]/\R (.tuple #[.agg #[iV d,iV e,iV f],iV 0]) c)):aa4 396 #[ab0 i,ab0 k,aa7 c2] h R:=XF ⟨[],[],[]⟩ [.cell 5 236,.tmp 6] 12 func396 H
def KG(m:Bt)(i:n5)(l:ab3)(k:ab3)(h:zb)(R:vvv) (H:∃(a:ab7) (b:ab9),a 0 h/\∀c:Int,∀d:zb,a c d->((hV (c<m.size)=Ta->(0<=c/\c<m.size)/\zr Tp i=Ta/\aa4 i (l++#[.int .u8 (ze m c.toNat)]++k) d (λe f=>∃g,e=.bool g/\((!g)=Ta->R (iV c) f)/\((!g)=Tc->(a (p3 (c+1)) f/\b (p3 (c+1)) f<b c d))))/\(hV (c<m.size)=Tc->R (iV (m.size:Int)) d))):aa4 398 #[aa6 m,.func (.func i) l k] h R:=XF ⟨[],[(2,[(8,.one (.int .i64))])],[]⟩ [.tmp 4] 21 func398 H
def Pe(b:Bt)(h:zb)(R:vvv) (H:let a:=h.push (.cells #[aa6 b] 9);R (.func (.func 406) #[] #[aa7 (aa8 h)]) a):aa4 399 #[aa6 b] h R:=XF ⟨[],[],[]⟩ [.tmp 2] 4 func399 H
def J3(m:Option n8)(l:Int)(h:zb)(R:vvv) (H:aa4 288 #[.pointer m] h (λa b=>∃c,a=iV c/\((c != l)=Ta->aa4 230 #[.pointer m,iV 2] b (λd e=>∃f,d=.bool f/\R (aa9 f) e))/\((c != l)=Tc->∃g,m=Td g/\∃i,zd b (YH g 2)=Td (iV i)/\∃j,m=Td j/\wf Tp (YI 3 (.pointer (Td (YH j 2))) (iV (p3 (i+1)))) b (λk=>R (aa9 Ta) k)))):aa4 378 #[.pointer m,ab0 l] h R:=XF ⟨[],[],[]⟩ [.tmp 4] 18 func378 H
def Vg(c0:Int)(c1:n8)(h:zb)(R:vvv) (H:∃a,zd h c1=Td (aa6 a)/\aa4 319 #[aa6 a,.int .u8 c0] h (λb c=>∃d,b=iV d/\R (aa9 (hV (d>=0))) c)):aa4 406 #[.int .u8 c0,aa7 c1] h R:=XF ⟨[],[],[]⟩ [.tmp 3] 8 func406 H
def Qv(s0:Bt)(aM:Int)(aL:Int)(h:zb)(R:vvv) (H:((s0.toList==(⟨#[]⟩:Bt).toList)=Ta->R (.tuple #[.int .u64 0,.iface 351 (iV 2)]) h)/\((s0.toList==(⟨#[]⟩:Bt).toList)=Tc->∀b:Bt->Int->zb->Prop,(∀c:Bt,∀d:Int,∀e:zb,(∀f:Int->zb->Prop,(∀g:Int,∀i:zb,(∀j:Int->zb->Prop,(∀k:Int,∀l:zb,(0<=(YG .u64 g)/\CA Tp (convert 9 87 (aa6 c)) l (λm n=>∃o,m=aK o/\∃(p:Bool->Int->Int->zb->Prop) (q:Bool->Int->Int->zb->Nat),p Tc 0 0 n/\∀r:Bool,∀s t:Int,∀u:zb,p r s t u->((hV (t<o.len)=Ta->∃v,(o.a=Td v/\0<=t/\t<o.len)/\∃w,zd u (v.add (t.toNat*1))=Td (.int .u8 w)/\∀x:Bool->Int->zb->Prop,(∀y:Bool,∀z:Int,∀A:zb,((hV (z>=(YG .u8 d))=Ta->R (.tuple #[.int .u64 0,.iface 351 (iV 2)]) A)/\(hV (z>=(YG .u8 d))=Tc->(hV (s>=k)=Ta->R (.tuple #[.int .u64 (YG .u64 ((YG .u64 (1*2 ^ (min (YG .u64 g).toNat 64)))-1)),.iface 351 (iV 1)]) A)/\(hV (s>=k)=Tc->((cond (hV ((YG .u64 ((YG .u64 (s*(YG .u64 d)))+(YG .u64 z)):Int)<(YG .u64 (s*(YG .u64 d))))) Ta (hV ((YG .u64 ((YG .u64 (s*(YG .u64 d)))+(YG .u64 z)):Int)>(YG .u64 ((YG .u64 (1*2 ^ (min (YG .u64 g).toNat 64)))-1)))))=Ta->R (.tuple #[.int .u64 (YG .u64 ((YG .u64 (1*2 ^ (min (YG .u64 g).toNat 64)))-1)),.iface 351 (iV 1)]) A)/\((cond (hV ((YG .u64 ((YG .u64 (s*(YG .u64 d)))+(YG .u64 z)):Int)<(YG .u64 (s*(YG .u64 d))))) Ta (hV ((YG .u64 ((YG .u64 (s*(YG .u64 d)))+(YG .u64 z)):Int)>(YG .u64 ((YG .u64 (1*2 ^ (min (YG .u64 g).toNat 64)))-1)))))=Tc->(p y (YG .u64 ((YG .u64 (s*(YG .u64 d)))+(YG .u64 z))) (p3 (t+1)) A/\q y (YG .u64 ((YG .u64 (s*(YG .u64 d)))+(YG .u64 z))) (p3 (t+1)) A<q r s t u)))))->x y z A)->((cond (w==95) (aM==0) Tc)=Ta->(p Ta s (p3 (t+1)) u/\q Ta s (p3 (t+1)) u<q r s t u))/\((cond (w==95) (aM==0) Tc)=Tc->((cond (hV ((48:Int)<=w)) (hV (w<=57)) Tc)=Ta->x r (YG .u8 (w-48)) u)/\((cond (hV ((48:Int)<=w)) (hV (w<=57)) Tc)=Tc->aa4 387 #[.int .u8 w] u (λB C=>∃D,B=.int .u8 D/\∃E:vvv,(hV ((97:Int)<=D)=Ta->aa4 387 #[.int .u8 w] C (λF G=>∃I,F=.int .u8 I/\E (.int .u8 I) G))/\(hV ((97:Int)<=D)=Tc->∃J,E (.int .u8 J) C)/\(hV ((97:Int)<=D)=Ta->∀L M,E L M->∃N,L=.int .u8 N)/\∀O:Int,∀P,E (.int .u8 O) P->((cond (hV ((97:Int)<=D)) (hV (O<=122)) Tc)=Ta->aa4 387 #[.int .u8 w] P (λQ S=>∃T,Q=.int .u8 T/\x r (YG .u8 ((YG .u8 (T-97))+10)) S))/\((cond (hV ((97:Int)<=D)) (hV (O<=122)) Tc)=Tc->R (.tuple #[.int .u64 0,.iface 351 (iV 2)]) P)))))/\(hV (t<o.len)=Tc->∃U:vvv,(r=Ta->aa4 388 #[aa6 s0] u (λV W=>∃X,V=.bool X/\U (aa9 X) W))/\(r=Tc->∃Y,U (aa9 Y) u)/\(r=Ta->∀Z aa,U Z aa->∃ab,Z=.bool ab)/\∀ac:Bool,∀ad,U (aa9 ac) ad->((cond r (!ac) Tc)=Ta->R (.tuple #[.int .u64 0,.iface 351 (iV 2)]) ad)/\((cond r (!ac) Tc)=Tc->R (.tuple #[.int .u64 s,.nilIface]) ad)))))->j k l)->((d==10)=Ta->j 1844674407370955162 i)/\((d==10)=Tc->((d==16)=Ta->j 1152921504606846976 i)/\((d==16)=Tc->IntKind.u64=IntKind.u64/\(YG .u64 d)≠0/\j (YG .u64 ((YG .u64 ((18446744073709551615:Int).tdiv (YG .u64 d)))+1)) i)))->f g i)->((aL==0)=Ta->f 64 e)/\((aL==0)=Tc->((cond (hV (aL<0)) Ta (hV (aL>64)))=Ta->R (.tuple #[.int .u64 0,.iface 351 (iV 4)]) e)/\((cond (hV (aL<0)) Ta (hV (aL>64)))=Tc->f aL e)))->b c d e)->((cond (hV ((2:Int)<=aM)) (hV (aM<=36)) Tc)=Ta->b s0 aM h)/\((cond (hV ((2:Int)<=aM)) (hV (aM<=36)) Tc)=Tc->((aM==0)=Ta->(0<=(0:Int)/\(0:Int)<(s0.size:Int))/\(((ze s0 (0:Int).toNat:Int)==48)=Ta->(hV ((s0.size:Int)>=3)=Ta->(0<=(1:Int)/\(1:Int)<(s0.size:Int)))/\∃ae:vvv,(hV ((s0.size:Int)>=3)=Ta->aa4 387 #[.int .u8 (ze s0 (1:Int).toNat)] h (λaf ag=>∃ah,af=.int .u8 ah/\ae (.int .u8 ah) ag))/\(hV ((s0.size:Int)>=3)=Tc->∃ai,ae (.int .u8 ai) h)/\(hV ((s0.size:Int)>=3)=Ta->∀aj ak,ae aj ak->∃al,aj=.int .u8 al)/\∀am:Int,∀an,ae (.int .u8 am) an->((cond (hV ((s0.size:Int)>=3)) (am==98) Tc)=Ta->(0<=(2:Int)/\(2:Int)<=(s0.size:Int)/\(s0.size:Int)<=(s0.size:Int))/\b (s0.extract (2:Int).toNat (s0.size:Int).toNat) 2 an)/\((cond (hV ((s0.size:Int)>=3)) (am==98) Tc)=Tc->(hV ((s0.size:Int)>=3)=Ta->(0<=(1:Int)/\(1:Int)<(s0.size:Int)))/\∃ao:vvv,(hV ((s0.size:Int)>=3)=Ta->aa4 387 #[.int .u8 (ze s0 (1:Int).toNat)] an (λap aq=>∃ar,ap=.int .u8 ar/\ao (.int .u8 ar) aq))/\(hV ((s0.size:Int)>=3)=Tc->∃au,ao (.int .u8 au) an)/\(hV ((s0.size:Int)>=3)=Ta->∀av aw,ao av aw->∃ax,av=.int .u8 ax)/\∀ay:Int,∀az,ao (.int .u8 ay) az->((cond (hV ((s0.size:Int)>=3)) (ay==111) Tc)=Ta->(0<=(2:Int)/\(2:Int)<=(s0.size:Int)/\(s0.size:Int)<=(s0.size:Int))/\b (s0.extract (2:Int).toNat (s0.size:Int).toNat) 8 az)/\((cond (hV ((s0.size:Int)>=3)) (ay==111) Tc)=Tc->(hV ((s0.size:Int)>=3)=Ta->(0<=(1:Int)/\(1:Int)<(s0.size:Int)))/\∃aA:vvv,(hV ((s0.size:Int)>=3)=Ta->aa4 387 #[.int .u8 (ze s0 (1:Int).toNat)] az (λaB aC=>∃aD,aB=.int .u8 aD/\aA (.int .u8 aD) aC))/\(hV ((s0.size:Int)>=3)=Tc->∃aE,aA (.int .u8 aE) az)/\(hV ((s0.size:Int)>=3)=Ta->∀aF aG,aA aF aG->∃aH,aF=.int .u8 aH)/\∀aI:Int,∀aJ,aA (.int .u8 aI) aJ->((cond (hV ((s0.size:Int)>=3)) (aI==120) Tc)=Ta->(0<=(2:Int)/\(2:Int)<=(s0.size:Int)/\(s0.size:Int)<=(s0.size:Int))/\b (s0.extract (2:Int).toNat (s0.size:Int).toNat) 16 aJ)/\((cond (hV ((s0.size:Int)>=3)) (aI==120) Tc)=Tc->(0<=(1:Int)/\(1:Int)<=(s0.size:Int)/\(s0.size:Int)<=(s0.size:Int))/\b (s0.extract (1:Int).toNat (s0.size:Int).toNat) 8 aJ))))/\(((ze s0 (0:Int).toNat:Int)==48)=Tc->b s0 10 h))/\((aM==0)=Tc->R (.tuple #[.int .u64 0,.iface 351 (iV 3)]) h)))):aa4 360 #[aa6 s0,ab0 aM,ab0 aL] h R:=XF ⟨[],[(36,[(12,.one (.bool)),(13,.one (.int .u64)),(101,.one (.int .i64))])],[(21,[(0,.one (.str)),(1,.one (.int .i64))]),(25,[(2,.one (.int .i64))]),(32,[(10,.one (.int .u64))]),(46,[(12,.one (.bool)),(16,.one (.int .u8))])]⟩ [.tmp 6,.tmp 7] 172 func360 H
def Mj(l:Bt)(k:Int)(i:Int)(h:zb)(R:vvv) (H:aa4 360 #[aa6 l,iV k,iV i] h (λa b=>∃c,∃d:Value,a=.tuple #[.int .u64 c,d]/\kf d=Ta/\((!kC d)=Ta->aa4 314 #[aa6 (⟨#[80,97,114,115,101,85,105,110,116]⟩:Bt),aa6 l,iV k,iV i,d] b (λe f=>∃g:Value,e=g/\R (.tuple #[.int .u64 c,g]) f))/\((!kC d)=Tc->R (.tuple #[.int .u64 c,.nilIface]) b))):aa4 411 #[aa6 l,ab0 k,ab0 i] h R:=XF ⟨[],[],[]⟩ [.tmp 6,.tmp 7] 26 func411 H
def Qq(aa:Sl)(u1:Int)(Y:Int)(Z:Bool)(b:Bool)(h:zb)(R:vvv) (H:∀c:zb->Prop,(∀d:zb,(let e:=d.push (.cells hZ 350);∀f:Int->zb->Prop,(∀g:Int,∀i:zb,(∀j:Int->zb->Prop,(∀k:Int,∀l:zb,(∀m:Int->zb->Prop,(∀n:Int,∀o:zb,((b=Ta->(0<=n/\n<=(65:Int)/\(65:Int)<=(65:Int))/\CA Tp (YN #[87,87] 87 #[aK aa,.slice (eL (Td (aa8 d)) 1 n.toNat 65) ((65:Int).toNat-n.toNat) (65-n.toNat)]) o (λp q=>∃r,p=aK r/\R (.tuple #[aK r,aa6 (⟨#[]⟩:Bt)]) q))/\(b=Tc->(0<=n/\n<=(65:Int)/\(65:Int)<=(65:Int))/\CA Tp (convert 87 9 (.slice (eL (Td (aa8 d)) 1 n.toNat 65) ((65:Int).toNat-n.toNat) (65-n.toNat))) o (λs t=>∃u,s=.string u/\R (.tuple #[.slice Te 0 0,aa6 u]) t)))->m n o)->(Z=Ta->∃v:n8,(Td (aa8 d)=Td v/\0<=(p3 (k-1))/\(p3 (k-1))<((65:Nat):Int))/\wf Tp (YI 5 (.pointer (Td (v.add ((p3 (k-1)).toNat*1)))) (.int .u8 45)) l (λw=>m (p3 (k-1)) w))/\(Z=Tc->m k l))->j k l)->aa4 354 #[iV Y] i (λx y=>∃z,x=.bool z/\(z=Ta->aa4 355 #[.int .u64 (YG .u64 Y)] y (λA B=>∃C,A=iV C/\∃(D:Int->Int->zb->Prop) (E:Int->Int->zb->Nat),D g 65 B/\∀F G:Int,∀I:zb,D F G I->((hV (F>=(YG .u64 Y))=Ta->(0<=(YG .u64 (((za9 (zan .u64) F) &&& (za9 (zan .u64) (YG .u64 ((YG .u64 Y)-1)))).toNat:Int):Int)/\(YG .u64 (((za9 (zan .u64) F) &&& (za9 (zan .u64) (YG .u64 ((YG .u64 Y)-1)))).toNat:Int):Int)<(((ad1:Bt)).size:Int))/\∃J:n8,(Td (aa8 d)=Td J/\0<=(p3 (G-1))/\(p3 (G-1))<((65:Nat):Int))/\wf Tp (YI 5 (.pointer (Td (J.add ((p3 (G-1)).toNat*1)))) (.int .u8 (ze (ad1:Bt) (YG .u64 (((za9 (zan .u64) F) &&& (za9 (zan .u64) (YG .u64 ((YG .u64 Y)-1)))).toNat:Int):Int).toNat))) I (λL=>0<=(YG .u64 C)/\(D (F.fdiv (2 ^ (min (YG .u64 C).toNat 64))) (p3 (G-1)) L/\E (F.fdiv (2 ^ (min (YG .u64 C).toNat 64))) (p3 (G-1)) L<E F G I)))/\(hV (F>=(YG .u64 Y))=Tc->(0<=F/\F<(((ad1:Bt)).size:Int))/\∃M:n8,(Td (aa8 d)=Td M/\0<=(p3 (G-1))/\(p3 (G-1))<((65:Nat):Int))/\wf Tp (YI 5 (.pointer (Td (M.add ((p3 (G-1)).toNat*1)))) (.int .u8 (ze (ad1:Bt) F.toNat))) I (λN=>j (p3 (G-1)) N)))))/\(z=Tc->∃(O:Int->Int->zb->Prop) (P:Int->Int->zb->Nat),O g 65 y/\∀Q S:Int,∀T:zb,O Q S T->((hV (Q>=(YG .u64 Y))=Ta->IntKind.u64=IntKind.u64/\(YG .u64 Y)≠0/\(0<=(YG .u64 (Q-(YG .u64 ((YG .u64 (Q.tdiv (YG .u64 Y)))*(YG .u64 Y)))):Int)/\(YG .u64 (Q-(YG .u64 ((YG .u64 (Q.tdiv (YG .u64 Y)))*(YG .u64 Y)))):Int)<(((ad1:Bt)).size:Int))/\∃U:n8,(Td (aa8 d)=Td U/\0<=(p3 (S-1))/\(p3 (S-1))<((65:Nat):Int))/\wf Tp (YI 5 (.pointer (Td (U.add ((p3 (S-1)).toNat*1)))) (.int .u8 (ze (ad1:Bt) (YG .u64 (Q-(YG .u64 ((YG .u64 (Q.tdiv (YG .u64 Y)))*(YG .u64 Y)))):Int).toNat))) T (λV=>(O (YG .u64 (Q.tdiv (YG .u64 Y))) (p3 (S-1)) V/\P (YG .u64 (Q.tdiv (YG .u64 Y))) (p3 (S-1)) V<P Q S T)))/\(hV (Q>=(YG .u64 Y))=Tc->(0<=Q/\Q<(((ad1:Bt)).size:Int))/\∃W:n8,(Td (aa8 d)=Td W/\0<=(p3 (S-1))/\(p3 (S-1))<((65:Nat):Int))/\wf Tp (YI 5 (.pointer (Td (W.add ((p3 (S-1)).toNat*1)))) (.int .u8 (ze (ad1:Bt) Q.toNat))) T (λX=>j (p3 (S-1)) X))))))->f g i)->(Z=Ta->f (YG .u64 (0-u1)) e)/\(Z=Tc->f u1 e))->c d)->((cond (cond (hV (Y<2)) Ta (Y==10)) Ta (hV (Y>36)))=Ta->False)/\((cond (cond (hV (Y<2)) Ta (Y==10)) Ta (hV (Y>36)))=Tc->c h)):aa4 303 #[.slice aa.a aa.len aa.cap,.int .u64 u1,ab0 Y,aa9 Z,aa9 b] h R:=XF ⟨[],[(11,[(1,.one (.int .u64)),(13,.one (.int .i64))]),(18,[(1,.one (.int .u64)),(13,.one (.int .i64))])],[(3,[]),(7,[(1,.one (.int .u64))]),(25,[(13,.one (.int .i64))]),(28,[(13,.one (.int .i64))])]⟩ [.tmp 10,.tmp 11] 102 func303 H
def Qw(B:Int)(A:Int)(h:zb)(R:vvv) (H:((A==10)=Ta->((cond (hV ((0:Int)<=B)) (hV (B<100)) Tc)=Ta->aa4 300 #[iV B] h (λb c=>∃d,b=.string d/\R (aa6 d) c))/\((cond (hV ((0:Int)<=B)) (hV (B<100)) Tc)=Tc->let e:=h.push (.cells hZ1 309);∀f:Int->zb->Prop,(∀g:Int,∀i:zb,(aa4 301 #[.int .u64 g] i (λj k=>∃l,j=iV l/\(0<=(1:Int)/\(1:Int)<=(p3 (1+l))/\(p3 (1+l))<=(24:Int))/\aa4 302 #[.slice (eL (Td (aa8 h)) 1 ((1:Int).toNat) 24) ((p3 (1+l)).toNat-(1:Int).toNat) (24-(1:Int).toNat),.int .u64 g] k (λm n=>m=.tuple #[]/\(hV (B<0)=Ta->∃o:n8,(Td (aa8 h)=Td o/\0<=(0:Int)/\(0:Int)<((24:Nat):Int))/\wf Tp (YI 5 (.pointer (Td (o.add ((0:Int).toNat*1)))) (.int .u8 45)) n (λp=>(0<=(0:Int)/\(0:Int)<=(p3 (1+l))/\(p3 (1+l))<=(24:Int))/\CA Tp (convert 87 9 (.slice (eL (Td (aa8 h)) 1 ((0:Int).toNat) 24) ((p3 (1+l)).toNat-(0:Int).toNat) (24-(0:Int).toNat))) p (λq r=>∃s,q=.string s/\R (aa6 s) r)))/\(hV (B<0)=Tc->(0<=(1:Int)/\(1:Int)<=(p3 (1+l))/\(p3 (1+l))<=(24:Int))/\CA Tp (convert 87 9 (.slice (eL (Td (aa8 h)) 1 ((1:Int).toNat) 24) ((p3 (1+l)).toNat-(1:Int).toNat) (24-(1:Int).toNat))) n (λt u=>∃v,t=.string v/\R (aa6 v) u)))))->f g i)->(hV (B<0)=Ta->f (YG .u64 (0-(YG .u64 B))) e)/\(hV (B<0)=Tc->f (YG .u64 B) e)))/\((A==10)=Tc->aa4 303 #[.slice Te 0 0,.int .u64 (YG .u64 B),iV A,aa9 (hV (B<0)),aa9 Tc] h (λw x=>∃y z,w=.tuple #[aK y,aa6 z]/\R (aa6 z) x))):aa4 249 #[ab0 B,ab0 A] h R:=XF ⟨[],[],[(8,[(6,.one (.int .u64))])]⟩ [.tmp 4] 54 func249 H
end
section
variable {gl:Fr} {R:Bool -> Prop}
def LH{D:Bs}(k:Nat):zo (D.take k)<=zo D:=by
 conv=>rhs;rw[<-zba k D,Xs]
 have:1<=10 ^ (D.drop k).length:=Nat.one_le_pow _ _ ζ
 calc zo (D.take k)=zo (D.take k)*1:=ω
  _<=zo (D.take k)*10 ^ (D.drop k).length:=Nat.mul_le_mul_left _ this
  _<=_:=ω
def Uw{n:Nm}(H:n.2.1.length<=4611686018427387904){R:Int×Bool->Prop}(h:R (mM n)):aa5 gl 225 [qr tN (fD n)] [.int .i64,.bool] R:=by
 apply Vf;refine HW H ?_;unfold mM at h;cases hr:qy n with
 |false=>simp_all
 |true=>
  have⟨O,G,F⟩:=Yy hr;rw[hr]at h;simp only[zbb]at h;simp only[zf,zx];rw[bR ω];refine⟨λA=>?_,λA=>?_⟩;grind
  ·have B:0<=n.2.2/\(DB n.2.1:Int)+n.2.2<=19:=by simp at A;omega
   rw[zi φ]at h;rw[<-Gr]at h;have t:=Dk hr;have r:((xe n).length:Int)=(DB n.2.1:Int)+n.2.2:=by rw[xe,YM,zb3];omega
   rw[<-r];have C:∀k (o:k<(xe n).length),k<DB n.2.1->n.2.1[k]?.getD 0=(xe n)[k]:=by intro k o c;rw[Yw c];simp only[xe];rw[List.getElem_append_left c]
   have y:∀k (o:k<(xe n).length),¬k<DB n.2.1->(xe n)[k]=48:=by intro k o c;simp only[xe];rw[List.getElem_append_right ω,List.getElem_replicate]
   generalize xe n=D at *;refine⟨λv i=>∃k:Nat,i=k/\k<=DB D/\v=-(zo (D.take k):Int)/\zo (D.take k)<=9223372036854775808,λ_ i=>DB D-i.toNat,⟨0,rfl,ω,by simp[zo],by simp[zo]⟩,?_⟩;rintro v i ⟨k,rfl,o,rfl,L⟩;refine⟨λq=>?_,λq=>?_⟩
   ·have b:k<DB D:=by simp at q;omega
    have N:=r9 t b;have step:∀d:Int,d=(D[k].toNat:Int)-48->(True/\(10:Int)≠0/\((hV ((-(zo (D.take k):Int))<(p3 ((p3 ((-9223372036854775808)+d)).tdiv 10))))=Ta->R (0,Tc)) /\
     ((hV ((-(zo (D.take k):Int))<(p3 ((p3 ((-9223372036854775808)+d)).tdiv 10))))=Tc->((∃p:Nat,(p3 ((k:Int)+1))=p/\p<=DB D/\(p3 ((p3 (10*(-(zo (D.take k):Int))))-d))=-(zo (D.take p):Int)/\zo (D.take p)<=9223372036854775808)/\DB D-(p3 ((k:Int)+1)).toNat<DB D-((k:Int)).toNat))):=by
     intro d E;have M:0<=d/\d<=9:=ω
     obtain⟨m,I⟩:∃m:Nat,(-9223372036854775808+d:Int)=-(m:Int):=⟨(9223372036854775808-d).toNat,ω⟩;have J:(-(m:Int)).tdiv 10=-((m / 10:Nat):Int):=by rw[Int.neg_tdiv];rfl
     rw[Fm (n:=-9223372036854775808+d) ω ω,I,J,Fm (n:=-((m / 10:Nat):Int)) ω ω];refine⟨trivial,ω,λe=>?_,λe=>?_⟩;have s:-(zo (D.take k):Int) < -((m / 10:Nat):Int):=ψ e
     have z:9223372036854775808<zo (D.take (k+1)):=by rw[xw b];omega
     have:=LH (D:=D) (k+1);grind;have s:¬-(zo (D.take k):Int) < -((m / 10:Nat):Int):=ψ e
     have l:zo (D.take (k+1))<=9223372036854775808:=by rw[xw b];omega
     have f:=l;rw[xw b]at f;rw[qo b ω,Fm (n:=10*_) ω ω,Fm (n:=10*_-d) ω ω];refine⟨⟨k+1,rfl,ω,?_,l⟩,ω⟩;rw[xw b];omega
    intro K x;simp only[YL];refine⟨λe=>⟨η,x _ (step _ ?_)⟩,λe=>x _ (step _ ?_)⟩;grind [yV,bR];simp_all
   have b:k=DB D:=by simp at q;omega
   subst b;rw[ZX]at L ⊢;refine⟨λw=>?_,λw=>⟨λe=>?_,λe=>?_⟩⟩;grind;simp_all;have u:n.1=Tc:=w;rw[u]at h;simp only[zaq,if_false]at h;rw[zi η]at h;grind [Fm]
def Ro(c:GL gl){s:Bs}(b:s.length<=1152921504606846976)(h:R (sw s)):aa5 gl 150 [qr .str (bl s)] [.bool] R:=by apply Lj;refine uO c b (UF c (n:=(fI s).1) (wz s b) ?_);simp only[zbo];exact h
theorem Zp(v:Tr):Tr.mk v.Wf v.aa0 v.XK v.WT=v:=by cases v;rfl
def kB{l:List Tr}{k:Nat}(h:k<DB l):l[((k:Int)).toNat]?=Td l[k]:=ξ
def AI{gl:Fr}(v:Tr)(r:cK v<=1000000000000){R:ac6}(h:R (cK v:Int)):aa5 gl 43 [qr .tree v] [.int .i64] R:=by
 apply Pf;have e:=xq v.WT;have o:=yo v;refine⟨λn i=>∃k:Nat,i=k/\k<=v.WT.length/\n=((1+Ze (v.WT.take k):Nat):Int),λ_ i=>v.WT.length-i.toNat,⟨0,rfl,ω,by simp[Ze]⟩,?_⟩;rintro n i ⟨k,rfl,q,rfl⟩;refine⟨λc=>?_,λc=>?_⟩;have b:k<v.WT.length:=by simp at c;omega
 refine⟨v.WT[k],⟨ω,kB b⟩,?_⟩;rw[Zp];have l:v.WT[k]∈v.WT:=YY b;have f:=yc l;have m:Ze (v.WT.take (k+1))<=Ze v.WT:=by have:=Xt (v.WT.take (k+1)) (v.WT.drop (k+1));rw[zba]at this;omega
 have p:=GV b;refine AI (v.WT[k]) ω ?_;rw[qo b ω,bR ω];grind;grind
termination_by cK v
def xM{gl:Fr}(v:Tr)(r:cK v<=1000000000000){R:ac6}(h:R (cK v:Int)):aa5 gl 102 [qr .tree v] [.int .i64] R:=by
 apply U0;have e:=xq v.WT;have o:=yo v;refine⟨λn i=>∃k:Nat,i=k/\k<=v.WT.length/\n=((1+Ze (v.WT.take k):Nat):Int),λ_ i=>v.WT.length-i.toNat,⟨0,rfl,ω,by simp[Ze]⟩,?_⟩;rintro n i ⟨k,rfl,q,rfl⟩;refine⟨λc=>?_,λc=>?_⟩;have b:k<v.WT.length:=by simp at c;omega
 refine⟨v.WT[k],⟨ω,kB b⟩,?_⟩;rw[Zp];have l:v.WT[k]∈v.WT:=YY b;have f:=yc l;have m:Ze (v.WT.take (k+1))<=Ze v.WT:=by have:=Xt (v.WT.take (k+1)) (v.WT.drop (k+1));rw[zba]at this;omega
 have p:=GV b;refine xM (v.WT[k]) ω ?_;rw[qo b ω,bR ω];grind;grind
termination_by cK v
def EO{gl:Fr}(v:Tr)(s:cK v<=1000000000000){R:ac6}(h:R (eM v:Int)):aa5 gl 144 [qr .tree v] [.int .i64] R:=by
 apply WK;have e:=xq v.WT;have p:=yo v;have f:=sj v.WT;have o:=jR v;refine⟨λn i=>∃k:Nat,i=k/\k<=v.WT.length/\n=((en (v.WT.take k):Nat):Int),λ_ i=>v.WT.length-i.toNat,⟨0,rfl,ω,by simp[en]⟩,?_⟩;rintro n i ⟨k,rfl,r,rfl⟩;refine⟨λc=>?_,λc=>?_⟩;have b:k<v.WT.length:=by simp at c;omega
 refine⟨v.WT[k],⟨ω,kB b⟩,?_⟩;rw[Zp];have m:v.WT[k]∈v.WT:=YY b;have l:=yc m;have q:=EK b;refine EO (v.WT[k]) ω ?_;rw[qo b ω];refine⟨⟨k+1,rfl,ω,?_⟩,η⟩;omega;grind [bR]
termination_by cK v
def zQ{gl:Fr}(v:Tr)(s:cK v<=1000000000000){R:ac6}(h:R (eM v:Int)):aa5 gl 103 [qr .tree v] [.int .i64] R:=by
 apply VI;have e:=xq v.WT;have p:=yo v;have f:=sj v.WT;have o:=jR v;refine⟨λn i=>∃k:Nat,i=k/\k<=v.WT.length/\n=((en (v.WT.take k):Nat):Int),λ_ i=>v.WT.length-i.toNat,⟨0,rfl,ω,by simp[en]⟩,?_⟩;rintro n i ⟨k,rfl,r,rfl⟩;refine⟨λc=>?_,λc=>?_⟩;have b:k<v.WT.length:=by simp at c;omega
 refine⟨v.WT[k],⟨ω,kB b⟩,?_⟩;rw[Zp];have m:v.WT[k]∈v.WT:=YY b;have l:=yc m;have q:=EK b;refine zQ (v.WT[k]) ω ?_;rw[qo b ω];refine⟨⟨k+1,rfl,ω,?_⟩,η⟩;omega;grind [bR]
termination_by cK v
def DY{v:Tr}(b:Sm v)(h:R (wy v)):aa5 gl 86 [qr .tree v] [.bool] R:=by
 apply Ka;rw[Zp];refine AI v b.sz ⟨λr=>r=(eM v:Int),λ_=>EO v b.sz rfl,λr c=>?_⟩;have e:(cond (hV ((cK v:Int)<=4096)) (hV (r<=32)) Tc)=wy v:=by
  unfold wy;cases hc:hV ((cK v:Int)<=4096)with
  |false=>grind
  |true=>grind
 rw[e];exact h
end
section
def SB(w:Sl)(x:Int)(h:zb)(R:vvv) (H:let b:=h.push (.map #[] 0);∃(c:ab7) (d:ab9),c 0 b/\∀e:Int,∀f:zb,c e f->((hV (e<w.len)=Ta->∃g,(w.a=Td g/\0<=e/\e<w.len)/\∃i,zd f (g.add (e.toNat*1))=Td (aa6 i)/\∃j,At Tp (zc0 213 (.map (Td h.size)) (aa6 i) Tc) f (aa9 j)/\∃k:vvv,((!j)=Ta->aa4 149 #[aa6 i] f (λl m=>∃n,l=.bool n/\k (aa9 n) m))/\((!j)=Tc->∃o,k (aa9 o) f)/\((!j)=Ta->∀p q,k p q->∃r,p=.bool r)/\∀s:Bool,∀t,k (aa9 s) t->((cond j Ta (!s))=Ta->R (aa9 Tc) t)/\((cond j Ta (!s))=Tc->wf Tp (zbk 213 (.map (Td h.size)) (aa6 i) (aa9 Ta)) t (λu=>(c (p3 (e+1)) u/\d (p3 (e+1)) u<d e f))))/\(hV (e<w.len)=Tc->R (aa9 ((w.len:Int)==x)) f))):aa4 147 #[.slice w.a w.len w.cap,ab0 x] h R:=XF ⟨[],[(3,[(13,.one (.int .i64))])],[]⟩ [.tmp 4] 32 func147 H
def we(k:Sl)(f:n5)(e:ab3)(i:ab3)(h:zb)(R:vvv) (H:aa4 208 #[aK k,.func (.func f) e i] h (λb c=>∃d,b=iV d/\R (aa9 (hV (d>=0))) c)):aa4 145 #[.slice k.a k.len k.cap,.func (.func f) e i] h R:=XF ⟨[],[],[]⟩ [.tmp 4] 9 func145 H
def w7(p:Sl)(o:n5)(q:ab3)(r:ab3)(h:zb)(R:vvv) (H:∃(b:ab7) (c:ab9),b 0 h/\∀d:Int,∀e:zb,b d e->((hV (d<p.len)=Ta->∃f,(p.a=Td f/\0<=d/\d<p.len)/\∃g i j k,zc e (f.add (d.toNat*4)) 0 (tL g i j k)/\zr Tp o=Ta/\aa4 o (q++#[tA g i j k]++r) e (λl m=>∃n,l=.bool n/\(n=Ta->R (iV d) m)/\(n=Tc->(b (p3 (d+1)) m/\c (p3 (d+1)) m<c d e))))/\(hV (d<p.len)=Tc->R (iV (-1)) e))):aa4 208 #[.slice p.a p.len p.cap,.func (.func o) q r] h R:=XF ⟨[],[(2,[(8,.one (.int .i64))])],[]⟩ [.tmp 4] 19 func208 H
def WP(b:Int)(c:Bt)(d:Sl)(e:Sl)(c1:n8)(h:zb)(R:vvv) (H:let f:=h.push (.cells #[iV b,aa6 c,aK d,aK e] 25);∃g i j k,zc f (aa8 h) 0 (tL g i j k)/\∃l:Value,zd f c1=Td l/\aa4 87 #[tA g i j k,l] f (λm n=>∃o,m=.bool o/\R (aa9 (!o)) n)):aa4 146 #[.agg #[ab0 b,aa6 c,.slice d.a d.len d.cap,.slice e.a e.len e.cap],aa7 c1] h R:=XF ⟨[],[],[]⟩ [.tmp 3] 8 func146 H
def Kj(b:Int)(c:Bt)(d:Sl)(e:Sl)(E:n5)(D:ab3)(F:ab3)(h:zb)(R:vvv) (H:let f:=h.push (.cells #[iV b,aa6 c,aK d,aK e] 25);let g:=f.push (.cells #[.func (.func E) D F] 37);∃i:Value,zd g (aa8 f)=Td i/\∃j k l m,zc g (aa8 h) 0 (tL j k l m)/\oF Tp i #[tA j k l m] (λn o=>aa4 n o g (λp q=>∃r,p=.bool r/\∃s,(r=Ta->zd q (YH (aa8 h) 3)=Td (aK s))/\∃t:vvv,(r=Ta->aa4 145 #[aK s,.func (.func 146) #[] #[aa7 (aa8 f)]] q (λu v=>∃w,u=.bool w/\t (aa9 w) v))/\(r=Tc->∃x,t (aa9 x) q)/\(r=Ta->∀y z,t y z->∃A,y=.bool A)/\∀B:Bool,∀C,t (aa9 B) C->R (aa9 (cond r (!B) Tc)) C))):aa4 87 #[.agg #[ab0 b,aa6 c,.slice d.a d.len d.cap,.slice e.a e.len e.cap],.func (.func E) D F] h R:=XF ⟨[],[],[]⟩ [.tmp 4] 15 func87 H
def UL(b:Int)(c:Bt)(d:Sl)(e:Sl)(h:zb)(R:vvv) (H:let f:=h.push (.cells #[iV b,aa6 c,aK d,aK e] 25);∃g i j k,zc f (aa8 h) 0 (tL g i j k)/\aa4 86 #[tA g i j k] f (λl m=>∃n,l=.bool n/\∃o p q r,(n=Ta->zc m (aa8 h) 0 (tL o p q r))/\∃s:vvv,(n=Ta->aa4 87 #[tA o p q r,.func (.func 89) #[] #[]] m (λt u=>∃v,t=.bool v/\s (aa9 v) u))/\(n=Tc->∃w,s (aa9 w) m)/\(n=Ta->∀x y,s x y->∃z,x=.bool z)/\∀A:Bool,∀B,s (aa9 A) B->R (aa9 (cond n A Tc)) B)):aa4 83 #[.agg #[ab0 b,aa6 c,.slice d.a d.len d.cap,.slice e.a e.len e.cap]] h R:=XF ⟨[],[],[]⟩ [.tmp 2] 9 func83 H
def wn(b0:Option n8)(c1:Int)(h:zb)(R:vvv) (H:aa4 123 #[.pointer b0] h (λb c=>b=.tuple #[]/\∃d,b0=Td d/\∃e,zd c (YH d 1)=Td (aK e)/\let f:=c.push (.cells #[.int .u8 c1] 5);CA Tp (YN #[87,87] 87 #[aK e,.slice (Td (aa8 c)) 1 1]) f (λg i=>∃j,g=aK j/\∃k,b0=Td k/\wf Tp (YI 87 (.pointer (Td (YH k 1))) (aK j)) i (λl=>R (.nilIface) l)))):aa4 133 #[.pointer b0,.int .u8 c1] h R:=XF ⟨[],[],[]⟩ [.tmp 4] 17 func133 H
def jz(b0:Option n8)(s1:Bt)(h:zb)(R:vvv) (H:aa4 123 #[.pointer b0] h (λb c=>b=.tuple #[]/\∃d,b0=Td d/\∃e,zd c (YH d 1)=Td (aK e)/\CA Tp (YN #[87,9] 87 #[aK e,aa6 s1]) c (λf g=>∃i,f=aK i/\∃j,b0=Td j/\wf Tp (YI 87 (.pointer (Td (YH j 1))) (aK i)) g (λk=>R (.tuple #[iV (s1.size:Int),.nilIface]) k)))):aa4 68 #[.pointer b0,aa6 s1] h R:=XF ⟨[],[],[]⟩ [.tmp 4,.tmp 5] 19 func68 H
end
section
variable {gl:Fr}
def FM:MapT Tp 213 9 4 (aa9 Tc):=⟨κ,κ,⟨Tryz.t4,κ,κ⟩⟩
def XE(hg:GL gl){ks:List Bt}{n:Int}(hk:∀k∈ks,(lb k).length<=1048576){R:ac4}(h:R (yh ks&&hV ((DB ks:Int)=n))):aa5 gl 147 [qr (.row .str) ks,qr q0 n] [.bool] R:=by
 intro p M vs hM ag ha
 match vs,ha with
 |[u,w],⟨h1,h2,_⟩=>
  obtain⟨s,rfl,hr⟩:=lr h1;have hw:=qn h2;subst hw;have hr:Rd M (.row .str) ks [aK s]:=hr;have⟨J,an,am⟩:=Bx hr;apply PX.of;apply SB s n;intro Z;have kg:Bk p.size p Z:=Bk.push _ _ (YJ _);have sg:Z.size=p.size+1:=YW _;have mg:LE Z p.size []:=LE.new p;clear_value Z;refine⟨λi Y=>∃k:Nat,i=k/\k<=DB ks/\p.size<Y.size/\(∃Q,wr p M Y Q/\Q p.size=Te)/\(∃l,LE Y p.size l/\∀x,gF l x (aa9 Tc)=.bool (hV (x∈ks.take k)))/\yh (ks.take k)=Ta,λi _=>DB ks-i.toNat,⟨0,rfl,ω,ω,⟨M,up ag kg,ag.none (YJ _)⟩,⟨[],mg,λx=>rfl⟩,by simp[yh]⟩,?_⟩;rintro i Y ⟨k,rfl,ak,C,⟨Q,B,P⟩,⟨l,E,S⟩,D⟩;refine⟨λhc=>?_,λhc=>?_⟩;have q:k<DB ks:=by simp at hc;omega
  have ah:=Rd.mono B.le hr;refine gS B.ag ah q rfl rfl ?_;have N:=Xg FM E ks[k] Tc;rw[S]at N;refine⟨hV (ks[k]∈ks.take k),N,?_⟩;have f:=Hx hg.tabs (l:=lb ks[k]) (R:=λb=>b=xn (lb ks[k])) (χ (hk _ (YY q))) rfl;rw[Zz]at f;generalize hd:hV (ks[k]∈ks.take k)=d;refine⟨λv H=>∃b,v=.bool b/\(d=Tc->b=xn (lb ks[k]))/\p.size<H.size/\(∃F,wr p M H F/\F p.size=Te)/\LE H p.size l,λhn=>?_,λhn=>⟨Ta,Ta,rfl,λe=>(by rw[e]at hn;cases hn),C,⟨Q,B,P⟩,E⟩,λ_ v H ⟨b,e,_⟩=>⟨b,e⟩,?_⟩;refine f.go (vs:=[aa6 ks[k]]) (hM.trans B.le) B.ag (zn (DH _) zw) λv H F r y O af=>⟨r,ez O,r,rfl,λ_=>af,χ y.aa1.size,⟨F,B.trans y,by rw[y.old _ C,P]⟩,E.aa1 (y.aa1.get _ C)⟩;rintro b H ⟨b',e,I,aj,⟨F,y,L⟩,ai⟩;cases e;have U:ks.take (k+1)=ks.take k++[ks[k]]:=YP q;have V:yh (ks.take (k+1))=(!d&&xn (lb ks[k])):=by
   have o:=D;unfold yh at o ⊢;rw[YR,zA]at o;rw[U,zcr,o.1,<-hd];have:hV (List.take k ks++[ks[k]]).Nodup=!hV (ks[k]∈ks.take k):=by rw[ZI];simp only[zA,Bool.not_eq_true',decide_eq_false_iff_not,List.nodup_append];constructor;rintro⟨_,_,h3⟩ t;exact h3 _ t _ ξ rfl;intro t;exact⟨o.2,ξ,λa ha b I e=>t (by simp at I;rw[<-I,<-e];exact ha)⟩
   rw[this];simp[Bool.and_comm]
  refine⟨λz=>?_,λz=>?_⟩;refine⟨F,_,y,Yu.2 (Fk _),?_⟩;have hf:yh (ks.take (k+1))=Tc:=by
   rw[V];cases d with
   |true=>rfl
   |false=>rw[I rfl]at z;simpa using z
  have ae:yh ks=Tc:=by
   cases hks:yh ks with
   |false=>rfl
   |true=>
    unfold yh at hks hf;rw[YR,zA]at hks;have h1:((ks.take (k+1)).all λk=>xn (lb k))=Ta:=by rw[ZB]at hks ⊢;exact λx z=>hks.1 x (List.mem_of_mem_take z)
    have h2:(ks.take (k+1)).Nodup:=hks.2.sublist (List.take_sublist _ _);rw[h1,zD h2]at hf;cases hf
  rw[ae]at h;exact h;have G:d=Tc:=by cases d with
   |true=>simp at z
   |false=>rfl
  have ab:xn (lb ks[k])=Ta:=by rw[<-I G];rw[G]at z;simpa using z
  refine Gn FM ai ks[k] (aa9 Ta) λh6 m6 s6 o6=>?_;rw[qo q ω];refine⟨⟨k+1,rfl,ω,ω,⟨F,⟨⟨χ y.aa1.size,λi hi=>by rw[o6 i ω];exact y.aa1.get i hi⟩,y.le,y.old,?_⟩,L⟩,⟨_,m6,λx=>?_⟩,by rw[V,G,ab];rfl⟩,by simp only[YL];omega⟩;intro b c e;have aa:b≠p.size:=λe2=>by rw[e2,L]at e;cases e
  have⟨T,m,e'⟩:=y.ag b c e;exact⟨T,m,by rw[o6 b aa];exact e'⟩;unfold gF;rw[GN,U];by_cases A:ks[k]=x;subst A;rw[zi rfl];simp only[ZF,za8,or_true,decide_true,Option.getD_some];rw[za A];have:=S x;unfold gF at this;rw[this];congr 1;rw[ZI,zA,zA,ZF,za8];exact⟨.inl,λe=>e.elim id λe=>absurd e.symm A⟩;have q:k=DB ks:=by simp at hc;omega
  subst q;rw[ZX]at D;refine⟨Q,_,B,Yu.2 (Fk _),?_⟩;rw[D,zbb]at h;have:(((s.len:Nat):Int)==n)=hV ((DB ks:Int)=n):=by rw[J,ZI];simp
  rw[this];exact h
def Lr(gl:Fr)(F:n5)(A C:Array Value)(h:zb)(M:Fr)(t:Ty)(x:El t)(b:Bool):Prop:=
 zr Tp F=Ta/\∀h' M' u,wr h M h' M'->RdV M' t x u->PX Tp F (A++#[u]++C) h' M' [.bool] (λr=>r=b)
def RO{F:n5}{A C:ab3}{h:zb}{M:Fr}(ag:AgM M h){xs:List Tr}{s:Sl}(z:Rd M (.row .tree) xs [aK s]){p:Tr->Bool}(t:∀x∈xs,Lr gl F A C h M .tree x (p x)):PX Tp 145 #[aK s,.func (.func F) A C] h M [.bool] (λr=>r=xs.any p):=by
 apply PX.of;apply we s F A C;apply w7 s F A C;have⟨y,I,D⟩:=Bx z;refine⟨λi n=>∃k:Nat,i=k/\k<=DB xs/\(∃m,wr h M n m)/\(xs.take k).any p=Tc,λi _=>DB xs-i.toNat,⟨0,rfl,ω,⟨M,wr.refl ag⟩,ξ⟩,?_⟩;rintro i n ⟨k,rfl,J,⟨m,e⟩,c⟩;refine⟨λq=>?_,λq=>?_⟩;have b:k<DB xs:=by simp at q;omega
 have⟨a,sk,si,E,B,G,H⟩:=ie e.ag (Rd.mono e.le z) b;refine⟨a,⟨E,ω,ω⟩,xs[k].Wf,xs[k].aa0,sk,si,by rw[YL];exact B,(t _ (YY b)).1,?_⟩;refine((t _ (YY b)).2 n m _ e (qe G H)).go λv L u r w f l=>⟨r,ez f,λo=>?_,λo=>?_⟩;refine⟨(k:Int),rfl,u,_,e.trans w,Yu.2 (Fk _),?_⟩;have:xs.any p=Ta:=List.any_eq_true.2 ⟨xs[k],YY b,by rw[<-l];exact o⟩;rw[this];simp;rw[qo b ω];refine⟨⟨k+1,rfl,ω,⟨u,e.trans w⟩,?_⟩,by simp only[YL];omega⟩;rw[YP b,List.any_append,c];simp only[List.any_cons,List.any_nil,<-l,o];rfl;have b:k=DB xs:=by simp at q;omega
 subst b;rw[ZX]at c;refine⟨-1,rfl,m,_,e,Yu.2 (Fk _),?_⟩;rw[c];rfl
end
section
variable {l ks:List Bt} {k:Nat} {gl:Fr} {v:Tr} {R:Bool -> Prop} {F:n5}
theorem C9:hV (((DB l:Nat):Int)>0)=!l.isEmpty:=by cases l <;> simp
theorem FF{l:List Tr}:hV (((DB l:Nat):Int)>0)=!l.isEmpty:=by cases l <;> simp
theorem O8(s:Bt):(s.toList==(⟨#[]⟩:Bt).toList)=(lb s==[]):=by have:=fS (lb s) [];rw[Zz]at this;grind
theorem wC(s:Bt)(l:Bs):(s.toList==(bl l).toList)=(lb s==l):=by have:=fS (lb s) l;rw[Zz]at this;grind
theorem pW{k n:Int}:(k==n)=hV (k=n):=η
def BI(i:GL gl)(B:Sm v)(h:R (zq v)):aa5 gl 89 [qr .tree v] [.bool] R:=by
 apply PT;have o:(lb v.aa0).length<=1152921504606846976:=χ B.aa0
 have key:∀b,b=zq v->R b:=λb D=>η
 have C:=uO i (s:=lb v.aa0) (R:=λr=>R r.2\/v.Wf≠3) o;have f:=Hx i.tabs (l:=lb v.aa0) (R:=λr=>r=xn (lb v.aa0)) ω rfl;have m:=Ro i (s:=lb v.aa0) (R:=λr=>r=sw (lb v.aa0)) o rfl;have n:=uO i (s:=lb v.aa0) (R:=λr=>r.2=(fI (lb v.aa0)).2) o rfl;rw[Zz]at f m n;simp only[pW,C9,FF,show(⟨#[116,114,117,101]⟩:Bt)=bl [116,114,117,101]from rfl,show(⟨#[102,97,108,115,101]⟩:Bt)=bl [102,97,108,115,101]from rfl,wC];unfold zq at key;refine⟨λx=>key _ ?_,λx=>⟨λt=>?_,λt=>⟨λA=>key _ ?_,λA=>?_⟩⟩⟩;grind;have c:v.Wf=6:=ψ t
 refine XE i (λk q=>B.key q) (key _ ?_);simp only[c];grind;grind;have p:v.Wf≠5:=ψ x
 have c:v.Wf≠6:=ψ t
 have e:v.XK.isEmpty=Ta/\v.WT.isEmpty=Ta:=by cases q:v.XK.isEmpty <;> cases hi:v.WT.isEmpty <;> simp[q,hi]at A ⊢
 simp only[p,c,if_false,e.1,e.2,zb9]at key;refine⟨λh1=>key _ ?_,λh1=>⟨λh2=>key _ ?_,λh2=>⟨λz=>?_,λz=>⟨λu=>?_,λu=>⟨λw=>?_,λw=>key _ ?_⟩⟩⟩⟩⟩;grind;grind;have:v.Wf=3:=ψ z
 exact n.mono λr y=>key _ η;have:v.Wf=4:=ψ u
 exact f.mono λr y=>key _ η;have:v.Wf=7:=ψ w
 exact m.mono λr y=>key _ η;simp_all
def lN(h:k<DB l):l[((k:Int)).toNat]?=Td l[k]:=ξ
theorem wD(b:k<DB ks):yh (ks.take (k+1))=(yh (ks.take k)&&(xn (lb ks[k]) && !hV (ks[k]∈ks.take k))):=by unfold yh;rw[YP b,zcr];grind
def Bv(k:Nat)(h:yh (ks.take k)=Tc):yh ks=Tc:=by
 cases hks:yh ks with
 |false=>rfl
 |true=>unfold yh at hks h;grind
def IG(hg:GL gl)(N:Sm v)(h:R (zq v)):aa5 gl 163 [qr .tree v] [.bool] R:=by
 refine PC.bd λA=>?_;have ae:v.XK.length<=140737488355328:=(A ⟨.tree,v⟩ ξ).1;apply JU;have G:(lb v.aa0).length<=1152921504606846976:=χ N.aa0
 have key:∀b,b=zq v->R b:=λb V=>η
 have q:=Hs (gl:=gl) (l:=lb v.aa0) (R:=λr=>r=xn (lb v.aa0)) ω rfl;have p:=Lm (gl:=gl) (s:=lb v.aa0) (R:=λr=>r=(fD (fI (lb v.aa0)).1,(fI (lb v.aa0)).2)) G rfl;rw[Zz]at q p;simp only[pW,C9,FF,show(⟨#[116,114,117,101]⟩:Bt)=bl [116,114,117,101]from rfl,show(⟨#[102,97,108,115,101]⟩:Bt)=bl [102,97,108,115,101]from rfl,wC];have x:∀n:Int,(v.Wf != n)=!hV (v.Wf=n):=λn=>by rw[bne,pW]
 simp only[x];refine⟨λM=>key _ ?_,λM=>?_⟩;unfold zq;grind;intro K hK;have f:(v.Wf≠6->v.XK.isEmpty=Ta)/\(v.Wf≠6->v.Wf≠5->v.WT.isEmpty=Ta):=by obtain D|D:=Bool.eq_false_or_eq_true v.XK.isEmpty <;> obtain hi|hi:=Bool.eq_false_or_eq_true v.WT.isEmpty <;> simp[D,hi]at M ⊢ <;> grind
 unfold zq at key;have H:∀b,(b=Ta↔v.Wf=1\/v.Wf=5)->K b:=by
  intro b V;refine hK b ⟨λaa=>key _ ?_,λab=>?_⟩;grind;have Z:v.Wf≠1/\v.Wf≠5:=by constructor;grind;grind
  refine⟨λh2=>key _ ?_,λh2=>⟨λL=>?_,λL=>⟨λI=>?_,λI=>⟨λS=>?_,λS=>⟨λU=>?_,λU=>key _ ?_⟩⟩⟩⟩⟩;grind;have:v.Wf=3:=ψ L
  have a:=f.1 ω;have c:=f.2 ω ω;exact p.mono λr w=>key _ η;have:v.Wf=4:=ψ I
  have a:=f.1 ω;have c:=f.2 ω ω;exact q.mono λr w=>key _ η;have:v.Wf=7:=ψ S
  have a:=f.1 ω;have c:=f.2 ω ω;refine p.mono λr w=>?_;rw[w];refine Uw (n:=(fI (lb v.aa0)).1) (wz _ G) (key _ ?_);simp only[zbo];rw[za ω,za ω,za ω,za ω,za ω,za ω,zi this,a,c,zb9,zb9];unfold sw;rfl;have F:v.Wf=6:=ψ U
  simp only[F]at key;have o:∀b,b=(yh v.XK&&hV (v.XK.length=v.WT.length)&&lb v.aa0==[])->R b:=key;refine⟨λi=>∃k:Nat,i=k/\k<=v.XK.length/\yh (v.XK.take k)=Ta,λi=>v.XK.length-i.toNat,⟨0,rfl,ω,by simp[yh]⟩,?_⟩;rintro i ⟨k,rfl,D,y⟩;refine⟨λO=>?_,λO=>?_⟩;have m:k<v.XK.length:=by simp at O;omega
  refine⟨v.XK[k],⟨ω,lN m⟩,?_⟩;have J:=Hs (gl:=gl) (l:=lb v.XK[k]) (R:=λr=>r=xn (lb v.XK[k])) (χ (N.key (YY m))) rfl;rw[Zz]at J;refine J.mono λr w=>⟨λQ=>o _ ?_,λQ=>?_⟩;have:yh v.XK=Tc:=Bv (k+1) (by grind [wD]);simp[this];have E:xn (lb v.XK[k])=Ta:=by rw[<-w];simpa using Q
  refine⟨λi=>∃j:Nat,i=j/\j<=k/\v.XK[k]∉v.XK.take j,λi=>k-i.toNat,⟨0,rfl,ω,ξ⟩,?_⟩;rintro i ⟨j,rfl,hj,t⟩;refine⟨λB=>?_,λB=>?_⟩;have z:j<k:=by simp at B;omega
  refine⟨v.XK[j],⟨ω,lN ω⟩,v.XK[k],⟨ω,lN m⟩,λu=>o _ ?_,λu=>?_⟩;have Y:v.XK[j]=v.XK[k]:=by have:=wC v.XK[j] (lb v.XK[k]);rw[Zz]at this;rw[this]at u;exact oP.1 (ψ u)
  have:yh v.XK=Tc:=Bv (k+1) (by grind [wD,List.mem_take_iff_getElem]);simp[this];have P:v.XK[j]≠v.XK[k]:=by intro e;rw[e]at u;simp at u
  rw[qo z ω];refine⟨⟨j+1,rfl,ω,?_⟩,η⟩;rw[YP ω,ZF,za8];grind;have C:j=k:=by simp at B;omega
  subst C;rw[qo m ω];refine⟨⟨j+1,rfl,ω,?_⟩,η⟩;rw[wD m,y,E,zE t];rfl;grind;grind
 grind
def y6{gl:Fr}(m:GL gl)(b:Bool)(v:Tr)(l:Sm v){R:ac4}(h:R (Qc (λx=>zq x&&(b||decide (x.Wf≠7))) v)):aa5 gl 104 [qr .tree v,qr .bool b] [.bool] R:=by
 apply OX;rw[Zp];have s:=l.WT;rw[y8,je]at h;refine IG m l ⟨λe=>?_,λe=>?_⟩;grind;have r:(zq v&&(b||decide (v.Wf≠7)))=Ta:=by rw[pW]at e;cases hn:zq v <;> cases b <;> simp[hn]at e ⊢;exact e
 rw[r,zbb]at h;refine⟨λi=>∃k:Nat,i=k/\k<=v.WT.length/\(v.WT.take k).all (Qc (λx=>zq x&&(b||decide (x.Wf≠7))))=Ta,λi=>v.WT.length-i.toNat,⟨0,rfl,ω,ξ⟩,?_⟩;rintro i ⟨k,rfl,t,f⟩;refine⟨λp=>?_,λp=>?_⟩;have c:k<v.WT.length:=by simp at p;omega
 refine⟨v.WT[k],⟨ω,kB c⟩,?_⟩;rw[Zp];have n:v.WT[k]∈v.WT:=YY c;have q:=yc n;refine y6 m b v.WT[k] (l.item n) ⟨λo=>?_,λo=>?_⟩;grind;rw[qo c ω];refine⟨⟨k+1,rfl,ω,?_⟩,η⟩;rw[YP c,zcr,f,zbb,zcu,List.all_nil,zb9];simpa using o;grind
termination_by cK v
def EW{p q:Tr->Bool}(h:∀x,p x=q x)(v:Tr):Qc p v=Qc q v:=by have:p=q:=funext h;rw[this]
def Ns(f:GL gl)(c:Sm v)(h:R (Zo v)):aa5 gl 106 [qr .tree v] [.bool] R:=by
 apply XV;rw[Zp];refine xM v c.sz ⟨λr=>r=(eM v:Int),λ_=>zQ v c.sz rfl,λr k=>⟨λb=>b=Qc zq v,λ_=>y6 f Ta v c (EW (λx=>ξ) v),λb i=>?_⟩⟩;have e:(cond (hV ((cK v:Int)<=4096)) (hV (r<=32)) Tc)=wy v:=by
  unfold wy;cases hc:hV ((cK v:Int)<=4096)with
  |false=>grind
  |true=>grind
 rw[e]at i ⊢;unfold Zo at h;grind
def RF(hF:zr Tp F=Ta){p:Tr->Bool}(hp:∀x,Sm x->aa5 gl F [qr .tree x] [.bool] (λr=>r=p x))(n:Nat):∀(v:Tr),cK v<=n->Sm v->∀{h:zb} {M:Fr} {u:Value},Fr.le gl M->AgM M h->RdV M .tree v u ->PX Tp 87 #[u,.func (.func F) #[] #[]] h M [.bool] (λr=>r=Qc p v):=by
 induction n with
 |zero=>intro v hn;have:=Zn v;omega
 |succ n ih=>
 intro v hn hv h M u hM ag hu;have S:=hu;obtain⟨sk,si,rfl,rk,ri⟩:=yg hu;apply PX.of;apply Kj v.Wf v.aa0 sk si F #[] #[];intro h1 h2;have L1:wr h M h1 M:=wr.push ag _;have f:wr h1 M h2 (Mx M h1.size #[.func (.func F) #[] #[]]):=wr.frz L1.ag _ _;have s1:h1.size=h.size+1:=YW _;have s2:h2.size=h1.size+1:=YW _;have s:zc h2 (aa8 h) 0 [ab0 v.Wf,aa6 v.aa0,aK sk,aK si]:=m8 (h':=h2) (by have:=f.aa1;rw[s1]at this;exact this);have Y:∀h':zb,Bk h2.size h2 h'->zd h' (YH (aa8 h) 3)=Td (aK si):=λh' k=>by refine Q1 (h:=h) (T:=25) (cs:=[ab0 v.Wf,aa6 v.aa0,aK sk,aK si]) ?_ rfl;have:=f.aa1.trans k ω;rw[s1]at this;exact this
 have o:zd h2 (aa8 h1)=Td (.func (.func F) #[] #[]):=f.ag.cell (BK _ _ _) rfl;have Q:(Mx M h1.size #[.func (.func F) #[] #[]]) h1.size=Td #[.func (.func F) #[] #[]]:=BK _ _ _;have C:=L1.trans f;clear_value h1 h2;generalize (Mx M h1.size #[.func (.func F) #[] #[]])=M2 at *;refine⟨_,o,v.Wf,v.aa0,sk,si,s,hF,?_⟩;refine(hp v hv).go (vs:=[.agg #[ab0 v.Wf,aa6 v.aa0,aK sk,aK si]]) (hM.trans C.le) C.ag (zn (RdV.mono C.le S) zw) λw h3 L r A t hr=>?_;refine⟨r,ez t,si,λ_=>Y h3 A.aa1,?_⟩;have i:=C.trans A;refine⟨λw B=>∃b,w=.bool b/\(r=Ta->b=!(gA p v.WT))/\∃z,wr h M B z,λab=>?_,λaa=>⟨Ta,Ta,rfl,λe=>θ,L,i⟩,λ_ w B ⟨b,e,_⟩=>⟨b,e⟩,?_⟩;have U:Rd L (.row .tree) v.WT [aK si]:=Rd.mono i.le ri;have N:L h1.size=Td #[.func (.func F) #[] #[]]:=A.le _ _ Q;refine(RO (gl:=gl) A.ag U (p:=λx=>!(Qc p x)) λx hx=>⟨κ,λh' M' u' D O=>?_⟩).go λw B z b E m V=>⟨b,ez m,b,rfl,λ_=>?_,z,i.trans E⟩;have ae:=yc hx;obtain⟨c,l,rfl,H,G⟩:=yg O;apply PX.of;show aa4 146 #[.agg #[ab0 x.Wf,aa6 x.aa0,aK c,aK l],aa7 (aa8 h1)] h' _;apply WP x.Wf x.aa0 c l;intro y;have J:wr h' M' y M':=wr.push D.ag _;have I:zc y ⟨h'.size,0,Te⟩ 0 [ab0 x.Wf,aa6 x.aa0,aK c,aK l]:=m8 (Bk.refl _ _);have Z:zd y (aa8 h1)=Td (.func (.func F) #[] #[]):=J.ag.cell (D.le _ _ N) rfl;clear_value y;refine⟨x.Wf,x.aa0,c,l,I,_,Z,?_⟩;refine(ih x ω (hv.item hx) (h:=y) (M:=M') ((hM.trans i.le).trans D.le) J.ag (qe H G)).go λw h5 M5 b L5 q P=>⟨b,ez q,M5,_,J.trans L5,Yu.2 (Fk _),ϕ P⟩;rw[V,je,ZI];simp;rintro b B ⟨b',e,hb,z,E⟩;cases e;refine⟨z,_,E,Yu.2 (Fk _),?_⟩;grind [y8]
def GU(i:zr Tp F=Ta){p:Tr->Bool}(b:∀x,Sm x->aa5 gl F [qr .tree x] [.bool] (λr=>r=p x))(v:Tr)(c:Sm v){h:zb}{M:Fr}{u:Value}(e:Fr.le gl M)(ag:AgM M h)(f:RdV M .tree v u):PX Tp 87 #[u,.func (.func F) #[] #[]] h M [.bool] (λr=>r=Qc p v):=RF i b (cK v) v (YJ _) c e ag f
def uC(C:GL gl)(B:Sm v)(O:R (Zo v)):aa5 gl 83 [qr .tree v] [.bool] R:=by
 intro h M vs A ag N
 match vs,N with
 |[u],⟨n,_⟩=>have n:RdV M .tree v u:=n;have m:=n;obtain⟨sk,si,rfl,S,Y⟩:=yg n;apply PX.of;apply UL v.Wf v.aa0 sk si;intro h1;have o:wr h M h1 M:=wr.push ag _;have s1:h1.size=h.size+1:=YW _;have f:∀h':zb,Bk h1.size h1 h'->zc h' (aa8 h) 0 [ab0 v.Wf,aa6 v.aa0,aK sk,aK si]:=λh' k=>m8 (h':=h') (by rw[s1]at k;exact k);clear_value h1;refine⟨v.Wf,v.aa0,sk,si,f h1 (Bk.refl _ _),?_⟩;have s:aa5 gl 86 [qr .tree v] [.bool] (λr=>r=wy v):=DY B rfl;refine s.go (vs:=[.agg #[ab0 v.Wf,aa6 v.aa0,aK sk,aK si]]) (A.trans o.le) o.ag (zn (RdV.mono o.le m) zw) λw h2 I r t l U=>?_;refine⟨r,ez l,v.Wf,v.aa0,sk,si,λ_=>f h2 t.aa1,?_⟩;have c:=o.trans t;refine⟨λw q=>∃b,w=.bool b/\(r=Ta->b=Qc zq v)/\∃z,wr h M q z,λL=>?_,λH=>⟨Ta,Ta,rfl,λe=>θ,I,c⟩,λ_ w q ⟨b,e,_⟩=>⟨b,e⟩,?_⟩;refine(GU (F:=89) κ (p:=zq) (λx J=>BI C J rfl) v B (A.trans c.le) t.ag (RdV.mono c.le m)).go λw V E b D i y=>⟨b,ez i,b,rfl,λ_=>y,E,c.trans D⟩;rintro b q ⟨P,e,Q,z,G⟩;cases e;refine⟨z,_,G,Yu.2 (Fk _),?_⟩;unfold Zo at O;grind
end
section
variable {cs:Array Value}
def Aq:GS Tp 22 9 (aa6 ⟨#[]⟩) 1 16:=⟨κ,⟨Tryz.t9,κ,κ,κ,κ⟩,rfl,ω⟩
def xV:GS Tp 23 25 (.agg #[ab0 0,aa6 ⟨#[]⟩,.slice Te 0 0,.slice Te 0 0]) 4 72:=⟨κ,⟨Tryz.t25,κ,κ,κ,κ⟩,rfl,ω⟩
def IB:qq Tp 25=Ta:=κ
def WV:jk Tp 25=4:=κ
def OF:qq Tp 22=Ta:=κ
def Rf:jk Tp 22=1:=κ
def Zb(k:Int)(s:Bt)(sk si:Sl):List Value:=[.int .i64 k,.string s,aK sk,aK si]
def Nj(k:Int)(s:Bt)(sk si:Sl):∀u∈Zb k s sk si,u.oneCell'=Ta:=by intro u b;simp[Zb]at b;obtain rfl|rfl|rfl|rfl:=b <;> simp[i2,aK]
def Vj(k:Int)(s:Bt)(sk si:Sl):(Value.agg #[ab0 k,aa6 s,aK sk,aK si]).cells.toList=Zb k s sk si:=rfl
theorem Rn{vs:ab2}(h:cs.size=DB vs):upd cs 0 vs=vs.toArray:=by unfold upd;simp_all
def sQ{h:zb}{b:Nat}(H:Blk h b cs)(e:cs.size=4)(k:Int)(s:Bt)(sk si:Sl){K:zb->Prop}(i:∀h':zb,Blk h' b (Zb k s sk si).toArray->h'.size=h.size->(∀j,j≠b->h'[j]?=h[j]?)->K h'):wf Tp (YI 25 (aa7 ⟨b,0,Te⟩) (.agg #[ab0 k,aa6 s,.slice sk.a sk.len sk.cap,.slice si.a si.len si.cap])) h K:=
 Jn (vs:=Zb k s sk si) IB H (Vj k s sk si) WV (by rw[e];exact YJ _) (Nj k s sk si) λh' c l f=>i h' (by rw[Rn (π e)]at c;exact c) l f
end
section
variable {gl:Fr} {l:List Tr} {R:Tr -> Prop}
def KC(h:R (.mk 5 ⟨#[]⟩ [] l)):aa5 gl 52 [qr (.row .tree) l] [.tree] R:=by apply JB;exact h
def LM{ks:List Bt}(h:R (.mk 6 ⟨#[]⟩ ks l)):aa5 gl 47 [qr (.row .str) ks,qr (.row .tree) l] [.tree] R:=by apply TY;exact h
def Dh(b:GL gl){n:Int}(h1:-1000000<=n)(h2:n<=1000000)(h:R (.mk 3 (bl (qu (zj (Lib.itoa n)).1)) [] [])):aa5 gl 51 [qr q0 n] [.tree] R:=by apply NT;refine PI b.pow ω ω ?_;exact vZ b.pow (wz _ (χ (Go.X.OR n))) h
def G3{gl:Fr}(a b:Tr){R:ac4}(h:∀r,(r=Ta↔a=b)->R r):aa5 gl 17 [qr .tree a,qr .tree b] [.bool] R:=by
 refine PC.bd λx=>?_;have H:a.XK.length<=140737488355328/\a.WT.length<=140737488355328:=x ⟨.tree,a⟩ ξ;apply Nc;have z:∀s t:Bt,(s.toList==t.toList)=hV (s=t):=λs t=>by rw[Qp,Qp,ZI,beq_iff_eq,zA];exact oP
 simp only[z];refine⟨λp=>h _ ⟨λe=>(by cases e),λe=>?_⟩,λp=>?_⟩;subst e;simp at p;have u:a.Wf=b.Wf/\a.aa0=b.aa0/\a.XK.length=b.XK.length/\a.WT.length=b.WT.length:=by simp at p;have⟨⟨⟨h1,h2⟩,G⟩,I⟩:=p;exact⟨h1,h2,ω,ω⟩
 have⟨D,F,E,B⟩:=u;refine⟨λi=>∃k:Nat,i=k/\k<=a.XK.length/\a.XK.take k=b.XK.take k,λi=>a.XK.length-i.toNat,⟨0,rfl,ω,ξ⟩,?_⟩;rintro i ⟨k,rfl,C,h1⟩;refine⟨λw=>?_,λw=>?_⟩;have f:k<a.XK.length:=by simp at w;omega
 have n:k<b.XK.length:=ω
 refine⟨a.XK[k],⟨ω,lN f⟩,b.XK[k],⟨ω,lN n⟩,λl=>h _ ⟨λe=>(by cases e),λe=>?_⟩,λl=>?_⟩;subst e;simp at l;have m:a.XK[k]=b.XK[k]:=ψ l
 rw[qo f ω];refine⟨⟨k+1,rfl,ω,?_⟩,by simp only[YL];omega⟩;rw[YP f,YP n,h1,m];have f:k=a.XK.length:=by simp at w;omega
 subst f;rw[ZX,E,ZX]at h1;refine⟨λi=>∃k:Nat,i=k/\k<=a.WT.length/\a.WT.take k=b.WT.take k,λi=>a.WT.length-i.toNat,⟨0,rfl,ω,ξ⟩,?_⟩;rintro i ⟨k,rfl,C,h2⟩;refine⟨λq=>?_,λq=>h _ ⟨λ_=>?_,λ_=>rfl⟩⟩;have c:k<a.WT.length:=by simp at q;omega
 have o:k<b.WT.length:=ω
 refine⟨a.WT[k],⟨ω,kB c⟩,b.WT[k],⟨ω,kB o⟩,?_⟩;rw[Zp,Zp];have A:=yc (YY c);refine G3 a.WT[k] b.WT[k] λr y=>⟨λl=>h _ ⟨λe=>(by cases e),λe=>?_⟩,λl=>?_⟩;subst e;rw[y.2 rfl]at l;cases l;have m:a.WT[k]=b.WT[k]:=y.1 (ψ l);rw[qo c ω];refine⟨⟨k+1,rfl,ω,?_⟩,by simp only[YL];omega⟩;rw[YP c,YP o,h2,m];have c:k=a.WT.length:=by simp at q;omega
 subst c;rw[ZX,B,ZX]at h2;have:=Zp a;rw[D,F,h1,h2,Zp]at this;exact this.symm
termination_by cK a
end
section
def iL(l:Bs):List Int:=l.map λc=>(c.toNat:Int)
theorem Cy(a b:Bs):iL (a++b)=iL a++iL b:=zaa
end
end
section
open Go.Shelf Go.RowKit
def Ds:Go.Shelf.Ren:=⟨fun|169=>70|n=>n,fun|70=>86|9=>9|0=>0|72=>89|37=>87|127=>133|3=>3|5=>5|n=>n,fun|n=>n⟩
def TV:Go.Proofs.Lays.n169 Tp Ds:=by constructor <;> intros <;> kernel_rfl
def UD:Builder.Extra Tp Ds:={
 sizeBuilder:=κ
 liesBuilder:=κ
 t5:=Tryz.underlying5
 a5:=Tryz.isAgg5
 z5:=Tryz.sizeOf5
 v5:=Tryz.zeroValue5
 infoByte:=κ
 cellsByte:=κ
 sizeByte:=κ
 neB5:=by decide }
def UE(B b:Nat)(l:List UInt8)(w:MN)(h:Lib.IsBuilder 89 5 B b (Lib.byteCells l) w)(c:B<=w.heap.size):Calls Tp 70 #[aa7 ⟨b,0,Te⟩] w λe w'=>e=.returned (aa6 ⟨l.toArray⟩)/\Below B w w':=Any.Builder_String_any TV UD B b l w h c
def To:Go.Shelf.Ren:=⟨fun|153=>391|152=>369|226=>404|227=>271|228=>321|137=>319|119=>394|224=>358|225=>357|217=>356|266=>385|n=>n,fun|9=>9|3=>3|4=>4|5=>5|21=>21|117=>281|116=>280|0=>0|46=>123|124=>284|n=>n,fun|n=>n⟩
def VV:Go.Proofs.Lays.n153 Tp To:=by constructor <;> intros <;> kernel_rfl
open Go.RowKit Go.Lib in
def Xu(h:∀w,(zeroValue 280).run Tp w=.ok (.agg (zbu 256 (aa9 Tc))) w)(s c:Bt)(w:MN)(h2:2<=c.size)(k:8<s.size)(l:s.size<4294967281)(i:c.size<4294967281)(f:∀(j:Nat) b,c.data.toList[j]?=Td b->b.toNat<128):Calls Tp 391 #[aa6 s,aa6 c] w λe w'=>e=.returned (ab0 (Lib.indexAny s.data.toList c.data.toList))/\w'=((w.alloc (.cells (Lib.setCells c.data.toList) 280)).alloc (.cells (Lib.setCells c.data.toList) 280)):=Any.strings_IndexAny_long VV h κ s c w h2 k l i f
end
section
open Go.RowKit
variable {h h':zb} {b:Nat} {l:Bs} {cs:Array Value} {s:Sl} {K:Value -> zb -> Prop}
def Bld(h:zb)(b:Nat)(l:Bs):Prop:=∃(p:Option n8) (s:Sl),h[b]?=Td (.cells #[.pointer p,aK s] 89 (0,0))/\(p=Te\/p=Td ⟨b,0,Te⟩)/\DP h (b+1) 5 1 s (Lib.byteCells l)
theorem Bld.lt(H:Bld h b l):b<h.size:=by have⟨p,s,e,_⟩:=H;grind
theorem Bld.aa1(H:Bld h b l)(k:Bk h.size h h'):Bld h' b l:=by have c:=H.lt;have⟨p,s,e,f,i⟩:=H;exact⟨p,s,by rw[k.get b c];exact e,f,i.keepN k⟩
theorem Bld.new(h:zb):Bld (h.push (.cells #[.pointer Te,.slice Te 0 0] 89)) h.size []:= ⟨Te,⟨Te,0,0⟩,jc _ _,.inl rfl,DP.nil _ _ _ _⟩
def zM:(ZM.info? 89).map (·.size)=Td 2:=κ
theorem WJ:liesAt Tp ZM.depth 89 (2 / ZM.cellsOf 89) 0 89 1=Ta:=κ
theorem py:ZM.underlying 86=Td (.pointer 89):=κ
theorem qK:ZM.underlying 199=Td .unsafePointer:=κ
def Hl(b:Nat)(w:MN)(h0:w.cell? ⟨b,0,Te⟩=Td (aa7 ⟨b,0,Te⟩)):Calls Tp 123 #[aa7 ⟨b,0,Te⟩] w λe w'=>e=.returned (.tuple #[])/\w'=w:=by
 have⟨j,c,_⟩:=zbx.1 zM;have mixed:=Tryz.mixed
 go_enter func123,Tryz.ntmps123
 go_wp2
 rw[Lib.run_neq_ptr_same w _ py c]
 go_wp2
 go_end0
 simp
def JE(b:Nat)(w:MN)(h0:w.cell? ⟨b,0,Te⟩=Td (.pointer Te))(c:w.shape? b=Td (89,2))(h:w.frozen? ⟨b,0,Te⟩=Tc):Calls Tp 123 #[aa7 ⟨b,0,Te⟩] w λe w'=>e=.returned (.tuple #[])/\w'=w.setCell ⟨b,0,Te⟩ (aa7 ⟨b,0,Te⟩):=by
 have⟨j,f,i⟩:=zbx.1 zM;have mixed:=Tryz.mixed
 go_enter func123,Tryz.ntmps123
 go_wp2
 rw[Lib.run_to_unsafe w ⟨b,0,Te⟩ py qK f ω c (Nat.zero_lt_succ 1)];simp only[Result.andThen];rw[Oper.upon_value]
 go_wp2
 rw[run_callFunc_extern func195 κ κ κ (e:=zd0) κ];rw[Lib.run_noEscape];simp only[Result.andThen];rw[Oper.upon_value]
 go_wp2
 rw[Lib.run_from_unsafe w ⟨b,0,Te⟩ qK py f c WJ];simp only[Result.andThen];rw[Oper.upon_value]
 go_wp2
 go_end0
 simp
theorem Ev{b o:Nat}{T:TypeId}(e:h[b]?=Td (.cells cs T (0,0)))(v:Value)(B:MN)(d:Nat):(mk B d h).setCell ⟨b,o,Te⟩ v=mk B d (h.setIfInBounds b (.cells (cs.setIfInBounds o v) T (0,0))):=by unfold World.setCell mk;simp only;congr 1;grind
theorem Bk.ne(e:h'.size=h.size)(c:∀i,i≠b->h'[i]?=h[i]?):Bk b h h':=⟨ω,λi hi=>c i ω⟩
def Itk(h h':zb):Prop:=∀(i:Nat) (s:Bt) (p:Nat),h[i]?=Td (.stringIter s p)->h'[i]?=Td (.stringIter s p)
theorem Itk.trans{a b c:zb}(x:Itk a b)(y:Itk b c):Itk a c:=λi s p e=>y i s p (x i s p e)
theorem Itk.aa1(k:Bk h.size h h'):Itk h h':=λi s p e=>by have hi:i<h.size:=(YZ.1 e).1;rw[k.get i hi];exact e
theorem Itk.ne{T:TypeId}{m:Nat×Nat}(e:h[b]?=Td (.cells cs T m))(f:∀i,i≠b->h'[i]?=h[i]?):Itk h h':=λi s p c=>η
theorem Itk.own{base:Nat}{e:TypeId}{sz:Nat}{xs:ab2}(H:DP h base e sz s xs)(f:∀i,i<h.size->(∀p,s.a=Td p->i≠p.block)->h'[i]?=h[i]?):Itk h h':=λi t p k=>by have hi:i<h.size:=(YZ.1 k).1;rw[f i hi λq n m=>?_];exact k;obtain⟨l,_⟩|⟨g,cap,b,l,_,c,_⟩:=H.2;simp_all;have c:h[g]?=Td (.cells b e (0,0)):=c;simp_all
def tT(H:Bld h b l)(k:∀h',Bld h' b l->Bk b h h'->h'.size=h.size->Itk h h'->K (.tuple #[]) h'):aa4 123 #[aa7 ⟨b,0,Te⟩] h K:=by
 have o:=H.lt;have⟨p,s,e,m,f⟩:=H;have c:∀B d,(mk B d h).cell? ⟨b,0,Te⟩=Td (.pointer p):=λB d=>by have:(mk B d h).heap[b]?=Td (.cells #[.pointer p,aK s] 89 (0,0)):=e;simp[World.cell?,this]
 obtain rfl|rfl:=m;refine XC.of_calls λB d=>(JE b (mk B d h) (c B d) ?_ ?_).mono ?_
 have:(mk B d h).heap[b]?=Td (.cells #[.pointer Te,aK s] 89 (0,0)):=e;simp[World.shape?,this];exact xN ⟨_,e⟩ B d;rintro e' w' ⟨rfl,rfl⟩;rw[Ev e];refine⟨_,rfl,rfl,rfl,rfl,?_⟩;show K _ (h.setIfInBounds b _);refine k _ ⟨_,s,?_,.inr rfl,?_⟩ ?_ ξ (Itk.ne e λi hi=>zbr (Ne.symm hi));simp_all;refine f.aa1 λq n=>?_;have:=f.base_le q n;grind;exact Bk.setBlk _ (YJ _);refine XC.of_calls λB d=>(Hl b (mk B d h) (c B d)).mono ?_;rintro e' w' ⟨rfl,rfl⟩;exact⟨_,rfl,rfl,rfl,rfl,k _ ⟨_,s,e,.inr rfl,f⟩ (Bk.refl _ _) rfl (Itk.aa1 (Bk.refl _ _))⟩
def RM:GS Tp 87 5 (.int .u8 0) 1 1:=⟨κ,⟨Tryz.t5,κ,κ,κ,κ⟩,rfl,ω⟩
def rG:ZM.underlying 9=Td .string:=κ
def F9:qq Tp 87=Ta:=κ
def Cd:jk Tp 87=1:=κ
def zZ{p:Option n8}{s u:Sl}(e:h[b]?=Td (.cells #[.pointer p,aK u] 89 (0,0)))(m:p=Te\/p=Td ⟨b,0,Te⟩)(i:DP h (b+1) 5 1 s (Lib.byteCells l)){K:zb->Prop}(t:∀h',Bld h' b l->Bk b h h'->h'.size=h.size->Itk h h'->K h'):wf Tp (YI 87 (aa7 ⟨b,1,Te⟩) (.slice s.a s.len s.cap)) h K:=by intro B d;have⟨h',r,k,f,c⟩:=Yt (P:=Tp) F9 Cd e (o:=1) (v:=aK s) rfl ξ (by simp[aK,Value.cells,i2]) B d;refine⟨d,h',r,t h' ⟨p,s,?_,m,?_⟩ (Bk.ne f c) f (Itk.ne e c)⟩;rw[k];rfl;refine i.aa1 λq n=>?_;have:=i.base_le q n;grind
def Xv(H:Bld h b l)(U:l.length<140737488355328)(c:UInt8)(P:∀h',Bld h' b (l++[c])->Bk b h h'->Itk h h'->K .nilIface h'):aa4 133 #[aa7 ⟨b,0,Te⟩,.int .u8 (c.toNat:Int)] h K:=by
 apply wn;refine tT H λh2 B k2 z2 F=>⟨rfl,_,rfl,?_⟩;have x:=B.lt;have⟨p,s,e,Q,r⟩:=B;have f:=r.1;rw[Lib.byteCells_length,zbf]at f;refine⟨s,Blk.aa2 (o:=0) (k:=1) (cs:=#[.pointer p,aK s]) ⟨_,e⟩ rfl,?_⟩;intro t;have⟨m,V,b5⟩:=yp (g:=t) rfl;have D:t[b]?=Td (.cells #[.pointer p,aK s] 89 (0,0)):=by rw[m.get b x];exact e
 have A:=r.keepN m;clear_value t;refine Wi RM A (src:=⟨Td (aa8 h2),1,1⟩) (news:=[.int .u8 (c.toNat:Int)]) (n:=t.size) ?_ rfl (by simp[i2]) η η ω λC z Z I u q4 S=>⟨C,rfl,_,rfl,?_⟩;refine .inr ⟨h2.size,0,rfl,ω,λi v w=>?_⟩
 match i,w with
 |0,w=>cases w;exact b5.cell rfl
 have M:z[b]?=Td (.cells #[.pointer p,aK s] 89 (0,0)):=by rw[u b ω λq y=>χ (r.base_le q y)];exact D
 have E:DP z (b+1) 5 1 C (Lib.byteCells (l++[c])):=by
  have:Lib.byteCells (l++[c])=Lib.byteCells l++[.int .u8 (c.toNat:Int)]:=by unfold Lib.byteCells;rw[zaa];rfl
  rw[this];exact I
 have G:Bk b h z:=k2.trans ⟨ω,λi hi=>by rw[u i ω λq y=>χ (r.base_le q y)];exact m.get i ω⟩ (YJ _);refine zZ M Q E λO J L Y N=>P O J (G.trans L (YJ _)) (F.trans ((Itk.aa1 m).trans ((Itk.own A u).trans N)))
def Pn(H:Bld h b l)(t:Bs)(hl:l.length+DB t<=140737488355328)(N:∀h',Bld h' b (l++t)->Bk b h h'->Itk h h'->K (.tuple #[ab0 (DB t:Int),.nilIface]) h'):aa4 68 #[aa7 ⟨b,0,Te⟩,aa6 (bl t)] h K:=by
 apply jz;refine tT H λh2 A k2 z2 F=>⟨rfl,_,rfl,?_⟩;have C:=A.lt;have⟨p,s,e,O,n⟩:=A;have f:=n.1;rw[Lib.byteCells_length,zbf]at f;refine⟨s,Blk.aa2 (o:=0) (k:=1) (cs:=#[.pointer p,aK s]) ⟨_,e⟩ rfl,?_⟩;have c:=zf t;refine Wq RM n (x:=.string (bl t)) (m:=(bl t).size) (news:=Lib.byteCells t) (λB d=>?_) (ο c) (ο c) ω λz y U Q u Z Y=>⟨z,rfl,_,rfl,?_⟩;have:=Src.ofString (P:=Tp) (w:=mk B d h2) rG (bl t);have V:byteCells (bl t)=Lib.byteCells t:=by unfold byteCells Lib.byteCells;have:(bl t).data.toList=t:=yr t;rw[this]
 simp_all;have I:y[b]?=Td (.cells #[.pointer p,aK s] 89 (0,0)):=by rw[u b ω λq r=>χ (n.base_le q r)];exact e
 have D:DP y (b+1) 5 1 z (Lib.byteCells (l++t)):=by
  have:Lib.byteCells (l++t)=Lib.byteCells l++Lib.byteCells t:=by unfold Lib.byteCells;rw[zaa]
  rw[this];exact Q
 have J:Bk b h y:=k2.trans ⟨ω,λi hi=>u i ω λq r=>χ (n.base_le q r)⟩ (YJ _);refine zZ I O D λM E G S L=>?_;rw[c];exact N M E (J.trans G (YJ _)) (F.trans ((Itk.own n u).trans L))
def BN(H:Bld h b l)(o:∀h',Bk b h h'->K (aa6 (bl l)) h'):aa4 70 #[aa7 ⟨b,0,Te⟩] h K:=by
 have k:=H.lt;have⟨p,s,e,n,i⟩:=H;refine XC.of_calls λB d=>(UE b b l (mk B d h) ?_ (zdg k)).mono ?_;have m:Lib.BuilderAt 89 5 b b (.pointer p) (Lib.byteCells l) (mk B d h):=by
  refine⟨YJ _,aK s,e,?_,?_⟩;have h1:=i.1;rw[zbf]at h1;rw[h1];exact i.base (Nat.le_succ b);intro f;cases ha:s.a with
  |none=>rw[aK,ha]at f;cases f
  |some q=>
   have:=i.base_le q ha;rw[aK,ha]at f;have:q.block=b:=by simpa[Value.ownBlock]using f
   omega
 obtain rfl|rfl:=n;exact .inl m;exact .inr m;rintro e' w' ⟨rfl,c⟩;exact⟨_,rfl,c.os,c.tape,c.output,o _ ⟨c.size,c.block⟩⟩
end
section
def Ub(gl:Fr)(b:Bt×List (Int×(Int×Int)×(Int×Int)×(List Int)×List (Int×Int)))(s1:Int×Int)(R:Bt->Prop) (H:((cond (cond (hV (s1.1<0)) Ta (hV (s1.1>s1.2))) Ta (hV (s1.2>b.1.size)))=Ta->R (⟨#[]⟩:Bt))/\((cond (cond (hV (s1.1<0)) Ta (hV (s1.1>s1.2))) Ta (hV (s1.2>b.1.size)))=Tc->(0<=s1.1/\s1.1<=s1.2/\s1.2<=b.1.size)/\R (b.1.extract s1.1.toNat s1.2.toNat))):aa5 gl 284 [qr (.pair .str (.row (.pair q0 (.pair (.pair q0 (.int .i64)) (.pair (.pair q0 (.int .i64)) (.pair (.row q0) (.row (.pair q0 (.int .i64))))))))) b,qr (.pair q0 (.int .i64)) s1] [.str] R:=PF ⟨[],[],[],[]⟩ [.tmp 4] 30 func284 H
def KZ(gl:Fr)(f:Bt)(R:((List (Int×Int×Int))×Int×Int)->Prop) (H:(hV ((f.size:Int)>65536)=Ta->R ([],0,3))/\(hV ((f.size:Int)>65536)=Tc->∃(a:(List (Int×Int×Int))->Int->Prop) (b:(List (Int×Int×Int))->Int->Nat),a [] 0/\∀c:List (Int×Int×Int),∀d:Int,a c d->((hV (d<f.size)=Ta->aa5 gl 286 [qr .str f,qr q0 d] [.int .i64,.int .i64,.int .i64] (λe:Int×Int×Int=>((e.2.2 != 0)=Ta->R ([],e.2.1,e.2.2))/\((e.2.2 != 0)=Tc->((DB c+za6 ([(e.1,(d,e.2.1))]:List (Int×Int×Int)))*24<=140737488355328/\(a (c++[(e.1,(d,e.2.1))]) e.2.1/\b (c++[(e.1,(d,e.2.1))]) e.2.1<b c d)))))/\(hV (d<f.size)=Tc->R (c,d,0))))):aa5 gl 228 [qr .str f] [.row (.pair q0 (.pair q0 (.int .i64))),.int .i64,.int .i64] R:=PF ⟨[],[],[(5,⟨[(5,.one (.own 236 (.pair q0 (.pair q0 (.int .i64))))),(6,.one (.dat q0))],[],[],[100320,100384]⟩)],[]⟩ [.tmp 2,.tmp 3,.tmp 4] 39 func228 H
def OI(gl:Fr)(b:Bt×List (Int×(Int×Int)×(Int×Int)×(List Int)×List (Int×Int)))(s1:Int×Int)(R:Bt->Prop) (H:((cond (cond (hV (s1.1<0)) Ta (hV (s1.1>s1.2))) Ta (hV (s1.2>b.1.size)))=Ta->R (⟨#[]⟩:Bt))/\((cond (cond (hV (s1.1<0)) Ta (hV (s1.1>s1.2))) Ta (hV (s1.2>b.1.size)))=Tc->(0<=s1.1/\s1.1<=s1.2/\s1.2<=b.1.size)/\R (b.1.extract s1.1.toNat s1.2.toNat))):aa5 gl 231 [qr (.pair .str (.row (.pair q0 (.pair (.pair q0 (.int .i64)) (.pair (.pair q0 (.int .i64)) (.pair (.row q0) (.row (.pair q0 (.int .i64))))))))) b,qr (.pair q0 (.int .i64)) s1] [.str] R:=PF ⟨[],[],[],[]⟩ [.tmp 4] 30 func231 H
def Iu(gl:Fr)(b:Bt)(R:(Bt×Int×Int)->Prop) (H:aa5 gl 293 [qr .str b,qr q0 0] [.str,.int .i64,.int .i64] (λa:Bt×Int×Int=>((cond (a.2.2==0) (hV (a.2.1<b.size)) Tc)=Ta->R ((⟨#[]⟩:Bt),a.2.1,2))/\((cond (a.2.2==0) (hV (a.2.1<b.size)) Tc)=Tc->R (a.1,a.2.1,a.2.2)))):aa5 gl 234 [qr .str b] [.str,.int .i64,.int .i64] R:=PF ⟨[],[],[],[]⟩ [.tmp 2,.tmp 3,.tmp 4] 26 func234 H
def QZ(gl:Fr)(e:Int)(s1:Bt)(R:Bt->Prop) (H:((e==2)=Ta->R s1)/\((e==2)=Tc->((e==3)=Ta->aa5 gl 160 [qr .str s1] [.pair .bool (.pair .str (.int .i64)),.int .i64] (λa:(Bool×Bt×Int)×Int=>aa5 gl 92 [qr (.pair .bool (.pair .str (.int .i64))) (a.1.1,(a.1.2.1,a.1.2.2))] [.str] (λb:Bt=>R b)))/\((e==3)=Tc->((e==4)=Ta->aa5 gl 343 [qr .str s1] [.str,.int .i64,.int .i64] (λc:Bt×Int×Int=>R c.1))/\((e==4)=Tc->R (⟨#[]⟩:Bt))))):aa5 gl 283 [qr q0 e,qr .str s1] [.str] R:=PF ⟨[],[],[],[]⟩ [.tmp 4] 32 func283 H
def N3(gl:Fr)(c:Int)(R:ac6) (H:((c==12)=Ta->R 1)/\((c==12)=Tc->∀a:Bool->Prop,(∀b:Bool,((b=Ta->R 2)/\(b=Tc->((c==9)=Ta->R 3)/\((c==9)=Tc->((c==8)=Ta->R 4)/\((c==8)=Tc->((c==4)=Ta->R 5)/\((c==4)=Tc->((c==2)=Ta->R 6)/\((c==2)=Tc->R 0))))))->a b)->((c==10)=Ta->a (c==10))/\((c==10)=Tc->a (c==11)))):aa5 gl 335 [qr q0 c] [.int .i64] R:=PF ⟨[],[],[],[(6,⟨[(6,.one (.dat .bool))],[],[],[100384]⟩)]⟩ [.tmp 2] 17 func335 H
def PO(gl:Fr)(l:Bt)(h:Int)(R:(Int×Int×Int)->Prop) (H:(0<=h/\h<l.size)/\∃(a:ac6) (b:Int->Nat),a 0/\∀c:Int,a c->(((hV (c<(((⟨#[123,125,91,93,44,58]⟩:Bt)).size:Int)))=Ta->(0<=c/\c<(((⟨#[123,125,91,93,44,58]⟩:Bt)).size:Int))/\(((ze l h.toNat:Int)==(ze (⟨#[123,125,91,93,44,58]⟩:Bt) c.toNat))=Ta->R (p3 (2+c),p3 (h+1),0))/\(((ze l h.toNat:Int)==(ze (⟨#[123,125,91,93,44,58]⟩:Bt) c.toNat))=Tc->(a (p3 (c+1))/\b (p3 (c+1))<b c)))/\((hV (c<(((⟨#[123,125,91,93,44,58]⟩:Bt)).size:Int)))=Tc->aa5 gl 344 [qr (.int .u8) (ze l h.toNat),qr .str (⟨#[32,9,10,13]⟩:Bt)] [.bool] (λd:Bool=>(d=Ta->aa5 gl 345 [qr .str l,qr q0 h,qr .str (⟨#[32,9,10,13]⟩:Bt)] [.int .i64] (λe:Int=>R (1,e,0)))/\(d=Tc->(((ze l h.toNat:Int)==34)=Ta->aa5 gl 346 [qr .str l,qr q0 h] [.int .i64,.int .i64] (λf:Int×Int=>R (8,f.1,f.2)))/\(((ze l h.toNat:Int)==34)=Tc->aa5 gl 344 [qr (.int .u8) (ze l h.toNat),qr .str (⟨#[45,48,49,50,51,52,53,54,55,56,57]⟩:Bt)] [.bool] (λg:Bool=>(g=Ta->aa5 gl 345 [qr .str l,qr q0 h,qr .str (ad0:Bt)] [.int .i64] (λi:Int=>(0<=h/\h<=i/\i<=l.size)/\aa5 gl 232 [qr .str (l.extract h.toNat i.toNat)] [.pair .bool (.pair .str (.int .i64)),.int .i64] (λj:(Bool×Bt×Int)×Int=>((j.2 != 0)=Ta->R (0,h,j.2))/\((j.2 != 0)=Tc->R (9,i,0)))))/\(g=Tc->aa5 gl 345 [qr .str l,qr q0 h,qr .str (ad2:Bt)] [.int .i64] (λk:Int=>(0<=h/\h<=k/\k<=l.size)/\(((l.extract h.toNat k.toNat:Bt).toList==(⟨#[116,114,117,101]⟩:Bt).toList)=Ta->R (10,k,0))/\(((l.extract h.toNat k.toNat:Bt).toList==(⟨#[116,114,117,101]⟩:Bt).toList)=Tc->(((l.extract h.toNat k.toNat:Bt).toList==(⟨#[102,97,108,115,101]⟩:Bt).toList)=Ta->R (11,k,0))/\(((l.extract h.toNat k.toNat:Bt).toList==(⟨#[102,97,108,115,101]⟩:Bt).toList)=Tc->(((l.extract h.toNat k.toNat:Bt).toList==(⟨#[110,117,108,108]⟩:Bt).toList)=Ta->R (12,k,0))/\(((l.extract h.toNat k.toNat:Bt).toList==(⟨#[110,117,108,108]⟩:Bt).toList)=Tc->R (0,h,2))))))))))))):aa5 gl 286 [qr .str l,qr q0 h] [.int .i64,.int .i64,.int .i64] R:=PF ⟨[],[],[(4,⟨[(9,.one (.dat q0))],[],[],[100576]⟩)],[]⟩ [.tmp 4,.tmp 5,.tmp 6] 84 func286 H
def VM(gl:Fr)(c:Int)(R:ac6) (H:((c==12)=Ta->R 1)/\((c==12)=Tc->∀a:Bool->Prop,(∀b:Bool,((b=Ta->R 2)/\(b=Tc->((c==9)=Ta->R 3)/\((c==9)=Tc->((c==8)=Ta->R 4)/\((c==8)=Tc->R 0))))->a b)->((c==10)=Ta->a (c==10))/\((c==10)=Tc->a (c==11)))):aa5 gl 287 [qr q0 c] [.int .i64] R:=PF ⟨[],[],[],[(6,⟨[(6,.one (.dat .bool))],[],[],[100384]⟩)]⟩ [.tmp 2] 13 func287 H
def OO(gl:Fr)(h:Bt)(i:Int)(R:(Bt×Int×Int)->Prop) (H:((!(hV (i>=h.size)))=Ta->(0<=i/\i<h.size))/\((cond (hV (i>=h.size)) Ta ((ze h i.toNat:Int) != 34))=Ta->R ((⟨#[]⟩:Bt),i,2))/\((cond (hV (i>=h.size)) Ta ((ze h i.toNat:Int) != 34))=Tc->∃(a:Bt->Int->Prop) (b:Bt->Int->Nat),a (⟨#[]⟩:Bt) (p3 (i+1))/\∀c:Bt,∀d:Int,a c d->((hV (d<h.size)=Ta->(0<=d/\d<h.size)/\(((ze h d.toNat:Int)==34)=Ta->R (c,p3 (d+1),0))/\(((ze h d.toNat:Int)==34)=Tc->(0<=d/\d<h.size)/\(((ze h d.toNat:Int)==92)=Ta->aa5 gl 348 [qr .str h,qr q0 d] [.str,.int .i64] (λe:Bt×Int=>((e.2==0)=Ta->R ((⟨#[]⟩:Bt),d,2))/\((e.2==0)=Tc->qb (c.size+e.1.size)/\(a (c++e.1) (p3 (d+e.2))/\b (c++e.1) (p3 (d+e.2))<b c d))))/\(((ze h d.toNat:Int)==92)=Tc->aa5 gl 258 [qr .str h,qr q0 d] [.bool] (λf:Bool=>(0<=d/\d<h.size)/\((cond (hV ((ze h d.toNat:Int)<32)) Ta (!f))=Ta->R ((⟨#[]⟩:Bt),d,2))/\((cond (hV ((ze h d.toNat:Int)<32)) Ta (!f))=Tc->aa5 gl 259 [qr .str h,qr q0 d] [.int .i32,.int .i64] (λg:Int×Int=>(0<=d/\d<=(p3 (d+g.2))/\(p3 (d+g.2))<=(h.size:Int))/\qb (c.size+(h.extract d.toNat (p3 (d+g.2)).toNat).size)/\(a (c++(h.extract d.toNat (p3 (d+g.2)).toNat)) (p3 (d+g.2))/\b (c++(h.extract d.toNat (p3 (d+g.2)).toNat)) (p3 (d+g.2))<b c d)))))))/\(hV (d<h.size)=Tc->R ((⟨#[]⟩:Bt),(h.size:Int),2))))):aa5 gl 293 [qr .str h,qr q0 i] [.str,.int .i64,.int .i64] R:=PF ⟨[],[],[(5,⟨[(7,.one (.dat .str)),(8,.one (.dat q0))],[],[],[100448,100512]⟩)],[]⟩ [.tmp 4,.tmp 5,.tmp 6] 88 func293 H
def Sf(gl:Fr)(b:Bt)(R:(Bt×Int×Int)->Prop) (H:aa5 gl 377 [qr .str b,qr q0 0] [.str,.int .i64,.int .i64] (λa:Bt×Int×Int=>((cond (a.2.2==0) (hV (a.2.1<b.size)) Tc)=Ta->R ((⟨#[]⟩:Bt),a.2.1,2))/\((cond (a.2.2==0) (hV (a.2.1<b.size)) Tc)=Tc->R (a.1,a.2.1,a.2.2)))):aa5 gl 343 [qr .str b] [.str,.int .i64,.int .i64] R:=PF ⟨[],[],[],[]⟩ [.tmp 2,.tmp 3,.tmp 4] 26 func343 H
def TC(gl:Fr)(c0:Int)(e:Bt)(R:ac4) (H:∃(a:ac6) (b:Int->Nat),a 0/\∀c:Int,a c->((hV (c<e.size)=Ta->(0<=c/\c<e.size)/\(((ze e c.toNat:Int)==c0)=Ta->R Ta)/\(((ze e c.toNat:Int)==c0)=Tc->(a (p3 (c+1))/\b (p3 (c+1))<b c)))/\(hV (c<e.size)=Tc->R Tc))):aa5 gl 344 [qr (.int .u8) c0,qr .str e] [.bool] R:=PF ⟨[],[],[(2,⟨[(5,.one (.dat q0))],[],[],[100320]⟩)],[]⟩ [.tmp 4] 17 func344 H
def TM(gl:Fr)(f:Bt)(e:Int)(h:Bt)(R:ac6) (H:∃(a:ac6) (b:Int->Nat),a e/\∀c:Int,a c->((hV (c<f.size)=Ta->(0<=c/\c<f.size)/\aa5 gl 344 [qr (.int .u8) (ze f c.toNat),qr .str h] [.bool] (λd:Bool=>((!d)=Ta->R c)/\((!d)=Tc->(a (p3 (c+1))/\b (p3 (c+1))<b c))))/\(hV (c<f.size)=Tc->R c))):aa5 gl 345 [qr .str f,qr q0 e,qr .str h] [.int .i64] R:=PF ⟨[],[],[(1,⟨[(1,.one (.dat q0))],[],[],[100064]⟩)],[]⟩ [.tmp 6] 23 func345 H
def TL(gl:Fr)(c:Bt)(b:Int)(R:(Int×Int)->Prop) (H:((cond (hV (b<0)) Ta (hV (b>c.size)))=Ta->R (0,2))/\((cond (hV (b<0)) Ta (hV (b>c.size)))=Tc->aa5 gl 293 [qr .str c,qr q0 b] [.str,.int .i64,.int .i64] (λa:Bt×Int×Int=>R (a.2.1,a.2.2)))):aa5 gl 346 [qr .str c,qr q0 b] [.int .i64,.int .i64] R:=PF ⟨[],[],[],[]⟩ [.tmp 4,.tmp 5] 26 func346 H
def Ts(gl:Fr)(i:Bt)(h:Int)(R:(Bt×Int)->Prop) (H:(hV ((p3 (h+1))>=(i.size:Int))=Ta->R ((⟨#[]⟩:Bt),0))/\(hV ((p3 (h+1))>=(i.size:Int))=Tc->∃(a:ac6) (b:Int->Nat),a 0/\∀c:Int,a c->(((hV (c<(((ad3:Bt)).size:Int)))=Ta->(0<=(p3 (h+1))/\(p3 (h+1))<(i.size:Int))/\(0<=c/\c<(((ad3:Bt)).size:Int))/\(((ze i (p3 (h+1)).toNat:Int)==(ze (ad3:Bt) c.toNat))=Ta->(0<=c/\c<=(p3 (c+1))/\(p3 (c+1))<=(((⟨#[34,92,47,8,12,10,13,9]⟩:Bt)).size:Int))/\R (((⟨#[34,92,47,8,12,10,13,9]⟩:Bt)).extract c.toNat (p3 (c+1)).toNat,2))/\(((ze i (p3 (h+1)).toNat:Int)==(ze (ad3:Bt) c.toNat))=Tc->(a (p3 (c+1))/\b (p3 (c+1))<b c)))/\((hV (c<(((ad3:Bt)).size:Int)))=Tc->(0<=(p3 (h+1))/\(p3 (h+1))<(i.size:Int))/\(((ze i (p3 (h+1)).toNat:Int) != 117)=Ta->R ((⟨#[]⟩:Bt),0))/\(((ze i (p3 (h+1)).toNat:Int) != 117)=Tc->aa5 gl 379 [qr .str i,qr q0 (p3 (h+2))] [.int .i64] (λd:Int=>((cond (hV (d<0)) Ta (cond (hV (d>=56320)) (hV (d<57344)) Tc))=Ta->R ((⟨#[]⟩:Bt),0))/\((cond (hV (d<0)) Ta (cond (hV (d>=56320)) (hV (d<57344)) Tc))=Tc->((cond (hV (d<55296)) Ta (hV (d>=57344)))=Ta->aa5 gl 380 [qr q0 d] [.str] (λe:Bt=>R (e,6)))/\((cond (hV (d<55296)) Ta (hV (d>=57344)))=Tc->((!(hV ((p3 (h+7))>=(i.size:Int))))=Ta->(0<=(p3 (h+6))/\(p3 (h+6))<(i.size:Int)))/\((!(cond (hV ((p3 (h+7))>=(i.size:Int))) Ta ((ze i (p3 (h+6)).toNat:Int) != 92)))=Ta->(0<=(p3 (h+7))/\(p3 (h+7))<(i.size:Int)))/\((cond (cond (hV ((p3 (h+7))>=(i.size:Int))) Ta ((ze i (p3 (h+6)).toNat:Int) != 92)) Ta ((ze i (p3 (h+7)).toNat:Int) != 117))=Ta->R ((⟨#[]⟩:Bt),0))/\((cond (cond (hV ((p3 (h+7))>=(i.size:Int))) Ta ((ze i (p3 (h+6)).toNat:Int) != 92)) Ta ((ze i (p3 (h+7)).toNat:Int) != 117))=Tc->aa5 gl 379 [qr .str i,qr q0 (p3 (h+8))] [.int .i64] (λf:Int=>((cond (hV (f<56320)) Ta (hV (f>=57344)))=Ta->R ((⟨#[]⟩:Bt),0))/\((cond (hV (f<56320)) Ta (hV (f>=57344)))=Tc->aa5 gl 380 [qr q0 (p3 ((p3 ((p3 (65536+(p3 (1024*(p3 (d-55296))))))+f))-56320))] [.str] (λg:Bt=>R (g,12))))))))))))):aa5 gl 348 [qr .str i,qr q0 h] [.str,.int .i64] R:=PF ⟨[],[],[(6,⟨[(8,.one (.dat q0))],[],[],[100512]⟩)],[]⟩ [.tmp 4,.tmp 5] 99 func348 H
def Nb(gl:Fr)(c:Int)(b:Int)(R:((Int×Int×Int)×Int)->Prop) (H:R ((0,(c,c)),b)):aa5 gl 397 [qr q0 c,qr q0 b] [.pair q0 (.pair q0 (.int .i64)),.int .i64] R:=PF ⟨[],[],[],[]⟩ [.cell 4 236,.tmp 5] 11 func397 H
def Nx(gl:Fr)(c:Bt)(b:Int)(R:(Int×Int)->Prop) (H:((cond (hV (b<0)) Ta (hV (b>c.size)))=Ta->R (0,2))/\((cond (hV (b<0)) Ta (hV (b>c.size)))=Tc->aa5 gl 377 [qr .str c,qr q0 b] [.str,.int .i64,.int .i64] (λa:Bt×Int×Int=>R (a.2.1,a.2.2)))):aa5 gl 400 [qr .str c,qr q0 b] [.int .i64,.int .i64] R:=PF ⟨[],[],[],[]⟩ [.tmp 4,.tmp 5] 26 func400 H
def QO(gl:Fr)(c0:Int)(R:ac4) (H:R (cond (hV (c0>=97)) (hV (c0<=122)) Tc)):aa5 gl 401 [qr (.int .u8) c0] [.bool] R:=PF ⟨[],[],[],[]⟩ [.tmp 2] 9 func401 H
def SI(gl:Fr)(b:Bt)(R:ac6) (H:((b.toList==(⟨#[116,114,117,101]⟩:Bt).toList)=Ta->R 10)/\((b.toList==(⟨#[116,114,117,101]⟩:Bt).toList)=Tc->((b.toList==(⟨#[102,97,108,115,101]⟩:Bt).toList)=Ta->R 11)/\((b.toList==(⟨#[102,97,108,115,101]⟩:Bt).toList)=Tc->((b.toList==(⟨#[110,117,108,108]⟩:Bt).toList)=Ta->R 12)/\((b.toList==(⟨#[110,117,108,108]⟩:Bt).toList)=Tc->R 0)))):aa5 gl 402 [qr .str b] [.int .i64] R:=PF ⟨[],[],[],[]⟩ [.tmp 2] 10 func402 H
def Ks(gl:Fr)(e:Bt)(f:Int)(R:ac6) (H:((hV (f>(p3 ((e.size:Int)-4))))=Ta->R (-1))/\((hV (f>(p3 ((e.size:Int)-4))))=Tc->∃(a:Int->Int->Prop) (b:Int->Int->Nat),a 0 f/\∀c d:Int,a c d->((hV (d<(p3 (f+4)))=Ta->(0<=d/\d<e.size)/\((cond (hV ((p3 (ze e d.toNat))>=48)) (hV ((p3 (ze e d.toNat))<=57)) Tc)=Ta->(a (p3 ((p3 ((p3 (16*c))+(p3 (ze e d.toNat))))-48)) (p3 (d+1))/\b (p3 ((p3 ((p3 (16*c))+(p3 (ze e d.toNat))))-48)) (p3 (d+1))<b c d))/\((cond (hV ((p3 (ze e d.toNat))>=48)) (hV ((p3 (ze e d.toNat))<=57)) Tc)=Tc->((cond (hV ((p3 (ze e d.toNat))>=97)) (hV ((p3 (ze e d.toNat))<=102)) Tc)=Ta->(a (p3 ((p3 ((p3 ((p3 (16*c))+(p3 (ze e d.toNat))))-97))+10)) (p3 (d+1))/\b (p3 ((p3 ((p3 ((p3 (16*c))+(p3 (ze e d.toNat))))-97))+10)) (p3 (d+1))<b c d))/\((cond (hV ((p3 (ze e d.toNat))>=97)) (hV ((p3 (ze e d.toNat))<=102)) Tc)=Tc->((cond (hV ((p3 (ze e d.toNat))>=65)) (hV ((p3 (ze e d.toNat))<=70)) Tc)=Ta->(a (p3 ((p3 ((p3 ((p3 (16*c))+(p3 (ze e d.toNat))))-65))+10)) (p3 (d+1))/\b (p3 ((p3 ((p3 ((p3 (16*c))+(p3 (ze e d.toNat))))-65))+10)) (p3 (d+1))<b c d))/\((cond (hV ((p3 (ze e d.toNat))>=65)) (hV ((p3 (ze e d.toNat))<=70)) Tc)=Tc->R (-1)))))/\(hV (d<(p3 (f+4)))=Tc->R c)))):aa5 gl 379 [qr .str e,qr q0 f] [.int .i64] R:=PF ⟨[],[],[(5,⟨[(5,.one (.dat q0)),(6,.one (.dat q0))],[],[],[100320,100384]⟩)],[]⟩ [.tmp 4] 60 func379 H
def Ry(gl:Fr)(n0:Int)(R:Bt->Prop) (H:R (zcy (YG .i32 n0))):aa5 gl 380 [qr q0 n0] [.str] R:=PF ⟨[],[],[],[]⟩ [.tmp 2] 6 func380 H
def OV(gl:Fr)(c:Bt)(R:(Int×Int)->Prop) (H:(0<=(0:Int)/\(0:Int)<(c.size:Int))/\(((ze c (0:Int).toNat:Int)==92)=Ta->aa5 gl 407 [qr .str c] [.int .i32,.int .i64] (λa:Int×Int=>R (a.1,a.2)))/\(((ze c (0:Int).toNat:Int)==92)=Tc->aa5 gl 247 [qr .str c] [.int .i32,.int .i64] (λb:Int×Int=>((cond (hV (b.1<32)) Ta (cond (b.1==65533) (b.2==1) Tc))=Ta->R (0,0))/\((cond (hV (b.1<32)) Ta (cond (b.1==65533) (b.2==1) Tc))=Tc->R (b.1,b.2))))):aa5 gl 403 [qr .str c] [.int .i32,.int .i64] R:=PF ⟨[],[],[],[]⟩ [.tmp 2,.tmp 3] 30 func403 H
def Jv(gl:Fr)(c:Bt)(R:(Int×Int)->Prop) (H:(hV ((c.size:Int)<2)=Ta->R (0,0))/\(hV ((c.size:Int)<2)=Tc->(0<=(1:Int)/\(1:Int)<(c.size:Int))/\aa5 gl 408 [qr (.int .u8) (ze c (1:Int).toNat)] [.int .i32,.bool] (λa:Int×Bool=>(a.2=Ta->R (a.1,2))/\(a.2=Tc->(0<=(1:Int)/\(1:Int)<(c.size:Int))/\(((ze c (1:Int).toNat:Int)==117)=Ta->aa5 gl 409 [qr .str c] [.int .i32,.int .i64] (λb:Int×Int=>R (b.1,b.2)))/\(((ze c (1:Int).toNat:Int)==117)=Tc->R (0,0)))))):aa5 gl 407 [qr .str c] [.int .i32,.int .i64] R:=PF ⟨[],[],[],[]⟩ [.tmp 2,.tmp 3] 24 func407 H
def Mm(gl:Fr)(c0:Int)(R:(Int×Bool)->Prop) (H:∀a:Bool->Prop,(∀b:Bool,((b=Ta->R (YG .i32 c0,Ta))/\(b=Tc->((c0==98)=Ta->R (8,Ta))/\((c0==98)=Tc->((c0==102)=Ta->R (12,Ta))/\((c0==102)=Tc->((c0==110)=Ta->R (10,Ta))/\((c0==110)=Tc->((c0==114)=Ta->R (13,Ta))/\((c0==114)=Tc->((c0==116)=Ta->R (9,Ta))/\((c0==116)=Tc->R (0,Tc))))))))->a b)->((c0==34)=Ta->a (c0==34))/\((c0==34)=Tc->((c0==92)=Ta->a (c0==92))/\((c0==92)=Tc->a (c0==47)))):aa5 gl 408 [qr (.int .u8) c0] [.int .i32,.bool] R:=PF ⟨[],[],[],[(5,⟨[(5,.one (.dat .bool))],[],[],[100320]⟩)]⟩ [.tmp 2,.tmp 3] 21 func408 H
def WZ(gl:Fr)(f:Bt)(R:(Int×Int)->Prop) (H:(0<=(2:Int)/\(2:Int)<=(f.size:Int)/\(f.size:Int)<=(f.size:Int))/\aa5 gl 410 [qr .str (f.extract (2:Int).toNat (f.size:Int).toNat)] [.int .i32,.bool] (λa:Int×Bool=>∀b:Bool->Prop,(∀c:Bool,((c=Ta->R (0,0))/\(c=Tc->((cond (hV (a.1<55296)) Ta (hV (a.1>=57344)))=Ta->R (a.1,6))/\((cond (hV (a.1<55296)) Ta (hV (a.1>=57344)))=Tc->(0<=(6:Int)/\(6:Int)<=(f.size:Int)/\(f.size:Int)<=(f.size:Int))/\aa5 gl 251 [qr .str (f.extract (6:Int).toNat (f.size:Int).toNat),qr .str (⟨#[92,117]⟩:Bt)] [.bool] (λd:Bool=>((!d)=Ta->R (0,0))/\((!d)=Tc->(0<=(8:Int)/\(8:Int)<=(f.size:Int)/\(f.size:Int)<=(f.size:Int))/\aa5 gl 410 [qr .str (f.extract (8:Int).toNat (f.size:Int).toNat)] [.int .i32,.bool] (λe:Int×Bool=>((cond (cond (!e.2) Ta (hV (e.1<56320))) Ta (hV (e.1>=57344)))=Ta->R (0,0))/\((cond (cond (!e.2) Ta (hV (e.1<56320))) Ta (hV (e.1>=57344)))=Tc->R (YG .i32 ((YG .i32 ((YG .i32 (65536+(YG .i32 ((YG .i32 (a.1-55296))*1024))))+e.1))-56320),12))))))))->b c)->((!a.2)=Ta->b (!a.2))/\((!a.2)=Tc->b (cond (hV (a.1>=56320)) (hV (a.1<57344)) Tc)))):aa5 gl 409 [qr .str f] [.int .i32,.int .i64] R:=PF ⟨[],[],[],[(4,⟨[(13,.one (.dat .bool))],[],[],[100832]⟩)]⟩ [.tmp 2,.tmp 3] 58 func409 H
def RP(gl:Fr)(e:Bt)(R:(Int×Bool)->Prop) (H:((!(hV ((e.size:Int)<4)))=Ta->(0<=(0:Int)/\(0:Int)<=4/\(4:Int)<=(e.size:Int)))/\∃a:Bool->Prop,((!(hV ((e.size:Int)<4)))=Ta->aa5 gl 365 [qr .str (e.extract (0:Int).toNat (4:Int).toNat),qr .str (⟨#[43,45,95]⟩:Bt)] [.bool] a)/\∀b:Bool,((!(hV ((e.size:Int)<4)))=Ta->a b)->((cond (hV ((e.size:Int)<4)) Ta b)=Ta->R (0,Tc))/\((cond (hV ((e.size:Int)<4)) Ta b)=Tc->(0<=(0:Int)/\(0:Int)<=4/\(4:Int)<=(e.size:Int))/\aa5 gl 411 [qr .str (e.extract (0:Int).toNat (4:Int).toNat),qr q0 16,qr q0 32] [.int .u64,.err] (λc:Int×Bool=>R (YG .i32 c.1,c.2)))):aa5 gl 410 [qr .str e] [.int .i32,.bool] R:=PF ⟨[],[],[],[]⟩ [.tmp 2,.tmp 3] 24 func410 H
end
section
open Go.Lib
variable {l:Bs} {n r:Nat}
theorem VD(l:Bs):decodeL l=dec l:=by rw[decodeL_N,dec]
theorem pZ(h:l≠[])(b:eF (dec l)=Tc):encodeRune ((dec l).1:Int)=l.take (dec l).2:=by rw[<-VD]at b ⊢;refine encode_decode l h λ⟨h1,h2⟩=>?_;unfold eF at b;simp_all
def eZ(c:UInt8):Option Nat:=
 if 48<=c.toNat/\c.toNat<=57 then Td (c.toNat-48)
 else if 97<=c.toNat/\c.toNat<=102 then Td (c.toNat-87)
 else if 65<=c.toNat/\c.toNat<=70 then Td (c.toNat-55)
 else Te
def NZ{c:UInt8}(h:eZ c=Td n):n<16:=by unfold eZ at h;grind
def fm:Nat->Bs->Option Nat
 |n,[]=>Td n
 |n,c::l=>match eZ c with
  |some d=>fm (16*n+d) l
  |none=>Te
def eS(l:Bs):Option Nat:=if 4<=l.length then fm 0 (l.take 4)else Te
def qG:∀{l:Bs} {n m:Nat},fm n l=Td m->m<(n+1)*16 ^ (DB l)
 |[],n,m,h=>by cases h;simp
 |c::l,n,m,h=>by
  unfold fm at h;cases e:eZ c with
  |none=>grind
  |some d=>rw[e]at h;have h1:=qG h;have h2:=NZ e;have b:(16*n+d+1)*16 ^ (DB l)<=(16*(n+1))*16 ^ (DB l):=Nat.mul_le_mul_right _ ω;grind
def jW(h:eS l=Td n):n<65536:=by unfold eS at h;split at h;have:=qG h;simp_all;cases h
def hG(c:UInt8):Option Nat:=
 if c=34\/c=92\/c=47 then Td c.toNat else if c=98 then Td 8 else if c=102 then Td 12 else if c=110 then Td 10 else if c=114 then Td 13 else if c=116 then Td 9 else Te
def kL(t:Bs):Option (Nat×Nat):=match eS t with
 |none=>Te
 |some n=>if 56320<=n/\n<57344 then Te else if n<55296\/57344<=n then Td (n,6)else
  if(t.drop 4).take 2=[92,117]then match eS (t.drop 6)with
   |some m=>if 56320<=m/\m<57344 then Td (65536+(n-55296)*1024+(m-56320),12)else Te
   |none=>Te
  else Te
def iO(l:Bs):Option (Nat×Nat):=match l with
 |_::c::t=>match hG c with
  |some r=>Td (r,2)
  |none=>if c=117 then kL t else Te
 |_=>Te
def J4(l:Bs):Option (Nat×Nat):=if l.head?=Td 92 then iO l else if(dec l).1<32\/eF (dec l)=Ta then Te else Td (dec l)
def kE:Nat->Bs->Bs×Nat×Bool
 |0,_=>([],0,Tc)
 |f+1,l=>if l=[]then([],0,Tc)else if l.head?=Td 34 then([],1,Ta)else match J4 l with
  |none=>([],0,Tc)
  |some (r,n)=>let q:=kE f (l.drop n);(encodeRune (r:Int)++q.1,n+q.2.1,q.2.2)
def gj(l:Bs):Bs×Nat×Bool:=kE l.length l
def Lb{t:Bs}(h:kL t=Td (r,n)):(n=6\/n=12)/\n<=DB t+2/\r<=1114111:=by
 unfold kL at h;cases e:eS t with
 |none=>grind
 |some m=>
  have c:=jW e;have f:4<=DB t:=by unfold eS at e;split at e;assumption;cases e
  rw[e]at h;dsimp only at h;split at h;cases h;split at h;grind;split at h;cases e2:eS (t.drop 6)with
  |none=>simp_all
  |some k=>
   have b:4<=(t.drop 6).length:=by unfold eS at e2;split at e2;assumption;cases e2
   grind
  cases h
def G8{c:UInt8}(h:hG c=Td r):r<=255:=by have:=c.toNat_lt;unfold hG at h;grind
def AF(h:iO l=Td (r,n)):2<=n/\n<=12/\n<=DB l/\r<=1114111:=by
 match l,h with
 |a::c::t,h=>
  unfold iO at h;dsimp only at h;cases e:hG c with
  |some k=>rw[e]at h;cases h;have:=G8 e;grind
  |none=>rw[e]at h;dsimp only at h;split at h;have⟨h1,h2,b⟩:=Lb h;grind;cases h
def Eo(l:Bs):(dec l).1<=1114111:=by have h0:=(l.getD 0 0).toNat_lt;have h1:=(l.getD 1 0).toNat_lt;have h2:=(l.getD 2 0).toNat_lt;have b:=(l.getD 3 0).toNat_lt;unfold dec decodeN;grind
def Y0(b:l≠[])(h:J4 l=Td (r,n)):1<=n/\n<=12/\n<=DB l/\r<=1114111:=by
 unfold J4 at h;split at h;have⟨h1,h2,c,e⟩:=AF h;omega;split at h;cases h;have h:=ZZ h;obtain⟨rfl,rfl⟩:r=(dec l).1/\n=(dec l).2:=θ
 have h1:=ju l;have h2:=lZ b;exact⟨h1.1,ω,h2,Eo l⟩
theorem BW:∀(f:Nat) (l:Bs),DB l<=f->∀g,DB l<=g->kE f l=kE g l
 |0,l,h,g,_=>by have:l=[]:=za2.1 ω;subst this;cases g <;> simp[kE]
 |f+1,l,h,0,hg=>by have:l=[]:=za2.1 ω;subst this;simp[kE]
 |f+1,l,h,g+1,hg=>by
  unfold kE;by_cases h1:l=[];simp_all;rw[za h1,za h1];by_cases h2:l.head?=Td 34;simp_all;rw[za h2,za h2];cases e:J4 l with
  |none=>rfl
  |some x=>have⟨r,n⟩:=x;have⟨b,_,c,_⟩:=Y0 h1 e;have:=BW f (l.drop n) η g η;simp_all
theorem EZ:gj []=([],0,Tc):=rfl
theorem Yj(h:l≠[]):gj l=if l.head?=Td 34 then([],1,Ta)else match J4 l with
 |none=>([],0,Tc)
 |some (r,n)=>(encodeRune (r:Int)++(gj (l.drop n)).1,n+(gj (l.drop n)).2.1,(gj (l.drop n)).2.2):=by
 have c:=zaj.2 h;obtain⟨f,b⟩:∃f,DB l=f+1:=⟨DB l-1,ω⟩;rw[gj,b,kE,za h];by_cases h2:l.head?=Td 34;simp_all;rw[za h2,za h2];cases e:J4 l with
 |none=>rfl
 |some x=>have⟨r,n⟩:=x;have⟨i,_,k,_⟩:=Y0 h e;dsimp only;rw[gj,BW f (l.drop n) θ (l.drop n).length (YJ _)]
def EP:∀(k:Nat) (l:Bs),DB l=k->(gj l).2.1<=DB l/\(gj l).1.length<=4*DB l:=by
 intro k;induction k using Nat.strongRecOn with
 |_ k b=>
  intro l i;by_cases h:l=[];subst h;exact⟨YJ _,YJ _⟩;have f:=zaj.2 h;rw[Yj h];split;grind;cases e:J4 l with
  |none=>simp
  |some x=>
   have⟨r,n⟩:=x;have⟨m,_,p,_⟩:=Y0 h e;have c:(l.drop n).length=DB l-n:=ZE;have:=b (l.drop n).length ω _ rfl;have o:(encodeRune (r:Int)).length<=4:=by have:=(encodeRuneZ_length (r:Int)).2;rw[encodeRune,YO];exact this
   simp;omega
def ye(t:Bs)(a:Nat):Bs×Nat×Int:=
 if(t.drop a).head?=Td 34 then(let q:=gj (t.drop (a+1));if q.2.2 then(q.1,a+1+q.2.1,0)else([],a+1+q.2.1,2))else([],a,2)
def Qr(t:Bs):Bs×Nat×Int:=let r:=ye t 0;if r.2.2=0/\r.2.1<t.length then([],r.2.1,2)else r
def gC(c:UInt8):Bs:=
 if c=34\/c=92 then [92,c]else if c=8 then [92,98]else if c=12 then [92,102]else if c=10 then [92,110]else if c=13 then [92,114]else if c=9 then [92,116]
 else if c.toNat<32 then [92,117,48,48,ZR (48+c.toNat / 16),ZR (if c.toNat % 16<10 then 48+c.toNat % 16 else 87+c.toNat % 16)]else [c]
def Jd(l:Bs):Bs:=l.flatMap gC
def eY(l:Bs):Bs×Int:=if xn l then(34::Jd l++[34],0)else([],2)
end
section
open Go.RowKit
section
variable {h:zb} {b:Nat} {l:Bs} {r:Int} {K:Value -> zb -> Prop}
def GX(H:Bld h b l)(h0:0<=r)(h1:r<=1114111)(hl:l.length+4<=140737488355328)(N:∀h' n,Bld h' b (l++Lib.encodeRune r)->Bk b h h'->Itk h h'->K (.tuple #[ab0 n,.nilIface]) h'):aa4 198 #[aa7 ⟨b,0,Te⟩,.int .i32 r] h K:=by
 apply Q9;refine tT H λh2 C k2 z2 F=>⟨rfl,_,rfl,?_⟩;have t:=C.lt;have⟨p,s,e,U,w⟩:=C;have u:=w.1;rw[Lib.byteCells_length,zbf]at u;have c1:=Blk.aa2 (o:=0) (k:=1) (v:=aK s) (cs:=#[.pointer p,aK s]) ⟨_,e⟩ rfl;refine⟨s,c1,_,rfl,s,c1,?_⟩;refine XC.of_calls λB d=>(Xo (b+1) (aK s) s.len (Lib.byteCells l) r ω ω (mk B d h2) w ω (show b+1<=h2.size by omega)).mono ?_;rintro e' w' ⟨D,rfl,q,o,f⟩;obtain⟨m,rfl,Z⟩:∃m:Sl,D=aK m/\m.len=s.len+(Lib.runeCells r).length:=by obtain⟨rfl,S⟩|⟨g,cap,V,rfl,_⟩:=q.2;exact⟨⟨Te,0,0⟩,rfl,S.symm⟩;exact⟨⟨_,_,_⟩,rfl,rfl⟩
 have E:DP w'.heap (b+1) 5 1 m (Lib.byteCells (l++Lib.encodeRune r)):=by
  have e1:Lib.byteCells (l++Lib.encodeRune r)=Lib.byteCells l++Lib.runeCells r:=by rw[<-Lib.byteCells_encodeRune];unfold Lib.byteCells;rw[zaa]
  rw[e1];rw[<-Z]at q;exact q
 have I:w'.heap[b]?=Td (.cells #[.pointer p,aK s] 89 (0,0)):=by
  have x:=f.block b (by show b<(h2.push o).size;grind) (by
   intro c;cases ha:s.a with
   |none=>rw[aK,ha]at c;cases c
   |some a=>have:=w.base_le a ha;rw[aK,ha]at c;simp only[Value.ownBlock,YK]at c;omega)
  rw[x];show(h2.push o)[b]?=_;rw[Array.getElem?_push_lt t,<-e];simp[t]
 have J:Bk b h w'.heap:=by
  refine k2.trans ⟨?_,λi hi=>?_⟩ (YJ _);have:=f.size;have h3:(h2.push o).size<=w'.heap.size:=this;grind;have x:=f.block i (by show i<(h2.push o).size;grind) (by
   intro c;cases ha:s.a with
   |none=>rw[aK,ha]at c;cases c
   |some a=>have:=w.base_le a ha;rw[aK,ha]at c;simp only[Value.ownBlock,YK]at c;omega)
  rw[x];show(h2.push o)[i]?=_;grind
 have P:Itk h2 w'.heap:=Itk.own w λi hi y=>by
  have x:=f.block i (by show i<(h2.push o).size;grind) (by
   intro c;cases ha:s.a with
   |none=>rw[aK,ha]at c;cases c
   |some a=>have:=y a ha;rw[aK,ha]at c;simp only[Value.ownBlock,YK]at c;exact this c)
  rw[x];show(h2.push o)[i]?=_;grind
 refine⟨_,rfl,f.os,f.tape,f.output,m,rfl,_,rfl,?_⟩;refine zZ I U E λM A G z7 L=>?_;have O:=A;have⟨Q,z,Y,_,_⟩:=O;exact⟨_,rfl,z,Blk.aa2 (o:=0) (k:=1) (v:=aK z) (cs:=#[.pointer Q,aK z]) ⟨_,Y⟩ rfl,N M _ A (J.trans G (YJ _)) (F.trans (P.trans L))⟩
def Py(H:Bld h b l)(h0:0<=r)(h1:r<=1114111)(c:l.length+4<=140737488355328)(e:∀h' n,Bld h' b (l++Lib.encodeRune r)->Bk b h h'->K (.tuple #[ab0 n,.nilIface]) h'):aa4 198 #[aa7 ⟨b,0,Te⟩,.int .i32 r] h K:=
 GX H h0 h1 c λh' n a b _=>e h' n a b
def v7(c:Int):Option Nat:=let lo:=bits .or .u8 c 32
 if 97<=lo/\lo<=122 then(let d:=YG .u8 ((YG .u8 (lo-97))+10);if d>=16 then Te else Td d.toNat)else Te
def Mv:(zac 256).all (λc=>decide (48<=c/\c<=57)||(v7 (c:Int)==eZ (ZR c)))=Ta:=κ
def LU{c:UInt8}(h:¬(48<=c.toNat/\c.toNat<=57)):v7 (c.toNat:Int)=eZ c:=by have:=ZB.1 Mv c.toNat (zaz.2 c.toNat_lt);rw[za1,zA]at this;obtain h1|h1:=this;omega;simp_all
def Rz:(zac 256).all (λc=>decide (0<=YG .u8 ((YG .u8 ((bits .or .u8 (c:Int) 32)-97))+10)))=Ta:=κ
def uc{c:Int}(b:K (.int .u8 (bits .or .u8 c 32)) h):aa4 387 #[.int .u8 c] h K:=by refine XC.of_calls λB d=>(Wt c (mk B d h)).mono ?_;rintro e w' ⟨rfl,rfl⟩;exact⟨_,rfl,rfl,rfl,rfl,b⟩
theorem Xw:∀(a b:Bs) (n:Nat),fm n (a++b)=(fm n a).bind λm=>fm m b
 |[],b,n=>rfl
 |c::a,b,n=>by
  show(match eZ c with|some d=>fm (16*n+d) (a++b)|none=>Te)=(match eZ c with|some d=>fm (16*n+d) a|none=>Te).bind _;cases eZ c with
  |none=>rfl
  |some d=>exact Xw a b _
def Ia(n:Nat)(c:UInt8):fm n [c]=(eZ c).map λd=>16*n+d:=by show(match eZ c with|some d=>fm (16*n+d) []|none=>Te)=_;cases eZ c <;> rfl
def Kc{s:Bs}(c:∀(x:Sl) h',Bk h.size h h'->x.len=DB s->x.a=Td (aa8 h)->(∀j (b:j<DB s),zd h' ⟨h.size,j,Te⟩=Td (.int .u8 (s[j].toNat:Int)))->K (aK x) h'):CA Tp (convert 9 87 (aa6 (bl s))) h K:=by intro B d;refine⟨_,_,_,Lib.run_convert_string_bytes (P:=Tp) (mk B d h) 9 87 5 (bl s) rG RM.slice κ,?_⟩;refine c ⟨Td (aa8 h),(bl s).size,_⟩ _ ⟨?_,λi hi=>?_⟩ (zf s) rfl λj b=>?_;show h.size<=(Lib.bytesWorld (mk B d h) 5 (bl s)).heap.size;rw[Lib.bytesWorld_size];exact Nat.le_succ _;exact Lib.bytesWorld_at_old (mk B d h) 5 (bl s) i hi;have:=Lib.bytesWorld_cell (mk B d h) 5 (bl s) j (by rw[zf];exact b);have e:(bl s).data.toList=s:=yr s;rw[e,List.getD_eq_getElem?_getD,YS b]at this;exact this
def Ox(C:l.length=4)(h1:∀n h',fm 0 l=Td n->Bk h.size h h'->K (.tuple #[.int .u64 (n:Int),.nilIface]) h') (h2:∀h',fm 0 l=Te->Bk h.size h h'->K (.tuple #[.int .u64 0,.iface 351 (ab0 2)]) h'):aa4 360 #[aa6 (bl l),ab0 16,ab0 32] h K:=by
 apply Qv;have he:((bl l:Bt).toList==((⟨#[]⟩:Bt):Bt).toList)=Tc:=by have:((bl l:Bt).toList==((⟨#[]⟩:Bt):Bt).toList)=hV (l=[]):=fS l [];rw[this,decide_eq_false_iff_not];intro e;rw[e]at C;simp at C
 refine⟨λe=>θ,λ_=>?_⟩;intro K4 Q;refine⟨λ_=>Q _ _ _ ?_,λe=>ι e⟩;intro K7 L;refine⟨λe=>ι e,λ_=>⟨λe=>ι e,λ_=>L _ _ ?_⟩⟩;intro aa B;refine⟨λe=>ι e,λ_=>⟨λ_=>B _ _ ?_,λe=>ι e⟩⟩;have A:(YG .u64 32:Int)=32:=ζ
 refine⟨ο A,?_⟩;refine Kc λx h3 I xl xa xc=>⟨x,rfl,?_⟩;refine⟨λu n i g=>u=Tc/\g=h3/\∃(k m:Nat),k<=4/\i=(k:Int)/\n=(m:Int)/\fm 0 (l.take k)=Td m,λu n i g=>4-i.toNat,⟨rfl,rfl,0,0,ω,rfl,rfl,rfl⟩,?_⟩;rintro u n i g ⟨rfl,rfl,k,m,hk,rfl,rfl,D⟩;have ab:m<65536:=by
  have:=qG D;have hp:(l.take k).length<=4:=by rw[ZV];omega
  have:16 ^ (l.take k).length<=16 ^ 4:=Nat.pow_le_pow_right ω hp;omega
 refine⟨λY=>?_,λY=>?_⟩;have y:k<4:=by rw[zA,xl,C]at Y;omega
 have t:k<DB l:=ω
 refine⟨(aa8 h),⟨xa,ω,ω⟩,(l[k].toNat:Int),?_,?_⟩;rw[zm,YL,zbf,ZO];exact xc k t;generalize H:l[k]=c;have f:fm 0 (l.take (k+1))=(eZ c).map λd=>16*m+d:=by rw[YP t,Xw,D,H];exact Ia m c
 have o:eZ c=Te->fm 0 l=Te:=by intro e;rw[e]at f;rw[<-zba (k+1) l,Xw,f];rfl
 have cl:=c.toNat_lt;intro J s;have fin:∀d:Int,0<=d->(d<16->eZ c=Td d.toNat)->(16<=d->eZ c=Te)->J Tc d g:=by
  intro d V N E;apply s;have F:(YG .u8 16:Int)=16:=ζ
  have q:(YG .u64 16:Int)=16:=ζ
  rw[F,q,A];refine⟨λe=>h2 _ (o (E (ψ e))) I,λe=>?_⟩;have r:d<16:=ψ e
  have hv:=N r;rw[hv]at f;have O:∀z:Int,0<=z->z<18446744073709551616->YG .u64 z=z:=by
   intro z z0 z1;((try unfold p3);unfold YG);have p:(2:Int) ^ zan .u64=18446744073709551616:=ζ
   have M:zdd .u64=Tc:=rfl;simp only[p,M,Bool.false_and,zaq,if_false];exact Int.emod_eq_of_lt z0 z1
  have p:YG .u64 ((m:Int)*16)=(m:Int)*16:=O _ ω ω;have M:YG .u64 d=d:=O _ V ω;have e3:YG .u64 ((m:Int)*16+d)=(m:Int)*16+d:=O _ ω ω;have e4:(YG .u64 ((YG .u64 (1*2 ^ (min (32:Int).toNat 64)))-1):Int)=4294967295:=ζ
  rw[p,M,e3,e4];refine⟨λe=>?_,λ_=>⟨λe=>?_,λ_=>?_⟩⟩;rw[zA]at e;omega;simp only[ph,Bool.if_true_left,za1,zA]at e;omega;rw[qo (n:=4) y ω];refine⟨⟨rfl,rfl,k+1,16*m+d.toNat,ω,rfl,ω,f⟩,?_⟩;simp;omega
 have w:(cond ((c.toNat:Int)==95) ((16:Int)==0) Tc)=Tc:=by cases((c.toNat:Int)==95) <;> rfl
 refine⟨λe=>(ς w e),λ_=>⟨λe=>?_,λe=>?_⟩⟩;have r:48<=c.toNat/\c.toNat<=57:=by simp only[ph,Bool.if_false_right,YR,zA]at e;omega
 rw[yV ω ω];refine fin _ ω (λ_=>?_) (λZ=>ω);unfold eZ;rw[zi r];congr 1;omega;have r:¬(48<=c.toNat/\c.toNat<=57):=by simp only[ph,Bool.if_false_right,zas,decide_eq_false_iff_not,zA]at e;omega
 have b:=LU r;have U:=ZB.1 Rz c.toNat (zaz.2 cl);rw[zA]at U;unfold v7 at b;dsimp only at b;refine uc ?_;generalize S:bits .or .u8 (c.toNat:Int) 32=lo at b U ⊢;refine⟨lo,rfl,λv g'=>v=.int .u8 lo/\g'=g,λ_=>uc ?_,λ_=>⟨lo,rfl,rfl⟩,?_,?_⟩;simp;omega;simp;rintro x g' ⟨p,rfl⟩;injection p with _ p;subst p;refine⟨λG=>uc ?_,λG=>?_⟩;rw[S];refine⟨x,rfl,?_⟩;have P:97<=x/\x<=122:=by simp only[ph,Bool.if_false_right,YR,zA]at G;omega
 rw[zi P]at b;refine fin _ U (λZ=>?_) (λZ=>?_);rw[za ω]at b;exact b.symm;rw[zi ω]at b;exact b.symm;have P:¬(97<=x/\x<=122):=by simp only[ph,Bool.if_false_right,zas,decide_eq_false_iff_not,zA]at G;omega
 rw[za P]at b;exact h2 _ (o b.symm) I;have y:k=4:=by rw[decide_eq_false_iff_not,xl,C]at Y;omega
 refine⟨λv g'=>g'=g,(λe=>ε e),(λ_=>⟨Ta,rfl⟩),(λe=>ε e),?_⟩;rintro x g' rfl;refine⟨λe=>(ε e),λ_=>h1 _ _ ?_ I⟩;rw[List.take_of_length_le ω]at D;exact D
end
section
theorem Rs{z:UInt8}(h:128<=z.toNat):Lib.indexByte [95] z=-1:=by
 have:z≠95:=by rintro rfl;revert h;decide
 unfold Lib.indexByte;simp[Lib.indexByte,this.symm]
theorem TT{z:UInt8}:Lib.indexByte [] z=-1:=by simp[Lib.indexByte]
def VR(r:Int)(e:Ending):Prop:=∃b,e=.returned (.bool b)/\(b=Ta->(0<=r/\r<55296)\/(57343<r/\r<=1114111))
def Vy(r:Int)(w:MN):Calls Tp 394 #[.int .i32 r] w λe w'=>VR r e/\w'=w:=by
 have mixed:=Tryz.mixed
 go_enter func394,Tryz.ntmps394
 by_cases h1:0<=r <;> by_cases h2:r<55296 <;> by_cases c:57343<r <;> by_cases b:r<=1114111 <;> (go_wp2;go_ret;exact⟨⟨_,rfl,λh=>by first|omega|cases h⟩,rfl⟩)
def OY(r:Int)(h:128<=r):(∃a z:UInt8,zcy r=⟨#[a,z]⟩/\128<=z.toNat)\/(∃a b z:UInt8,zcy r=⟨#[a,b,z]⟩/\128<=z.toNat)\/(∃a b c z:UInt8,zcy r=⟨#[a,b,c,z]⟩/\128<=z.toNat):=by
 have f:∀n:Nat,128<=(ZR (128+n % 64)).toNat:=λn=>by have:(ZR (128+n % 64)).toNat=(128+n % 64) % 256:=UInt8.toNat_ofNat;rw[this,Nat.mod_eq_of_lt ω];omega
 have i:∃c:Nat,128<=c/\(ite (Utf8.valid r) r.toNat Utf8.runeError)=c:=by refine⟨_,?_,rfl⟩;split;omega;decide
 have⟨c,k,e⟩:=i;unfold zcy;simp only[e];rw[za ω];by_cases h1:c<2048;rw[zi h1];exact .inl ⟨_,_,rfl,f _⟩;rw[za h1];by_cases h2:c<65536;rw[zi h2];exact .inr (.inl ⟨_,_,_,rfl,f _⟩);rw[za h2];exact .inr (.inr ⟨_,_,_,_,rfl,f _⟩)
def IR(e:Ending):Prop:=∃n,e=.returned (.int .i64 n)
def Me(r:Int)(w:MN)(h1:128<=r)(h2:r≠65533):Calls Tp 369 #[aa6 ⟨#[43,45,95]⟩,.int .i32 r] w λe w'=>IR e/\Below w.heap.size w w':=by
 have mixed:=Tryz.mixed;have m:∀args w,(callFunc 319 args).run Tp w=.ok (.enter 319 args) w:=enters_of func319 κ rfl;have n:∀args w,(callFunc 394 args).run Tp w=.ok (.enter 394 args) w:=enters_of func394 κ rfl;have p:¬r<128:=ω
 go_enter func369,Tryz.ntmps369
 go_wp2_with (go_at_fn 394;refine(Vy _ _).mono ?_;rintro e w' ⟨⟨b,rfl,q⟩,o⟩;rw[o];cases b)
 go_ret
 exact⟨⟨_,rfl⟩,Below.refl _ _⟩
 ·obtain⟨a,z,k,l⟩|⟨a,b,z,k,l⟩|⟨a,b,c,z,k,l⟩:=OY r h1
  ·have f:=λ(w:MN)=>run_convert_int_string (P:=Tp) w 21 9 .i32 r κ κ;rw[k]at f;refine wp_scope_straight ?_
   go_wp2
   go_loop [9] (λv=>v=.int .i64 1) (λ_=>0)
   case atStart=>rfl
   case round=>
    subst hrel
    go_wp2
    refine wp_scope_straight ?_;have i:((45:Int) != (z.toNat:Int))=Ta:=bne_iff_ne.2 ω
    go_wp2
    go_region
    simp only[show ∀h,((⟨#[43,45,95]⟩:Bt)[1]'h)=45 from λ_=>rfl,show ∀h,((⟨#[a,z]⟩:Bt)[1]'h)=z from λ_=>rfl,show((45:UInt8).toNat:Int)=45 from rfl,i];all_goals go_wp2
    all_goals go_region_with (go_at_call 319;refine(j8 _ _ _).mono ?_;rintro e w' ⟨rfl,rfl⟩)
    all_goals simp only[show ∀h,((⟨#[a,z]⟩:Bt)[1]'h)=z from λ_=>rfl,Rs l]
    all_goals go_wp2
    all_goals simp only[Exit.noGoto,Exit.inBlock]
    all_goals go_wp2
    all_goals simp only[Exit.noGoto,Exit.inBlock]
    all_goals go_wp2
    all_goals go_ret
    all_goals exact⟨⟨_,rfl⟩,BZ w 2⟩
  ·have f:=λ(w:MN)=>run_convert_int_string (P:=Tp) w 21 9 .i32 r κ κ;rw[k]at f;refine wp_scope_straight ?_
   go_wp2
   go_loop [9] (λv=>v=.int .i64 2) (λ_=>0)
   case atStart=>rfl
   case round=>
    subst hrel
    go_wp2
    refine wp_scope_straight ?_;have i:((95:Int) != (z.toNat:Int))=Ta:=bne_iff_ne.2 ω
    go_wp2
    go_region
    simp only[show ∀h,((⟨#[43,45,95]⟩:Bt)[2]'h)=95 from λ_=>rfl,show ∀h,((⟨#[a,b,z]⟩:Bt)[2]'h)=z from λ_=>rfl,show((95:UInt8).toNat:Int)=95 from rfl,i];all_goals go_wp2
    all_goals go_region_with (go_at_call 319;refine(j8 _ _ _).mono ?_;rintro e w' ⟨rfl,rfl⟩)
    all_goals simp only[show ∀h,((⟨#[a,b,z]⟩:Bt)[2]'h)=z from λ_=>rfl,TT]
    all_goals go_wp2
    all_goals simp only[Exit.noGoto,Exit.inBlock]
    all_goals go_wp2
    all_goals simp only[Exit.noGoto,Exit.inBlock]
    all_goals go_wp2
    all_goals go_ret
    all_goals exact⟨⟨_,rfl⟩,BZ w 2⟩
  ·have f:=λ(w:MN)=>run_convert_int_string (P:=Tp) w 21 9 .i32 r κ κ;rw[k]at f;refine wp_scope_straight ?_
   go_wp2
   go_loop [9] (λv=>v=.int .i64 3) (λ_=>0)
   case atStart=>rfl
   case round=>
    subst hrel
    go_wp2
    go_ret
    exact⟨⟨_,rfl⟩,Below.refl _ _⟩
end
end
section
open Go.Lib
def vl(l:Bs):Prop:=∀c∈l,c.toNat<128
theorem Dj(cs:Bs):∀l:Bs,containsAny l cs=l.any λc=>cs.contains c
 |[]=>by simp[containsAny,indexAny]
 |c::l=>by have e:=Dj cs l;have b:=indexAny_ge cs l;rw[List.any_cons,<-e];unfold containsAny;rw[indexAny];grind
end
section
def Vd(gl:Fr)(c:Bt)(b:Bt)(R:ac4) (H:aa5 gl 391 [qr .str c,qr .str b] [.int .i64] (λa:Int=>R (hV (a>=0)))):aa5 gl 365 [qr .str c,qr .str b] [.bool] R:=PF ⟨[],[],[],[]⟩ [.tmp 4] 9 func365 H
def Sv(gl:Fr)(l:Bt)(k:Bt)(R:ac6) (H:((k.toList==(⟨#[]⟩:Bt).toList)=Ta->R (-1))/\((k.toList==(⟨#[]⟩:Bt).toList)=Tc->(((k.size:Int)==1)=Ta->(0<=(0:Int)/\(0:Int)<(k.size:Int))/\∀a:Int->Prop,(∀b:Int,(aa5 gl 369 [qr .str l,qr (.int .i32) b] [.int .i64] (λc:Int=>R c))->a b)->((hV ((YG .i32 (ze k (0:Int).toNat))>=128))=Ta->a 65533)/\((hV ((YG .i32 (ze k (0:Int).toNat))>=128))=Tc->a (YG .i32 (ze k (0:Int).toNat))))/\(((k.size:Int)==1)=Tc->∀d:Prop,((∃(e:(Bt×Nat)->Prop) (f:(Bt×Nat)->Nat),e (l,0)/\∀h:Bt×Nat,e h->(((fe h.1 h.2)=Ta->(fe h.1 h.2)=Ta/\(fe h.1 h.2)=Ta/\aa5 gl 369 [qr .str k,qr (.int .i32) (gg h.1 h.2)] [.int .i64] (λg:Int=>(hV (g>=0)=Ta->R (h.2:Int))/\(hV (g>=0)=Tc->(e (h.1,fp h.1 h.2)/\f (h.1,fp h.1 h.2)<f h))))/\((fe h.1 h.2)=Tc->R (-1))))->d)->aa5 gl 404 [qr q0 (l.size:Int)] [.bool] (λi:Bool=>(i=Ta->False)/\(i=Tc->d))))):aa5 gl 391 [qr .str l,qr .str k] [.int .i64] R:=PF ⟨[],[],[(18,⟨[],[(45,[.dat .iter])],[],[1002880]⟩)],[(7,⟨[(5,.one (.dat (.int .i32)))],[],[],[100320]⟩),(17,⟨[],[],[],[]⟩)]⟩ [.tmp 4] 55 func391 H
def Q3(gl:Fr)(h:Bt)(f:Int)(R:ac6) (H:((cond (hV ((0:Int)<=f)) (hV (f<128)) Tc)=Ta->aa5 gl 319 [qr .str h,qr (.int .u8) (YG .u8 f)] [.int .i64] (λa:Int=>R a))/\((cond (hV ((0:Int)<=f)) (hV (f<128)) Tc)=Tc->((f==65533)=Ta->∃(b:(Bt×Nat)->Prop) (c:(Bt×Nat)->Nat),b (h,0)/\∀e:Bt×Nat,b e->(((fe e.1 e.2)=Ta->(fe e.1 e.2)=Ta/\(fe e.1 e.2)=Ta/\(((gg e.1 e.2:Int)==65533)=Ta->R (e.2:Int))/\(((gg e.1 e.2:Int)==65533)=Tc->(b (e.1,fp e.1 e.2)/\c (e.1,fp e.1 e.2)<c e)))/\((fe e.1 e.2)=Tc->R (-1))))/\((f==65533)=Tc->aa5 gl 394 [qr (.int .i32) f] [.bool] (λd:Bool=>((!d)=Ta->R (-1))/\((!d)=Tc->False))))):aa5 gl 369 [qr .str h,qr (.int .i32) f] [.int .i64] R:=PF ⟨[],[],[(38,⟨[],[(175,[.dat .iter])],[],[1011200]⟩)],[]⟩ [.tmp 4] 187 func369 H
def Ya(gl:Fr)(b:Int)(R:ac4) (H:R (hV (b>8))):aa5 gl 404 [qr q0 b] [.bool] R:=PF ⟨[],[],[],[]⟩ [.tmp 2] 5 func404 H
end
section
open Go.RowKit
section
variable {gl:Fr} {R:Int -> Prop}
def Fi{f:n5}{args:List Arg}{us:ab2}(c:ki args=Td us)(l:∀n,R n)(H:∀w:MN,Calls Tp f us.toArray w λe w'=>IR e/\Below w.heap.size w w'):aa5 gl f args [.int .i64] R:=by intro h M vs m ag i;rw[tm c i];refine XC.of_calls λB d=>(H (mk B d h)).mono ?_;rintro e w' ⟨⟨n,rfl⟩,b⟩;have k:Bk h.size h w'.heap:=⟨b.size,b.block⟩;exact⟨_,rfl,b.os,b.tape,b.output,k,M,n,Fr.le.refl _,λ_ _=>rfl,ag.aa1 k,Io _ _,l n⟩
def WN{r:Int}(k:0<=r)(b:∀n,R n):aa5 gl 369 [qr .str (bl [43,45,95]),qr (.int .i32) r] [.int .i64] R:=by
 by_cases h1:r<128;apply Q3;have e:(cond (hV ((0:Int)<=r)) (hV (r<128)) Tc)=Ta:=by simp[k,h1]
 rw[e];exact⟨λ_=>uZ (b _),λc=>by cases c⟩;by_cases h2:r=65533;subst h2;apply Q3;refine⟨λ_=>uZ (b _),λ_=>⟨λ_=>?_,λc=>by cases c⟩⟩;refine⟨λq=>∃p:Nat,q=(bl [43,45,95],p),λq=>3-q.2,⟨0,rfl⟩,?_⟩;rintro q ⟨p,rfl⟩;simp only[oT];refine⟨λf=>⟨f,f,λ_=>b _,λ_=>⟨⟨_,rfl⟩,?_⟩⟩,λ_=>b _⟩;have h:p<[43,45,95].length:=ψ f
 have i:p<3:=h;rw[lH _ _ h];have:=(ju (([43,45,95]:Bs).drop p)).1;omega;exact Fi (us:=[aa6 ⟨#[43,45,95]⟩,.int .i32 r]) rfl b λw=>Me r w ω h2
def Ss(w:MN)(b c:Obj):Below w.heap.size w ((w.alloc b).alloc c):=((Below.refl _ w).alloc (YJ _) b).alloc (by show w.heap.size<=(w.heap.push b).size;simp) c
def SQ(l:Bs):(0:Int)<=((dec l).1:Int):=Int.natCast_nonneg _
def Oj{l:Bs}(B:l.length<=9){R:ac4}(h1:vl l->R (l.any λc=>[43,45,95].contains c))(h2:¬vl l->∀b,R b):aa5 gl 365 [qr .str (bl l),qr .str (bl [43,45,95])] [.bool] R:=by
 have i:∀(j:Nat) (b:UInt8),([43,45,95]:Bs)[j]?=Td b->b.toNat<128:=by intro j b f;have:b∈([43,45,95]:Bs):=zbj f;simp at this;obtain rfl|rfl|rfl:=this <;> decide
 by_cases m:vl l;refine QH (s:=bl l) (c:=bl [43,45,95]) (by rw[zf];omega) (by rw[zf];decide) ?_ ?_ ?_;rw[yr];exact λj b f=>m b (zbj f);rw[yr];exact i;rw[yr,yr,Dj];exact h1 m;have f:=h2 m;apply Vd;by_cases A:l.length<=8;apply Sv;have y:((bl [43,45,95]).toList==(⟨#[]⟩:Bt).toList)=Tc:=by rw[O8,yr];rfl
 have r:((((bl [43,45,95]).size:Int))==1)=Tc:=by rw[zf];rfl
 rw[y,r];refine⟨λh=>(by cases h),λ_=>⟨λh=>(by cases h),λ_ K o=>?_⟩⟩;apply Ya;have z:hV (((bl l).size:Int)>8)=Tc:=by rw[zf];simp;omega
 rw[z];refine⟨λh=>(by cases h),λ_=>o ?_⟩;refine⟨λq=>∃p:Nat,q=(bl l,p),λq=>DB l-q.2,⟨0,rfl⟩,?_⟩;rintro q ⟨p,rfl⟩;simp only[oT];refine⟨λk=>⟨k,k,?_⟩,λ_=>f _⟩;have x:p<DB l:=ψ k
 refine WN (by rw[oU];exact SQ _) λn=>⟨λ_=>f _,λ_=>⟨⟨_,rfl⟩,?_⟩⟩;rw[lH _ _ x];have:=(ju (l.drop p)).1;omega;refine Fi (us:=[aa6 (bl l),aa6 (bl [43,45,95])]) rfl (λn=>f _) λw=>?_;have u:=(zero_of_info (P:=Tp) (t:=280) (v:=.agg (zbu 256 (aa9 Tc))) (n:=256) κ).1;refine(Xu u (bl l) (bl [43,45,95]) w (by rw[zf];decide) (by rw[zf];omega) (by rw[zf];omega) (by rw[zf];decide) i).mono ?_;rintro e w' ⟨rfl,rfl⟩;exact⟨⟨_,rfl⟩,Ss w _ _⟩
end
section
variable {gl:Fr} {l:Bs}
def RH{gl M:Fr}(k:yJ gl)(f:Fr.le gl M){h:zb}(ag:AgM M h){fn s:Bt}(i:s.size<=281474976710656){b n:Int}{K:vvv}(p:∀t u h',Bk h.size h h'->K (.iface t u) h'):aa4 314 #[aa6 fn,aa6 s,ab0 b,ab0 n,.iface 351 (ab0 2)] h K:=by have⟨⟨cs,l,m,q,o⟩,_⟩:=k;refine XC.of_calls λB d=>(Ws fn s b n l (mk B d h) i (AgM.glob (w:=mk B d h) ag (f _ _ m) q) o).mono ?_;rintro e w' ⟨N,rfl,h1,h2,c⟩;exact⟨_,rfl,c.os,c.tape,c.output,p _ _ _ ⟨c.size,c.block⟩⟩
def te:∀{l:Bs} {c:UInt8} (n:Nat),c∈l->eZ c=Te->fm n l=Te
 |x::l,c,n,b,hv=>by
  show(match eZ x with|some d=>fm (16*n+d) l|none=>Te)=Te;obtain rfl|b:=YT.1 b;rw[hv];cases eZ x with
  |none=>rfl
  |some d=>exact te _ b hv
def Bu{c:UInt8}(h:c.toNat<48\/c=95\/128<=c.toNat):eZ c=Te:=by
 have h':c.toNat<48\/c.toNat=95\/128<=c.toNat:=by obtain h|rfl|h:=h <;> simp[*]
 unfold eZ;rw[za ω,za ω,za ω]
def VY(i:GL gl)(c:l.length=4){R:Int×Bool->Prop}(h1:∀n:Nat,fm 0 l=Td n->R ((n:Int),Ta))(h2:fm 0 l=Te->R (0,Tc)):aa5 gl 411 [qr .str (bl l),qr q0 16,qr q0 32] [.int .u64,.err] R:=by
 intro h M vs f ag o
 match vs,o with
 |[u1,u2,u3],⟨a1,a2,a3,_⟩=>obtain rfl:=y0 a1;obtain rfl:=qn a2;obtain rfl:=qn a3;apply PX.of;apply Mj;refine Ox c (λn h' e k=>?_) (λh' e k=>?_);exact⟨(n:Int),.nilIface,rfl,rfl,λb=>(by cases b),λ_=>⟨M,((n:Int),Ta),up ag k,DW _ _,h1 n e⟩⟩;refine⟨0,.iface _ _,rfl,rfl,λ_=>?_,λb=>(by cases b)⟩;refine RH i.err f (ag.aa1 k) (by rw[zf];omega) λt u p m=>⟨_,rfl,M,(0,Tc),up ag (k.trans m k.size),wM _ _ _ _,h2 e⟩
def DJ(t:GL gl)(y:l.length<=1152921504606846976){R:Int×Bool->Prop}(h1:∀n:Nat,eS l=Td n->R ((n:Int),Ta))(h2:eS l=Te->∀v,R (v,Tc)):aa5 gl 410 [qr .str (bl l)] [.int .i32,.bool] R:=by
 apply RP;simp only[zf,qa,show(0:Int).toNat=0 from rfl,show(4:Int).toNat=4 from rfl,zbi,Nat.sub_zero];by_cases x:l.length<4;have e:hV (((DB l:Nat):Int)<4)=Ta:=by rw[zA];omega
 have u:eS l=Te:=by unfold eS;rw[za ω]
 simp only[e];exact⟨λi=>(by cases i),λ_=>True,λi=>(by cases i),λr _=>⟨λ_=>h2 u 0,λi=>(by cases i)⟩⟩;have e:hV (((DB l:Nat):Int)<4)=Tc:=by rw[decide_eq_false_iff_not];omega
 simp only[e];have f:eS l=fm 0 (l.take 4):=by unfold eS;rw[zi ω]
 have s:(l.take 4).length=4:=by rw[ZV];omega
 refine⟨λ_=>⟨ω,ω,ω⟩,λr=>r=Ta->eS l=Te,λ_=>?_,λr w=>⟨λi=>h2 (w rfl i) 0,λi=>⟨⟨ω,ω,ω⟩,?_⟩⟩⟩;refine Oj (l:=l.take 4) ω (λq o=>?_) (λq b o=>?_);have⟨c,k,h⟩:=List.any_eq_true.1 o;rw[f];refine te 0 k (Bu ?_);simp at h;obtain rfl|rfl|rfl:=h;left;decide;left;decide;right;left;rfl;rw[f];have:∃c∈l.take 4,128<=c.toNat:=by refine zce λp=>q λc k=>?_;refine zce λz=>p ⟨c,k,ω⟩
 have⟨c,k,h⟩:=this;exact te 0 k (Bu (.inr (.inr h)));refine VY t s (λn m=>?_) (λm=>h2 (f.trans m) _);have p:=jW (f.trans m);have:=h1 n (f.trans m);rw[Qb ω ω];exact this
end
section
variable {M:Fr} {h:zb} {K:Value -> zb -> Prop} {b o c:Nat}
def Brn(gl:Fr):Prop:=∃cs:Array Value,gl 7=Td cs/\cs[15]?=Td (.int .u8 4)
theorem Brn.mono{gl M:Fr}(h:Brn gl)(le:Fr.le gl M):Brn M:=by have⟨cs,e,h⟩:=h;exact⟨cs,le _ _ e,h⟩
def MD(c:K (aa9 Ta) h):aa4 354 #[ab0 16] h K:=by apply Z2;exact Eq.mpr (congrArg (λb=>K (aa9 b) h) κ) c
def IS(f:Brn M)(ag:AgM M h)(c:K (ab0 4) h):aa4 355 #[.int .u64 16] h K:=by
 have⟨cs,e,i⟩:=f;apply Ja;refine⟨λb=>(by cases b),λ_=>?_⟩;apply Q8;refine⟨λb=>(by cases b),λ_=>⟨_,⟨rfl,by decide +kernel,by decide +kernel⟩,4,?_,4,rfl,c⟩⟩;have key:∀n:Nat,n=15->zd h (YH ⟨7,0,Te⟩ n)=Td (.int .u8 4):=by rintro n rfl;exact ag.cell e i
 exact key _ κ
def C6:Bs:=[48,49,50,51,52,53,54,55,56,57,97,98,99,100,101,102,103,104,105,106,107,108,109,110,111,112,113,114,115,116,117,118,119,120,121,122]
def jx(k:Nat):UInt8:=C6[k]?.getD 0
theorem Fo(k:Nat):ze (ad1:Bt) k=((jx k).toNat:Int):=zx C6 k
def eG(c:Nat):Bs:=if c<16 then [jx c]else [jx 1,jx (c % 16)]
def z65:Array Value:=hZ
def Na:qq Tp 5=Ta:=κ
def XP:jk Tp 5=1:=κ
def Cr{l:Bs}{cap:Nat}(f:∀j (c:j<DB l),zd h ⟨b,o+j,Te⟩=Td (.int .u8 (l[j].toNat:Int)))(e:K (aa6 (bl l)) h):CA Tp (convert 87 9 (.slice (Td ⟨b,o,Te⟩) (DB l) cap)) h K:=by intro B d;refine⟨_,d,h,run_convert_bytes_back (P:=Tp) (mk B d h) 87 9 5 ⟨b,o,Te⟩ cap l Tryz.underlying87 Tryz.underlying5 Tryz.underlying9 λj c=>?_,e⟩;rw[tE,zl];exact f j c
theorem SV(b:c<18446744073709551616):YG .u64 (((za9 (zan .u64) (c:Int)) &&& (za9 (zan .u64) (15:Int))).toNat:Int)=((c % 16:Nat):Int):=by rw[show(15:Int)=((15:Nat):Int)from rfl,VQ b ζ];congr 1;exact Nat.and_two_pow_sub_one_eq_mod c 4
def vP{k:Nat}(h:k<36):0<=(k:Int)/\(k:Int)<(((ad1:Bt)).size:Int):=by have:(((ad1:Bt)).size:Int)=36:=rfl;rw[this];omega
def Bh{g:zb}{cs:ab3}(B:Blk g b cs)(c:o<cs.size){x:Int}{K:zb->Prop}(e:∀g',Blk g' b (cs.setIfInBounds o (.int .u8 x))->g'.size=g.size->(∀i,i≠b->g'[i]?=g[i]?)->K g'):wf Tp (YI 5 (aa7 ⟨b,o,Te⟩) (.int .u8 x)) g K:= qj Na XP B c rfl e
def WC(hc:c<32)(U:Brn M)(ag:AgM M h)(Y:∀h',Bk h.size h h'->K (.tuple #[.slice Te 0 0,aa6 (bl (eG c))]) h'):aa4 303 #[.slice Te 0 0,.int .u64 (c:Int),ab0 16,aa9 Tc,aa9 Tc] h K:=by
 refine Qq ⟨Te,0,0⟩ (c:Int) 16 Tc Tc h K ?_;intro K2 F;refine⟨λb=>(by simp at b),λ_=>F _ ?_⟩;intro Q;have⟨P,z3,Z⟩:=yp (g:=Q) rfl;clear_value Q;have H:=ag.aa1 P;intro K6 C;refine⟨λb=>(by cases b),λ_=>C _ _ ?_⟩;intro K9 G;have B:YG .u64 16=16:=ζ
 have I:YG .u64 (16-1)=15:=ζ
 rw[B,I];refine MD ⟨Ta,rfl,λ_=>?_,λb=>(by cases b)⟩;refine IS U H ⟨_,rfl,?_⟩;have p:z65.size=65:=rfl;have fin:∀(g:zb) (cs:ab3) (u i:Nat),Bk h.size h g->Blk g h.size cs->cs.size=65->u<16->1<=i->i<=65->(∀j,j<65-i->∃x:UInt8,(eG c)[j+1]?=Td x/\cs[i+j]?=Td (.int .u8 (x.toNat:Int)))->(eG c).length=66-i->(eG c)[0]?=Td (jx u) ->
  wf Tp (YI 5 (.pointer (Td (YH (aa8 h) (((i-1:Nat):Int).toNat*1)))) (.int .u8 (ze (ad1:Bt) ((u:Int)).toNat))) g (λz=>K9 (((i-1:Nat):Int)) z):=by
  intro g cs u i m r y hu S a n t e;rw[YL,YL,zbf,Fo];rw[zl,ZO];refine Bh r (ο y) λO N z2 J=>G _ _ ?_;intro V s;refine⟨λb=>(by cases b),λ_=>s _ _ ?_⟩;refine⟨λb=>(by cases b),λ_=>⟨⟨ω,ω,ω⟩,?_⟩⟩;have E:Bk h.size h O:=⟨χ m.size,λj l=>(J j ω).trans (m.get j l)⟩;have D:zb2 (eL (Td (aa8 h)) 1 ((i-1:Nat):Int).toNat 65) ((65:Int).toNat-((i-1:Nat):Int).toNat) (65-((i-1:Nat):Int).toNat)=.slice (Td ⟨h.size,i-1,Te⟩) (eG c).length (65-(i-1)):=by rw[YL,t,show(65:Int).toNat-(i-1)=66-i from by have:(65:Int).toNat=65:=rfl;omega];congr 1;unfold eL;rw[za ω];simp only[Option.map_some,zl,ZO,zbf]
  rw[D];refine Cr (λj l=>?_) ⟨_,rfl,Y _ E⟩;refine N.cell ?_;rw[Array.getElem?_setIfInBounds];cases j with
  |zero=>rw[zc3,zi rfl,zi (ο y)];rw[YS l]at e;rw[ZZ e]
  |succ j=>rw[za ω];have⟨x,w,A⟩:=n j ω;rw[show i-1+(j+1)=i+j from ω,A];rw[YS l]at w;rw[ZZ w]
 refine⟨λu i g=>Bk h.size h g/\((u=(c:Int)/\i=65/\Blk g h.size z65)\/(16<=c/\u=1/\i=64/\Blk g h.size (z65.setIfInBounds 64 (.int .u8 ((jx (c % 16)).toNat:Int))))),λu _ _=>u.toNat,⟨P,.inl ⟨rfl,rfl,Z⟩⟩,?_⟩;rintro u i g ⟨m,⟨rfl,rfl,r⟩|⟨f,rfl,rfl,r⟩⟩;refine⟨λb=>?_,λb=>?_⟩;have f:16<=c:=χ (zB b)
 rw[SV ω];have bR:p3 ((65:Int)-1)=64:=ζ
 rw[bR];refine⟨vP ω,_,⟨rfl,ζ,ζ⟩,?_⟩;rw[YL,Fo,zl];refine Bh (o:=64) r (ο p) λO N z2 J=>⟨ζ,⟨⟨χ m.size,λj l=>(J j ω).trans (m.get j l)⟩,.inr ⟨f,?_,rfl,N⟩⟩,?_⟩;have:(min (YG .u64 4).toNat 64)=4:=ζ
 rw[this];show(c:Int).fdiv 16=1;rw[Int.fdiv_eq_ediv_of_nonneg _ ζ];omega;have:(min (YG .u64 4).toNat 64)=4:=ζ
 rw[this];show((c:Int).fdiv 16).toNat<(c:Int).toNat;rw[Int.fdiv_eq_ediv_of_nonneg _ ζ];omega;have f:c<16:=χ (zC b)
 have bR:p3 ((65:Int)-1)=((65-1:Nat):Int):=ζ
 rw[bR];refine⟨vP ω,_,⟨rfl,ζ,ζ⟩,?_⟩;have q:eG c=[jx c]:=by unfold eG;rw[zi f]
 exact fin g z65 c 65 m r rfl f ω ω (λj l=>ω) (π q) (π q);refine⟨λb=>?_,λb=>?_⟩;exact absurd (zB b) ω;have L:p3 ((64:Int)-1)=((64-1:Nat):Int):=ζ
 rw[L];refine⟨vP (k:=1) ω,_,⟨rfl,ζ,ζ⟩,?_⟩;have q:eG c=[jx 1,jx (c % 16)]:=by unfold eG;rw[za ω]
 refine fin g _ 1 64 m r (ϑ p) ω ω ω (λj l=>?_) (π q) (π q);have:j=0:=ω
 subst this;exact⟨_,π q,by rw[Array.getElem?_setIfInBounds,zi rfl,zi (ο p)]⟩
def RL(i:c<32)(f:Brn M)(ag:AgM M h)(e:∀h',Bk h.size h h'->K (aa6 (bl (eG c))) h'):aa4 199 #[ab0 (c:Int),ab0 16] h K:=by apply Vv;apply Qw;refine⟨λm=>(by simp at m),λ_=>?_⟩;have b:YG .u64 (c:Int)=(c:Int):=I4 ω ω;have l:hV ((c:Int)<0)=Tc:=zE ω;rw[b,l];exact WC i f ag λh' k=>⟨⟨Te,0,0⟩,_,rfl,_,rfl,e h' k⟩
end
end
end Go.X
namespace Go.Proofs.YtplilfikcimcbaaGreatDoor
section
open Go.ChangeShapes Go.WideShapes Go.ChangeAt Go.RowKit Go.Lib
set_option linter.all false
section
def SJ{W:MN}(h:laidMetH ZM iz W):Brn (Fz W):=by
 have hl:laidMet ZM iz W:=by rw[MakeChecks.laidMetH_plain _ _ _ κ]at h;exact h
 have hv : VarReads Tryz.prog W "math/bits.deBruijn64tab" (tabData .u8 [0, 1, 56, 2, 57, 49, 28, 3, 61, 58, 42, 50, 38, 29, 17, 4, 62, 47, 59, 36, 45, 43, 51, 22, 53, 39, 33, 30, 24, 18, 12, 5, 63, 55, 48, 27, 60, 41, 37, 16, 46, 35, 44, 21, 52, 32, 23, 11, 54, 26, 40, 15, 34, 20, 31, 10, 25, 14, 19, 9, 13, 8, 7, 6]) := by
  have := Go.Lib.laidMet.reads hl (List.mem_of_getElem? (show iz[1]? = some ("math/bits.deBruijn64tab", Rows.laid_math_bits_deBruijn64tab) from rfl));have e:(Rows.laid_math_bits_deBruijn64tab:DataW Unit)=tabData .u8 [0,1,56,2,57,49,28,3,61,58,42,50,38,29,17,4,62,47,59,36,45,43,51,22,53,39,33,30,24,18,12,5,63,55,48,27,60,41,37,16,46,35,44,21,52,32,23,11,54,26,40,15,34,20,31,10,25,14,19,9,13,8,7,6]:=κ
  rw[<-e];exact this
 have⟨cs,h1,h2⟩:=vW (g:=7) (t:=385) (e:=5) (m:=64) κ κ κ κ κ κ hv;exact⟨cs,h1,by rw[<-Array.getElem?_toList,h2];rfl⟩
end
section
variable {cs:List Value} {H:Type} {held:Bool} {fuel:Nat}
def JW(c:cs.length=2):cs=(cs.drop 0).take 1++(cs.drop 1).take 1:=by
 match cs,c with
 |[a,b],_=>rfl
def WU{enc:TypeId×Value->H}{W:MN}{sp:Nat->Bool}{x:DataW H×List MemPlace}(h:DataW.trod enc ZM W 0 sp held fuel 29 cs=some x)(b:kw ZM 29 x.1):∃xs:List Int,Rd (Fz W) (.row q0) xs cs:= Da (T:=.int .i64) Tryz.underlying29 κ ζ (by decide +kernel) (λ_ _ cs y c e=>NY Tryz.underlying3 c) h b
def SA{enc:TypeId×Value->H}{W:MN}{sp:Nat->Bool}{x:DataW H×List MemPlace}(h:DataW.trod enc ZM W 0 sp held fuel 31 cs=some x)(u:kw ZM 31 x.1):∃o:List ByteArray×List Int,Rd (Fz W) (.pair (.row .str) (.row q0)) o cs:=by
 obtain⟨xs,n,rfl,z,y,e,b⟩:=DataW.trod_struct Tryz.underlying31 h;have f:cs.length=2:=y.trans κ;have l:xs.length=2:=e;have i:DataW.trod enc ZM W 0 sp held n 22 ((cs.drop 0).take (ZM.cellsOf 22))=xs[0]?:=b 0 _ rfl;have k:DataW.trod enc ZM W 0 sp held n 29 ((cs.drop 1).take (ZM.cellsOf 29))=xs[1]?:=b 1 _ rfl;rw[YS ω]at i k;have c:∀(j:Nat) (t:TypeId) (r:j<DB xs),([22,29]:List TypeId)[j]?=some t->kw ZM t (xs[j]).1:=λj t r w m A=>u m (by rw[z];unfold DataW.weights;rw[Tryz.underlying31];exact DataW.weights_mem_each (j:=j) (t:=t) (d:=(xs[j]).1) (by rw[<-w];rfl) (by rw[List.getElem?_map,YS r];rfl) m A);have c1:ZM.cellsOf 22=1:=κ
 have c2:ZM.cellsOf 29=1:=κ
 rw[c1]at i;rw[c2]at k;have⟨p,s⟩:=Sd i (c 0 _ ω rfl);have⟨q,B⟩:=WU k (c 1 _ ω rfl);exact⟨(p,q),_,_,JW f,s,B⟩
def LF{M:Fr}{x:List ByteArray×List Int}{cs:ab3}(h:Rd M (.pair (.row .str) (.row q0)) x cs.toList):RdV M (.pair (.row .str) (.row q0)) x (.agg cs):=by unfold RdV;simp only[fh,if_true];exact⟨cs.toList,ξ,h⟩
end
end
end Go.Proofs.YtplilfikcimcbaaGreatDoor
namespace Go.X
section
def JZ(b:Sl)(c:Sl)(b7:Sl)(n2:Int)(h:zb)(R:vvv) (H:let d:=h.push (.cells #[aK b,aK c] 31);let e:=d.push (.cells tC 25);let f:=e.push (.cells tC 25);wf Tp (YI 25 (aa7 (aa8 e)) (tZ)) f (λg=>∀i:zb->Prop,(∀j:zb,(∃k,zd j (YH (aa8 h) 1)=Td (aK k)/\∃l,(k.a=Td l/\0<=n2/\n2<k.len)/\∃m,zd j (l.add (n2.toNat*1))=Td (iV m)/\∃(n:ab7) (o:ab9),n m j/\∀p:Int,∀q:zb,n p q->((hV (p<n2)=Ta->∃r,(b7.a=Td r/\0<=p/\p<b7.len)/\∃s,zd q (r.add (p.toNat*1))=Td (iV s)/\((s != n2)=Ta->(n (p3 (p+1)) q/\o (p3 (p+1)) q<o p q))/\((s != n2)=Tc->∀t:Int->zb->Prop,(∀u:Int,∀v:zb,(∃w x,zc v (aa8 h) 0 [aK w,aK x]/\aa4 63 #[.agg #[aK w,aK x],aK b7,iV u] v (λy z=>∃A B C D E,y=.tuple #[tA A B C D,aa9 E]/\let F:=z.push (.cells tC 25);wf Tp (YI 25 (aa7 (aa8 z)) (tA A B C D)) F (λG=>((!E)=Ta->wf Tp (YI 25 (aa7 (aa8 d)) (tZ)) G (λI=>∃J L M N,zc I (aa8 d) 0 (tL J L M N)/\R (.tuple #[tA J L M N,aa9 Tc]) I))/\((!E)=Tc->∃O,zd G (YH (aa8 e) 3)=Td (aK O)/\∃P Q S T,zc G (aa8 z) 0 (tL P Q S T)/\let U:=G.push (.cells #[iV P,aa6 Q,aK S,aK T] 25);CA Tp (YN #[23,23] 23 #[aK O,.slice (Td (aa8 G)) 1 1]) U (λV W=>∃X,V=aK X/\wf Tp (YI 23 (.pointer (Td (YH (aa8 e) 3))) (aK X)) W (λY=>(n (p3 (p+1)) Y/\o (p3 (p+1)) Y<o p q)))))))->t u v)->∃Z,zd q (YH (aa8 e) 0)=Td (iV Z)/\((Z==6)=Ta->∃aa,zd q (YH (aa8 h) 0)=Td (aK aa)/\∃ab,(aa.a=Td ab/\0<=p/\p<aa.len)/\∃ac,zd q (ab.add (p.toNat*1))=Td (aa6 ac)/\((!(hV ((ac.size:Int)<1)))=Ta->(0<=(0:Int)/\(0:Int)<(ac.size:Int)))/\((cond (hV ((ac.size:Int)<1)) Ta ((ze ac (0:Int).toNat:Int) != 107))=Ta->wf Tp (YI 25 (aa7 (aa8 d)) (tZ)) q (λad=>∃ae af ag ah,zc ad (aa8 d) 0 (tL ae af ag ah)/\R (.tuple #[tA ae af ag ah,aa9 Tc]) ad))/\((cond (hV ((ac.size:Int)<1)) Ta ((ze ac (0:Int).toNat:Int) != 107))=Tc->(0<=(1:Int)/\(1:Int)<=(ac.size:Int)/\(ac.size:Int)<=(ac.size:Int))/\aa4 112 #[aa6 (ac.extract (1:Int).toNat (ac.size:Int).toNat)] q (λai aj=>∃ak al am an ao ap,ai=.tuple #[tA ak al am an,iV ao,iV ap]/\let aq:=aj.push (.cells tC 25);wf Tp (YI 25 (aa7 (aa8 aj)) (tA ak al am an)) aq (λar=>∃au,((!(ap != 0))=Ta->zd ar (YH (aa8 aj) 0)=Td (iV au))/\((cond (ap != 0) Ta (au != 4))=Ta->wf Tp (YI 25 (aa7 (aa8 d)) (tZ)) ar (λav=>∃aw ax ay az,zc av (aa8 d) 0 (tL aw ax ay az)/\R (.tuple #[tA aw ax ay az,aa9 Tc]) av))/\((cond (ap != 0) Ta (au != 4))=Tc->∃aA,zd ar (YH (aa8 e) 2)=Td (aK aA)/\∃aB,zd ar (YH (aa8 aj) 1)=Td (aa6 aB)/\let aC:=ar.push (.cells #[aa6 aB] 9);CA Tp (YN #[22,22] 22 #[aK aA,.slice (Td (aa8 ar)) 1 1]) aC (λaD aE=>∃aF,aD=aK aF/\wf Tp (YI 22 (.pointer (Td (YH (aa8 e) 2))) (aK aF)) aE (λaG=>∃aH,zd aG (YH (aa8 h) 1)=Td (aK aH)/\∃aI,(aH.a=Td aI/\0<=p/\p<aH.len)/\∃aJ,zd aG (aI.add (p.toNat*1))=Td (iV aJ)/\∃aL,((!(hV ((p3 (p-1))<aJ)))=Ta->zd aG (YH (aa8 h) 1)=Td (aK aL))/\∃aM,((!(hV ((p3 (p-1))<aJ)))=Ta->(aL.a=Td aM/\0<=(p3 (p-1))/\(p3 (p-1))<(aL.len:Int)))/\∃aN,((!(hV ((p3 (p-1))<aJ)))=Ta->zd aG (aM.add ((p3 (p-1)).toNat*1))=Td (iV aN))/\∃aO,((!(hV ((p3 (p-1))<aJ)))=Ta->zd aG (YH (aa8 h) 1)=Td (aK aO))/\∃aP,((!(hV ((p3 (p-1))<aJ)))=Ta->(aO.a=Td aP/\0<=p/\p<aO.len))/\∃aQ,((!(hV ((p3 (p-1))<aJ)))=Ta->zd aG (aP.add (p.toNat*1))=Td (iV aQ))/\((cond (hV ((p3 (p-1))<aJ)) Ta (aN != aQ))=Ta->wf Tp (YI 25 (aa7 (aa8 d)) (tZ)) aG (λaS=>∃aT aU aV aW,zc aS (aa8 d) 0 (tL aT aU aV aW)/\R (.tuple #[tA aT aU aV aW,aa9 Tc]) aS))/\((cond (hV ((p3 (p-1))<aJ)) Ta (aN != aQ))=Tc->t (p3 (p-1)) aG))))))))/\((Z==6)=Tc->t p q)))/\(hV (p<n2)=Tc->∃aX aY aZ a0,zc q (aa8 e) 0 (tL aX aY aZ a0)/\wf Tp (YI 25 (aa7 (aa8 d)) (tA aX aY aZ a0)) q (λa1=>∃a2 a3 a4 a5,zc a1 (aa8 d) 0 (tL a2 a3 a4 a5)/\R (.tuple #[tA a2 a3 a4 a5,aa9 Ta]) a1))))->i j)->∃a6,zd g (YH (aa8 h) 0)=Td (aK a6)/\∃a7,(a6.a=Td a7/\0<=n2/\n2<a6.len)/\∃a8,zd g (a7.add (n2.toNat*1))=Td (aa6 a8)/\((a8.toList==(⟨#[91]⟩:Bt).toList)=Ta->wf Tp (YI 3 (.pointer (Td (YH (aa8 e) 0))) (iV 5)) g (λa9=>i a9))/\((a8.toList==(⟨#[91]⟩:Bt).toList)=Tc->((a8.toList==(⟨#[123]⟩:Bt).toList)=Ta->wf Tp (YI 3 (.pointer (Td (YH (aa8 e) 0))) (iV 6)) g (λba=>i ba))/\((a8.toList==(⟨#[123]⟩:Bt).toList)=Tc->∃bb,zd g (YH (aa8 h) 0)=Td (aK bb)/\∃bc,(bb.a=Td bc/\0<=n2/\n2<bb.len)/\∃bd,zd g (bc.add (n2.toNat*1))=Td (aa6 bd)/\aa4 112 #[aa6 bd] g (λbe bf=>∃bg bh bi bj bk bl,be=.tuple #[tA bg bh bi bj,iV bk,iV bl]/\let bm:=bf.push (.cells tC 25);wf Tp (YI 25 (aa7 (aa8 bf)) (tA bg bh bi bj)) bm (λbn=>∃bo bp bq br,zc bn (aa8 bf) 0 (tL bo bp bq br)/\aa4 73 #[tA bo bp bq br] bn (λbs bt=>∃bu bv,bs=.tuple #[aa6 bu,iV bv]/\∃bw bx bz bA,zc bt (aa8 bf) 0 (tL bw bx bz bA)/\let bB:Bool->zb->Prop:=λbC (bD:zb)=>(∃bE bF bG bH,zc bD (aa8 d) 0 (tL bE bF bG bH)/\R (.tuple #[tA bE bF bG bH,aa9 bC]) bD);let bI:Bool->Bool->zb->Prop:=λbJ bL (bM:zb)=>(bB (cond bL bJ Tc) bM);let bN:n8->Bool->zb->Prop:=λ(bO:n8) bP (bQ:zb)=>(∃bS,(bP=Ta->zd bQ bO=Td (iV bS))/\bI (bS==n2) bP bQ);g6 bt bt (aa8 bf)/\∃bT,((cond (bl==0) (bv==0) Tc)=Ta->zd bt (YH (aa8 h) 0)=Td (aK bT))/\∃bU,((cond (bl==0) (bv==0) Tc)=Ta->(bT.a=Td bU/\0<=n2/\n2<bT.len))/\g6 bt bt (aa8 bf)/\∃bV,((cond (bl==0) (bv==0) Tc)=Ta->zd bt (bU.add (n2.toNat*1))=Td (aa6 bV))/\g6 bt bt (aa8 bf)/\g6 bt bt (aa8 bf)/\∃bW,((cond (cond (bl==0) (bv==0) Tc) (bu.toList==bV.toList) Tc)=Ta->zd bt (YH (aa8 bf) 3)=Td (aK bW))/\g6 bt bt (aa8 bf)/\g6 bt bt (aa8 bf)/\g6 bt bt (aa8 bf)/\∃bX,((cond (cond (cond (bl==0) (bv==0) Tc) (bu.toList==bV.toList) Tc) ((bW.len:Int)==0) Tc)=Ta->zd bt (YH (aa8 bf) 0)=Td (iV bX))/\g6 bt bt (aa8 bf)/\g6 bt bt (aa8 bf)/\(∃bY,((cond (cond (cond (cond (bl==0) (bv==0) Tc) (bu.toList==bV.toList) Tc) ((bW.len:Int)==0) Tc) (hV (bX<5)) Tc)=Ta->zd bt (YH (aa8 h) 1)=Td (aK bY))/\∃bZ,((cond (cond (cond (cond (bl==0) (bv==0) Tc) (bu.toList==bV.toList) Tc) ((bW.len:Int)==0) Tc) (hV (bX<5)) Tc)=Ta->(bY.a=Td bZ/\0<=n2/\n2<bY.len))/\g6 bt bt (aa8 bf)/\(∃b0,((cond (cond (cond (cond (bl==0) (bv==0) Tc) (bu.toList==bV.toList) Tc) ((bW.len:Int)==0) Tc) (hV (bX<5)) Tc)=Ta->zd bt (bZ.add (n2.toNat*1))=Td (iV b0))/\g6 bt bt (aa8 bf)/\(g6 bt bt (aa8 bf)/\wf Tp (YI 25 (aa7 (aa8 d)) (tA bw bx bz bA)) bt (λb1=>bB (cond (cond (cond (cond (cond (bl==0) (bv==0) Tc) (bu.toList==bV.toList) Tc) ((bW.len:Int)==0) Tc) (hV (bX<5)) Tc) (b0==n2) Tc) b1))/\(wf Tp (YI 25 (aa7 (aa8 d)) (tA bw bx bz bA)) bt (λb2=>bI (b0==n2) (cond (cond (cond (cond (bl==0) (bv==0) Tc) (bu.toList==bV.toList) Tc) ((bW.len:Int)==0) Tc) (hV (bX<5)) Tc) b2)))/\(wf Tp (YI 25 (aa7 (aa8 d)) (tA bw bx bz bA)) bt (λb3=>bN (bZ.add (n2.toNat*1)) (cond (cond (cond (cond (bl==0) (bv==0) Tc) (bu.toList==bV.toList) Tc) ((bW.len:Int)==0) Tc) (hV (bX<5)) Tc) b3)))/\(wf Tp (YI 25 (aa7 (aa8 d)) (tA bw bx bz bA)) bt (λb4=>∃b5,((cond (cond (cond (cond (bl==0) (bv==0) Tc) (bu.toList==bV.toList) Tc) ((bW.len:Int)==0) Tc) (hV (bX<5)) Tc)=Ta->zd b4 (YH (aa8 h) 1)=Td (aK b5))/\∃b6,((cond (cond (cond (cond (bl==0) (bv==0) Tc) (bu.toList==bV.toList) Tc) ((bW.len:Int)==0) Tc) (hV (bX<5)) Tc)=Ta->(b5.a=Td b6/\0<=n2/\n2<b5.len))/\bN (b6.add (n2.toNat*1)) (cond (cond (cond (cond (bl==0) (bv==0) Tc) (bu.toList==bV.toList) Tc) ((bW.len:Int)==0) Tc) (hV (bX<5)) Tc) b4))))))))):aa4 63 #[.agg #[.slice b.a b.len b.cap,.slice c.a c.len c.cap],.slice b7.a b7.len b7.cap,ab0 n2] h R:=XF ⟨[(5,7000)],[(11,[(14,.one (.int .i64))])],[(10,[]),(26,[(15,.one (.int .i64))])]⟩ [.cell 6 25,.tmp 7] 181 func63 H
def Nh(b:Sl)(c:Sl)(h:zb)(R:vvv) (H:let d:=h.push (.cells #[aK b,aK c] 31);let e:=d.push (.cells tC 25);∃f g,zc e (aa8 h) 0 [aK f,aK g]/\aa4 22 #[.agg #[aK f,aK g]] e (λi j=>∃k,i=.bool k/\∃l,zd j (YH (aa8 h) 0)=Td (aK l)/\∃m,((!(cond (!k) Ta ((l.len:Int)==0)))=Ta->zd j (YH (aa8 h) 1)=Td (aK m))/\∃n,((!(cond (!k) Ta ((l.len:Int)==0)))=Ta->(m.a=Td n/\0<=(p3 ((l.len:Int)-1))/\(p3 ((l.len:Int)-1))<(m.len:Int)))/\∃o,((!(cond (!k) Ta ((l.len:Int)==0)))=Ta->zd j (n.add ((p3 ((l.len:Int)-1)).toNat*1))=Td (iV o))/\((cond (cond (!k) Ta ((l.len:Int)==0)) Ta (o != 0))=Ta->wf Tp (YI 25 (aa7 (aa8 d)) (tZ)) j (λp=>∃q r s t,zc p (aa8 d) 0 (tL q r s t)/\R (.tuple #[tA q r s t,aa9 Tc]) p))/\((cond (cond (!k) Ta ((l.len:Int)==0)) Ta (o != 0))=Tc->∀u:n8->Bool->zb->Prop,(∀v:n8,∀w:Bool,∀x:zb,(((!w)=Ta->wf Tp (YI 25 (aa7 (aa8 d)) (tZ)) x (λy=>∃z A B C,zc y (aa8 d) 0 (tL z A B C)/\R (.tuple #[tA z A B C,aa9 Tc]) y))/\((!w)=Tc->∃D E F G,zc x v 0 (tL D E F G)/\aa4 15 #[tA D E F G] x (λI J=>∃L M N,I=.tuple #[.agg #[aK L,aK M],iV N]/\let O:=J.push (.cells #[.slice Te 0 0,.slice Te 0 0] 31);wf Tp (YI 31 (aa7 (aa8 J)) (.agg #[aK L,aK M])) O (λP=>∃Q S,((!(N != 0))=Ta->zc P (aa8 h) 0 [aK Q,aK S])/\∃T U,((!(N != 0))=Ta->zc P (aa8 J) 0 [aK T,aK U])/\∃V:vvv,((!(N != 0))=Ta->aa4 16 #[.agg #[aK Q,aK S],.agg #[aK T,aK U]] P (λW X=>∃Y,W=.bool Y/\V (aa9 Y) X))/\((!(N != 0))=Tc->∃Z,V (aa9 Z) P)/\((!(N != 0))=Ta->∀aa ab,V aa ab->∃ac,aa=.bool ac)/\∀ae:Bool,∀af,V (aa9 ae) af->((cond (N != 0) Ta (!ae))=Ta->wf Tp (YI 25 (aa7 (aa8 d)) (tZ)) af (λag=>∃ah ai aj ak,zc ag (aa8 d) 0 (tL ah ai aj ak)/\R (.tuple #[tA ah ai aj ak,aa9 Tc]) ag))/\((cond (N != 0) Ta (!ae))=Tc->∃al am an ao,zc af v 0 (tL al am an ao)/\wf Tp (YI 25 (aa7 (aa8 d)) (tA al am an ao)) af (λap=>∃aq ar au av,zc ap (aa8 d) 0 (tL aq ar au av)/\R (.tuple #[tA aq ar au av,aa9 Ta]) ap))))))->u v w x)->∃aw ax,zc j (aa8 h) 0 [aK aw,aK ax]/\∃ay az,zc j (aa8 h) 0 [aK ay,aK az]/\let aA:n8->Bool->Int->Bt->Sl->Sl->zb->Prop:=λ(aB:n8) aC aD aE (aF:Sl) (aG:Sl) (aH:zb)=>(wf Tp (YI 25 (aa7 aB) (tA aD aE aF aG)) aH (λaI=>u aB aC aI));let aJ:n8->Sl->zb->Prop:=λ(aL:n8) (aM:Sl) (aN:zb)=>(aa4 63 #[.agg #[aK aw,aK ax],aK aM,iV (p3 ((l.len:Int)-1))] aN (λaO aP=>∃aQ aS aT aU aV,aO=.tuple #[tA aQ aS aT aU,aa9 aV]/\aA aL aV aQ aS aT aU aP));(aa4 27 #[.agg #[aK ay,aK az]] j (λaW aX=>∃aY,aW=aK aY/\g6 aX j (aa8 h)/\(aa4 63 #[.agg #[aK aw,aK ax],aK aY,iV (p3 ((l.len:Int)-1))] aX (λaZ a0=>∃a1 a2 a3 a4 a5,aZ=.tuple #[tA a1 a2 a3 a4,aa9 a5]/\let a6:=a0.push (.cells tC 25);aA (aa8 a0) a5 a1 a2 a3 a4 a6))/\(let a7:=aX.push (.cells tC 25);g6 a7 j (aa8 h)/\aJ (aa8 aX) aY a7)))/\(let a8:=j.push (.cells tC 25);g6 a8 j (aa8 h)/\g6 a8 j (aa8 h)/\aa4 27 #[.agg #[aK ay,aK az]] a8 (λa9 ba=>∃bb,a9=aK bb/\g6 ba j (aa8 h)/\aJ (aa8 j) bb ba))))):aa4 20 #[.agg #[.slice b.a b.len b.cap,.slice c.a c.len c.cap]] h R:=XF ⟨[(5,7000)],[],[(6,[(6,.one (.ad)),(7,.one (.bool))])]⟩ [.cell 2 25,.tmp 3] 58 func20 H
def Xx(b:Sl)(c:Sl)(h:zb)(R:vvv) (H:let d:=h.push (.cells #[aK b,aK c] 31);aa4 11 #[] d (λe f=>∃g,e=.bool g/\∃i j,zc f (aa8 h) 0 [aK i,aK j]/\aa4 18 #[.agg #[aK i,aK j],iV 530] f (λk l=>∃m,k=.bool m/\((!m)=Ta->R (aa9 g) l)/\((!m)=Tc->∃n o,zc l (aa8 h) 0 [aK n,aK o]/\aa4 19 #[.agg #[aK n,aK o]] l (λp q=>∃r s t u v,p=.tuple #[tA r s t u,aa9 v]/\let w:=q.push (.cells tC 25);wf Tp (YI 25 (aa7 (aa8 q)) (tA r s t u)) w (λx=>∃y z,zc x (aa8 h) 0 [aK y,aK z]/\aa4 20 #[.agg #[aK y,aK z]] x (λA B=>∃C D E F G,A=.tuple #[tA C D E F,aa9 G]/\let I:=B.push (.cells tC 25);wf Tp (YI 25 (aa7 (aa8 B)) (tA C D E F)) I (λJ=>∃L M N O,(g=Ta->zc J (aa8 q) 0 (tL L M N O))/\∃P Q S T,(g=Ta->zc J (aa8 B) 0 (tL P Q S T))/\let U:Sl->Sl->Sl->Bool->zb->Prop:=λ(V:Sl) (W:Sl) (X:Sl) Y (Z:zb)=>(∃aa:vvv,(Y=Ta->aa4 29 #[.agg #[aK V,aK W]] Z (λab ac=>∃ad,ab=aK ad/\aa (aK ad) ac))/\(Y=Tc->∃ae,aa (aK ae) Z)/\(Y=Ta->∀af ag,aa af ag->∃ah,af=aK ah)/\∀ai:Sl,∀aj,aa (aK ai) aj->∃ak:vvv,(Y=Ta->aa4 23 #[aK X,aK ai] aj (λal am=>∃an,al=.bool an/\ak (aa9 an) am))/\(Y=Tc->∃ao,ak (aa9 ao) aj)/\(Y=Ta->∀ap aq,ak ap aq->∃ar,ap=.bool ar)/\∀au:Bool,∀av,ak (aa9 au) av->R (aa9 (cond Y au Tc)) av);let aw:Sl->Sl->Sl->Sl->Bool->zb->Prop:=λ(ax:Sl) (ay:Sl) (az:Sl) (aA:Sl) aB (aC:zb)=>(∃aD:vvv,(aB=Ta->aa4 28 #[.agg #[aK az,aK aA]] aC (λaE aF=>∃aG,aE=aK aG/\aD (aK aG) aF))/\(aB=Tc->∃aH,aD (aK aH) aC)/\(aB=Ta->∀aI aJ,aD aI aJ->∃aL,aI=aK aL)/\∀aM:Sl,∀aN,aD (aK aM) aN->U ax ay aM aB aN);let aO:Sl->Sl->Sl->Bool->zb->Prop:=λ(aP:Sl) (aQ:Sl) (aS:Sl) aT (aU:zb)=>(∃aV:vvv,(aT=Ta->aa4 27 #[.agg #[aK aP,aK aQ]] aU (λaW aX=>∃aY,aW=aK aY/\aV (aK aY) aX))/\(aT=Tc->∃aZ,aV (aK aZ) aU)/\(aT=Ta->∀a0 a1,aV a0 a1->∃a2,a0=aK a2)/\∀a3:Sl,∀a4,aV (aK a3) a4->∃a5:vvv,(aT=Ta->aa4 23 #[aK aS,aK a3] a4 (λa6 a7=>∃a8,a6=.bool a8/\a5 (aa9 a8) a7))/\(aT=Tc->∃a9,a5 (aa9 a9) a4)/\(aT=Ta->∀ba bb,a5 ba bb->∃bc,ba=.bool bc)/\∀bd:Bool,∀be,a5 (aa9 bd) be->(∃bf bg,((cond aT bd Tc)=Ta->zc be (aa8 h) 0 [aK bf,aK bg])/\(∃bh:vvv,((cond aT bd Tc)=Ta->aa4 28 #[.agg #[aK bf,aK bg]] be (λbi bj=>∃bk,bi=aK bk/\bh (aK bk) bj))/\((cond aT bd Tc)=Tc->∃bl,bh (aK bl) be)/\((cond aT bd Tc)=Ta->∀bm bn,bh bm bn->∃bo,bm=aK bo)/\∀bp:Sl,∀bq,bh (aK bp) bq->∃br bs,((cond aT bd Tc)=Ta->zc bq (aa8 h) 0 [aK br,aK bs])/\U br bs bp (cond aT bd Tc) bq)/\(∃bt bu,((cond aT bd Tc)=Ta->zc be (aa8 h) 0 [aK bt,aK bu])/\aw bt bu bf bg (cond aT bd Tc) be))/\(∃bv bw,((cond aT bd Tc)=Ta->zc be (aa8 h) 0 [aK bv,aK bw])/\∃bx bz,((cond aT bd Tc)=Ta->zc be (aa8 h) 0 [aK bx,aK bz])/\aw bv bw bx bz (cond aT bd Tc) be));let bA:Sl->Sl->Sl->Sl->Bool->zb->Prop:=λ(bB:Sl) (bC:Sl) (bD:Sl) (bE:Sl) bF (bG:zb)=>(∃bH:vvv,(bF=Ta->aa4 26 #[.agg #[aK bD,aK bE]] bG (λbI bJ=>∃bL,bI=aK bL/\bH (aK bL) bJ))/\(bF=Tc->∃bM,bH (aK bM) bG)/\(bF=Ta->∀bN bO,bH bN bO->∃bP,bN=aK bP)/\∀bQ:Sl,∀bS,bH (aK bQ) bS->aO bB bC bQ bF bS);let bT:Sl->Sl->Sl->Bool->zb->Prop:=λ(bU:Sl) (bV:Sl) (bW:Sl) bX (bY:zb)=>(∃bZ:vvv,(bX=Ta->aa4 25 #[.agg #[aK bU,aK bV]] bY (λb0 b1=>∃b2,b0=aK b2/\bZ (aK b2) b1))/\(bX=Tc->∃b3,bZ (aK b3) bY)/\(bX=Ta->∀b4 b5,bZ b4 b5->∃b6,b4=aK b6)/\∀b7:Sl,∀b8,bZ (aK b7) b8->∃b9:vvv,(bX=Ta->aa4 23 #[aK bW,aK b7] b8 (λca cb=>∃cc,ca=.bool cc/\b9 (aa9 cc) cb))/\(bX=Tc->∃cd,b9 (aa9 cd) b8)/\(bX=Ta->∀ce cf,b9 ce cf->∃cg,ce=.bool cg)/\∀ch:Bool,∀ci,b9 (aa9 ch) ci->(∃cj ck,((cond bX ch Tc)=Ta->zc ci (aa8 h) 0 [aK cj,aK ck])/\(∃cl:vvv,((cond bX ch Tc)=Ta->aa4 26 #[.agg #[aK cj,aK ck]] ci (λcm cn=>∃co,cm=aK co/\cl (aK co) cn))/\((cond bX ch Tc)=Tc->∃cp,cl (aK cp) ci)/\((cond bX ch Tc)=Ta->∀cq cr,cl cq cr->∃cs,cq=aK cs)/\∀ct:Sl,∀cu,cl (aK ct) cu->∃cv cw,((cond bX ch Tc)=Ta->zc cu (aa8 h) 0 [aK cv,aK cw])/\aO cv cw ct (cond bX ch Tc) cu)/\(∃cx cy,((cond bX ch Tc)=Ta->zc ci (aa8 h) 0 [aK cx,aK cy])/\bA cx cy cj ck (cond bX ch Tc) ci))/\(∃cz cA,((cond bX ch Tc)=Ta->zc ci (aa8 h) 0 [aK cz,aK cA])/\∃cB cC,((cond bX ch Tc)=Ta->zc ci (aa8 h) 0 [aK cB,aK cC])/\bA cz cA cB cC (cond bX ch Tc) ci));let cD:Sl->Sl->Sl->Sl->Bool->zb->Prop:=λ(cE:Sl) (cF:Sl) (cG:Sl) (cH:Sl) cI (cJ:zb)=>(∃cL:vvv,(cI=Ta->aa4 24 #[.agg #[aK cG,aK cH]] cJ (λcM cN=>∃cO,cM=aK cO/\cL (aK cO) cN))/\(cI=Tc->∃cP,cL (aK cP) cJ)/\(cI=Ta->∀cQ cS,cL cQ cS->∃cT,cQ=aK cT)/\∀cU:Sl,∀cV,cL (aK cU) cV->bT cE cF cU cI cV);let cW:Sl->Sl->Bool->Bool->zb->Prop:=λ(cX:Sl) (cY:Sl) cZ c0 (c1:zb)=>(∃c2:vvv,(c0=Ta->aa4 22 #[.agg #[aK cX,aK cY]] c1 (λc3 c4=>∃c5,c3=.bool c5/\c2 (aa9 c5) c4))/\(c0=Tc->∃c6,c2 (aa9 c6) c1)/\(c0=Ta->∀c7 c8,c2 c7 c8->∃c9,c7=.bool c9)/\∀da:Bool,∀db,c2 (aa9 da) db->(∃dc dd,((cond c0 (cZ==da) Tc)=Ta->zc db (aa8 h) 0 [aK dc,aK dd])/\(∃de:vvv,((cond c0 (cZ==da) Tc)=Ta->aa4 24 #[.agg #[aK dc,aK dd]] db (λdf dg=>∃dh,df=aK dh/\de (aK dh) dg))/\((cond c0 (cZ==da) Tc)=Tc->∃di,de (aK di) db)/\((cond c0 (cZ==da) Tc)=Ta->∀dj dk,de dj dk->∃dl,dj=aK dl)/\∀dm:Sl,∀dn,de (aK dm) dn->∃dp dq,((cond c0 (cZ==da) Tc)=Ta->zc dn (aa8 h) 0 [aK dp,aK dq])/\bT dp dq dm (cond c0 (cZ==da) Tc) dn)/\(∃dr ds,((cond c0 (cZ==da) Tc)=Ta->zc db (aa8 h) 0 [aK dr,aK ds])/\cD dr ds dc dd (cond c0 (cZ==da) Tc) db))/\(∃dt du,((cond c0 (cZ==da) Tc)=Ta->zc db (aa8 h) 0 [aK dt,aK du])/\∃dv dw,((cond c0 (cZ==da) Tc)=Ta->zc db (aa8 h) 0 [aK dv,aK dw])/\cD dt du dv dw (cond c0 (cZ==da) Tc) db));let dx:Sl->Sl->Sl->Sl->Bool->zb->Prop:=λ(dy:Sl) (dz:Sl) (dA:Sl) (dB:Sl) dC (dD:zb)=>(∃dE:vvv,(dC=Ta->aa4 21 #[.agg #[aK dA,aK dB]] dD (λdF dG=>∃dH,dF=.bool dH/\dE (aa9 dH) dG))/\(dC=Tc->∃dI,dE (aa9 dI) dD)/\(dC=Ta->∀dJ dL,dE dJ dL->∃dM,dJ=.bool dM)/\∀dN:Bool,∀dO,dE (aa9 dN) dO->cW dy dz dN dC dO);∃dP:vvv,(g=Ta->aa4 17 #[tA L M N O,tA P Q S T] J (λdQ dS=>∃dT,dQ=.bool dT/\dP (aa9 dT) dS))/\(g=Tc->∃dU,dP (aa9 dU) J)/\(g=Ta->∀dV dW,dP dV dW->∃dX,dV=.bool dX)/\∀dY:Bool,∀dZ,dP (aa9 dY) dZ->(∃d0 d1,((cond (cond g dY Tc) (v==G) Tc)=Ta->zc dZ (aa8 h) 0 [aK d0,aK d1])/\(∃d2:vvv,((cond (cond g dY Tc) (v==G) Tc)=Ta->aa4 21 #[.agg #[aK d0,aK d1]] dZ (λd3 d4=>∃d5,d3=.bool d5/\d2 (aa9 d5) d4))/\((cond (cond g dY Tc) (v==G) Tc)=Tc->∃d6,d2 (aa9 d6) dZ)/\((cond (cond g dY Tc) (v==G) Tc)=Ta->∀d7 d8,d2 d7 d8->∃d9,d7=.bool d9)/\∀ea:Bool,∀eb,d2 (aa9 ea) eb->∃ec ed,((cond (cond g dY Tc) (v==G) Tc)=Ta->zc eb (aa8 h) 0 [aK ec,aK ed])/\cW ec ed ea (cond (cond g dY Tc) (v==G) Tc) eb)/\(∃ee ef,((cond (cond g dY Tc) (v==G) Tc)=Ta->zc dZ (aa8 h) 0 [aK ee,aK ef])/\dx ee ef d0 d1 (cond (cond g dY Tc) (v==G) Tc) dZ))/\(∃eg eh,((cond (cond g dY Tc) (v==G) Tc)=Ta->zc dZ (aa8 h) 0 [aK eg,aK eh])/\∃ei ej,((cond (cond g dY Tc) (v==G) Tc)=Ta->zc dZ (aa8 h) 0 [aK ei,aK ej])/\dx eg eh ei ej (cond (cond g dY Tc) (v==G) Tc) dZ))))))))):aa4 4 #[.agg #[.slice b.a b.len b.cap,.slice c.a c.len c.cap]] h R:=XF ⟨[(7,7000)],[],[]⟩ [.tmp 2] 64 func4 H
end
section
open Go.RowKit
variable {b:Nat} {h h':zb} {s:Sl} {ln:Bool} {nd:Int} {l:Bs} {K:Value -> zb -> Prop}
def nU(o:Obj):Bool:=match o with
 |.cells _ T _=>!(Nat.beq T 5) && !(Nat.beq T 207)
 |_=>Ta
def Otk(h h':zb):Prop:=∀(i:Nat) (o:Obj),h[i]?=Td o->nU o=Ta->h'[i]?=Td o
theorem Otk.trans{a b c:zb}(x:Otk a b)(y:Otk b c):Otk a c:=λi o e n=>y i o (x i o e n) n
theorem Otk.aa1(k:Bk h.size h h'):Otk h h':=λi o e _=>by have hi:i<h.size:=(YZ.1 e).1;rw[k.get i hi];exact e
theorem Otk.ne{cs:ab3}{m:Nat×Nat}(e:h[b]?=Td (.cells cs 207 m))(f:∀i,i≠b->h'[i]?=h[i]?):Otk h h':=λi o c n=>by by_cases hi:i=b;subst hi;rw[e]at c;cases c;cases n;simp_all
theorem Otk.own{base:Nat}{sz:Nat}{xs:ab2}(H:DP h base 5 sz s xs)(f:∀i,i<h.size->(∀p,s.a=Td p->i≠p.block)->h'[i]?=h[i]?):Otk h h':=λi o b n=>by have hi:i<h.size:=(YZ.1 b).1;rw[f i hi λq m l=>?_];exact b;obtain⟨k,_⟩|⟨g,cap,c,k,_,e,_⟩:=H.2;simp_all;have e:h[g]?=Td (.cells c 5 (0,0)):=e;rw[m]at k;injection k with e1 _ _;injection e1 with e1;rw[l,e1]at b;rw[e]at b;cases b;cases n
theorem KY:liesAt Tp ZM.depth 207 (4 / ZM.cellsOf 207) 0 89 1=Ta:=κ
def Prn(h:zb)(b:Nat)(ln:Bool)(nd:Int)(l:Bs):Prop:=∃(p:Option n8) (s:Sl),h[b]?=Td (.cells #[.pointer p,aK s,.bool ln,.int .i64 nd] 207 (0,0))/\(p=Te\/p=Td ⟨b,0,Te⟩)/\DP h (b+1) 5 1 s (Lib.byteCells l)
theorem Prn.lt(H:Prn h b ln nd l):b<h.size:=by have⟨p,s,e,_⟩:=H;grind
theorem Prn.aa1(H:Prn h b ln nd l)(k:Bk h.size h h'):Prn h' b ln nd l:=by have c:=H.lt;have⟨p,s,e,f,i⟩:=H;exact⟨p,s,by rw[k.get b c];exact e,f,i.keepN k⟩
theorem Prn.new(h:zb)(ln:Bool)(nd:Int):Prn (h.push (.cells #[.pointer Te,.slice Te 0 0,aa9 ln,ab0 nd] 207)) h.size ln nd []:= ⟨Te,⟨Te,0,0⟩,jc _ _,.inl rfl,DP.nil _ _ _ _⟩
def U8(b:Nat)(w:MN)(h0:w.cell? ⟨b,0,Te⟩=Td (.pointer Te))(c:w.shape? b=Td (207,4))(h:w.frozen? ⟨b,0,Te⟩=Tc):Calls Tp 123 #[aa7 ⟨b,0,Te⟩] w λe w'=>e=.returned (.tuple #[])/\w'=w.setCell ⟨b,0,Te⟩ (aa7 ⟨b,0,Te⟩):=by
 have⟨j,f,i⟩:=zbx.1 zM;have mixed:=Tryz.mixed
 go_enter func123,Tryz.ntmps123
 go_wp2
 rw[Lib.run_to_unsafe w ⟨b,0,Te⟩ py qK f ω c (Nat.zero_lt_succ 3)];simp only[Result.andThen];rw[Oper.upon_value]
 go_wp2
 rw[run_callFunc_extern func195 κ κ κ (e:=zd0) κ];rw[Lib.run_noEscape];simp only[Result.andThen];rw[Oper.upon_value]
 go_wp2
 rw[Lib.run_from_unsafe w ⟨b,0,Te⟩ qK py f c KY];simp only[Result.andThen];rw[Oper.upon_value]
 go_wp2
 go_end0
 simp
def Do(H:Prn h b ln nd l)(k:∀h',Prn h' b ln nd l->Bk b h h'->h'.size=h.size->Otk h h'->K (.tuple #[]) h'):aa4 123 #[aa7 ⟨b,0,Te⟩] h K:=by
 have o:=H.lt;have⟨p,s,e,m,f⟩:=H;have c:∀B d,(mk B d h).cell? ⟨b,0,Te⟩=Td (.pointer p):=λB d=>by have:(mk B d h).heap[b]?=Td (.cells #[.pointer p,aK s,aa9 ln,ab0 nd] 207 (0,0)):=e;simp[World.cell?,this]
 obtain rfl|rfl:=m;refine XC.of_calls λB d=>(U8 b (mk B d h) (c B d) ?_ ?_).mono ?_
 have:(mk B d h).heap[b]?=Td (.cells #[.pointer Te,aK s,aa9 ln,ab0 nd] 207 (0,0)):=e;simp[World.shape?,this];exact xN ⟨_,e⟩ B d;rintro e' w' ⟨rfl,rfl⟩;rw[Ev e];refine⟨_,rfl,rfl,rfl,rfl,?_⟩;show K _ (h.setIfInBounds b _);refine k _ ⟨_,s,?_,.inr rfl,?_⟩ ?_ ξ (Otk.ne e λi hi=>zbr (Ne.symm hi));simp_all;refine f.aa1 λq n=>?_;have:=f.base_le q n;grind;exact Bk.setBlk _ (YJ _);refine XC.of_calls λB d=>(Hl b (mk B d h) (c B d)).mono ?_;rintro e' w' ⟨rfl,rfl⟩;exact⟨_,rfl,rfl,rfl,rfl,k _ ⟨_,s,e,.inr rfl,f⟩ (Bk.refl _ _) rfl (Otk.aa1 (Bk.refl _ _))⟩
def AB{p:Option n8}{s u:Sl}(e:h[b]?=Td (.cells #[.pointer p,aK u,aa9 ln,ab0 nd] 207 (0,0)))(m:p=Te\/p=Td ⟨b,0,Te⟩)(i:DP h (b+1) 5 1 s (Lib.byteCells l)){K:zb->Prop}(t:∀h',Prn h' b ln nd l->Bk b h h'->h'.size=h.size->Otk h h'->K h'):wf Tp (YI 87 (aa7 ⟨b,1,Te⟩) (.slice s.a s.len s.cap)) h K:=by intro B d;have⟨h',r,k,f,c⟩:=Yt (P:=Tp) F9 Cd e (o:=1) (v:=aK s) rfl ξ (by simp[aK,Value.cells,i2]) B d;refine⟨d,h',r,t h' ⟨p,s,?_,m,?_⟩ (Bk.ne f c) f (Otk.ne e c)⟩;rw[k];rfl;refine i.aa1 λq n=>?_;have:=i.base_le q n;grind
def Yk(H:Prn h b ln nd l)(U:l.length<140737488355328)(c:UInt8)(P:∀h',Prn h' b ln nd (l++[c])->Bk b h h'->Otk h h'->K .nilIface h'):aa4 133 #[aa7 ⟨b,0,Te⟩,.int .u8 (c.toNat:Int)] h K:=by
 apply wn;refine Do H λh2 B k2 z2 F=>⟨rfl,_,rfl,?_⟩;have x:=B.lt;have⟨p,s,e,Q,r⟩:=B;have f:=r.1;rw[Lib.byteCells_length,zbf]at f;refine⟨s,Blk.aa2 (o:=0) (k:=1) (cs:=#[.pointer p,aK s,aa9 ln,ab0 nd]) ⟨_,e⟩ rfl,?_⟩;intro t;have⟨m,V,b5⟩:=yp (g:=t) rfl;have D:t[b]?=Td (.cells #[.pointer p,aK s,aa9 ln,ab0 nd] 207 (0,0)):=by rw[m.get b x];exact e
 have A:=r.keepN m;clear_value t;refine Wi RM A (src:=⟨Td (aa8 h2),1,1⟩) (news:=[.int .u8 (c.toNat:Int)]) (n:=t.size) ?_ rfl (by simp[i2]) η η ω λC z Z I u q4 S=>⟨C,rfl,_,rfl,?_⟩;refine .inr ⟨h2.size,0,rfl,ω,λi v w=>?_⟩
 match i,w with
 |0,w=>cases w;exact b5.cell rfl
 have M:z[b]?=Td (.cells #[.pointer p,aK s,aa9 ln,ab0 nd] 207 (0,0)):=by rw[u b ω λq y=>χ (r.base_le q y)];exact D
 have E:DP z (b+1) 5 1 C (Lib.byteCells (l++[c])):=by
  have:Lib.byteCells (l++[c])=Lib.byteCells l++[.int .u8 (c.toNat:Int)]:=by unfold Lib.byteCells;rw[zaa];rfl
  rw[this];exact I
 have G:Bk b h z:=k2.trans ⟨ω,λi hi=>by rw[u i ω λq y=>χ (r.base_le q y)];exact m.get i ω⟩ (YJ _);refine AB M Q E λO J L Y N=>P O J (G.trans L (YJ _)) (F.trans ((Otk.aa1 m).trans ((Otk.own A u).trans N)))
def Jo(H:Prn h b ln nd l)(t:Bs)(hl:l.length+DB t<=140737488355328)(N:∀h',Prn h' b ln nd (l++t)->Bk b h h'->Otk h h'->K (.tuple #[ab0 (DB t:Int),.nilIface]) h'):aa4 68 #[aa7 ⟨b,0,Te⟩,aa6 (bl t)] h K:=by
 apply jz;refine Do H λh2 A k2 z2 F=>⟨rfl,_,rfl,?_⟩;have C:=A.lt;have⟨p,s,e,O,n⟩:=A;have f:=n.1;rw[Lib.byteCells_length,zbf]at f;refine⟨s,Blk.aa2 (o:=0) (k:=1) (cs:=#[.pointer p,aK s,aa9 ln,ab0 nd]) ⟨_,e⟩ rfl,?_⟩;have c:=zf t;refine Wq RM n (x:=.string (bl t)) (m:=(bl t).size) (news:=Lib.byteCells t) (λB d=>?_) (ο c) (ο c) ω λz y U Q u Z Y=>⟨z,rfl,_,rfl,?_⟩;have:=Src.ofString (P:=Tp) (w:=mk B d h2) rG (bl t);have V:byteCells (bl t)=Lib.byteCells t:=by unfold byteCells Lib.byteCells;have:(bl t).data.toList=t:=yr t;rw[this]
 simp_all;have I:y[b]?=Td (.cells #[.pointer p,aK s,aa9 ln,ab0 nd] 207 (0,0)):=by rw[u b ω λq r=>χ (n.base_le q r)];exact e
 have D:DP y (b+1) 5 1 z (Lib.byteCells (l++t)):=by
  have:Lib.byteCells (l++t)=Lib.byteCells l++Lib.byteCells t:=by unfold Lib.byteCells;rw[zaa]
  rw[this];exact Q
 have J:Bk b h y:=k2.trans ⟨ω,λi hi=>u i ω λq r=>χ (n.base_le q r)⟩ (YJ _);refine AB I O D λM E G S L=>?_;rw[c];exact N M E (J.trans G (YJ _)) (F.trans ((Otk.own n u).trans L))
def MV(b:Nat)(p:Value)(ln:Bool)(nd:Int)(v:Value)(l:Bs)(w:MN)(m:w.heap[b]?=Td (.cells #[p,v,aa9 ln,ab0 nd] 207 (0,0)))(f:w.ownsRow (b+1) 5 1 v (DB l) (Lib.byteCells l))(h0:l≠[]):Calls Tp 70 #[aa7 ⟨b,0,Te⟩] w λe w'=>e=.returned (aa6 ⟨l.toArray⟩)/\Below (b+1) w w':=by
 have h:l.length≠0:=ψ h0
 obtain⟨g,cap,c,rfl,u,q,y,o,z,k⟩:∃g cap c,v=.slice (Td ⟨g,0,Te⟩) (DB l) cap/\b+1<=g/\w.heap[g]?=Td (.cells c 5 (0,0))/\_:=by obtain⟨_,t⟩|⟨g,cap,c,B,r⟩:=f.2;exact absurd t h;exact⟨g,cap,c,B,r⟩
 have c1:w.drew.cell? ⟨b,1,Te⟩=Td (.slice (Td ⟨g,0,Te⟩) (DB l) cap):=by have:w.drew.heap[b]?=Td (.cells #[p,.slice (Td ⟨g,0,Te⟩) (DB l) cap,aa9 ln,ab0 nd] 207 (0,0)):=m;rw[Lib.cell_of_heap this];rfl
 have s:(Builtin.unsafeSliceData_ #[87] 133 #[.slice (Td ⟨g,0,Te⟩) (DB l) cap]).run Tp w.drew=.ok (aa7 ⟨g,0,Te⟩) w.drew:= Lib.run_unsafeSliceData_row _ _ _ _ _ _ ω;have n:(Builtin.unsafeString_ #[133,3] 9 #[aa7 ⟨g,0,Te⟩,ab0 (DB l)]).run Tp w.drew=.ok (aa6 ⟨l.toArray⟩) (w.drew.freeze ⟨g,0,Te⟩ (DB l)):=by refine Lib.run_unsafeString_row w.drew 133 3 9 5 Tryz.underlying133 κ g c.size (by have i:w.drew.heap[g]?=Td (.cells c 5 (0,0)):=q;simp[World.shape?,i]) l h0 ω (by have:maxLen=9223372036854775807:=rfl;omega) ?_;intro j x A;have:=f.cells (g:=g) rfl j (.int .u8 x.toNat) (by simp[Lib.byteCells,A]);exact this
 have mixed:=Tryz.mixed
 go_enter func70,Tryz.ntmps70
 go_wp2
 go_region_o
 all_goals (go_wp2;go_ret;simp_all[Lib.below_freeze,Below.drew,Below.refl])
def TX(H:Prn h b ln nd l)(h0:l≠[])(m:∀h',Bk b h h'->K (aa6 (bl l)) h'):aa4 70 #[aa7 ⟨b,0,Te⟩] h K:=by have⟨p,s,e,n,k⟩:=H;have f:=k.1;rw[Lib.byteCells_length,zbf]at f;refine XC.of_calls λB d=>(MV b (.pointer p) ln nd (aK s) l (mk B d h) e (ϖ f k) h0).mono ?_;rintro e' w' ⟨rfl,c⟩;exact⟨_,rfl,c.os,c.tape,c.output,m _ ⟨c.size,λi hi=>c.block i ω⟩⟩
end
section
def QK(b:Int)(c:Bt)(d:Sl)(e:Sl)(h:zb)(R:vvv) (H:let f:=h.push (.cells #[iV b,aa6 c,aK d,aK e] 25);∃g i j k,zc f (aa8 h) 0 (tL g i j k)/\aa4 49 #[tA g i j k] f (λl m=>∃n,l=.bool n/\((!n)=Ta->R (.tuple #[aa6 (⟨#[]⟩:Bt),iV 1]) m)/\((!n)=Tc->let o:=m.push (.cells #[.pointer Te,.slice Te 0 0,aa9 Tc,iV 0] 207);∃p q r s,zc o (aa8 h) 0 (tL p q r s)/\aa4 201 #[aa7 (aa8 m),tA p q r s,iV 0] o (λt u=>t=.tuple #[]/\aa4 70 #[.pointer (Td (YH (aa8 m) 0))] u (λv w=>∃x,v=.string x/\R (.tuple #[aa6 x,iV 0]) w))))):aa4 126 #[.agg #[ab0 b,aa6 c,.slice d.a d.len d.cap,.slice e.a e.len e.cap]] h R:=XF ⟨[],[],[]⟩ [.tmp 2,.tmp 3] 12 func126 H
def Km(L:Option n8)(b:Int)(c:Bt)(d:Sl)(e:Sl)(J:Int)(h:zb)(R:vvv) (H:let f:=h.push (.cells #[iV b,aa6 c,aK d,aK e] 25);∃g,zd f (YH (aa8 h) 0)=Td (iV g)/\((g==1)=Ta->∃i,L=Td i/\aa4 68 #[.pointer (Td (YH i 0)),aa6 (⟨#[110,117,108,108]⟩:Bt)] f (λj k=>∃l,∃m:Value,j=.tuple #[iV l,m]/\R (.tuple #[]) k))/\((g==1)=Tc->((g==4)=Ta->∃n,zd f (YH (aa8 h) 1)=Td (aa6 n)/\aa4 253 #[.pointer L,aa6 n] f (λo p=>o=.tuple #[]/\R (.tuple #[]) p))/\((g==4)=Tc->((g==5)=Ta->∃q r s t,zc f (aa8 h) 0 (tL q r s t)/\aa4 254 #[.pointer L,tA q r s t,iV J,aa6 (⟨#[91,93]⟩:Bt),.func (.func 255) #[.pointer L] #[]] f (λu v=>u=.tuple #[]/\R (.tuple #[]) v))/\((g==5)=Tc->((g==6)=Ta->∃w x y z,zc f (aa8 h) 0 (tL w x y z)/\aa4 254 #[.pointer L,tA w x y z,iV J,aa6 (⟨#[123,125]⟩:Bt),.func (.func 256) #[.pointer L] #[]] f (λA B=>A=.tuple #[]/\R (.tuple #[]) B))/\((g==6)=Tc->∃C,L=Td C/\∃D,zd f (YH (aa8 h) 1)=Td (aa6 D)/\aa4 68 #[.pointer (Td (YH C 0)),aa6 D] f (λE F=>∃G,∃I:Value,E=.tuple #[iV G,I]/\R (.tuple #[]) F)))))):aa4 201 #[.pointer L,.agg #[ab0 b,aa6 c,.slice d.a d.len d.cap,.slice e.a e.len e.cap],ab0 J] h R:=XF ⟨[(2,8000)],[],[]⟩ [] 42 func201 H
def Xy(k:Option n8)(s1:Bt)(h:zb)(R:vvv) (H:aa4 125 #[aa6 s1] h (λa b=>∃c d,a=.tuple #[aa6 c,iV d]/\∃e,k=Td e/\aa4 68 #[.pointer (Td (YH e 0)),aa6 c] b (λf g=>∃i,∃j:Value,f=.tuple #[iV i,j]/\R (.tuple #[]) g))):aa4 253 #[.pointer k,aa6 s1] h R:=XF ⟨[],[],[]⟩ [] 16 func253 H
def VZ(Y:Option n8)(b:Int)(c:Bt)(d:Sl)(e:Sl)(P:Int)(Q:Bt)(S:n5)(V:ab3)(U:ab3)(h:zb)(R:vvv) (H:let f:=h.push (.cells #[iV b,aa6 c,aK d,aK e] 25);∃g,Y=Td g/\(0<=(0:Int)/\(0:Int)<(Q.size:Int))/\aa4 133 #[.pointer (Td (YH g 0)),.int .u8 (ze Q (0:Int).toNat)] f (λi j=>∃k:Value,i=k/\∃l,zd j (YH (aa8 h) 3)=Td (aK l)/\∃(m:ab7) (n:ab9),m 0 j/\∀o:Int,∀p:zb,m o p->((hV (o<l.len)=Ta->∀q:zb->Prop,(∀r:zb,(aa4 307 #[.pointer Y,iV (p3 (P+1))] r (λs t=>s=.tuple #[]/\∃u v w x,zc t (aa8 h) 0 (tL u v w x)/\zr Tp S=Ta/\aa4 S (V++#[tA u v w x,iV o,iV (p3 (P+1))]++U) t (λy z=>y=.tuple #[]/\(m (p3 (o+1)) z/\n (p3 (o+1)) z<n o p))))->q r)->(hV (o>0)=Ta->∃A,Y=Td A/\aa4 133 #[.pointer (Td (YH A 0)),.int .u8 44] p (λB C=>∃D:Value,B=D/\q C))/\(hV (o>0)=Tc->q p))/\(hV (o<l.len)=Tc->∀E:zb->Prop,(∀F:zb,(∃G,Y=Td G/\(0<=(1:Int)/\(1:Int)<(Q.size:Int))/\aa4 133 #[.pointer (Td (YH G 0)),.int .u8 (ze Q (1:Int).toNat)] F (λI J=>∃L:Value,I=L/\R (.tuple #[]) J))->E F)->∃M,zd p (YH (aa8 h) 3)=Td (aK M)/\(hV ((M.len:Int)>0)=Ta->aa4 307 #[.pointer Y,iV P] p (λN O=>N=.tuple #[]/\E O))/\(hV ((M.len:Int)>0)=Tc->E p))))):aa4 254 #[.pointer Y,.agg #[ab0 b,aa6 c,.slice d.a d.len d.cap,.slice e.a e.len e.cap],ab0 P,aa6 Q,.func (.func S) V U] h R:=XF ⟨[(1,8000),(12,8000)],[(3,[(20,.one (.int .i64))])],[(7,[]),(12,[])]⟩ [] 53 func254 H
def KD(r:Option n8)(b:Int)(c:Bt)(d:Sl)(e:Sl)(q:Int)(p:Int)(h:zb)(R:vvv) (H:let f:=h.push (.cells #[iV b,aa6 c,aK d,aK e] 25);∃g,zd f (YH (aa8 h) 3)=Td (aK g)/\∃i,(g.a=Td i/\0<=q/\q<g.len)/\∃j k l m,zc f (i.add (q.toNat*4)) 0 (tL j k l m)/\aa4 201 #[.pointer r,tA j k l m,iV p] f (λn o=>n=.tuple #[]/\R (.tuple #[]) o)):aa4 255 #[.pointer r,.agg #[ab0 b,aa6 c,.slice d.a d.len d.cap,.slice e.a e.len e.cap],ab0 q,ab0 p] h R:=XF ⟨[],[],[]⟩ [] 16 func255 H
def Xz(J:Option n8)(b:Int)(c:Bt)(d:Sl)(e:Sl)(I:Int)(G:Int)(h:zb)(R:vvv) (H:let f:=h.push (.cells #[iV b,aa6 c,aK d,aK e] 25);∃g,zd f (YH (aa8 h) 2)=Td (aK g)/\∃i,(g.a=Td i/\0<=I/\I<g.len)/\∃j,zd f (i.add (I.toNat*1))=Td (aa6 j)/\aa4 253 #[.pointer J,aa6 j] f (λk l=>k=.tuple #[]/\∃m,J=Td m/\aa4 133 #[.pointer (Td (YH m 0)),.int .u8 58] l (λn o=>∃p:Value,n=p/\∀q:zb->Prop,(∀r:zb,(∃s,zd r (YH (aa8 h) 3)=Td (aK s)/\∃t,(s.a=Td t/\0<=I/\I<s.len)/\∃u v w x,zc r (t.add (I.toNat*4)) 0 (tL u v w x)/\aa4 201 #[.pointer J,tA u v w x,iV G] r (λy z=>y=.tuple #[]/\R (.tuple #[]) z))->q r)->∃A,J=Td A/\∃B,zd o (YH A 2)=Td (aa9 B)/\(B=Ta->∃C,J=Td C/\aa4 133 #[.pointer (Td (YH C 0)),.int .u8 32] o (λD E=>∃F:Value,D=F/\q E))/\(B=Tc->q o)))):aa4 256 #[.pointer J,.agg #[ab0 b,aa6 c,.slice d.a d.len d.cap,.slice e.a e.len e.cap],ab0 I,ab0 G] h R:=XF ⟨[],[],[(5,[])]⟩ [] 35 func256 H
def Nl(s:Option n8)(r:Int)(h:zb)(R:vvv) (H:∃a,s=Td a/\∃b,zd h (YH a 2)=Td (aa9 b)/\(b=Ta->∃c,s=Td c/\aa4 133 #[.pointer (Td (YH c 0)),.int .u8 10] h (λd e=>∃f:Value,d=f/\∃g,s=Td g/\∃i,s=Td i/\∃j,zd e (YH i 3)=Td (iV j)/\aa4 200 #[aa6 (⟨#[32]⟩:Bt),iV (p3 (j*r))] e (λk l=>∃m,k=.string m/\aa4 68 #[.pointer (Td (YH g 0)),aa6 m] l (λn o=>∃p,∃q:Value,n=.tuple #[iV p,q]/\R (.tuple #[]) o))))/\(b=Tc->R (.tuple #[]) h)):aa4 307 #[.pointer s,ab0 r] h R:=XF ⟨[(2,8000)],[],[]⟩ [] 23 func307 H
def IW(b:Int)(c:Bt)(d:Sl)(e:Sl)(h:zb)(R:vvv) (H:let f:=h.push (.cells #[iV b,aa6 c,aK d,aK e] 25);let g:=f.push (.cells tC 25);∃i j k l,zc g (aa8 h) 0 (tL i j k l)/\aa4 83 #[tA i j k l] g (λm n=>∃o,m=.bool o/\((!o)=Ta->wf Tp (YI 25 (aa7 (aa8 f)) (tZ)) n (λp=>∃q r s t,zc p (aa8 f) 0 (tL q r s t)/\R (tA q r s t) p))/\((!o)=Tc->∃u v w x,zc n (aa8 h) 0 (tL u v w x)/\aa4 101 #[tA u v w x] n (λy z=>∃A B C D,y=tA A B C D/\wf Tp (YI 25 (aa7 (aa8 f)) (tA A B C D)) z (λE=>∃F G I J,zc E (aa8 f) 0 (tL F G I J)/\R (tA F G I J) E))))):aa4 56 #[.agg #[ab0 b,aa6 c,.slice d.a d.len d.cap,.slice e.a e.len e.cap]] h R:=XF ⟨[],[],[]⟩ [.cell 2 25] 9 func56 H
def KB(b:Int)(c:Bt)(d:Sl)(e:Sl)(h:zb)(R:vvv) (H:let f:=h.push (.cells #[iV b,aa6 c,aK d,aK e] 25);let g:=f.push (.cells tC 25);∃i,zd g (YH (aa8 h) 0)=Td (iV i)/\∃j,zd g (YH (aa8 h) 1)=Td (aa6 j)/\let k:=g.push (.cells tC 25);wf Tp (YI 25 (aa7 (aa8 g)) (.agg #[iV i,aa6 j,.slice Te 0 0,.slice Te 0 0])) k (λl=>∃m,zd l (YH (aa8 h) 0)=Td (iV m)/\((m != 6)=Ta->∃n,zd l (YH (aa8 h) 3)=Td (aK n)/\∃(o:ab7) (p:ab9),o 0 l/\∀q:Int,∀r:zb,o q r->((hV (q<n.len)=Ta->∃s,(n.a=Td s/\0<=q/\q<n.len)/\∃t u v w,zc r (s.add (q.toNat*4)) 0 (tL t u v w)/\let x:=r.push (.cells tC 25);wf Tp (YI 25 (aa7 (aa8 r)) (tA t u v w)) x (λy=>∃z,zd y (YH (aa8 g) 3)=Td (aK z)/\∃A B C D,zc y (aa8 r) 0 (tL A B C D)/\aa4 101 #[tA A B C D] y (λE F=>∃G I J L,E=tA G I J L/\g6 F y (YH (aa8 g) 3)/\let M:=F.push (.cells #[iV G,aa6 I,aK J,aK L] 25);g6 M y (YH (aa8 g) 3)/\CA Tp (YN #[23,23] 23 #[aK z,.slice (Td (aa8 F)) 1 1]) M (λN O=>∃P,N=aK P/\wf Tp (YI 23 (.pointer (Td (YH (aa8 g) 3))) (aK P)) O (λQ=>(o (p3 (q+1)) Q/\p (p3 (q+1)) Q<p q r))))))/\(hV (q<n.len)=Tc->∃S T U V,zc r (aa8 g) 0 (tL S T U V)/\wf Tp (YI 25 (aa7 (aa8 f)) (tA S T U V)) r (λW=>∃X Y Z aa,zc W (aa8 f) 0 (tL X Y Z aa)/\R (tA X Y Z aa) W))))/\((m != 6)=Tc->∃ab ac ad ae,zc l (aa8 h) 0 (tL ab ac ad ae)/\aa4 142 #[tA ab ac ad ae] l (λaf ag=>∃ah:Option Nat,af=.map ah/\aa4 162 #[.map ah] ag (λai aj=>∃ak:Value,ai=ak/\aa4 161 #[ak] aj (λal am=>∃an,al=aK an/\wf Tp (YI 22 (.pointer (Td (YH (aa8 g) 2))) (aK an)) am (λao=>∃ap,zd ao (YH (aa8 g) 2)=Td (aK ap)/\∃(aq:ab7) (ar:ab9),aq 0 ao/\∀au:Int,∀av:zb,aq au av->((hV (au<ap.len)=Ta->∃aw,(ap.a=Td aw/\0<=au/\au<ap.len)/\∃ax,zd av (aw.add (au.toNat*1))=Td (aa6 ax)/\∃ay,zd av (YH (aa8 g) 3)=Td (aK ay)/\∃az aA aB aC,At Tp (zc0 144 (.map ah) (aa6 ax) Tc) av (tA az aA aB aC)/\g6 av av (YH (aa8 g) 3)/\aa4 101 #[tA az aA aB aC] av (λaD aE=>∃aF aG aH aI,aD=tA aF aG aH aI/\g6 aE av (YH (aa8 g) 3)/\let aJ:=aE.push (.cells #[iV aF,aa6 aG,aK aH,aK aI] 25);g6 aJ av (YH (aa8 g) 3)/\CA Tp (YN #[23,23] 23 #[aK ay,.slice (Td (aa8 aE)) 1 1]) aJ (λaL aM=>∃aN,aL=aK aN/\wf Tp (YI 23 (.pointer (Td (YH (aa8 g) 3))) (aK aN)) aM (λaO=>(aq (p3 (au+1)) aO/\ar (p3 (au+1)) aO<ar au av)))))/\(hV (au<ap.len)=Tc->∃aP aQ aS aT,zc av (aa8 g) 0 (tL aP aQ aS aT)/\wf Tp (YI 25 (aa7 (aa8 f)) (tA aP aQ aS aT)) av (λaU=>∃aV aW aX aY,zc aU (aa8 f) 0 (tL aV aW aX aY)/\R (tA aV aW aX aY) aU)))))))))):aa4 101 #[.agg #[ab0 b,aa6 c,.slice d.a d.len d.cap,.slice e.a e.len e.cap]] h R:=XF ⟨[(6,8000),(14,8000)],[(4,[(20,.one (.int .i64))]),(12,[(42,.one (.int .i64))])],[]⟩ [.cell 2 25] 57 func101 H
def TI(b:Int)(c:Bt)(d:Sl)(e:Sl)(h:zb)(R:vvv) (H:let f:=h.push (.cells #[iV b,aa6 c,aK d,aK e] 25);∃g,zd f (YH (aa8 h) 2)=Td (aK g)/\let i:=f.push (.map #[] 0);∃j,zd i (YH (aa8 h) 2)=Td (aK j)/\∃(k:ab7) (l:ab9),k 0 i/\∀m:Int,∀n:zb,k m n->((hV (m<j.len)=Ta->∃o,(j.a=Td o/\0<=m/\m<j.len)/\∃p,zd n (o.add (m.toNat*1))=Td (aa6 p)/\∃q,zd n (YH (aa8 h) 3)=Td (aK q)/\∃r,(q.a=Td r/\0<=m/\m<q.len)/\∃s t u v,zc n (r.add (m.toNat*4)) 0 (tL s t u v)/\wf Tp (zbk 144 (.map (Td f.size)) (aa6 p) (tA s t u v)) n (λw=>(k (p3 (m+1)) w/\l (p3 (m+1)) w<l m n)))/\(hV (m<j.len)=Tc->R (.map (Td f.size)) n))):aa4 142 #[.agg #[ab0 b,aa6 c,.slice d.a d.len d.cap,.slice e.a e.len e.cap]] h R:=XF ⟨[],[(3,[(13,.one (.int .i64))])],[]⟩ [.tmp 2] 27 func142 H
def PZ(b:Int)(c:Bt)(d:Sl)(e:Sl)(h:zb)(R:vvv) (H:let f:=h.push (.cells #[iV b,aa6 c,aK d,aK e] 25);∃g i j k,zc f (aa8 h) 0 (tL g i j k)/\aa4 86 #[tA g i j k] f (λl m=>∃n,l=.bool n/\∃o p q r,(n=Ta->zc m (aa8 h) 0 (tL o p q r))/\∃s:vvv,(n=Ta->aa4 87 #[tA o p q r,.func (.func 88) #[] #[]] m (λt u=>∃v,t=.bool v/\s (aa9 v) u))/\(n=Tc->∃w,s (aa9 w) m)/\(n=Ta->∀x y,s x y->∃z,x=.bool z)/\∀A:Bool,∀B,s (aa9 A) B->R (aa9 (cond n A Tc)) B)):aa4 49 #[.agg #[ab0 b,aa6 c,.slice d.a d.len d.cap,.slice e.a e.len e.cap]] h R:=XF ⟨[],[],[]⟩ [.tmp 2] 9 func49 H
end
section
open Go.Lib
section
variable {a:Nat}
abbrev Tk:=Int×Int×Int
def xf:Bs:=[32,9,10,13]
def CT:Bs:=[123,125,91,93,44,58]
def eA:Bs:=[45,43,46,48,49,50,51,52,53,54,55,56,57,101,69]
def fW:Bs:=[45,48,49,50,51,52,53,54,55,56,57]
def jj:Bs:=[97,98,99,100,101,102,103,104,105,106,107,108,109,110,111,112,113,114,115,116,117,118,119,120,121,122]
def Qd(p:UInt8->Bool)(l:Bs):Nat:=(l.takeWhile p).length
def uw(p:ac2)(l:Bs):Qd p l<=DB l:=(List.takeWhile_sublist p).length_le
def EA{p:ac2}{c:UInt8}{l:Bs}(h:p c=Ta):0<Qd p (c::l):=by unfold Qd;simp_all
theorem oV{p:ac2}:∀{l:Bs} {k:Nat} (b:k<=DB l),(∀j (f:j<k),p (l[j]' ω)=Ta)->(∀h:k<DB l,p l[k]=Tc)->Qd p l=k
 |[],k,b,h1,h2=>by simp at b;subst b;rfl
 |c::l,0,b,h1,h2=>by have:=h2 ξ;unfold Qd;simp_all
 |c::l,k+1,b,h1,h2=>by have e:=h1 0 ω;simp only[List.getElem_cons_zero]at e;unfold Qd;rw[List.takeWhile_cons,zi e,YU];have:=oV (p:=p) (l:=l) (k:=k) η (λj f=>η) (λi=>θ);unfold Qd at this;omega
def Zd(s:Bs):Int:=if s=[116,114,117,101]then 10 else if s=[102,97,108,115,101]then 11 else if s=[110,117,108,108]then 12 else 0
def wh(l:Bs)(c:UInt8):Bool:=hV (c∈l)
def Zy(s:Bs)(a:Nat):Int×Nat×Int:=match s.drop a with
 |[]=>(0,a,2)
 |c::t=>
  if c∈CT then(2+indexByte CT c,a+1,0)
  else if c∈xf then(1,a+Qd (wh xf) (c::t),0)
  else if c=34 then(if(ye s a).2.2=0 then(8,(ye s a).2.1,0)else(0,(ye s a).2.1,(ye s a).2.2))
  else if c∈fW then(if(zj ((c::t).take (Qd (wh eA) (c::t)))).2=0 then(9,a+Qd (wh eA) (c::t),0)else(0,a,(zj ((c::t).take (Qd (wh eA) (c::t)))).2))
  else if Zd ((c::t).take (Qd (wh jj) (c::t)))=0 then(0,a,2)else(Zd ((c::t).take (Qd (wh jj) (c::t))),a+Qd (wh jj) (c::t),0)
theorem Lu{t:Bs}(h:(ye t a).2.2=0):a<(ye t a).2.1/\(ye t a).2.1<=DB t:=by
 unfold ye at h ⊢;split at h;rename_i c;rw[zi c];have:=(EP _ (t.drop (a+1)) rfl).1;have b:a<DB t:=by obtain h1|h1:=zam a (DB t);exact h1;simp_all
 grind;cases h
def Y1{s:Bs}(n:a<DB s)(h:(Zy s a).2.2=0):a<(Zy s a).2.1/\(Zy s a).2.1<=DB s:=by
 have k:s.drop a=s[a]::s.drop (a+1):=ZG n;have m:(s[a]::s.drop (a+1)).length=DB s-a:=by rw[<-k,ZE]
 have rb:=λp=>uw p (s[a]::s.drop (a+1));rw[m]at rb;unfold Zy at h ⊢;rw[k]at h ⊢;dsimp only at h ⊢;split;grind;rename_i h1;rw[za h1]at h;split;rename_i h2;have:=EA (p:=wh xf) (l:=s.drop (a+1)) (c:=s[a]) (by unfold wh;grind);grind;rename_i h2;rw[za h2]at h;split;rename_i i;rw[zi i]at h;split at h;simp_all[Lu];simp_all;rename_i i;rw[za i]at h;split;rename_i b;rw[zi b]at h;split at h;rename_i f;rw[zi f];have o:s[a]∈eA:=by
  have:∀c∈fW,c∈eA:=ζ
  exact this _ b
 have:=EA (p:=wh eA) (l:=s.drop (a+1)) (c:=s[a]) (by unfold wh;simp_all);grind;simp_all;rename_i b;rw[za b]at h;split at h;cases h;rename_i f;rw[za f];have:0<Qd (wh jj) (s[a]::s.drop (a+1)):=by refine Nat.pos_of_ne_zero λe=>f ?_;rw[e];rfl
 grind
def Zq:Nat->Bs->Nat->List Tk->List Tk×Nat×Int
 |0,_,a,o=>(o,a,0)
 |f+1,s,a,o=>if a<s.length then(if(Zy s a).2.2=0 then Zq f s (Zy s a).2.1 (o++[((Zy s a).1,((a:Int),((Zy s a).2.1:Int)))])else([],(Zy s a).2.1,(Zy s a).2.2))else(o,a,0)
def qz(s:Bs):List Tk×Nat×Int:=if 65536<s.length then([],0,3)else Zq s.length s 0 []
end
section
variable {s:Bs}
abbrev Sp:=Int×Int
abbrev Nd:=Int×Sp×Sp×List Int×List Sp
structure PSt where
 rest:List Tk
 last:Int
 nodes:List Nd
abbrev PR(α:Type):=α ⊕ (Int×Int)
def PSt.Wf(st:PSt):Int:=match st.rest with | []=>0|t::_=>t.1
def PSt.here(st:PSt)(n:Nat):Int:=match st.rest with | []=>(n:Int)|t::_=>t.2.1
def PSt.skip(st:PSt):PSt:=match st.rest with | []=>st|t::r=>⟨r,t.2.2,st.nodes⟩
def zu(k:Int):Int:=if k=12 then 1 else if k=10\/k=11 then 2 else if k=9 then 3 else if k=8 then 4 else if k=4 then 5 else if k=2 then 6 else 0
def me(k:Int)(p:Sp)(x:Nd):Nd:=(x.1,x.2.1,x.2.2.1,x.2.2.2.1++[k],x.2.2.2.2++[p])
def jT(t:Int)(x:Nd):Nd:=(x.1,(x.2.1.1,t),x.2.2)
def PSt.addKid(st:PSt)(n:Nat)(k:Int)(p:Sp):PSt:=⟨st.rest,st.last,st.nodes.modify n (me k p)⟩
def PSt.setTo(st:PSt)(n:Nat):PSt:=⟨st.rest,st.last,st.nodes.modify n (jT st.last)⟩
def PSt.err{α:Type}(st:PSt)(s:Bs)(e:Int):PR α:=.inr (st.here s.length,e)
abbrev fB:=List Bs->PSt->PR (List Bs×PSt)
def Yb(s:Bs)(n:Nat)(closing:Int)(kid:fB):Nat->List Bs->PSt->PR PSt
 |0,_,st=>st.err s 2
 |f+1,had,st=>match kid had st with
  |.inr e=>.inr e
  |.inl (had',st')=>
   if st'.Wf=closing then .inl (st'.addKid n st.nodes.length (st.last,st'.here s.length)).skip
   else if st'.Wf=6 then Yb s n closing kid f had' (st'.addKid n st.nodes.length (st.last,st'.here s.length)).skip
   else st'.err s 2
def Je(s:Bs)(n:Nat)(closing:Int)(kid:fB)(st:PSt):PR PSt:=
 if st.Wf=closing then .inl st.skip else Yb s n closing kid (st.rest.length+1) [] st
abbrev fV:=Sp->PSt->PR PSt
def fT(val:fV):fB:=λhad st=>match val (0,0) st with
 |.inl st'=>.inl (had,st')
 |.inr e=>.inr e
def Yc(s:Bs)(p:Sp):Bs:=(s.drop p.1.toNat).take (p.2.toNat-p.1.toNat)
def fG(s:Bs)(val:fV):fB:=λhad st=>match st.rest with
 |[]=>st.err s 2
 |t::_=>
  if t.1=8 then
   if(Qr (Yc s t.2)).1∈had then st.err s 7
   else if st.skip.Wf=7 then match val t.2 st.skip.skip with
    |.inl st'=>.inl (had++[(Qr (Yc s t.2)).1],st')
    |.inr e=>.inr e
   else st.skip.err s 2
  else st.err s 2
def PSt.open(st:PSt)(key:Sp):PSt:=match st.rest with
 |[]=>st
 |t::r=>⟨r,t.2.2,st.nodes++[(zu t.1,t.2,key,[],[])]⟩
def fk(s:Bs)(val:fV)(n:Nat)(k:Int)(st:PSt):PR PSt:=
 if k=5 then Je s n 5 (fT val) st else if k=6 then Je s n 3 (fG s val) st else .inl st
def Zr(s:Bs):Nat->fV
 |0,key,st=>if zu st.Wf=0 then st.err s 2 else st.err s 5
 |d+1,key,st=>if zu st.Wf=0 then st.err s 2 else if st.nodes.length=4096 then st.err s 6 else
  match fk s (Zr s d) st.nodes.length (zu st.Wf) (st.open key)with
  |.inl st'=>.inl (st'.setTo st.nodes.length)
  |.inr e=>.inr e
def zt(l:List Tk):List Tk:=l.filter λt=>decide (t.1≠1)
def xh(s:Bs):(Bs×List Nd)×Int×Int:=
 if(qz s).2.2=0 then
  match Zr s 32 (0,0) ⟨zt (qz s).1,0,[]⟩with
  |.inl st=>if st.rest=[]then((s,st.nodes),(s.length:Int),0)else(([],[]),st.here s.length,2)
  |.inr e=>(([],[]),e.1,e.2)
 else(([],[]),((qz s).2.1:Int),(qz s).2.2)
def gW(s:Bs)(t:Tk):Prop:=0<=t.2.1/\t.2.1<t.2.2/\t.2.2<=(s.length:Int)/\(2<=t.1/\t.1<=7->t.2.2=t.2.1+1)
theorem Nz{a:Nat}(c:a<DB s)(h:2<=(Zy s a).1/\(Zy s a).1<=7):(Zy s a).2.1=a+1:=by
 have b:s.drop a=s[a]::s.drop (a+1):=ZG c;unfold Zy at h ⊢;rw[b]at h ⊢;dsimp only at h ⊢;have e:∀l:Bs,Zd l=0\/Zd l=10\/Zd l=11\/Zd l=12:=λl=>by unfold Zd;omega
 grind
theorem FE:∀(f:Nat) (s:Bs) (a:Nat) (o:List Tk),(∀t∈o,gW s t)->∀t∈(Zq f s a o).1,gW s t
 |0,s,a,o,h=>h
 |f+1,s,a,o,h=>by rw[Zq];split;rename_i c;split;rename_i h0;refine FE f s _ _ λt b=>?_;obtain b|b:=ZF.1 b;exact h t b;rw[za8.1 b];have e:=Y1 c h0;refine⟨ξ,η,η,λi=>?_⟩;simp_all[Nz];simp;exact h
def En(s:Bs):∀t∈(qz s).1,gW s t:=by unfold qz;grind [FE]
def Dp{l:List Tk}(h:∀t∈l,gW s t):∀t∈zt l,gW s t:=λt b=>h t (zdl.1 b).1
end
section
variable {k:Int} {s:Bs}
def fF(x:Nd):Nat:=x.2.2.2.1.length+x.2.2.2.2.length
def PSt.T(st:PSt):Nat:=2*st.rest.length+(st.nodes.map fF).sum
def vh{f:Nd->Nd}{k:Nat}(h:∀x,fF (f x)<=fF x+k):∀(l:List Nd) (n:Nat),((l.modify n f).map fF).sum<=(l.map fF).sum+k
 |[],n=>ξ
 |x::l,0=>η
 |x::l,n+1=>by have:=vh h l n;grind
def nP{st:PSt}{x:Nd}(h:x∈st.nodes):fF x<=st.T:=by
 have:∀(l:List Nd),x∈l->fF x<=(l.map fF).sum:=by
  intro l;induction l with
  |nil=>simp
  |cons y l b=>grind
 have:=this _ h;unfold PSt.T;omega
def WR(st:PSt)(n:Nat)(k:Int)(p:Sp):(st.addKid n k p).T<=st.T+2:=by have:=vh (f:=me k p) (k:=2) (λx=>by unfold fF me;simp;omega) st.nodes n;unfold PSt.T PSt.addKid;grind
def OE(st:PSt)(n:Nat):(st.setTo n).T<=st.T:=by have:=vh (f:=jT st.last) (k:=0) (λx=>by unfold fF jT;simp) st.nodes n;unfold PSt.T PSt.setTo;grind
def VW{st:PSt}(h:st.rest≠[]):st.skip.T+2=st.T:=by unfold PSt.skip PSt.T;grind
theorem Ms{st:PSt}{key:Sp}(h:st.rest≠[]):(st.open key).T+2=st.T:=by
 unfold PSt.open PSt.T;cases hr:st.rest with
 |nil=>grind
 |cons t r=>simp only[YU,zaa,List.sum_append,ZC,zbg,List.sum_cons,List.sum_nil,fF,ZW];omega
theorem qw(st:PSt):st.skip.nodes=st.nodes:=by unfold PSt.skip;split <;> rfl
theorem PSt.ne_kind{st:PSt}(h:st.Wf=k)(b:k≠0):st.rest≠[]:=λe=>by unfold PSt.Wf at h;simp_all
def oY{st:PSt}(h:¬zu st.Wf=0):st.rest≠[]:=λe=>by refine h ?_;unfold PSt.Wf;rw[e];rfl
theorem Yl(st:PSt)(n:Nat)(k:Int)(p:Sp):(st.addKid n k p).nodes.length=DB st.nodes:=by unfold PSt.addKid;simp
theorem nH(st:PSt)(n:Nat):(st.setTo n).nodes.length=DB st.nodes:=by unfold PSt.setTo;simp
theorem pQ{st:PSt}{key:Sp}(h:st.rest≠[]):(st.open key).nodes.length=DB st.nodes+1:=by unfold PSt.open;grind
structure Okk (st st':PSt) (k:Nat):Prop where
 t:st'.T+k<=st.T
 r:2*st'.rest.length+k<=2*st.rest.length
 w:∀t∈st'.rest,t∈st.rest
 n:st.nodes.length<=st'.nodes.length
 m:st.nodes.length<=4096->st'.nodes.length<=4096
theorem Okk.trans{a b c:PSt}{j k:Nat}(x:Okk a b j)(y:Okk b c k):Okk a c (j+k):=⟨by have:=x.t;have:=y.t;omega,by have:=x.r;have:=y.r;omega,λt h=>x.w t (y.w t h),by have:=x.n;have:=y.n;omega,λh=>y.m (x.m h)⟩
theorem Okk.le{a b:PSt}{j k:Nat}(x:Okk a b j)(h:k<=j):Okk a b k:=⟨χ x.t,χ x.r,x.w,x.n,x.m⟩
theorem Okk.refl(a:PSt):Okk a a 0:=⟨YJ _,YJ _,λt h=>h,YJ _,id⟩
def Ck{st:PSt}(h:st.rest≠[]):st.skip.rest.length+1=DB st.rest:=by unfold PSt.skip;grind
def ND{st:PSt}{key:Sp}(h:st.rest≠[]):(st.open key).rest.length+1=DB st.rest:=by unfold PSt.open;grind
def WW(st:PSt):∀t∈st.skip.rest,t∈st.rest:=by unfold PSt.skip;grind
def LC(st:PSt)(key:Sp):∀t∈(st.open key).rest,t∈st.rest:=by unfold PSt.open;grind
def kz{st:PSt}(h:st.rest≠[]):Okk st st.skip 2:=⟨χ (VW h),χ (Ck h),WW st,by rw[qw];omega,by rw[qw];exact id⟩
def lG(kid:fB):Prop:=∀had st had' st',kid had st=.inl (had',st')->Okk st st' 2
def sN{kid:fB}(f:lG kid){had had':List Bs}{st st':PSt}{n:Nat}{p:Sp}(e:kid had st=.inl (had',st'))(h:st'.rest≠[]):Okk st (st'.addKid n k p).skip 2:=by have a:=f _ _ _ _ e;have h2:(st'.addKid n k p).rest≠[]:=h;have b:=kz h2;have c:=WR st' n k p;have d:=Yl st' n k p;have i:(st'.addKid n k p).rest=st'.rest:=rfl;exact⟨by have:=a.t;have:=b.t;omega,by have:=a.r;have:=b.r;grind,λt h=>a.w t (b.w t h),by have:=a.n;have:=b.n;omega,λh=>b.m (χ (a.m h))⟩
def Cx{s:Bs}{n:Nat}{closing:Int}(l:closing≠0){kid:fB}(c:lG kid):∀(f:Nat) (had:List Bs) (st st':PSt),Yb s n closing kid f had st=.inl st'->Okk st st' 2
 |0,had,st,st',h=>by unfold Yb PSt.err at h;cases h
 |f+1,had,st,st',h=>by rw[Yb]at h;split at h;cases h;rename_i b st1 e;split at h;rename_i i;cases h;exact sN c e (PSt.ne_kind i l);split at h;rename_i m;have a:=sN c e (n:=n) (k:=(DB st.nodes:Int)) (p:=(st.last,st1.here (DB s))) (PSt.ne_kind m ω);exact(a.trans (Cx l c f b _ st' h)).le ω;unfold PSt.err at h;cases h
def pC{n:Nat}{closing:Int}(b:closing≠0){kid:fB}(c:lG kid){st st':PSt}(h:Je s n closing kid st=.inl st'):Okk st st' 0:=by unfold Je at h;split at h;rename_i e;cases h;exact(kz (PSt.ne_kind e b)).le ω;exact(Cx b c _ _ _ _ h).le ω
def sD(val:fV):Prop:=∀key st st',val key st=.inl st'->Okk st st' 2
def pF{val:fV}(h:sD val):lG (fT val):=by intro d st a c e;unfold fT at e;split at e;rename_i st1 b;cases e;exact h _ _ _ b;cases e
def rJ{val:fV}(h:sD val):lG (fG s val):=by intro j st d g e;unfold fG at e;split at e;unfold PSt.err at e;cases e;rename_i t r f;split at e;split at e;unfold PSt.err at e;cases e;split at e;rename_i i;split at e;rename_i st1 c;cases e;have a:=kz (st:=st) (υ f);have b:=kz (PSt.ne_kind i ω);exact((a.trans b).trans (h _ _ _ c)).le ω;cases e;unfold PSt.err at e;cases e;unfold PSt.err at e;cases e
def xO{st:PSt}{key:Sp}(h:st.rest≠[])(b:¬st.nodes.length=4096):Okk st (st.open key) 2:=⟨by simp_all[Ms],χ (ND (key:=key) h),LC st key,by rw[pQ h];omega,λh2=>by rw[pQ h];omega⟩
def lh(s:Bs):∀d:Nat,sD (Zr s d)
 |0=>by intro key st g e;unfold Zr at e;split at e <;> (unfold PSt.err at e;cases e)
 |d+1=>by
  intro key st g e;unfold Zr at e;split at e;unfold PSt.err at e;cases e;rename_i i;split at e;unfold PSt.err at e;cases e;rename_i k;split at e;rename_i st1 f;cases e;have a:=xO (key:=key) (oY i) k;have b:Okk (st.open key) st1 0:=by unfold fk at f;split at f;exact pC ω (pF (lh s d)) f;split at f;exact pC ω (rJ (lh s d)) f;cases f;exact Okk.refl _
  have c:Okk st1 (st1.setTo (DB st.nodes)) 0:=⟨OE _ _,YJ _,λt h=>h,by rw[nH];omega,by rw[nH];exact id⟩;exact(a.trans b).trans c;cases e
def iD(s:Bs)(had:List Bs)(st:PSt):PR (Bs×Sp×PSt):=match st.rest with
 |[]=>st.err s 2
 |t::_=>
  if t.1=8 then
   if(Qr (Yc s t.2)).1∈had then st.err s 7
   else if st.skip.Wf=7 then .inl ((Qr (Yc s t.2)).1,t.2,st.skip.skip)
   else st.skip.err s 2
  else st.err s 2
theorem yH(s:Bs)(val:fV)(had:List Bs)(st:PSt):fG s val had st=match iD s had st with
 |.inl x=>(match val x.2.1 x.2.2 with
  |.inl st'=>.inl (had++[x.1],st')
  |.inr e=>.inr e)
 |.inr e=>.inr e:=by
 unfold fG iD PSt.err;grind
def DF{had:List Bs}{st:PSt}{x:Bs×Sp×PSt}(h:iD s had st=.inl x):Okk st x.2.2 4/\x.2.2.nodes=st.nodes:=by unfold iD PSt.err at h;split at h;cases h;rename_i t r c;split at h;split at h;cases h;split at h;rename_i e;cases h;have a:=kz (st:=st) (υ c);have b:=kz (PSt.ne_kind e ω);exact⟨a.trans b,by simp[qw]⟩;cases h;cases h
end
section
variable {lvs:List Nat} {l n lk:Nat} {s:Bs} {closing:Int}
structure IA (lvs:List Nat) (nodes:List Nd):Prop where
 len:lvs.length=nodes.length
 lv:∀(k l:Nat),lvs[k]?=Td l->1<=l/\l<=32
 kid:∀(k l:Nat) (x:Nd),nodes[k]?=Td x->lvs[k]?=Td l->∀c∈x.2.2.2.1,∃j:Nat,c=(j:Int)/\k<j/\lvs[j]?=Td (l+1)
theorem IA.nil:IA [] []:=⟨rfl,λk l h=>(ε h),λk l x h=>(ε h)⟩
theorem IA.push{nodes:List Nd}(G:IA lvs nodes)(h1:1<=l)(h2:l<=32){x:Nd}(o:x.2.2.2.1=[]):IA (lvs++[l]) (nodes++[x]):=by refine⟨by simp[G.len],λk m h=>?_,λk m y b e c i=>?_⟩;rw[List.getElem?_append]at h;split at h;exact G.lv k m h;grind;rw[List.getElem?_append]at b e;have n:=G.len;by_cases f:k<DB nodes;rw[zi f]at b;rw[zi ω]at e;have⟨j,p,r,q⟩:=G.kid k m y b e c i;grind;grind
theorem IA.mod{nodes:List Nd}(G:IA lvs nodes){f:Nd->Nd}(h:∀x l c,lvs[n]?=Td l->c∈(f x).2.2.2.1->c∈x.2.2.2.1\/∃j:Nat,c=(j:Int)/\n<j/\lvs[j]?=Td (l+1)):IA lvs (nodes.modify n f):=by
 refine⟨by rw[List.length_modify];exact G.len,G.lv,λk l x b i c m=>?_⟩;rw[List.getElem?_modify]at b;cases hy:nodes[k]? with
 |none=>simp_all
 |some y=>
  rw[hy]at b;by_cases e:n=k;subst e;have b:f y=x:=ψ b
  grind [kid];grind [kid]
def pR(kid:fB)(lk:Nat):Prop:=∀had st had' st' lvs,kid had st=.inl (had',st')->IA lvs st.nodes->∃new,IA (lvs++lk::new) st'.nodes
theorem Ba{s:Bs}{n l:Nat}{closing:Int}{kid:fB}(p:pR kid (l+1)):∀(f:Nat) (had:List Bs) (st st':PSt) (lvs:ab1),Yb s n closing kid f had st=.inl st'->IA lvs st.nodes->lvs[n]?=Td l->∃new,IA (lvs++new) st'.nodes
 |0,had,st,st',lvs,h,G,hn=>by unfold Yb PSt.err at h;cases h
 |f+1,had,st,st',lvs,h,G,hn=>by
  rw[Yb]at h;split at h;cases h;rename_i b st1 e;have⟨new,y⟩:=p _ _ _ _ lvs e G;have o:=(ZN.1 hn).1;have i:=G.len;have k:(lvs++(l+1)::new)[n]?=Td l:=by rw[List.getElem?_append_left o];exact hn
  have t:(lvs++(l+1)::new)[DB st.nodes]?=Td (l+1):=by rw[zcb ω,<-i,Nat.sub_self];rfl
  have w:IA (lvs++(l+1)::new) (st1.addKid n (DB st.nodes) (st.last,st1.here (DB s))).skip.nodes:=by rw[qw];refine y.mod λx m c r u=>?_;unfold me at u;rw[k]at r;cases r;obtain h|h:=ZF.1 u;exact .inl h;grind
  split at h;grind;split at h;have⟨q,z⟩:=Ba p f b _ st' _ h w k;grind;unfold PSt.err at h;cases h
def G7{kid:fB}(c:pR kid (l+1)){st st':PSt}(h:Je s n closing kid st=.inl st')(G:IA lvs st.nodes)(b:lvs[n]?=Td l):∃new,IA (lvs++new) st'.nodes:=by unfold Je at h;split at h;cases h;exact⟨[],by rw[ZY,qw];exact G⟩;grind [Ba]
def tB(val:fV)(lk:Nat):Prop:=∀key st st' lvs,val key st=.inl st'->IA lvs st.nodes->∃new,IA (lvs++lk::new) st'.nodes
def Mz{val:fV}(h:tB val lk):pR (fT val) lk:=by intro d st a c lvs e G;unfold fT at e;split at e;rename_i st1 b;cases e;exact h _ _ _ _ b G;cases e
def MC{val:fV}(h:tB val lk):pR (fG s val) lk:=by intro g st a d lvs e G;rw[yH]at e;split at e;rename_i x f;have c:=(DF f).2;split at e;rename_i st1 b;cases e;exact h _ _ _ _ b η;cases e;cases e
def Kg{st:PSt}{key:Sp}(h:st.rest≠[]):∃x:Nd,x.2.2.2.1=[]/\(st.open key).nodes=st.nodes++[x]:=by
 unfold PSt.open;cases hr:st.rest with
 |nil=>grind
 |cons t r=>simp
def CE(s:Bs):∀d:Nat,d<=32->tB (Zr s d) (33-d)
 |0,_=>by intro key st a lvs e G;unfold Zr at e;split at e <;> (unfold PSt.err at e;cases e)
 |d+1,hd=>by
  intro key st a lvs e G;have h:=CE s d ω;rw[show 33-d=33-(d+1)+1 by omega]at h;unfold Zr at e;split at e;unfold PSt.err at e;cases e;rename_i o;split at e;unfold PSt.err at e;cases e;split at e;rename_i st1 b;cases e;have⟨x,i,f⟩:=Kg (key:=key) (oY o);have n:IA (lvs++[33-(d+1)]) (st.open key).nodes:=by rw[f];exact G.push ω ω i
  have m:(lvs++[33-(d+1)])[DB st.nodes]?=Td (33-(d+1)):=by rw[<-G.len,zcb (YJ _),Nat.sub_self];rfl
  obtain⟨new,k⟩:∃new,IA (lvs++[33-(d+1)]++new) st1.nodes:=by unfold fk at b;split at b;exact G7 (Mz h) b n m;split at b;exact G7 (MC h) b n m;cases b;exact⟨[],θ⟩
  refine⟨new,?_⟩;rw[ZL]at k;exact k.mod λx l c q p=>.inl p;cases e
def rB(kid:fB):Prop:=∀had st x,kid had st=.inr x->x.2≠0
def tY(val:fV):Prop:=∀key st x,val key st=.inr x->x.2≠0
theorem jC{α:Type}{st:PSt}{e:Int}(b:e≠0){x:Int×Int}(h:(st.err s e:PR α)=.inr x):x.2≠0:=by unfold PSt.err at h;grind
theorem E9{s:Bs}{n:Nat}{closing:Int}{kid:fB}(b:rB kid):∀(f:Nat) (had:List Bs) (st:PSt) (x:Int×Int),Yb s n closing kid f had st=.inr x->x.2≠0
 |0,had,st,x,h=>by unfold Yb at h;exact jC ω h
 |f+1,had,st,x,h=>by rw[Yb]at h;split at h;rename_i y e;cases h;exact b _ _ _ e;split at h;cases h;split at h;exact E9 b f _ _ x h;exact jC ω h
def FO{kid:fB}(b:rB kid){st:PSt}{x:Int×Int}(h:Je s n closing kid st=.inr x):x.2≠0:=by unfold Je at h;grind [E9]
def Kw{val:fV}(h:tY val):rB (fT val):=by intro a st x e;unfold fT at e;split at e;cases e;rename_i y b;cases e;exact h _ _ _ b
def TH{val:fV}(h:tY val):rB (fG s val):=by intro a st x e;unfold fG at e;split at e;exact jC ω e;split at e;split at e;exact jC ω e;split at e;split at e;cases e;rename_i y b;cases e;exact h _ _ _ b;exact jC ω e;exact jC ω e
def rz(s:Bs):∀d:Nat,tY (Zr s d)
 |0=>by intro key st x e;unfold Zr at e;grind [jC]
 |d+1=>by intro key st x e;unfold Zr at e;split at e;exact jC ω e;split at e;exact jC ω e;split at e;cases e;rename_i y b;cases e;unfold fk at b;split at b;exact FO (Kw (rz s d)) b;split at b;exact FO (TH (rz s d)) b;cases b
def FY(h:(xh s).2.2=0):∃lvs,IA (1::lvs) (xh s).1.2/\(xh s).1.1=s/\(xh s).2.1=(DB s:Int)/\(xh s).1.2.length<=4096/\∀x∈(xh s).1.2,fF x<=2*(qz s).1.length:=by
 have b:∀{x:Int×Int},Zr s 32 (0,0) ⟨zt (qz s).1,0,[]⟩=.inr x->x.2≠0:=λh=>rz s 32 _ _ _ h;unfold xh at h ⊢;split at h;rename_i h0;rw[zi h0];split at h;rename_i st e;split at h;rename_i c;rw[zi c];have a:=lh s 32 _ _ _ e;have⟨new,G⟩:=CE s 32 ω _ _ _ [] e IA.nil;refine⟨new,G,rfl,rfl,a.m ξ,λx f=>?_⟩;have h1:=nP f;have h2:=a.t;have k:(⟨zt (qz s).1,0,[]⟩:PSt).T=2*(zt (qz s).1).length:=by unfold PSt.T;simp
 have i:(zt (qz s).1).length<=(qz s).1.length:=List.length_filter_le _ _;omega;simp at h;simp_all;simp_all
end
section
def zy(t:Bs)(p:Sp):Bs:=if p.1<0\/p.2<p.1\/(t.length:Int)<p.2 then []else Yc t p
def Ym(t:Bs)(p:Sp):(zy t p).length<=DB t:=by unfold zy Yc;grind
def Z3(Wf:Int)(t:Bs):Bs:=if Wf=2 then t else if Wf=3 then qu (zj t).1 else if Wf=4 then(Qr t).1 else []
def iP(t:Bs)(x:Nd):Bs:=(Qr (zy t x.2.2.1)).1
def i5(t:Bs)(nodes:List Nd)(c:Int):Bs:=match nodes[c.toNat]? with
 |some x=>iP t x
 |none=>[]
def Yd(t:Bs)(nodes:List Nd):Nat->Nat->Tr
 |0,_=>.mk 0 (bl []) [] []
 |f+1,k=>match nodes[k]? with
  |none=>.mk 0 (bl []) [] []
  |some x=>.mk x.1 (bl (Z3 x.1 (zy t x.2.1))) (if x.1=6 then x.2.2.2.1.map λc=>bl (i5 t nodes c)else []) (x.2.2.2.1.map λc=>Yd t nodes f c.toNat)
def qg(s:Bs):Tr×Int×Int:=if(xh s).2.2=0 then(Yd s (xh s).1.2 33 0,(s.length:Int),0)else(.mk 0 (bl []) [] [],(xh s).2.1,(xh s).2.2)
end
section
variable {v:Tr}
def By(x:Bt):∀(l:List Bt) (i:Nat),(idxFromS l x i=-1/\x∉l)\/∃k:Nat,idxFromS l x i=((i+k:Nat):Int)/\k<DB l/\l[k]?=Td x
 |[],i=>.inl ⟨rfl,ξ⟩
 |z::l,i=>by unfold idxFromS;by_cases h:z=x;rw[zi h];exact .inr ⟨0,rfl,ξ,ϑ h⟩;rw[za h];obtain⟨h1,h2⟩|⟨k,h1,h2,b⟩:=By x l (i+1);grind;exact .inr ⟨k+1,ω,φ,ψ b⟩
def Y2{q:Tr->Bool}{v x:Tr}(h:Qc q v=Ta)(b:x∈v.WT):Qc q x=Ta:=by rw[y8,YR,je,ZB]at h;exact h.2 x b
def m7{q:Tr->Bool}(h:Qc q v=Ta):q v=Ta:=by rw[y8,YR]at h;exact h.1
end
section
theorem zW{t:Bs}{nodes:List Nd}{k f:Nat}{x:Nd}(h:nodes[k]?=Td x):Yd t nodes (f+1) k=.mk x.1 (bl (Z3 x.1 (zy t x.2.1))) (if x.1=6 then x.2.2.2.1.map λc=>bl (i5 t nodes c)else []) (x.2.2.2.1.map λc=>Yd t nodes f c.toNat):=by rw[Yd,h]
end
section
variable {lo d m:Nat} {s:Bs} {α:Type} {obj:Bool}
inductive PB (K:List Bs->List Bs->Bs×Tr->List Tk->Nat->Prop) (close:Int):List Bs->List (Bs×Tr)->List Tk->Nat->Prop
 |last {had had':List Bs} {kv:Bs×Tr} {C:List Tk} {c:Tk} {m:Nat}:K had had' kv C m->c.1=close->PB K close had [kv] (C++[c]) m
 |more {had had':List Bs} {kv:Bs×Tr} {kvs:List (Bs×Tr)} {C D:List Tk} {q:Tk} {m m':Nat}:K had had' kv C m->q.1=6->PB K close had' kvs D m'->PB K close had (kv::kvs) (C++q::D) (m+m')
def KA(P:Tr->List Tk->Nat->Prop)(had had':List Bs)(b:Bs×Tr)(C:List Tk)(m:Nat):Prop:=had'=had/\P b.2 C m
def KO(s:Bs)(P:Tr->List Tk->Nat->Prop)(had had':List Bs)(b:Bs×Tr)(C:List Tk)(m:Nat):Prop:=
 ∃t q c,C=t::q::c/\t.1=8/\q.1=7/\b.1=(Qr (Yc s t.2)).1/\zy s t.2=Yc s t.2/\b.1∉had/\had'=had++[b.1]/\P b.2 c m
def PV(s:Bs):Nat->Tr->List Tk->Nat->Prop
 |0,_,_,_=>False
 |d+1,v,C,m=>∃t,(C=[t]/\zu t.1≠0/\zu t.1≠5/\zu t.1≠6/\v=.mk (zu t.1) (bl (Z3 (zu t.1) (zy s t.2))) [] []/\m=1)
  \/ (∃c,C=[t,c]/\((t.1=4/\c.1=5/\v=.mk 5 (bl []) [] [])\/(t.1=2/\c.1=3/\v=.mk 6 (bl []) [] []))/\m=1)
  \/ (∃D kvs m',C=t::D/\t.1=4/\PB (KA (PV s d)) 5 [] kvs D m'/\v=.mk 5 (bl []) [] (kvs.map (·.2))/\m=m'+1)
  \/ (∃D kvs m',C=t::D/\t.1=2/\PB (KO s (PV s d)) 3 [] kvs D m'/\v=.mk 6 (bl []) (kvs.map λb=>bl b.1) (kvs.map (·.2))/\m=m'+1)
def EU(C:List Tk):Sp:=((C.head?.map (·.2.1)).getD 0,(C.getLast?.map (·.2.2)).getD 0)
def eU(C:List Tk)(l:Int):Int:=(C.getLast?.map (·.2.2)).getD l
theorem w8{C D:List Tk}(h:D≠[])(l:Int):eU (C++D) l=eU D l:=by
 unfold eU;rw[List.getLast?_append];cases hd:D.getLast? with
 |none=>simp_all
 |some x=>rfl
theorem mt{C:List Tk}(h:C≠[])(l b:Int):eU C l=eU C b:=by
 unfold eU;cases hd:C.getLast? with
 |none=>simp_all
 |some x=>rfl
def Agr(lo:Nat)(new nodes:List Nd):Prop:=∀i x,new[i]?=Td x->nodes[lo+i]?=Td x
theorem Agr.left{a b nodes:List Nd}(h:Agr lo (a++b) nodes):Agr lo a nodes:=λi x c=>h i x η
theorem Agr.right{a b nodes:List Nd}(h:Agr lo (a++b) nodes):Agr (lo+DB a) b nodes:=λi x c=>by have:=h (DB a+i) x η;grind
def SubV(s:Bs)(d lo:Nat)(new:List Nd)(C:List Tk)(m:Nat):Prop:=∀i,i<new.length->∃e h c pre b m',e<=d/\PV s e h c m'/\C=pre++c++b/\m'<=m/\∀nodes,Agr lo new nodes->∀f,e<=f->Yd s nodes f (lo+i)=h/\∃x,nodes[lo+i]?=Td x/\x.2.1=EU c
structure Made (s:Bs) (d lo:Nat) (key:Sp) (new:List Nd) (v:Tr) (C:List Tk) (m:Nat):Prop where
 len:new.length=m
 pos:1<=m
 key:∃x,new[0]?=Td x/\x.2.2.1=key
 val:∀nodes,Agr lo new nodes->∀f,d<=f->Yd s nodes f lo=v
 sub:SubV s d lo new C m
structure MadeK (s:Bs) (obj:Bool) (d lo:Nat) (ks:List Int) (new:List Nd) (kvs:List (Bs×Tr)) (D:List Tk) (m:Nat):Prop where
 len:new.length=m
 val:∀nodes,Agr lo new nodes->∀f,d<=f->(ks.map λc=>Yd s nodes f c.toNat)=kvs.map (·.2)
 key:obj=Ta->∀nodes,Agr lo new nodes->(ks.map λc=>bl (i5 s nodes c))=kvs.map λkv=>bl kv.1
 sub:SubV s d lo new D m
theorem SubV.mono{d d2 lo:Nat}{new:List Nd}{C:List Tk}{m c:Nat}(h:SubV s d lo new C m)(e:d<=d2)(o:m<=c)(pre b:List Tk):SubV s d2 lo new (pre++C++b) c:=by intro i hi;have⟨l,k,f,p,q,m',h1,h2,n,r,t⟩:=h i hi;grind
theorem SubV.append{a b:List Nd}{C:List Tk}(h:SubV s d lo a C m)(h2:SubV s d (lo+DB a) b C m):SubV s d lo (a++b) C m:=by intro i hi;obtain h'|h':=zam i (DB a);have⟨k,e,c,p,q,m',h1,h2,l,o,r⟩:=h i h';exact⟨k,e,c,p,q,m',h1,h2,l,o,λnodes n=>r nodes n.left⟩;have⟨k,e,c,p,q,m',h1,l,o,r,u⟩:=h2 (i-DB a) η;refine⟨k,e,c,p,q,m',h1,l,o,r,λnodes n f t=>?_⟩;have:=u nodes n.right f t;grind
def yO(s:Bs)(obj:Bool)(d:Nat)(close:Int)(K:List Bs->List Bs->Bs×Tr->List Tk->Nat->Prop)(kid:fB):Prop:=
 ∀had had' b C m,K had had' b C m->1<=m/\(∃t c,C=t::c/\t.1≠close)/\∀(st:PSt) (rest:List Tk),st.rest=C++rest->st.nodes.length+m<=4096->∃new,
  kid had st=.inl (had',⟨rest,eU C st.last,st.nodes++new⟩)/\MadeK s obj d st.nodes.length [((st.nodes.length:Nat):Int)] new [b] C m
def l9(x:Nd)(ks:List Int)(ps:List Sp):Nd:=(x.1,x.2.1,x.2.2.1,x.2.2.2.1++ks,x.2.2.2.2++ps)
theorem Ww{a:List α}{x:α}{b:List α}{f:α->α}:(a++x::b).modify (DB a) f=a++f x::b:=by
 induction a with
 |nil=>rfl
 |cons y a c=>simp_all
def BP{close:Int}{K:List Bs->List Bs->Bs×Tr->List Tk->Nat->Prop}{kid:fB}(B:yO s obj d close K kid)(L:close≠6){had:List Bs}{kvs:List (Bs×Tr)}{D:List Tk}(H:PB K close had kvs D m):(∃t J,D=t::J/\t.1≠close)/\1<=m/\DB kvs<=DB D/\∀(base:List Nd) (x:Nd) (news:List Nd) (rest:List Tk) (last:Int) (f:Nat),DB kvs<=f->DB base+1+DB news+m<=4096->∃ks ps new,Yb s (DB base) close kid f had ⟨D++rest,last,base++x::news⟩=.inl ⟨rest,eU D last,base++l9 x ks ps::(news++new)⟩/\MadeK s obj d (DB base+1+DB news) ks new kvs D m:=by
 induction H with
 | @last had had' kv C c m hk hc=>
  have⟨h1,⟨p,r,i,h2⟩,w⟩:=B _ _ _ _ _ hk;refine⟨⟨p,r++[c],π i,h2⟩,h1,ξ,λbase x news rest last f o k=>?_⟩;obtain⟨g,rfl⟩:∃g,f=g+1:=⟨f-1,η⟩;have l:(base++x::news).length=DB base+1+DB news:=φ
  have⟨new,e,M⟩:=w ⟨C++[c]++rest,last,base++x::news⟩ (c::rest) ξ θ;dsimp only at e M;rw[l]at M;refine⟨[((base++x::news).length:Int)],[(last,c.2.1)],new,?_,?_⟩;rw[Yb,e];dsimp only;have z:PSt.Wf ⟨c::rest,eU C last,base++x::news++new⟩=close:=hc;rw[zi z];unfold PSt.addKid PSt.skip PSt.here;dsimp only;rw[ZL,ZT,Ww];congr 2;unfold eU;simp;rw[l];refine⟨M.len,M.val,M.key,?_⟩;have:=M.sub.mono (YJ _) (YJ _) [] [c];grind
 | @more had had' kv kvs C D q m m' hk hq hr ih=>
  have⟨h1,⟨p,r,i,h2⟩,w⟩:=B _ _ _ _ _ hk;have⟨⟨O,Q,u,_⟩,P,gl,N⟩:=ih;have E:D≠[]:=υ u
  refine⟨⟨p,r++q::D,π i,h2⟩,ω,φ,λbase x news rest last f o k=>?_⟩;obtain⟨g,rfl⟩:∃g,f=g+1:=⟨f-1,η⟩;have l:(base++x::news).length=DB base+1+DB news:=φ
  have⟨new,e,M⟩:=w ⟨C++q::D++rest,last,base++x::news⟩ (q::(D++rest)) ξ η;dsimp only at e M;rw[l]at M;have I:=M.len;have⟨ks,ps,h,F,n⟩:=N base (l9 x [((base++x::news).length:Int)] [(last,q.2.1)]) (news++new) rest q.2.2 g η η;refine⟨((base++x::news).length:Int)::ks,(last,q.2.1)::ps,new++h,?_,?_⟩;rw[Yb,e];dsimp only;have z:PSt.Wf ⟨q::(D++rest),eU C last,base++x::news++new⟩=6:=hq;rw[za ω,zi z];have G:(PSt.addKid ⟨q::(D++rest),eU C last,base++x::news++new⟩ (DB base) ((base++x::news).length:Int) (last,PSt.here ⟨q::(D++rest),eU C last,base++x::news++new⟩ (DB s))).skip=⟨D++rest,q.2.2,base++l9 x [((base++x::news).length:Int)] [(last,q.2.1)]::(news++new)⟩:=by unfold PSt.addKid PSt.skip PSt.here;dsimp only;rw[ZL,ZT,Ww];rfl
  rw[G,F];congr 2;rw[w8 (C:=C) (D:=q::D) ξ,show q::D=[q]++D from rfl,w8 E];exact mt E _ _;unfold l9;simp;rw[l];have y:base.length+1+(news++new).length=DB base+1+DB news+DB new:=by rw[YM];omega
  rw[y]at n;refine⟨by rw[YM,M.len,n.len],λnodes k f o=>?_,λA nodes k=>?_,?_⟩;have a:=M.val nodes k.left f o;have b:=n.val nodes k.right f o;simp_all;have a:=M.key A nodes k.left;have b:=n.key A nodes k.right;simp_all;have a:=M.sub.mono (d2:=d) (YJ _) (show m<=m+m' by omega) [] (q::D);have b:=n.sub.mono (d2:=d) (YJ _) (show m'<=m+m' by omega) (C++[q]) [];rw[zal]at a;have b:SubV s d (DB base+1+DB news+DB new) h (C++q::D) (m+m'):=ψ b
  exact a.append b
theorem SW{a:List α}{x:α}{f:α->α}:(a++[x]).modify (DB a) f=a++[f x]:=Ww
theorem Dq(t:Bs):Z3 5 t=[]:=by unfold Z3;simp
theorem Gq(t:Bs):Z3 6 t=[]:=by unfold Z3;simp
theorem Agr.head{x:Nd}{l nodes:List Nd}(h:Agr lo (x::l) nodes):nodes[lo]?=Td x:=h 0 x rfl
theorem Agr.tail{x:Nd}{l nodes:List Nd}(h:Agr lo (x::l) nodes):Agr (lo+1) l nodes:=λi y b=>by have:=h (i+1) y b;grind
def C2{key:Sp}{k:Int}{t:Tk}{D:List Tk}{ks:ac7}{ps:List Sp}{new:List Nd}{kvs:List (Bs×Tr)}{v:Tr}(q:k=5/\obj=Tc\/k=6/\obj=Ta)(z:v=.mk k (bl []) (if obj=Ta then kvs.map λy=>bl y.1 else []) (kvs.map (·.2)))(p:D≠[])(u:PV s (d+1) v (t::D) (m+1)) (M:MadeK s obj d (lo+1) ks new kvs D m):Made s (d+1) lo key ((k,(t.2.1,eU D 0),key,ks,ps)::new) v (t::D) (m+1):=by
 have b:∀nodes,Agr lo ((k,(t.2.1,eU D 0),key,ks,ps)::new) nodes->∀f,d+1<=f->Yd s nodes f lo=v:=λnodes c f l=>by obtain⟨g,rfl⟩:∃g,f=g+1:=⟨f-1,ω⟩;rw[zW c.head,M.val nodes c.tail g ω,z];dsimp only;obtain⟨rfl,rfl⟩|⟨rfl,rfl⟩:=q;rw[Dq];simp;rw[Gq,zi rfl,zi rfl,M.key rfl nodes c.tail]
 refine⟨by rw[YU,M.len],ω,⟨_,rfl,rfl⟩,b,λi hi=>?_⟩;cases i with
 |zero=>refine⟨d+1,v,t::D,[],[],m+1,YJ _,u,ξ,YJ _,λnodes c f l=>⟨b nodes c f l,_,c.head,?_⟩⟩;have e:eU (t::D) 0=eU D 0:=w8 (C:=[t]) p 0;show(t.2.1,eU D 0)=EU (t::D);rw[<-e];rfl
 |succ i=>have⟨w,o,n,pre,h,m',h1,h2,x,A,r⟩:=M.sub i (ψ hi);refine⟨w,o,n,t::pre,h,m',ω,h2,π x,ω,λnodes c f l=>?_⟩;have:=r nodes c.tail f l;grind
def yE{s:Bs}:∀(d:Nat) (v:Tr) (C:List Tk) (m:Nat),PV s d v C m->1<=m/\(∃t y,C=t::y/\zu t.1≠0)/\∀(key:Sp) (st:PSt) (rest:List Tk),st.rest=C++rest->DB st.nodes+m<=4096->∃new,Zr s d key st=.inl ⟨rest,eU C st.last,st.nodes++new⟩/\Made s d (DB st.nodes) key new v C m
 |0,v,C,m,h=>h.elim
 |d+1,v,C,m,h=>by
  have ih:=yE (s:=s) d;have aa:yO s Tc d 5 (KA (PV s d)) (fT (Zr s d)):=by rintro K j kv C m ⟨rfl,L⟩;have⟨h1,⟨t,y,o,P⟩,p⟩:=ih _ _ _ L;refine⟨h1,⟨t,y,o,λe=>P (π e)⟩,λst rest k b=>?_⟩;have⟨new,e,M⟩:=p (0,0) st rest k b;refine⟨new,by unfold fT;rw[e],M.len,λnodes b f u=>?_,λh=>(ε h),M.sub⟩;simp only[ZC,zbg,YL];rw[M.val nodes b f u]
  have Z:yO s Ta d 3 (KO s (PV s d)) (fG s (Zr s d)):=by
   rintro K j kv C m ⟨t,q,y,o,F,hq,w,af,ae,G,L⟩;subst o;have⟨h1,⟨t1,C1,O,P⟩,p⟩:=ih _ _ _ L;refine⟨h1,⟨t,_,rfl,ω⟩,λst rest k b=>?_⟩;have⟨new,e,M⟩:=p t.2 st.skip.skip rest (by unfold PSt.skip;rw[k];rfl) (by grind [qw]);have e2:st.skip.skip.last=q.2.2:=by unfold PSt.skip;rw[k];rfl
   rw[qw,qw]at e M;rw[e2]at e;refine⟨new,?_,M.len,λnodes b f u=>?_,λ_ nodes b=>?_,?_⟩;unfold fG;rw[k];dsimp only[ZT];rw[zi F,za θ];have ek:st.skip.Wf=7:=by unfold PSt.skip PSt.Wf;rw[k];exact hq
   rw[zi ek,e];dsimp only;rw[G,w];have N:eU y q.2.2=eU (t::q::y) st.last:=by rw[show t::q::y=[t,q]++y from rfl,w8 (υ O)];exact mt (υ O) _ _
   rw[N];simp only[ZC,zbg,YL];rw[M.val nodes b f u];have⟨x,hx,ah⟩:=M.key;have:=b 0 x hx;simp only[ZC,zbg,za7,and_true];unfold i5;rw[YL];rw[show nodes[DB st.nodes]?=Td x from this];show bl (iP s x)=bl kv.1;unfold iP;grind;have:=M.sub.mono (d2:=d) (YJ _) (YJ m) [t,q] [];grind
  have ab:∀(st:PSt) (t:Tk) (r:List Tk) (key:Sp),st.rest=t::r->st.open key=⟨r,t.2.2,st.nodes++[(zu t.1,t.2,key,[],[])]⟩:=λst t r key k=>by unfold PSt.open;rw[k]
  have V:∀(st:PSt) (t:Tk) (r:List Tk),st.rest=t::r->st.Wf=t.1:=λst t r k=>by unfold PSt.Wf;rw[k]
  have go:∀(key:Sp) (st a:PSt) (t:Tk) (r:List Tk),st.rest=t::r->zu t.1≠0->DB st.nodes<4096->fk s (Zr s d) (DB st.nodes) (zu t.1) ⟨r,t.2.2,st.nodes++[(zu t.1,t.2,key,[],[])]⟩=.inl a->Zr s (d+1) key st=.inl (a.setTo (DB st.nodes)):=λkey st a t r k P b e=>by rw[Zr,V st t r k,za P,za ω,ab st t r key k,e]
  obtain⟨t,Q|⟨c,o,Q,A⟩|⟨D,kvs,m',o,F,U,I,A⟩|⟨D,kvs,m',o,F,U,I,A⟩⟩:=id h;have⟨o,J,B,E,I,A⟩:=Q;subst o A;refine⟨YJ _,⟨t,[],rfl,J⟩,λkey st rest k b=>⟨[(zu t.1,(t.2.1,t.2.2),key,[],[])],?_,?_⟩⟩;rw[go key st _ t rest k J ω (by unfold fk;rw[za B,za E])];unfold PSt.setTo;dsimp only;rw[SW];rfl;have n:∀nodes,Agr (DB st.nodes) [(zu t.1,(t.2.1,t.2.2),key,[],[])] nodes->∀f,d+1<=f->Yd s nodes f (DB st.nodes)=v:=λnodes b f u=>by obtain⟨g,rfl⟩:∃g,f=g+1:=⟨f-1,ω⟩;rw[zW b.head,I];simp
  refine⟨rfl,YJ _,⟨_,rfl,rfl⟩,n,λi hi=>?_⟩;have:i=0:=by simp at hi;exact hi
  subst this;exact⟨d+1,v,[t],[],[],1,YJ _,h,ξ,YJ _,λnodes b f u=>⟨n nodes b f u,_,b.head,rfl⟩⟩;subst o A;have e4:zu 4=5:=rfl;have e2:zu 2=6:=rfl;have w:zu t.1=5/\c.1=5/\v=.mk 5 (bl []) [] []\/zu t.1=6/\c.1=3/\v=.mk 6 (bl []) [] []:=by obtain⟨h1,h2,p⟩|⟨h1,h2,p⟩:=Q;grind;grind
  have J:zu t.1≠0:=by obtain⟨h,_⟩|⟨h,_⟩:=w <;> rw[h] <;> decide
  have L:PV s (d+1) v [t,c] 1:=⟨t,.inr (.inl ⟨c,rfl,Q,rfl⟩)⟩;refine⟨YJ _,⟨t,[c],rfl,J⟩,λkey st rest k b=>⟨[(zu t.1,(t.2.1,c.2.2),key,[],[])],?_,?_⟩⟩;rw[go key st ⟨rest,c.2.2,st.nodes++[(zu t.1,t.2,key,[],[])]⟩ t (c::rest) k J ω (by unfold fk;obtain⟨h,Y,_⟩|⟨h,Y,_⟩:=w;rw[h,zi rfl];unfold Je;rw[zi (show PSt.Wf ⟨c::rest,t.2.2,_⟩=5 from Y)];rfl;rw[h,za ζ,zi rfl];unfold Je;rw[zi (show PSt.Wf ⟨c::rest,t.2.2,_⟩=3 from Y)];rfl)];unfold PSt.setTo;dsimp only;rw[SW];rfl;have n:∀nodes,Agr (DB st.nodes) [(zu t.1,(t.2.1,c.2.2),key,[],[])] nodes->∀f,d+1<=f->Yd s nodes f (DB st.nodes)=v:=λnodes b f u=>by obtain⟨g,rfl⟩:∃g,f=g+1:=⟨f-1,ω⟩;rw[zW b.head];grind [Dq,Gq]
  refine⟨rfl,YJ _,⟨_,rfl,rfl⟩,n,λi hi=>?_⟩;have:i=0:=by simp at hi;exact hi
  subst this;exact⟨d+1,v,[t,c],[],[],1,YJ _,L,ξ,YJ _,λnodes b f u=>⟨n nodes b f u,_,b.head,rfl⟩⟩;subst o A;have⟨⟨t1,D',z,S⟩,h1,H,p⟩:=BP aa ζ U;have l:D≠[]:=υ z
  have B:zu t.1=5:=π F
  refine⟨ω,⟨t,D,rfl,by rw[B];decide⟩,λkey st rest k b=>?_⟩;have⟨ks,ps,new,e,M⟩:=p st.nodes (zu t.1,t.2,key,[],[]) [] rest t.2.2 ((D++rest).length+1) η η;rw[ZW,zc3]at M;refine⟨(5,(t.2.1,eU D 0),key,ks,ps)::new,?_,C2 (.inl ⟨rfl,rfl⟩) (π I) l h M⟩;rw[go key st _ t (D++rest) k (by rw[B];decide) ω (by unfold fk;rw[B,zi rfl];unfold Je;rw[za (show¬PSt.Wf ⟨D++rest,t.2.2,_⟩=5 from η)];rw[B]at e;exact e)];unfold PSt.setTo;dsimp only;rw[Ww];have N:eU D t.2.2=eU (t::D) st.last:=by rw[show t::D=[t]++D from rfl,w8 l];exact mt l _ _
  rw[N,mt (C:=t::D) ξ st.last 0,show eU (t::D) 0=eU D 0 from w8 (C:=[t]) l 0];simp[l9,jT];subst o A;have⟨⟨t1,D',z,S⟩,h1,H,p⟩:=BP Z ζ U;have l:D≠[]:=υ z
  have E:zu t.1=6:=π F
  refine⟨ω,⟨t,D,rfl,by rw[E];decide⟩,λkey st rest k b=>?_⟩;have⟨ks,ps,new,e,M⟩:=p st.nodes (zu t.1,t.2,key,[],[]) [] rest t.2.2 ((D++rest).length+1) η η;rw[ZW,zc3]at M;refine⟨(6,(t.2.1,eU D 0),key,ks,ps)::new,?_,C2 (.inr ⟨rfl,rfl⟩) (π I) l h M⟩;rw[go key st _ t (D++rest) k (by rw[E];decide) ω (by unfold fk;rw[E,za ζ,zi rfl];unfold Je;rw[za (show¬PSt.Wf ⟨D++rest,t.2.2,_⟩=3 from η)];rw[E]at e;exact e)];unfold PSt.setTo;dsimp only;rw[Ww];have N:eU D t.2.2=eU (t::D) st.last:=by rw[show t::D=[t]++D from rfl,w8 l];exact mt l _ _
  rw[N,mt (C:=t::D) ξ st.last 0,show eU (t::D) 0=eU D 0 from w8 (C:=[t]) l 0];simp[l9,jT]
end
section
variable {k:Int}
def HR(h:zu k=5):k=4:=by unfold zu at h;omega
def CU(h:zu k=6):k=2:=by unfold zu at h;omega
def WfT(s:Bs)(l:List Tk):Prop:=∀t∈l,zy s t.2=Yc s t.2
theorem WfT.drop{s:Bs}{a b:List Tk}(h:WfT s (a++b)):WfT s b:=λt c=>h t (ZH _ c)
def vM(s:Bs)(K:List Bs->List Bs->Bs×Tr->List Tk->Nat->Prop)(kid:fB):Prop:=
 ∀had st had' st',kid had st=.inl (had',st')->WfT s st.rest->st.nodes.length<=4096->∃b C m,K had had' b C m/\st.rest=C++st'.rest/\st'.nodes.length=st.nodes.length+m/\st'.nodes.length<=4096
def oD{st:PSt}(h:st.Wf=k)(b:k≠0):∃t r,st.rest=t::r/\t.1=k:=by unfold PSt.Wf at h;grind
theorem Y3{st:PSt}{t:Tk}{r:List Tk}(h:st.rest=t::r):st.skip=⟨r,t.2.2,st.nodes⟩:=by unfold PSt.skip;rw[h]
def vj{s:Bs}{n:Nat}{close:Int}(b:close≠0){K:List Bs->List Bs->Bs×Tr->List Tk->Nat->Prop}{kid:fB}(u:vM s K kid):∀(f:Nat) (had:List Bs) (st st':PSt),Yb s n close kid f had st=.inl st'->WfT s st.rest->DB st.nodes<=4096 ->∃a D m,PB K close had a D m/\st.rest=D++st'.rest/\DB st'.nodes=DB st.nodes+m/\DB st'.nodes<=4096
 |0,had,st,st',h,hw,hn=>by unfold Yb PSt.err at h;cases h
 |f+1,had,st,st',h,hw,hn=>by
  rw[Yb]at h;split at h;cases h;rename_i i st1 e;have⟨w,C,m,h1,h2,G,F⟩:=u _ _ _ _ e hw hn;have k:WfT s st1.rest:=by rw[h2]at hw;exact hw.drop
  split at h;rename_i l;have⟨c,r,o,l⟩:=oD l b;have p:=Y3 (st:=st1.addKid n (DB st.nodes) (st.last,st1.here (DB s))) (t:=c) (r:=r) o;rw[p]at h;cases h;refine⟨[w],C++[c],m,.last h1 l,η,?_,?_⟩ <;> dsimp only <;> rw[Yl] <;> assumption;split at h;rename_i l;have⟨q,r,o,A⟩:=oD l ζ;have p:=Y3 (st:=st1.addKid n (DB st.nodes) (st.last,st1.here (DB s))) (t:=q) (r:=r) o;rw[p]at h;have⟨a,D,m',E,z,x,B⟩:=vj b u f i _ st' h (by rw[o]at k;exact λt y=>k t (ZA _ y)) (by grind [Yl]);dsimp only at z x;rw[Yl]at x;exact⟨w::a,C++q::D,m+m',.more h1 A E,θ,ω,B⟩;unfold PSt.err at h;cases h
def BO{s:Bs}:∀(d:Nat) (key:Sp) (st a:PSt),Zr s d key st=.inl a->WfT s st.rest->DB st.nodes<=4096 ->∃v C m,PV s d v C m/\st.rest=C++a.rest/\DB a.nodes=DB st.nodes+m/\DB a.nodes<=4096
 |0,key,st,a,h,i,u=>by unfold Zr at h;split at h <;> (unfold PSt.err at h;cases h)
 |d+1,key,st,a,h,i,u=>by
  have S:=BO (s:=s) d;have I:vM s (KA (PV s d)) (fT (Zr s d)):=by intro K st j a e i u;unfold fT at e;split at e;rename_i st1 O;cases e;have⟨v,C,m,h1,h2,B,G⟩:=S _ _ _ O i u;exact⟨([],v),C,m,⟨rfl,h1⟩,h2,B,G⟩;cases e
  have E:vM s (KO s (PV s d)) (fG s (Zr s d)):=by intro K st j a e i u;unfold fG at e;split at e;unfold PSt.err at e;cases e;rename_i t r k;split at e;rename_i V;split at e;unfold PSt.err at e;cases e;rename_i p;split at e;rename_i Y;have⟨q,Q,b,Z⟩:=oD Y ζ;rw[Y3 k]at b;dsimp only at b;rw[Y3 k,Y3 (st:=⟨r,t.2.2,st.nodes⟩) b]at e;split at e;rename_i st1 O;cases e;rw[k,b]at i;have⟨v,C,m,h1,h2,B,G⟩:=S _ _ _ O (λx N=>i x (ZA _ (ZA _ N))) u;dsimp only at h2 B;exact⟨((Qr (Yc s t.2)).1,v),t::q::C,m,⟨t,q,C,rfl,V,Z,rfl,i t ZD,p,rfl,h1⟩,θ,B,G⟩;cases e;unfold PSt.err at e;cases e;unfold PSt.err at e;cases e
  rw[Zr]at h;split at h;unfold PSt.err at h;cases h;rename_i H;split at h;unfold PSt.err at h;cases h;rename_i P;split at h;rename_i st1 e;cases h;have U:=oY H;obtain⟨t,r,k⟩:∃t r,st.rest=t::r:=by
   cases k:st.rest with
   |nil=>grind
   |cons t r=>simp
  have J:st.Wf=t.1:=by unfold PSt.Wf;rw[k]
  have F:st.open key=⟨r,t.2.2,st.nodes++[(zu t.1,t.2,key,[],[])]⟩:=by unfold PSt.open;rw[k]
  rw[J]at e H;rw[F]at e;have w:WfT s r:=by rw[k]at i;exact λx N=>i x (ZA _ N)
  have f:(st.nodes++[(zu t.1,t.2,key,[],[])]).length=DB st.nodes+1:=ξ
  have l:(st1.setTo (DB st.nodes)).rest=st1.rest:=rfl;rw[l,nH,k];unfold fk at e;split at e;rename_i z;unfold Je at e;split at e;rename_i n;have⟨c,Q,b,n⟩:=oD n ζ;rw[Y3 b]at e;cases e;dsimp only at b ⊢;rw[f,b];exact⟨_,[t,c],1,⟨t,.inr (.inl ⟨c,rfl,.inl ⟨HR z,n,rfl⟩,rfl⟩)⟩,rfl,rfl,ω⟩;have⟨g,D,m,M,o,y,L⟩:=vj ζ I _ _ _ _ e w η;dsimp only at o y;rw[f]at y;exact⟨_,t::D,m+1,⟨t,.inr (.inr (.inl ⟨D,g,m,rfl,HR z,M,rfl,rfl⟩))⟩,π o,ω,L⟩;rename_i z;split at e;rename_i A;unfold Je at e;split at e;rename_i n;have⟨c,Q,b,n⟩:=oD n ζ;rw[Y3 b]at e;cases e;dsimp only at b ⊢;rw[f,b];exact⟨_,[t,c],1,⟨t,.inr (.inl ⟨c,rfl,.inr ⟨CU A,n,rfl⟩,rfl⟩)⟩,rfl,rfl,ω⟩;have⟨g,D,m,M,o,y,L⟩:=vj ζ E _ _ _ _ e w η;dsimp only at o y;rw[f]at y;exact⟨_,t::D,m+1,⟨t,.inr (.inr (.inr ⟨D,g,m,rfl,CU A,M,rfl,rfl⟩))⟩,π o,ω,L⟩;rename_i A;cases e;dsimp only;rw[f];exact⟨_,[t],1,⟨t,.inl ⟨rfl,H,z,A,rfl,rfl⟩⟩,rfl,rfl,ω⟩;cases h
end
section
variable {s:Bs} {a b:Nat}
inductive Lex (s:Bs):Nat->Nat->List Tk->Prop
 |nil {i:Nat}:Lex s i i []
 |cons {i j:Nat} {T:List Tk}:i<s.length->(Zy s i).2.2=0->Lex s (Zy s i).2.1 j T->Lex s i j (((Zy s i).1,((i:Int),((Zy s i).2.1:Int)))::T)
theorem E2:∀(f:Nat) (s:Bs) (a:Nat) (o:List Tk),(Zq f s a o).2.2=0->DB s-a<=f->a<=DB s->∃T,(Zq f s a o).1=o++T/\Lex s a (DB s) T
 |0,s,a,o,h,hf,ha=>by
  have:a=DB s:=ω
  subst this;exact⟨[],by simp[Zq],.nil⟩
 |f+1,s,a,o,h,hf,ha=>by
  rw[Zq]at h ⊢;split at h;rename_i h1;rw[zi h1];split at h;rename_i h2;rw[zi h2];have b:=Y1 h1 h2;have⟨T,e,L⟩:=E2 f s _ _ h ω b.2;exact⟨_::T,υ e,.cons h1 h2 L⟩;simp_all;rename_i h1;rw[za h1];have:a=DB s:=ω
  subst this;exact⟨[],ξ,.nil⟩
theorem Lex.le{T:List Tk}(H:Lex s a b T):a+DB T<=b/\(T≠[]->b<=DB s):=by
 induction H with
 |nil=>simp
 | @cons a b T h1 h2 h3 ih=>
  have c:=Y1 h1 h2;refine⟨η,λ_=>?_⟩;cases h3 with
  |nil=>exact c.2
  |cons=>grind
theorem WS{T:List Tk}(H:Lex s a b T):∀(f:Nat) (o:List Tk),b=DB s->DB T<=f->Zq f s a o=(o++T,DB s,0):=by
 induction H with
 | @nil a=>
  intro f o c e;subst c;cases f with
  |zero=>simp[Zq]
  |succ f=>rw[Zq,za ω];simp
 | @cons a b T h1 h2 h3 ih=>intro f o c e;obtain⟨g,rfl⟩:∃g,f=g+1:=⟨f-1,η⟩;rw[Zq,zi h1,zi h2,ih g _ c (ψ e)];simp
def XT{T:List Tk}(H:Lex s 0 (DB s) T)(b:s.length<=65536):qz s=(T,DB s,0):=by unfold qz;rw[za ω,WS H _ _ rfl (χ H.le.1),zal]
def FL(h:(qz s).2.2=0):s.length<=65536/\Lex s 0 (DB s) (qz s).1:=by unfold qz at h ⊢;split at h;cases h;rename_i h1;rw[za h1];grind [E2]
theorem Lex.append{e f:List Tk}{a m b:Nat}(H:Lex s a m e)(c:Lex s m b f):Lex s a b (e++f):=by
 induction H with
 |nil=>exact c
 |cons h1 h2 _ h=>exact .cons h1 h2 (h c)
theorem Lex.tok{T:List Tk}(H:Lex s a b T):∀t∈T,(a:Int)<=t.2.1/\t.2.1<t.2.2/\t.2.2<=(b:Int)/\b<=DB s:=by
 induction H with
 |nil=>simp
 | @cons a b T h1 h2 h3 ih=>
  have e:=Y1 h1 h2;have f:=h3.le;intro t c;obtain rfl|c:=YT.1 c;refine⟨ξ,η,η,?_⟩;cases h3 with
  |nil=>exact e.2
  |cons=>simp_all
  grind
theorem rW{p:Sp}(h0:0<=p.1)(h1:p.1<p.2)(h2:p.2<=(DB s:Int)):zy s p=Yc s p:=by unfold zy;grind
def Uc(b:(xh s).2.2=0):(qz s).2.2=0/\∃v C m,PV s 32 v C m/\m<=4096/\zt (qz s).1=C/\Made s 32 0 (0,0) (xh s).1.2 v C m:=by
 have c:(qz s).2.2=0:=by unfold xh at b;split at b;assumption;exact b
 refine⟨c,?_⟩;have⟨o,L⟩:=FL c;have i:WfT s (zt (qz s).1):=λt h=>by have:=L.tok t (zdl.1 h).1;exact rW ω this.2.1 ω
 unfold xh at b ⊢;rw[zi c]at b ⊢;cases e:Zr s 32 (0,0) ⟨zt (qz s).1,0,[]⟩with
 |inr x=>rw[e]at b;dsimp only at b;exfalso;exact rz s 32 _ _ _ e b
 |inl st=>
  rw[e]at b;dsimp only at b ⊢;split at b;rename_i f;rw[zi f];have⟨v,C,m,h1,h2,k,l⟩:=BO 32 _ _ _ e i ξ;rw[f,ZY]at h2;have h2:zt (qz s).1=C:=h2;have p:m<=4096:=by simp only[ZW]at k;omega
  have⟨_,_,g⟩:=yE 32 v C m h1;have⟨new,n,M⟩:=g (0,0) ⟨zt (qz s).1,0,[]⟩ [] (υ h2) ω;grind;cases b
end
section
variable {l:Bs} {u:Nat}
theorem mX{k:Nat}(h:k<10):(ZR (48+k)).toNat=48+k:=φ
def D9:∀(n u:Nat),u<=n->(decDigits u).all yl=Ta/\decDigits u≠[]/\zo (decDigits u)=u/\(1<=u->(decDigits u).head?≠Td 48)
 |0,u,h=>by
  have:u=0:=ω
  subst this;rw[decDigits,dif_pos ω];exact⟨ζ,ξ,ζ,λh=>ω⟩
 |n+1,u,h=>by by_cases b:u<10;rw[decDigits,dif_pos b];refine⟨?_,ξ,?_,λh1=>?_⟩;simp only[zcu,List.all_nil,zb9,yl,mX b];simp;omega;simp only[zo,List.foldl_cons,List.foldl_nil,mX b];omega;intro e;simp only[List.head?_cons,YK]at e;have:=congrArg UInt8.toNat e;grind [mX];rw[decDigits,dif_neg b];have⟨h1,h2,i,k⟩:=D9 n (u / 10) ω;have f:u % 10<10:=Nat.mod_lt _ ω;refine⟨?_,ξ,?_,λ_=>?_⟩;rw[zcr,h1];simp only[zcu,List.all_nil,zb9,zbb,yl,mX f];simp;omega;rw[EG,i,mX f];omega;have⟨c,t,e⟩:=zag h2;grind
theorem rH{c:UInt8}(h:l.all yl=Ta)(e:yl c=Tc):l.head?≠Td c:=by
 cases l with
 |nil=>simp
 |cons b t=>grind
theorem pL(h:l.head?≠Td 48):l.dropWhile (· == 48)=l:=by
 cases l with
 |nil=>rfl
 |cons b t=>simp_all
def RR(h:l.head?≠Td 48)(h2:l.getLast?≠Td 48):wl l=l:=by unfold wl;rw[pL h,pL θ,List.reverse_reverse]
def Ek:∀(k u:Nat),u<10 ^ (k+1)->(decDigits u).length<=k+1
 |0,u,h=>by rw[decDigits,dif_pos ω];simp
 |k+1,u,h=>by by_cases b:u<10;rw[decDigits,dif_pos b];simp;have:=Ek k (u / 10) ω;rw[decDigits,dif_neg b,YM];grind
theorem Ye(h:u<=1000000):(decDigits u).length<=9:=Ek 8 u ω
theorem TK(u:Nat):itoa (u:Int)=decDigits u:=by unfold itoa;simp
theorem O3(h:1<=u):itoa (-(u:Int))=45::decDigits u:=by unfold itoa;grind
def Sc{n:Nm}(h:qy n=Ta):zj (qu n)=(n,0):=by
 have⟨neg,d,e⟩:=n;by_cases q:d=[];have Y:=uP h q;subst q;unfold Yx at Y;simp at Y;obtain⟨rfl,rfl⟩:=Y;rfl;have hr:Yx (neg,d,e)=Tc:=by
  unfold Yx;cases d with
  |nil=>grind
  |cons c t=>simp
 have G:=h;unfold qy at G;rw[hr,zdu]at G;simp only[YR,zA,bne_iff_ne,ne_eq]at G;have⟨⟨⟨⟨⟨D,hl⟩,hh⟩,y⟩,ab⟩,ae⟩:=G;have s:=Q6 D;obtain⟨u,hu,F⟩:∃u:Nat,u<=1000000/\(e=(u:Int)\/e=-(u:Int)/\1<=u):=by by_cases h0:e<0;exact⟨e.natAbs,ω,.inr ⟨ω,ω⟩⟩;exact⟨e.toNat,ω,.inl ω⟩
 have⟨J,f2,f3,f4⟩:=D9 u u (YJ _);have S:∀c∈d,gi c=Tc:=λc O=>by have:=ZB.1 s c O;unfold yl at this;simp at this;unfold gi;simp only[zbs,beq_eq_false_iff_ne,ne_eq];constructor <;> (rintro rfl;grind)
 have H:∀c∈d,gp c=Tc:=λc O=>by have:=ZB.1 s c O;unfold yl at this;simp at this;unfold gp;simp only[beq_eq_false_iff_ne,ne_eq];rintro rfl;grind
 generalize I:(ite (e=0) [] (101::itoa e:Bs))=X;have o:qu (neg,d,e)=(ite neg [45] [])++d++X:=by unfold qu;rw[zi h,za q,I]
 have P:yl 45=Tc:=ζ
 have hS:fv (qu (neg,d,e))=d++X:=by
  rw[o];unfold fv;cases neg with
  |true=>simp
  |false=>simp_all[rH]
 have B:((qu (neg,d,e)).head?==Td 45)=neg:=by
  rw[o];cases neg with
  |true=>simp
  |false=>simp_all[rH]
 have L:GE gp d=(d,[],Tc):=Yi H;have A:=pL hh;have Z:=RR hh y;have fin:∀(low:Bool) (z:Bs) (m:Bool),jw (qu (neg,d,e))=(d,(jw (qu (neg,d,e))).2.1,m)->Za (qu (neg,d,e))=low->(m=Ta->Z1 (eP (qu (neg,d,e)))=Ta)->(ite m (eP (qu (neg,d,e))) [])=z->(z.dropWhile (· == 48)).length<=9->(ite low (-(zo (z.dropWhile (· == 48)):Int)) (zo (z.dropWhile (· == 48))))=e->zj (qu (neg,d,e))=((neg,d,e),0):=by
  intro low z m f b aa V h9 Q;have hW:jy (qu (neg,d,e))=(d,[],Tc):=by unfold jy;rw[f];exact L
  have N:Xp (qu (neg,d,e))=Ta:=by
   unfold Xp;rw[hW,f,D];cases m with
   |true=>simp_all
   |false=>grind
  have M:Yz (qu (neg,d,e))=⟨neg,d,[],low,z⟩:=by unfold Yz;rw[hW,B,b,show(jw (qu (neg,d,e))).2.2=m from ϕ f,V]
  unfold zj Q0;rw[zi N,M];dsimp only;rw[za φ,za ω,Q,ZY,A,Z,za q,zi φ];simp
 by_cases h0:e=0;subst h0;have x:X=[]:=by rw[<-I];rfl
 subst x;have f:jw (qu (neg,d,0))=(d,[],Tc):=by unfold jw;rw[hS,ZY];exact Yi S
 exact fin Tc [] Tc (ϕ f) (by unfold Za;rw[f];rfl) (λh=>ε h) rfl ξ (by simp[zo]);have x:X=101::itoa e:=by rw[<-I,za h0]
 subst x;have f:jw (qu (neg,d,e))=(d,itoa e,Ta):=by unfold jw;rw[hS];have:=od (p:=gi) (l:=d++101::itoa e) (k:=DB d) ξ (λi hi=>η) (by simp;decide);rw[this];simp
 have C:1<=u:=by obtain h|h:=F <;> omega
 have r:=pL (f4 C);have af:Z1 (decDigits u)=Ta:=by
  unfold Z1;rw[J,zbb];cases hq:decDigits u with
  |nil=>grind
  |cons=>rfl
 obtain E|⟨w,_⟩:=F;have hi:itoa e=decDigits u:=by rw[E,TK]
 have b:Za (qu (neg,d,e))=Tc:=by unfold Za;rw[f,hi];have:=rH J P;simpa using this
 have U:eP (qu (neg,d,e))=decDigits u:=by unfold eP;rw[b,f,hi];have:=rH J (show yl 43=Tc by decide);simp only[zaq,if_false];rw[za η]
 exact fin Tc (decDigits u) Ta (ϕ f) b (λ_=>η) (π U) (by rw[r];exact Ye hu) η;have hi:itoa e=45::decDigits u:=by rw[w,O3 C]
 have b:Za (qu (neg,d,e))=Ta:=by unfold Za;rw[f,hi];rfl
 have U:eP (qu (neg,d,e))=decDigits u:=by unfold eP;rw[b,f,hi];rfl
 exact fin Ta (decDigits u) Ta (ϕ f) b (λ_=>η) (π U) (by rw[r];exact Ye hu) η
end
section
variable {r a m:Nat} {s:Bs} {close:Int}
def hY(r:Nat):Prop:=r<55296\/(57344<=r/\r<=1114111)
theorem iq{x:Int}(h0:0<=x)(h1:x<256):(x.toNat.toUInt8).toNat=x.toNat:=θ
def y7(h:hY r)(m:Bs):dec (encodeRune (r:Int)++m)=(r,(encodeRune (r:Int)).length)/\1<=(encodeRune (r:Int)).length/\(128<=r->2<=(encodeRune (r:Int)).length):=by
 unfold hY at h;by_cases h1:r<=127;have e:encodeRune (r:Int)=[(r:Int).toNat.toUInt8]:=by unfold encodeRune;rw[encodeRuneZ_one ω ω];rfl
 grind [iq,Yv];by_cases h2:r<=2047;have e:encodeRune (r:Int)=[(192+(r:Int) / 64).toNat.toUInt8,(128+(r:Int) % 64).toNat.toUInt8]:=by unfold encodeRune;rw[encodeRuneZ_two ω ω];rfl
 rw[e];have b0:=iq (x:=192+(r:Int) / 64) ω ω;have b1:=iq (x:=128+(r:Int) % 64) ω ω;refine⟨?_,ξ,λh=>ξ⟩;simp only[dec,ZT,zal,List.getD_cons_zero,List.getD_cons_succ,YU,b0,b1];unfold decodeN;grind;by_cases b:r<=65535;have e:encodeRune (r:Int)=[(224+(r:Int) / 4096).toNat.toUInt8,(128+(r:Int) / 64 % 64).toNat.toUInt8,(128+(r:Int) % 64).toNat.toUInt8]:=by unfold encodeRune;rw[encodeRuneZ_three ω];rfl
 rw[e];have b0:=iq (x:=224+(r:Int) / 4096) ω ω;have b1:=iq (x:=128+(r:Int) / 64 % 64) ω ω;have b2:=iq (x:=128+(r:Int) % 64) ω ω;refine⟨?_,ξ,λh=>ξ⟩;simp only[dec,ZT,zal,List.getD_cons_zero,List.getD_cons_succ,YU,b0,b1,b2];unfold decodeN;grind;have e:encodeRune (r:Int)=[(240+(r:Int) / 262144).toNat.toUInt8,(128+(r:Int) / 4096 % 64).toNat.toUInt8,(128+(r:Int) / 64 % 64).toNat.toUInt8,(128+(r:Int) % 64).toNat.toUInt8]:=by unfold encodeRune;rw[encodeRuneZ_four ω ω];rfl
 rw[e];have b0:=iq (x:=240+(r:Int) / 262144) ω ω;have b1:=iq (x:=128+(r:Int) / 4096 % 64) ω ω;have b2:=iq (x:=128+(r:Int) / 64 % 64) ω ω;have b3:=iq (x:=128+(r:Int) % 64) ω ω;refine⟨?_,ξ,λh=>ξ⟩;simp only[dec,ZT,zal,List.getD_cons_zero,List.getD_cons_succ,YU,b0,b1,b2,b3];unfold decodeN;rw[za ω,za ω,za ω,zi ⟨ω,⟨ω,ω⟩,⟨ω,ω⟩,ω,ω⟩,zi ω];simp;omega
theorem QG(h:hY r)(m:Bs):xn (encodeRune (r:Int)++m)=xn m:=by
 have⟨h1,h2,i⟩:=y7 h m;have b:encodeRune (r:Int)++m≠[]:=by intro e;have:=(List.append_eq_nil_iff.1 e).1;rw[this]at h2;simp at h2
 have f:eF (dec (encodeRune (r:Int)++m))=Tc:=by rw[h1];unfold eF;simp only[zas,beq_eq_false_iff_ne,ne_eq];by_cases c:r=65533;omega;exact .inl c
 rw[Zk b,f,h1];simp
theorem vg(l:Bs):hY (dec l).1:=by have h0:=(l.getD 0 0).toNat_lt;have h1:=(l.getD 1 0).toNat_lt;have h2:=(l.getD 2 0).toNat_lt;have b:=(l.getD 3 0).toNat_lt;unfold hY dec decodeN;grind
theorem Pr{l:Bs}{r n:Nat}(h:J4 l=Td (r,n)):hY r:=by
 unfold J4 at h;split at h
 match l,h with
 |a::c::t,h=>
  unfold iO at h;dsimp only at h;cases e:hG c with
  |some q=>rw[e]at h;cases h;have:=G8 e;exact .inl ω
  |none=>
   rw[e]at h;dsimp only at h;split at h;unfold kL at h;cases e4:eS t with
   |none=>simp_all
   |some m=>
    have b:=jW e4;rw[e4]at h;dsimp only at h;split at h;cases h;split at h;cases h;unfold hY;omega;split at h;cases e5:eS (t.drop 6)with
    |none=>simp_all
    |some k=>rw[e5]at h;dsimp only at h;split at h;simp only[YK,za5]at h;obtain⟨rfl,_⟩:=h;have:=jW e5;unfold hY;omega;cases h
    cases h
   cases h
 grind [vg]
def ID:∀(k:Nat) (l:Bs),DB l=k->xn (gj l).1=Ta:=by
 intro k;induction k using Nat.strongRecOn with
 |_ k f=>
  intro l c;by_cases h:l=[];subst h;exact Q5;have b:=zaj.2 h;rw[Yj h];split;exact Q5;cases e:J4 l with
  |none=>exact Q5
  |some x=>have⟨r,n⟩:=x;have⟨i,_,m,_⟩:=Y0 h e;grind [QG,Pr]
theorem Ar(t:Bs):xn (Qr t).1=Ta:=by unfold Qr;dsimp only;split;exact Q5;unfold ye;split;dsimp only;split;exact ID _ _ rfl;exact Q5;exact Q5
theorem GQ(t:Bs):(Qr t).1.length<=4*DB t:=by unfold Qr;dsimp only;split;simp;unfold ye;split;dsimp only;split;have:=(EP _ (t.drop (0+1)) rfl).2;grind;simp;simp
def lM(s:Bs)(t:Tk):Prop:=(t.1=10->zy s t.2=[116,114,117,101])/\(t.1=11->zy s t.2=[102,97,108,115,101])/\(t.1=9->(zj (zy s t.2)).2=0)
theorem OS(w:Bs):(Zd w=10->w=[116,114,117,101])/\(Zd w=11->w=[102,97,108,115,101])/\Zd w≠9:=by unfold Zd;grind
def Ua(i:a<DB s)(ok:(Zy s a).2.2=0):lM s ((Zy s a).1,((a:Int),((Zy s a).2.1:Int))):=by
 have b:=Y1 i ok;have f:zy s ((a:Int),((Zy s a).2.1:Int))=(s.drop a).take ((Zy s a).2.1-a):=by rw[rW ω ω ω];unfold Yc;simp only[YL]
 unfold lM;dsimp only;rw[f];clear f;have e:s.drop a=s[a]::s.drop (a+1):=ZG i;rw[e];unfold Zy at ok b ⊢;rw[e]at ok b ⊢;dsimp only at ok b ⊢;have k:=λh:s[a]∈CT=>Zm s[a] CT;split;rename_i h1;have n:indexByte CT s[a]<6:=by
  have:∀c∈CT,indexByte CT c<6:=ζ
  exact this _ h1
 omega;rename_i h1;rw[za h1]at ok b;split;omega;rename_i h2;rw[za h2]at ok b;split;grind;rename_i l;rw[za l]at ok b;split;grind;rename_i m;rw[za m]at ok b;grind [OS]
theorem Lex.good{a b:Nat}{T:List Tk}(H:Lex s a b T):∀t∈T,lM s t:=by
 induction H with
 |nil=>simp
 |cons h1 h2 _ e=>intro t c;obtain rfl|c:=YT.1 c;exact Ua h1 h2;grind
def LZ(h:(zj s).2=0):qy (zj s).1=Ta:=by
 unfold zj at h ⊢;cases e:Q0 s with
 |none=>rfl
 |some x=>have⟨b,d2,c⟩:=wS e;rw[e]at h;dsimp only at h ⊢;generalize (ite (x.low=Ta) (-((zo (List.dropWhile (· == 48) x.exp):Nat):Int)) ((zo (List.dropWhile (· == 48) x.exp):Nat):Int))=ee at h ⊢;split;rfl;rename_i c1;rw[za c1]at h;split;rfl;rename_i c2;rw[za c2]at h;split;rfl;rename_i c3;rw[za c3]at h;grind [Fq,Q6]
theorem KI(n:Nm):(qu n).length<=1100:=by
 unfold qu;split;rename_i h;have⟨h1,h2,b⟩:=Yy h;split;simp;have:(itoa n.2.2).length<=10:=by unfold itoa;split;grind [Ye];grind [Ye]
 grind;simp
def dR(x:Tr):Bool:=hV (x.Wf≠7)&&zq x
mutual
def pu{p q:Tr->Bool}(h:∀x,p x=Ta->q x=Ta):∀v:Tr,Qc p v=Ta->Qc q v=Ta
 |.mk k s ks xs,hv=>by rw[Qc,YR]at hv ⊢;exact⟨h _ hv.1,C5 h xs hv.2⟩
def C5{p q:Tr->Bool}(h:∀x,p x=Ta->q x=Ta):∀l:List Tr,gA p l=Ta->gA q l=Ta
 |[],_=>rfl
 |x::l,hl=>by rw[gA,YR]at hl ⊢;exact⟨pu h x hl.1,C5 h l hl.2⟩
end
structure GoodV (d:Nat) (v:Tr) (m:Nat):Prop where
 sz:cK v=m
 dp:eM v<=d
 ok:Qc dR v=Ta
 tx:fi 1048576 v
structure GoodK (d:Nat) (xs:List Tr) (m:Nat):Prop where
 sz:Ze xs=m
 dp:en xs<=d
 ok:gA dR xs=Ta
 tx:ge 1048576 xs
def Bf{d:Nat}{P:List Bs->List Bs->Bs×Tr->List Tk->Nat->Prop}{G:Tk->Prop}{N:Nat}(h:∀had had' f C m,P had had' f C m->(∀t∈C,G t)->m<=N->GoodV d f.2 m){had:List Bs}{kvs:List (Bs×Tr)}{D:List Tk}(H:PB P close had kvs D m):(∀t∈D,G t)->m<=N->GoodK d (kvs.map (·.2)) m:=by
 induction H with
 |last e o=>intro c i;have g:=h _ _ _ _ _ e (λt b=>c t (YV _ b)) i;refine⟨?_,?_,?_,?_⟩;simp only[ZC,zbg,Ze];rw[g.sz];omega;simp only[ZC,zbg,en];have:=g.dp;omega;simp only[ZC,zbg,gA];rw[g.ok];rfl;simp only[ZC,zbg,ge];exact⟨g.tx,trivial⟩
 |more e n _ l=>intro c i;have g:=h _ _ _ _ _ e (λt b=>c t (YV _ b)) ω;have k:=l (λt b=>c t (ZH _ (ZA _ b))) ω;refine⟨?_,?_,?_,?_⟩;simp only[ZC,Ze];rw[g.sz,k.sz];simp only[ZC,en];have:=g.dp;have:=k.dp;omega;simp only[ZC,gA];rw[g.ok,k.ok];rfl;simp only[ZC,ge];exact⟨g.tx,k.tx⟩
def NK{P:Tr->List Tk->Nat->Prop}{had:List Bs}{kvs:List (Bs×Tr)}{D:List Tk}(p:s.length<=65536)(H:PB (KO s P) close had kvs D m):(kvs.map (·.1)).Nodup/\(∀k∈kvs.map (·.1),k∉had/\xn k=Ta/\DB k<=262144):=by
 have one:∀{t:Tk},xn (Qr (Yc s t.2)).1=Ta/\(Qr (Yc s t.2)).1.length<=262144:=λ {t}=>⟨Ar _,by
  have:=GQ (Yc s t.2);have:(Yc s t.2).length<=DB s:=by unfold Yc;rw[ZV,ZE];omega
  omega⟩
 induction H with
 |last h u=>obtain⟨t,q,n,rfl,o,i,f,c,e,b,l⟩:=h;simp_all
 |more h i _ r=>obtain⟨t,q,n,rfl,o,i,f,c,e,b,l⟩:=h;grind
def Lh{k:Int}(h0:zu k≠0)(e:zu k≠5)(b:zu k≠6):(k=12/\zu k=1)\/(k=10/\zu k=2)\/(k=11/\zu k=2)\/(k=9/\zu k=3)\/(k=8/\zu k=4):=by unfold zu at *;by_cases h1:k=12 <;> by_cases h2:k=10 <;> by_cases c:k=11 <;> by_cases l:k=9 <;> by_cases i:k=8 <;> by_cases h:k=4 <;> by_cases f:k=2 <;> simp[*]at h0 e b ⊢
def HH{s:Bs}(F:s.length<=65536):∀(d:Nat) (v:Tr) (C:List Tk) (m:Nat),PV s d v C m->(∀t∈C,lM s t)->m<=4096->GoodV d v m
 |0,v,C,m,h,_,_=>h.elim
 |d+1,v,C,m,h,hg,B=>by
  have H:=HH F d;obtain⟨t,u|⟨c,B,u,b⟩|⟨D,kvs,m',f,i,p,A,b⟩|⟨D,kvs,m',f,i,p,A,b⟩⟩:=h;obtain⟨rfl,J,L,M,rfl,rfl⟩:=u;have⟨V,U,S⟩:=hg t ZD;have I:=Ym s t.2;refine⟨by simp[cK,Ze],by simp[eM,en],?_,?_⟩;rw[y8];simp only[gA,zb9];unfold dR zq;obtain⟨e,n⟩|⟨e,n⟩|⟨e,n⟩|⟨e,n⟩|⟨e,n⟩:=Lh J L M <;> simp only[Tr.Wf,Tr.aa0,Tr.XK,Tr.WT,n,yr] <;> unfold Z3;simp;grind;grind;have O:=Sc (LZ (S e));simp[fI,O];simp[Ar];rw[mF];simp only[Tr.aa0,Tr.XK,ge,and_true,zf];refine⟨?_,ξ,ξ⟩;unfold Z3;grind [KI,GQ];subst B b;have:v=.mk 5 (bl []) [] []\/v=.mk 6 (bl []) [] []:=by obtain⟨_,_,h⟩|⟨_,_,h⟩:=u;exact .inl h;exact .inr h
  obtain rfl|rfl:=this;exact⟨by simp[cK,Ze],by simp[eM,en],rfl,by rw[fi,ge];exact⟨ζ,trivial⟩⟩;exact⟨by simp[cK,Ze],by simp[eM,en],rfl,by rw[fi,ge];exact⟨ζ,trivial⟩⟩;subst f b A;have k:=Bf (d:=d) (N:=4096) (G:=lM s) (P:=KA (PV s d)) (λhad had' w C m ⟨_,r⟩ z b=>H _ _ _ r z b) p (λt i=>hg t (ZA _ i)) ω;refine⟨?_,?_,?_,?_⟩;rw[cK,k.sz];omega;rw[eM];have:=k.dp;omega;rw[y8];simp only[Tr.WT,k.ok,zb9];rfl;rw[fi];exact⟨⟨ζ,ξ,ξ⟩,k.tx⟩;subst f b A;have k:=Bf (d:=d) (N:=4096) (G:=lM s) (P:=KO s (PV s d)) (λhad had' w C m ⟨_,_,_,e,_,_,_,_,_,_,r⟩ z b=>H _ _ _ r (λt i=>z t θ) b) p (λt i=>hg t (ZA _ i)) ω;have⟨Z,Q⟩:=NK F p;have o:=xq (kvs.map (·.2));rw[k.sz,YO]at o;have l:(kvs.map λw=>bl w.1)=(kvs.map (·.1)).map bl:=by rw[List.map_map];rfl
  refine⟨?_,?_,?_,?_⟩;rw[cK,k.sz];omega;rw[eM];have:=k.dp;omega;rw[y8];simp only[Tr.WT,k.ok,zb9];unfold dR zq yh;simp only[Tr.Wf,Tr.XK,Tr.WT,Tr.aa0,l];have Y:((kvs.map (·.1)).map bl).all (λk=>xn (lb k))=Ta:=by rw[ZB];intro x q;obtain⟨y,E,rfl⟩:=zab.1 q;rw[yr];exact(Q y E).2.1
  grind;rw[fi];refine⟨⟨ζ,η,λx q=>?_⟩,k.tx⟩;rw[l]at q;obtain⟨y,E,rfl⟩:=zab.1 q;rw[zf];grind
def SF(p:(xh s).2.2=0):qh (Yd s (xh s).1.2 33 0)=Ta/\Zo (Yd s (xh s).1.2 33 0)=Ta/\Sm (Yd s (xh s).1.2 33 0):=by
 have⟨f,v,C,m,h,n,e,M⟩:=Uc p;have⟨k,L⟩:=FL f;have o:Yd s (xh s).1.2 33 0=v:=M.val _ (λi y r=>θ) 33 ω;have g:=HH k 32 v C m h (λt b=>by rw[<-e]at b;exact L.good t (zdl.1 b).1) n;rw[o];have c:wy v=Ta:=by unfold wy;have:=g.sz;have:=g.dp;simp;omega
 have q:Qc zq v=Ta:=pu (λx l=>by unfold dR at l;simp_all) v g.ok;refine⟨?_,?_,⟨χ g.sz,g.tx⟩⟩;unfold qh;rw[c];exact g.ok;unfold Zo;grind
end
section
theorem vN(a b:Bs):Jd (a++b)=Jd a++Jd b:=by unfold Jd;simp
def WQ(c:UInt8):(gC c).length<=6:=by unfold gC;grind
theorem r7:∀l:Bs,(Jd l).length<=6*DB l
 |[]=>by simp[Jd]
 |c::l=>by have:=r7 l;have h1:=WQ c;have e:Jd (c::l)=gC c++Jd l:=rfl;grind
theorem OA{c:UInt8}(h:128<=c.toNat):gC c=[c]:=by
 have ne:∀n:Nat,n<128->c≠ZR n:=λn b e=>by simp_all;omega
 unfold gC;rw[za (by rintro(e|e);simp_all;simp_all),za (show¬c=8 from ne 8 ω),za (show¬c=12 from ne 12 ω),za (show¬c=10 from ne 10 ω),za (show¬c=13 from ne 13 ω),za (show¬c=9 from ne 9 ω),za ω]
theorem Il:∀{l:Bs},(∀c∈l,128<=c.toNat)->Jd l=l
 |[],_=>rfl
 |c::l,h=>by have e:Jd (c::l)=gC c++Jd l:=rfl;rw[e,OA (h c ZD),Il λx b=>h x (ZA _ b)];rfl
def Gf{r:Nat}(h:hY r)(i:128<=r):∀c∈encodeRune (r:Int),128<=c.toNat:=by
 unfold hY at h;intro c f;unfold encodeRune at f;obtain⟨x,b,rfl⟩:=zab.1 f;have key:∀y:Int,x=y->128<=y->y<256->128<=x.toNat.toUInt8.toNat:=λy e h1 h2=>φ
 by_cases h2:r<=2047;rw[encodeRuneZ_two ω ω]at b;grind;by_cases k:r<=65535;rw[encodeRuneZ_three ω]at b;grind;rw[encodeRuneZ_four ω ω]at b;grind
def f8(r:Nat):Nat:=if r=34\/r=92 then r else if r=8 then 98 else if r=12 then 102 else if r=10 then 110 else if r=13 then 114 else if r=9 then 116 else 0
def lm(k:Nat):UInt8:=ZR (if k<10 then 48+k else 87+k)
def hO(r:Nat):Bs:=if f8 r≠0 then [92,ZR (f8 r)]else if 32<=r then encodeRune (r:Int)else [92,117,48,48,ZR (48+r / 16),lm (r % 16)]
def QJ:(zac 128).all (λk=>decide (gC (ZR k)=hO k))=Ta:=κ
def Dv{l:Bs}(h:l≠[])(f:eF (dec l)=Tc):Jd (l.take (dec l).2)=hO (dec l).1:=by
 by_cases b:(dec l).1<128;obtain⟨c,t,rfl⟩:=zag h;have i:c.toNat<128:=by
  obtain h1|h1:=zam c.toNat 128;exact h1;exfalso;have h2:=pZ h f;have o:=(ju (c::t)).1;have p:encodeRune ((dec (c::t)).1:Int)=[((dec (c::t)).1:Int).toNat.toUInt8]:=by unfold encodeRune;rw[encodeRuneZ_one ω ω];rfl
  obtain⟨n,k⟩:∃n,(dec (c::t)).2=n+1:=⟨(dec (c::t)).2-1,ω⟩;grind [iq]
 rw[Yv i]at b ⊢;have:=ZB.1 QJ c.toNat (zaz.2 i);have:=zB this;rw[UInt8.ofNat_toNat]at this;rw[<-this];simp[Jd];have b:128<=(dec l).1:=ω
 have e:=pZ h f;have m:f8 (dec l).1=0:=by unfold f8;rw[za ω,za ω,za ω,za ω,za ω,za ω]
 unfold hO;rw[za ω,zi ω,<-e];exact Il (Gf (vg l) b)
end
end
section
open Go.RowKit
variable {h:zb} {it:Nat} {s:Bt} {K:Value -> zb -> Prop}
def MW{P:Program}{p:Nat}(e:h[it]?=Td (.stringIter s p)){T:TypeId}(h1:p<s.size->K (.tuple #[aa9 Ta,ab0 (p:Int),.int .i32 (gg s p)]) (h.setIfInBounds it (.stringIter s (fp s p))))(h0:s.size<=p->K (.tuple #[aa9 Tc]) h):CA P (zcm (aa7 ⟨it,0,Te⟩) Ta T) h K:=by
 have f:∀(w:MN),w.heap[it]?=Td (.stringIter s p)->(getObj it).run P w=.ok (.stringIter s p) w:=λw e=>by simp[getObj,Sem.run,e]
 have i:∀(w:MN) (c:Obj),w.heap[it]?=Td (.stringIter s p)->(setObj it c).run P w=.ok () { w with heap:=w.heap.setIfInBounds it c }:=λw c e=>by simp[setObj,Sem.run,e]
 intro B d;by_cases b:p<s.size;have l:fe s p=Ta:=by simpa[fe,Nat.blt_eq]using b
 have k:fp s p=p+(zdy s p).2:=by unfold fp;rw[show Nat.blt p s.size=Ta from l];rfl
 refine⟨_,d,_,?_,h1 b⟩;unfold zcm;simp only;rw[Sem.run_bind,f (mk B d h) e];simp only[Result.andThen_ok,b,if_true];rw[Sem.run_bind,i (mk B d h) _ e,k];rfl;refine⟨_,d,h,?_,h0 ω⟩;unfold zcm;simp only;rw[Sem.run_bind,f (mk B d h) e];simp;omega
theorem Bld.other{h h':zb}{b:Nat}{l:Bs}(H:Bld h b l){p:Nat}(e:h[it]?=Td (.stringIter s p))(f:∀i,i≠it->h'[i]?=h[i]?):Bld h' b l:=by have⟨q,r,w,n,k⟩:=H;refine⟨q,r,?_,n,k.aa1 λa u=>?_⟩;grind;refine f _ λt=>?_;obtain⟨o,_⟩|⟨g,cap,c,o,_,m,_⟩:=k.2;simp_all;have m:h[g]?=Td (.cells c 5 (0,0)):=m;simp_all
theorem Bld.zero(h:zb):Bld (h.push (.cells #[.pointer Te,.slice Te 0 0] 89)) h.size []:= ⟨Te,⟨Te,0,0⟩,jc _ _,.inl rfl,DP.nil _ _ _ _⟩
def Sr{r:Nat}(u:r<=1114111)(l:K (.int .u8 (f8 r:Int)) h):aa4 197 #[.int .i32 (r:Int)] h K:=by
 apply Pj;intro p f;have c:∀n:Nat,((r:Int)==(n:Int))=hV (r=n):=λn=>η
 have o:((r:Int)==34)=hV (r=34):=c 34;have m:((r:Int)==92)=hV (r=92):=c 92;have w:((r:Int)==8)=hV (r=8):=c 8;have t:((r:Int)==12)=hV (r=12):=c 12;have s:((r:Int)==10)=hV (r=10):=c 10;have q:((r:Int)==13)=hV (r=13):=c 13;have x:((r:Int)==9)=hV (r=9):=c 9;unfold f8 at l;have fin:∀b:Bool,(b=Ta↔r=34\/r=92)->p b h:=λb k=>by
  refine f _ _ ⟨λi=>?_,λi=>?_⟩;rw[zi (k.1 i)]at l;have e:YG .u8 (r:Int)=(r:Int):=by obtain rfl|rfl:=k.1 i <;> rfl
  grind;grind
 grind
def I9{c:Nat}(b:c<32):[92,117]++Lib.repeatL [48] (4-(eG c).length)++eG c=[92,117,48,48,ZR (48+c / 16),lm (c % 16)]/\((eG c).length=1\/(eG c).length=2):=by
 have:(zac 32).all (λc=>decide ([92,117]++Lib.repeatL [48] (4-(eG c).length)++eG c=[92,117,48,48,ZR (48+c / 16),lm (c % 16)]/\((eG c).length=1\/(eG c).length=2)))=Ta:=κ
 simp_all
def RN{gl:Fr}(hg:GL gl){t:Bs}(ht:t.length<=1048576){M:Fr}(hM:Fr.le gl M)(hb:Brn M)(ag:AgM M h)(U:∀h',Bk h.size h h'->K (.tuple #[aa6 (bl (eY t).1),ab0 (eY t).2]) h'):aa4 125 #[aa6 (bl t)] h K:=by
 apply Nu
 refine(G4 hg.tabs (l:=t) ω (R:=λr=>r.2=xn t) λk=>rfl).go hM ag (zn (a:=qr .str _) (DH _) zw) λv h2 M2 r L2 N hr=>?_
 have⟨n,is⟩:=r
 have hr:is=xn t:=hr
 subst hr
 obtain⟨_,⟨u1,_,rfl,aB,u2,rfl,y⟩,rfl⟩:=N
 obtain rfl:=qn aB
 have y:u2=.bool (xn t):=by rw[eC rfl]at y;simpa[Rd]using y
 subst y
 refine⟨_,_,rfl,?_⟩
 unfold eY at U
 refine⟨λf=>?_,λf=>?_⟩
 ·have:xn t=Tc:=ψ f
  rw[this]at U
  exact U h2 L2.aa1
 have hu:xn t=Ta:=ψ f
 rw[zi hu]at U
 intro h5
 have⟨k5,z5,_⟩:=yp (g:=h5) rfl
 have B5:Bld h5 h2.size []:=Bld.zero h2
 clear_value h5
 have z2:=L2.aa1.size
 refine Xv B5 ξ 34 λo B7 k7 i7=>⟨_,rfl,?_⟩
 have z7:h2.size<o.size:=B7.lt
 intro A
 have k9:Bk o.size o A:=Bk.push _ _ (YJ _)
 have z9:A.size=o.size+1:=YW _
 have B9:Bld A h2.size [34]:=B7.aa1 k9
 have e9:A[o.size]?=Td (.stringIter (bl t) 0):=jc _ _
 clear_value A
 have L:Bk h.size h A:=⟨ω,λj F=>by rw[k9.get j ω,k7.get j ω,k5.get j ω,L2.aa1.get j F]⟩
 refine⟨λg=>∃p,p<=DB t/\Bld g h2.size (34::Jd (t.take p))/\g[o.size]?=Td (.stringIter (bl t) p)/\xn (t.drop p)=Ta/\Bk h2.size A g,λg=>match g[o.size]? with
  |some (.stringIter _ p)=>DB t-p
  |_=>0,⟨0,ω,B9,e9,hu,Bk.refl _ _⟩,?_⟩
 rintro g ⟨p,hp,Bg,eg,H,kg⟩
 have aZ:(Jd (t.take p)).length<=6*DB t:=by
  have:=r7 (t.take p)
  rw[ZV]at this;omega
 refine MW eg (λO=>.inr ⟨_,_,rfl,λ_=>?_,λf=>(ε f)⟩) (λu=>.inl ⟨rfl,λf=>(ε f),λ_=>?_⟩)
 ·-- a rune more
  rw[zf]at O
  have hd:t.drop p≠[]:=by intro e;rw[List.drop_eq_nil_iff]at e;omega
  have C:eF (dec (t.drop p))=Tc:=by
   rw[Zk hd]at H
   cases hbd:eF (dec (t.drop p))with
   |true=>simp_all
   |false=>rfl
  have I:xn (t.drop (p+(dec (t.drop p)).2))=Ta:=by
   rw[Zk hd,C]at H
   rw[<-zap];simpa using H
  have hq:=Dv hd C
  have hw:=ju (t.drop p)
  have Y:=lZ hd
  rw[ZE]at Y
  have E:=Eo (t.drop p)
  have q:Jd (t.take (p+(dec (t.drop p)).2))=Jd (t.take p)++hO (dec (t.drop p)).1:=by
   rw[<-hq,<-vN,List.take_add]
  rw[oU,lH t p O]
  generalize hr:(dec (t.drop p)).1=r at E q ⊢
  generalize hn:(dec (t.drop p)).2=n at hw Y I q ⊢
  have ay:o.size<g.size:=(YZ.1 eg).1
  generalize D:g.setIfInBounds o.size (.stringIter (bl t) (p+n))=h14
  have J:∀i,i≠o.size->h14[i]?=g[i]?:=λi hi=>η
  have aa:h14[o.size]?=Td (.stringIter (bl t) (p+n)):=by rw[<-D,Array.getElem?_setIfInBounds_self_of_lt ay]
  have aQ:h14.size=g.size:=by rw[<-D];simp
  have z:=Bg.other eg J
  have Q:Bk h2.size A h14:=⟨ω,λj F=>by rw[J j ω];exact kg.get j F⟩
  have fin:∀g':zb,Bld g' h2.size (34::Jd (t.take p)++hO r)->Bk h2.size h14 g'->Itk h14 g'->(∃p,p<=DB t/\Bld g' h2.size (34::Jd (t.take p))/\g'[o.size]?=Td (.stringIter (bl t) p)/\xn (t.drop p)=Ta/\Bk h2.size A g') /\
    (match g'[o.size]? with|some (.stringIter _ p)=>DB t-p|_=>0)<(match g[o.size]? with|some (.stringIter _ p)=>DB t-p|_=>0):=λg' B' k' i'=>by
   have e':=i' _ _ _ aa
   refine⟨⟨p+n,ω,η,e',I,Q.trans k' (YJ _)⟩,?_⟩
   grind
  have aI:(34::Jd (t.take p)).length=(Jd (t.take p)).length+1:=rfl
  unfold hO at fin
  refine Sr E ⟨_,rfl,λf=>?_,λf=>?_⟩
  ·have h0:f8 r≠0:=by intro e;rw[e]at f;simp at f
   rw[zi h0]at fin
   have Z:f8 r<256:=by
    unfold f8
    repeat' split
    all_goals omega
   have e8:((ZR (f8 r)).toNat:Int)=(f8 r:Int):=by rw[UInt8.toNat_ofNat'];omega
   refine Xv z ω 92 λaJ ah aF aC=>⟨_,rfl,?_⟩
   rw[<-e8]
   refine Xv ah φ (ZR (f8 r)) λaz aL ar aE=>⟨_,rfl,?_⟩
   refine fin az ?_ (aF.trans ar (YJ _)) (aC.trans aE)
   simp_all
  ·have h0:f8 r=0:=by
    have:((f8 r:Int) != 0)=Tc:=f
    simpa using this
   rw[za ω]at fin
   refine⟨λu=>?_,λb=>?_⟩
   ·have u:32<=r:=χ (zB u)
    rw[zi u]at fin
    refine GX z ω ω ω λaM m aS aV aP=>⟨_,_,rfl,?_⟩
    grind
   ·have b:r<32:=χ (zC b)
    rw[za ω]at fin
    have⟨an,a1⟩:=I9 b
    rw[bR ω]
    have S:Bk h.size h h14:=⟨ω,λj F=>by rw[Q.get j ω,L.get j F]⟩
    have B:AgM M h14:=ag.aa1 S
    refine RL b hb B λaU w=>⟨_,rfl,?_⟩
    have aG:(eG r).length<=4:=ω
    rw[zf,bR ω,show(4:Int)-((eG r).length:Int)=((4-(eG r).length:Nat):Int)from ω]
    refine(xE (gl:=gl) (s:=bl [48]) (c:=4-(eG r).length) ω (by rw[zf];simp;omega) (R:=λx=>x=bl (Lib.repeatL [48] (4-(eG r).length))) (by rw[yr])).go hM (B.aa1 w) (zn (a:=qr .str _) (DH _) (zn (a:=qr q0 _) (Zj _ _) zw)) λv au aO x G N f=>?_
    subst f
    have N:=y0 (Yu.1 N)
    have af:=Lib.repeatL_length [48] (4-(eG r).length)
    have hz:(Lib.repeatL [48] (4-(eG r).length)).length<=4:=υ af
    refine⟨_,N,?_,?_,?_⟩
    ·show qb ((bl [92,117]).size+(bl (Lib.repeatL [48] (4-(eG r).length))).size)
     unfold qb
     rw[zf,zf];grind
    ·show qb ((bl [92,117]++bl (Lib.repeatL [48] (4-(eG r).length))).size+(bl (eG r)).size)
     unfold qb
     rw[qf,zf,zf,YM];grind
    ·have e:((⟨#[92,117]⟩:Bt)++bl (Lib.repeatL [48] (4-(eG r).length)))++bl (eG r)=bl ([92,117]++Lib.repeatL [48] (4-(eG r).length)++eG r):=by
      show(bl [92,117]++bl (Lib.repeatL [48] (4-(eG r).length)))++bl (eG r)=_
      rw[qf,qf]
     rw[e,an]
     have aY:=w.size
     have ak:=(z.aa1 w).aa1 G.aa1
     have aA:Itk h14 au:=(Itk.aa1 w).trans (Itk.aa1 G.aa1)
     have aH:=z.lt
     refine Pn ak _ η λaj ae ax am=>⟨_,_,rfl,?_⟩
     exact fin aj ae (((w.mono (m:=h2.size) ω).trans (G.aa1.mono (m:=h2.size) ω) (YJ _)).trans ax (YJ _)) (aA.trans am)
 ·rw[zf]at u
  have ap:p=DB t:=ω
  subst ap
  rw[ZX]at Bg
  refine Xv Bg η 34 λaN ab P aT=>⟨_,rfl,?_⟩
  refine BN ab λai V=>⟨_,rfl,?_⟩
  refine U ai ⟨?_,λj F=>?_⟩
  ·have:=kg.size;have:=P.size;have:=V.size;omega
  ·rw[V.get j ω,P.get j ω,kg.get j ω,L.get j F]
end
section
open Go.Lib
def jl(ln:Bool)(nd lv:Nat):Bs:=if ln then 10::zay (nd*lv) 32 else []
def wq(ln:Bool)(nd lv:Nat):List Bs->Bs
 |[]=>[]
 |p::ps=>jl ln nd lv++p++ps.flatMap λq=>44::(jl ln nd lv++q)
def Wx(ln:Bool)(nd lv:Nat)(ps:List Bs):Bs:=wq ln nd (lv+1) ps++(if ps=[]then []else jl ln nd lv)
def fa(ln:Bool)(k:Bt)(p:Bs):Bs:=(eY (lb k)).1++58::((if ln then [32]else [])++p)
mutual
def j9(ln:Bool)(nd:Nat):Tr->Nat->Bs
 |.mk k s ks xs,lv=>if k=1 then [110,117,108,108]else if k=4 then(eY (lb s)).1 else if k=5 then 91::Wx ln nd lv (oN ln nd xs (lv+1))++[93]
  else if k=6 then 123::Wx ln nd lv (List.zipWith (fa ln) ks (oN ln nd xs (lv+1)))++[125]else lb s
def oN(ln:Bool)(nd:Nat):List Tr->Nat->List Bs
 |[],_=>[]
 |x::l,lv=>j9 ln nd x lv::oN ln nd l lv
end
theorem EX(ln:Bool)(nd:Nat)(lv:Nat):∀l:List Tr,oN ln nd l lv=l.map λx=>j9 ln nd x lv
 |[]=>rfl
 |x::l=>by rw[oN,EX ln nd lv l];rfl
theorem xx(ln:Bool)(nd:Nat)(v:Tr)(lv:Nat):j9 ln nd v lv=if v.Wf=1 then [110,117,108,108]else if v.Wf=4 then(eY (lb v.aa0)).1 else if v.Wf=5 then 91::Wx ln nd lv (v.WT.map λx=>j9 ln nd x (lv+1))++[93] else ite (v.Wf=6) (123::Wx ln nd lv (List.zipWith (fa ln) v.XK (v.WT.map λx=>j9 ln nd x (lv+1)))++[125]) (lb v.aa0):=by
 cases v with
 |mk k s ks xs=>rw[j9,EX]
theorem RG(ln:Bool)(nd lv:Nat)(ps:List Bs)(p:Bs):wq ln nd lv (ps++[p])=wq ln nd lv ps++((ite (ps=[]) [] [44])++(jl ln nd lv++p)):=by
 cases ps with
 |nil=>simp[wq]
 |cons q b=>rw[ZT,wq,wq,List.flatMap_append,za ξ];simp
theorem ti(ln:Bool)(nd lv:Nat){ps:List Bs}{n:Nat}(h:n<DB ps):wq ln nd lv (ps.take (n+1))=wq ln nd lv (ps.take n)++((ite (n=0) [] [44])++(jl ln nd lv++ps[n])):=by rw[YP h,RG];congr 2;by_cases h0:n=0;grind;rw[za h0,za (by grind [List.take_eq_nil_iff])]
def pH(ln:Bool)(nd lv:Nat){ps:List Bs}:∀{n:Nat},n<=DB ps->(wq ln nd lv (ps.take n)).length<=(wq ln nd lv ps).length:=by
 have step:∀k n,n+k=DB ps->(wq ln nd lv (ps.take n)).length<=(wq ln nd lv ps).length:=by
  intro k;induction k with
  |zero=>simp
  |succ k b=>intro n h;have h1:=b (n+1) ω;grind [ti]
 intro n h;exact step (DB ps-n) n ω
theorem F5:∀n:Nat,repeatL [32] n=zay n 32
 |0=>rfl
 |n+1=>by rw[show repeatL [32] (n+1)=[32]++repeatL [32] n from rfl,F5 n];rfl
def Dt:∀{l:List Tr} {y:Tr},y∈l->eM y<=en l
 |x::l,y,h=>by rw[en];obtain rfl|h:=YT.1 h;omega;have:=Dt h;omega
def qF{v x:Tr}(h:x∈v.WT):eM x<eM v:=by have:=Dt h;rw[jR v];omega
end
section
open Go.RowKit
section
variable {b:Nat} {g g':zb} {K:Value -> zb -> Prop}
structure FrP (b:Nat) (g g':zb):Prop where
 aa1:Bk b g g'
 oth:Otk g g'
theorem FrP.refl(b:Nat)(g:zb):FrP b g g:=⟨Bk.refl _ _,λi o e _=>e⟩
theorem FrP.trans{g g' c:zb}(h:FrP b g g')(k:FrP b g' c):FrP b g c:=⟨h.aa1.trans k.aa1 (YJ _),h.oth.trans k.oth⟩
theorem FrP.aa3(k:Bk g.size g g')(c:b<=g.size):FrP b g g':=⟨k.mono c,Otk.aa1 k⟩
theorem FrP.blk(h:FrP b g g'){c:Nat}{cs:ab3}(e:g[c]?=Td (.cells cs 25 (0,0))):g'[c]?=Td (.cells cs 25 (0,0)):=h.oth c _ e rfl
structure Low (gl M:Fr) (b:Nat) (g:zb):Prop where
 hM:Fr.le gl M
 ag:AgM M g
 low:∀c cs,M c=Td cs->c<b
theorem Low.frp{gl M:Fr}(L:Low gl M b g)(f:FrP b g g'):Low gl M b g':=⟨L.hM,λc cs e=>by rw[f.aa1.get c (L.low c cs e)];exact L.ag c cs e,L.low⟩
theorem PA(b:Nat):YH ⟨b,0,Te⟩ 0=⟨b,0,Te⟩:=rfl
section
variable {gl M : Fr} {b N : Nat} {ln : Bool} {l : Bs} {g : zb}
def V7(i:GL gl)(o:Brn gl)(H:Prn g b ln (N:Int) l)(L:Low gl M b g){t:Bs}(m:t.length<=1048576)(c:l.length+(eY t).1.length<=140737488355328)(p:∀g',Prn g' b ln (N:Int) (l++(eY t).1)->FrP b g g'->K (.tuple #[]) g'):aa4 253 #[aa7 ⟨b,0,Te⟩,aa6 (bl t)] g K:=by apply Xy;refine RN i m L.hM (o.mono L.hM) L.ag λh' k=>⟨_,_,rfl,_,rfl,?_⟩;rw[PA];have f:=FrP.aa3 k (zdg H.lt);refine Jo (H.aa1 k) _ c λe h q n=>⟨_,_,rfl,p e h (f.trans ⟨q,n⟩)⟩
def E3(i:GL gl)(h:Brn gl)(H:Prn g b ln (N:Int) l)(L:Low gl M b g){s:Bt}(f:(lb s).length<=1048576)(c:l.length+(eY (lb s)).1.length<=140737488355328)(e:∀g',Prn g' b ln (N:Int) (l++(eY (lb s)).1)->FrP b g g'->K (.tuple #[]) g'):aa4 253 #[aa7 ⟨b,0,Te⟩,aa6 s] g K:=by have:=V7 i h H L (t:=lb s) f c e;rw[Zz]at this;exact this
def ES(H:Prn g b ln (N:Int) l)(L:Low gl M b g){lv:Nat}(Y:N<=8)(y:lv<=100)(D:l.length+(jl ln N lv).length<=140737488355328)(m:∀g',Prn g' b ln (N:Int) (l++jl ln N lv)->FrP b g g'->K (.tuple #[]) g'):aa4 307 #[aa7 ⟨b,0,Te⟩,ab0 (lv:Int)] g K:=by
 apply Nl;have⟨p,s,e,A,B⟩:=H;refine⟨_,rfl,ln,Blk.aa2 (o:=0) (k:=2) (cs:=#[.pointer p,aK s,aa9 ln,ab0 (N:Int)]) ⟨_,e⟩ rfl,λf=>?_,λf=>?_⟩;subst f;unfold jl at D m;simp only[if_true,YU,zb3]at D m;refine⟨_,rfl,?_⟩;rw[PA];refine Yk (b:=b) (nd:=(N:Int)) ⟨p,s,e,A,B⟩ ω 10 λP t Q J=>⟨_,rfl,_,rfl,_,rfl,?_⟩;have u:=t;have⟨F,Z,G,I,O⟩:=u;have E:FrP b g P:=⟨Q,J⟩;have z:=L.frp E;have C:N*lv<=800:=Nat.le_trans (Nat.mul_le_mul Y y) ω;refine⟨(N:Int),Blk.aa2 (o:=0) (k:=3) (cs:=#[.pointer F,aK Z,aa9 Ta,ab0 (N:Int)]) ⟨_,G⟩ rfl,?_⟩;rw[show((N:Int)*(lv:Int))=((N*lv:Nat):Int)from by rw[Int.natCast_mul],bR ω];refine(xE (gl:=gl) (s:=bl [32]) (c:=N*lv) ω (by rw[zf];simp;omega) (R:=λx=>x=bl (zay (N*lv) 32)) (by rw[yr,F5])).go z.hM z.ag (zn (a:=qr .str _) (DH _) (zn (a:=qr q0 _) (Zj _ _) zw)) λv S V x i y U=>?_;subst U;refine⟨_,y0 (Yu.1 y),?_⟩;have w:=FrP.aa3 i.aa1 (zdg t.lt);rw[PA];refine Jo (t.aa1 i.aa1) _ (by simp only[YM,YU,ZW,zb3];omega) λn h r q=>⟨_,_,rfl,?_⟩;refine m n ?_ ((E.trans w).trans ⟨r,q⟩);rw[ZL]at h;exact h;subst f;refine m g ?_ (FrP.refl _ _);have:l++jl Tc N lv=l:=by unfold jl;simp
 rw[this];exact⟨p,s,e,A,B⟩
end
end
section
variable {gl:Fr} {l:Bs} {n:Nat}
def Mf{s p:Bs}{R:ac4}(h:R (p.isPrefixOf s)):aa5 gl 251 [qr .str (bl s),qr .str (bl p)] [.bool] R:= PC.of_scal rfl (λ_=>ux _) (r:=p.isPrefixOf s) h λw f=>by have:=Ob (bl s) (bl p) w;have b:(bl s).data.toList=s:=yr s;have c:(bl p).data.toList=p:=yr p;rw[b,c]at this;exact this.mono λe w' ⟨h1,h2⟩=>⟨h1,h2 ▸ Below.refl _ _⟩
theorem Vx{a b:UInt8}(l:Bs):[a,b].isPrefixOf l=hV (l.take 2=[a,b]):=by
 match l with
 |[]=>rfl
 |[x]=>simp[List.isPrefixOf]
 |x::y::l=>simp only[List.isPrefixOf,List.take_succ_cons,List.take_zero,zb9,za7,and_true];rw[ZI,YR,beq_iff_eq,beq_iff_eq,zA];constructor <;> (rintro⟨rfl,rfl⟩;exact⟨rfl,rfl⟩)
def FQ(h:eS l=Td n):4<=DB l:=by unfold eS at h;split at h;assumption;cases h
def VL(q:GL gl)(h2:2<=DB l)(u:l.length<=1152921504606846976){R:Int×Int->Prop}(h:R (match kL (l.drop 2)with|some (r,n)=>((r:Int),(n:Int))|none=>(0,0))):aa5 gl 409 [qr .str (bl l)] [.int .i32,.int .i64] R:=by
 apply WZ;simp only[zf,lS (show(2:Int)=((2:Nat):Int)from rfl),lS (show(6:Int)=((6:Nat):Int)from rfl),lS (show(8:Int)=((8:Nat):Int)from rfl)];refine⟨⟨ω,ω,ω⟩,?_⟩;unfold kL at h;refine DJ q (by rw[ZE];omega) (λn e=>?_) (λe v=>?_);rw[e]at h;have w:=jW e;have t:=FQ e;rw[ZE]at t;dsimp only at h;intro K p;refine⟨λb=>(by cases b),λ_=>p _ ?_⟩;refine⟨λb=>?_,λb=>⟨λo=>?_,λo=>⟨⟨ω,ω,ω⟩,?_⟩⟩⟩;simp only[ph,Bool.if_false_right,YR,zA]at b;rw[zi ω]at h;exact h;simp only[ph,Bool.if_false_right,zas,decide_eq_false_iff_not,Bool.if_true_left,za1,zA]at b o;rw[za ω,zi ω]at h;exact h;simp only[ph,Bool.if_false_right,zas,decide_eq_false_iff_not,Bool.if_true_left,zbs,zA]at b o;rw[za ω,za ω]at h;rw[zap,zap]at h;refine Mf ?_;rw[Vx];refine⟨λk=>?_,λk=>⟨⟨ω,?_,ω⟩,?_⟩⟩;rw[za (ψ k)]at h;exact h;have c:(l.drop 6).take 2=[92,117]:=ψ k
 have:=congrArg za6 c;simp only[ZV,ZE,YU,ZW]at this;omega;have c:(l.drop 6).take 2=[92,117]:=ψ k
 rw[zi c]at h;refine DJ q (by rw[ZE];omega) (λm i=>?_) (λi v=>?_);rw[show 2+6=8 from rfl,i]at h;have x:=jW i;dsimp only at h;refine⟨λf=>?_,λf=>?_⟩;simp only[ph,Bool.if_true_left,za1,zA,Bool.not_true,zaq,false_or]at f;rw[za (show¬(56320<=m/\m<57344)by omega)]at h;exact h;simp only[ph,Bool.if_true_left,zbs,decide_eq_false_iff_not,Bool.not_true,zaq,decide_false,zA,zdu]at f;rw[zi (show 56320<=m/\m<57344 by omega)]at h;dsimp only at h;rw[Qb (n:=(n:Int)-55296) ω ω,Qb (n:=((n:Int)-55296)*1024) ω ω,Qb (n:=65536+((n:Int)-55296)*1024) ω ω,Qb (n:=65536+((n:Int)-55296)*1024+(m:Int)) ω ω,Qb ω ω];have s:(((65536+(n-55296)*1024+(m-56320):Nat):Int))=65536+((n:Int)-55296)*1024+(m:Int)-56320:=ω
 rw[s]at h;exact h;rw[show 2+6=8 from rfl,i]at h;exact⟨λ_=>h,λf=>by simp at f⟩;rw[e]at h;intro K p;exact⟨λ_=>p _ ⟨λ_=>h,λb=>by cases b⟩,λb=>by cases b⟩
theorem gV{c:UInt8}(b:n<256):((c.toNat:Int)==(n:Int))=hV (c=ZR n):=by rw[ZI,beq_iff_eq,zA,UG b];omega
def N0{c:UInt8}{R:Int×Bool->Prop}(h:R (match hG c with|some r=>((r:Int),Ta)|none=>(0,Tc))):aa5 gl 408 [qr (.int .u8) (c.toNat:Int)] [.int .i32,.bool] R:=by
 apply Mm;have B:=c.toNat_lt;have q:∀n:Nat,n<256->((c.toNat:Int)==(n:Int))=hV (c=ZR n):=λn z=>gV z;have m:=q 34 ω;have s:=q 92 ω;have p:=q 47 ω;have o:=q 98 ω;have f:=q 102 ω;have e:=q 110 ω;have i:=q 114 ω;have k:=q 116 ω;simp only[Int.cast_ofNat_Int,show ZR 34=34 from rfl,show ZR 92=92 from rfl,show ZR 47=47 from rfl,show ZR 98=98 from rfl,show ZR 102=102 from rfl,show ZR 110=110 from rfl,show ZR 114=114 from rfl,show ZR 116=116 from rfl]at m s p o f e i k;rw[m,s,p,o,f,e,i,k];unfold hG at h;intro K A;have l:(c=34\/c=92\/c=47)->K Ta:=by intro h1;apply A;rw[zi h1]at h;rw[Qb ω ω];exact⟨λ_=>h,λb=>by cases b⟩
 refine⟨λh1=>by rw[h1];exact l (.inl (ψ h1)),λh1=>⟨λh2=>by rw[h2];exact l (.inr (.inl (ψ h2))),λh2=>?_⟩⟩;by_cases x:c=47;rw[zD x];exact l (.inr (.inr x));have z:¬(c=34\/c=92\/c=47):=by rw[decide_eq_false_iff_not]at h1 h2;rintro(h|h|h);exact h1 h;exact h2 h;exact x h
 rw[za z]at h;rw[zE x];apply A;refine⟨λb=>(by cases b),λ_=>?_⟩;by_cases y:c=98;rw[zi y]at h;rw[zD y];exact⟨λ_=>h,λb=>by cases b⟩;rw[za y]at h;rw[zE y];refine⟨λb=>(by cases b),λ_=>?_⟩;by_cases a2:c=102;rw[zi a2]at h;rw[zD a2];exact⟨λ_=>h,λb=>by cases b⟩;rw[za a2]at h;rw[zE a2];refine⟨λb=>(by cases b),λ_=>?_⟩;by_cases t:c=110;rw[zi t]at h;rw[zD t];exact⟨λ_=>h,λb=>by cases b⟩;rw[za t]at h;rw[zE t];refine⟨λb=>(by cases b),λ_=>?_⟩;by_cases w:c=114;rw[zi w]at h;rw[zD w];exact⟨λ_=>h,λb=>by cases b⟩;rw[za w]at h;rw[zE w];refine⟨λb=>(by cases b),λ_=>?_⟩;by_cases u:c=116;rw[zi u]at h;rw[zD u];exact⟨λ_=>h,λb=>by cases b⟩;rw[za u]at h;rw[zE u];exact⟨λb=>(by cases b),λ_=>h⟩
end
section
variable {gl M:Fr} {l:Bs}
def KP(m:GL gl)(f:l.length<=1152921504606846976){R:Int×Int->Prop}(h:R (match iO l with|some (r,n)=>((r:Int),(n:Int))|none=>(0,0))):aa5 gl 407 [qr .str (bl l)] [.int .i32,.int .i64] R:=by
 apply Jv;rw[zf]
 match l,f,h with
 |[],_,h=>exact⟨λ_=>h,λb=>by simp at b⟩
 |[a],_,h=>exact⟨λ_=>h,λb=>by simp at b⟩
 |a::c::t,f,h=>
  have i:((a::c::t).length:Int)=DB t+2:=φ
  refine⟨λb=>(by rw[zA]at b;omega),λ_=>⟨⟨ω,ω⟩,?_⟩⟩;have k:ze (bl (a::c::t)) (1:Int).toNat=(c.toNat:Int):=by rw[zx];rfl
  rw[k];refine N0 ?_;unfold iO at h;dsimp only at h;cases e:hG c with
  |some r=>rw[e]at h;exact⟨λ_=>h,λb=>(by cases b)⟩
  |none=>rw[e]at h;dsimp only at h;refine⟨λb=>(by cases b),λ_=>⟨⟨ω,ω⟩,?_⟩⟩;have o:((c.toNat:Int)==117)=hV (c=117):=gV (n:=117) ω;rw[o];refine⟨λb=>?_,λb=>?_⟩;rw[zi (ψ b)]at h;refine VL m ξ f ?_;exact h;rw[za (ψ b)]at h;exact h
theorem Sb(h:l≠[]):Lib.decodeGo (bl l)=dec l:=by unfold Lib.decodeGo;have b:=zaj.2 h;rw[za (by rw[zf];omega),sh,yr,zbi]
def Vs(e:GL gl)(b:l≠[])(k:l.length<=1152921504606846976){R:Int×Int->Prop}(h:R (match J4 l with|some (r,n)=>((r:Int),(n:Int))|none=>(0,0))):aa5 gl 403 [qr .str (bl l)] [.int .i32,.int .i64] R:=by
 apply OV;have f:=zaj.2 b;rw[zf,zx,show(0:Int).toNat=0 from rfl,Yw f];refine⟨⟨ω,ω⟩,?_⟩;have o:((l[0].toNat:Int)==92)=hV (l[0]=92):=gV (n:=92) ω;have m:l.head?=Td l[0]:=by cases l with
  |nil=>exact absurd rfl b
  |cons a t=>rfl
 rw[o];unfold J4 at h;rw[m]at h;refine⟨λc=>?_,λc=>?_⟩;rw[zi (by rw[zB c])]at h;exact KP e k h;rw[za (by rw[YK];exact zC c)]at h;refine EE e.tabs ?_;rw[Sb b];have i:(cond (hV (((dec l).1:Int)<32)) Ta (cond (((dec l).1:Int)==65533) (((dec l).2:Int)==1) Tc))=hV ((dec l).1<32\/eF (dec l)=Ta):=by rw[ZI];unfold eF;simp only[ph,Bool.if_true_left,Bool.if_false_right,za1,YR,zA,beq_iff_eq];constructor;rintro(h1|⟨h1,h2⟩);left;omega;right;exact⟨ω,ω⟩;rintro(h1|⟨h1,h2⟩);left;omega;right;exact⟨ω,ω⟩
 rw[i];refine⟨λc=>?_,λc=>?_⟩;rw[zi (zB c)]at h;exact h;rw[za (zC c)]at h;exact h
def sx(s:Bt)(i j:Int):x7 M [.str,.int .i64,.int .i64] (s,i,j) (.tuple #[aa6 s,ab0 i,ab0 j]):= ⟨[_,_,_],⟨_,_,rfl,DH s,_,_,rfl,Zj _ i,_,rfl,Zj _ j⟩,rfl⟩
theorem Ih{k:IntKind}{r:Int×Int}{v:Value}(h:x7 M [.int k,.int .i64] r v):v=.tuple #[.int k r.1,ab0 r.2]:=by obtain⟨vs,⟨f,rest,rfl,c,e,rfl,b⟩,rfl⟩:=h;rw[qn c,qn b];rfl
def Ef(Y:GL gl){t:Bs}{a:Nat}(aa:a<=1152921504606846976)(hl:t.length<=1099511627776){R:Bt×Int×Int->Prop}(u:R (bl (ye t a).1,((ye t a).2.1:Int),(ye t a).2.2)):aa5 gl 377 [qr .str (bl t),qr q0 (a:Int)] [.str,.int .i64,.int .i64] R:=by
 intro h M vs Q ag ha
 match vs,ha with
 |[u1,u2],⟨a1,a2,_⟩=>
  obtain rfl:=y0 (s:=bl t) a1;obtain rfl:=qn (i:=(a:Int)) a2;apply PX.of;apply LO;rw[zf,zx,YL];have f:∀{k:Nat},k<DB t->(t.drop k).head?=Td (t[k]?.getD 0):=λ {k} J=>by rw[List.head?_drop,YS J];rfl
  have E:∀k:Nat,(((t[k]?.getD 0).toNat:Int)==34)=hV (t[k]?.getD 0=34):=λk=>gV (n:=34) ω;have I:(((t[a]?.getD 0).toNat:Int) != 34)=!hV (t[a]?.getD 0=34):=by rw[bne,E]
  rw[I];refine⟨λl=>?_,λl=>?_,λl=>?_⟩;have:¬((a:Int)>=(DB t:Int)):=ψ l
  exact⟨ω,ω⟩;have hn:¬(t.drop a).head?=Td 34:=by
   intro e;have o:a<DB t:=by obtain h1|h1:=zam a (DB t);exact h1;rw[List.drop_eq_nil_of_le h1]at e;cases e
   rw[f o]at e;have e:=ZZ e;have D:hV ((a:Int)>=(DB t:Int))=Tc:=by rw[decide_eq_false_iff_not];omega
   rw[D,e]at l;simp at l
  have e:ye t a=([],a,2):=by unfold ye;rw[za hn]
  rw[e]at u;exact⟨M,(bl [],(a:Int),2),wr.refl ag,sx _ _ _,u⟩;have o:a<DB t:=by
   obtain h1|h1:=zam a (DB t);exact h1;have D:hV ((a:Int)>=(DB t:Int))=Ta:=by rw[zA];omega
   rw[D]at l;cases l
  have D:hV ((a:Int)>=(DB t:Int))=Tc:=by rw[decide_eq_false_iff_not];omega
  have Z:(t.drop a).head?=Td 34:=by rw[f o];rw[D]at l;congr 1;simpa using l
  have S:ye t a=(let q:=gj (t.drop (a+1));ite q.2.2 (q.1,a+1+q.2.1,0) ([],a+1+q.2.1,2)):=by unfold ye;rw[zi Z]
  rw[qo o ω];intro h1;have B1:Bld h1 h.size []:=Bld.new h;have N:Bk h.size h h1:=Bk.push _ _ (YJ _);clear_value h1;refine⟨λi g=>∃(k:Nat) (out:Bs),i=(k:Int)/\k<=DB t/\DB out<=4*k/\Bld g h.size out/\Bk h.size h g/\ye t a=(let q:=gj (t.drop k);ite q.2.2 (out++q.1,k+q.2.1,0) ([],k+q.2.1,2)),λi _=>DB t-i.toNat,⟨a+1,[],rfl,ω,ξ,B1,N,π S⟩,?_⟩;rintro i g ⟨k,out,rfl,J,ho,B,y,z⟩;simp only[YL];refine⟨λl=>?_,λl=>?_⟩;have p:k<DB t:=by rw[zA]at l;omega
  have w:t.drop k≠[]:=by rw[<-zaj,ZE];omega
  refine⟨⟨ω,ω⟩,?_⟩;rw[zx,E];have b:=Yj w;rw[f p]at b;refine⟨λA=>?_,λA=>⟨⟨ω,ω,ω⟩,?_⟩⟩;rw[zi (by rw[zB A])]at b;rw[b]at z;refine BN B λh7 V=>⟨_,rfl,M,(bl out,((k+1:Nat):Int),0),up ag (y.trans V (YJ _)),?_,?_⟩;rw[qo p ω];exact sx _ _ _;rw[z]at u;simpa using u;rw[za (by rw[YK];exact zC A)]at b;have O:(bl t).extract k (DB t)=bl (t.drop k):=lS (n:=(k:Int)) rfl;rw[O];refine(Vs Y w (by rw[ZE];omega) (R:=λr=>r=(match J4 (t.drop k)with|some (r,n)=>((r:Int),(n:Int))|none=>(0,0))) rfl).go Q (ag.aa1 y) (zn (a:=qr .str _) (DH _) zw) λv h9 M9 r L hv C=>?_;obtain rfl:=Ih hv;cases ep:J4 (t.drop k)with
  |none=>rw[ep]at C b;dsimp only at C;subst C;refine⟨_,_,rfl,λ_=>?_,λG=>by cases G⟩;dsimp only at b;rw[b]at z;refine⟨M,(bl [],(k:Int),2),up ag (y.trans L.aa1 y.size),sx _ _ _,?_⟩;rw[z]at u;simpa using u
  |some x=>
   have⟨c,n⟩:=x;rw[ep]at C b;dsimp only at C;subst C;have⟨n1,n2,U,n4⟩:=Y0 w ep;rw[ZE]at U;dsimp only at b;refine⟨(c:Int),(n:Int),rfl,λG=>?_,λ_=>?_⟩;simp only[beq_iff_eq]at G;omega;refine Py (B.aa1 L.aa1) ω ω ω λP m H F=>⟨_,_,rfl,?_,?_⟩;refine⟨k+n,out++Lib.encodeRune (c:Int),?_,ω,?_,H,?_,?_⟩;rw[bR ω];omega;have h4:(Lib.encodeRune (c:Int)).length<=4:=by have:=(Lib.encodeRuneZ_length (c:Int)).2;rw[Lib.encodeRune,YO];exact this
   rw[YM];omega;exact(y.trans L.aa1 y.size).trans F (YJ _);rw[z,b,zap];dsimp only;rw[ZL,Nat.add_assoc];show (DB t)-(p3 ((k:Int)+(n:Int))).toNat<DB t-((k:Nat):Int).toNat;rw[bR ω];omega
  have p:k=DB t:=by rw[decide_eq_false_iff_not]at l;omega
  rw[p,List.drop_length,EZ]at z;refine⟨M,(bl [],(DB t:Int),2),up ag y,sx _ _ _,?_⟩;rw[z]at u;simpa using u
end
section
variable {t:Bs} {gl:Fr}
def jE(t:Bs)(a:Int):Int×Int:=if a<0\/(t.length:Int)<a then(0,2)else((ye t a.toNat).2.1,(ye t a.toNat).2.2)
def Fp{R:Bt×Int×Int->Prop}(h:R (bl (Qr t).1,((Qr t).2.1:Int),(Qr t).2.2)):((cond ((ye t 0).2.2==0) (hV (((ye t 0).2.1:Int)<(DB t:Int))) Tc)=Ta->R (bl [],((ye t 0).2.1:Int),2))/\((cond ((ye t 0).2.2==0) (hV (((ye t 0).2.1:Int)<(DB t:Int))) Tc)=Tc->R (bl (ye t 0).1,((ye t 0).2.1:Int),(ye t 0).2.2)):=by
 have e:(cond ((ye t 0).2.2==0) (hV (((ye t 0).2.1:Int)<(DB t:Int))) Tc)=hV ((ye t 0).2.2=0/\(ye t 0).2.1<DB t):=by rw[ZI];simp only[ph,Bool.if_false_right,YR,zA,beq_iff_eq];omega
 rw[e];unfold Qr at h;refine⟨λb=>?_,λb=>?_⟩;rw[zi (zB b)]at h;exact h;rw[za (zC b)]at h;exact h
def uE(b:GL gl)(c:t.length<=1099511627776){R:Bt×Int×Int->Prop}(h:R (bl (Qr t).1,((Qr t).2.1:Int),(Qr t).2.2)):aa5 gl 343 [qr .str (bl t)] [.str,.int .i64,.int .i64] R:=by apply Sf;rw[zf];exact Ef b (a:=0) ω c (Fp h)
def TU(k:GL gl){a:Int}(f:t.length<=1099511627776){R:Int×Int->Prop}(h:R (jE t a)):aa5 gl 400 [qr .str (bl t),qr q0 a] [.int .i64,.int .i64] R:=by
 apply Nx;rw[zf];have e:(cond (hV (a<0)) Ta (hV (a>(DB t:Int))))=hV (a<0\/(DB t:Int)<a):=by rw[ZI];simp only[ph,Bool.if_true_left,za1,zA]
 rw[e];unfold jE at h;refine⟨λc=>?_,λc=>?_⟩;rw[zi (zB c)]at h;exact h;have l:=zC c;rw[za l]at h;have i:a=((a.toNat:Nat):Int):=ω
 have:=Ef k (t:=t) (a:=a.toNat) ω f (R:=λb=>R (b.2.1,b.2.2)) h;rw[<-i]at this;exact this
theorem Px{x:UInt8}:p3 ((x.toNat:Nat):Int)=(x.toNat:Int):=by have:=x.toNat_lt;exact bR ω
def Hp{a:Nat}(I:a<=2199023255552)(F:t.length<=1099511627776){R:ac6}(h:R (match eS (t.drop a)with|some n=>(n:Int)|none=>-1)):aa5 gl 379 [qr .str (bl t),qr q0 (a:Int)] [.int .i64] R:=by
 apply Ks;rw[zf,bR (n:=(DB t:Int)-4) ω];refine⟨λq=>?_,λq=>?_⟩;have q:=zB q;have e:eS (t.drop a)=Te:=by unfold eS;rw[za (by rw[ZE];omega)]
 rw[e]at h;exact h;have q:=zC q;have J:a+4<=DB t:=ω
 have A:eS (t.drop a)=fm 0 ((t.drop a).take 4):=by unfold eS;rw[zi (by rw[ZE];omega)]
 rw[bR (n:=(a:Int)+4) ω];refine⟨λn i=>∃j m:Nat,j<=4/\i=((a+j:Nat):Int)/\n=(m:Int)/\fm 0 ((t.drop a).take j)=Td m,λn i=>a+4-i.toNat,⟨0,0,ω,rfl,rfl,rfl⟩,?_⟩;rintro n i ⟨j,m,H,rfl,rfl,x⟩;have D:m<65536:=by
  have:=qG x;have B:((t.drop a).take j).length<=4:=by rw[ZV];omega
  have:16 ^ ((t.drop a).take j).length<=16 ^ 4:=Nat.pow_le_pow_right ω B;omega
 refine⟨λu=>?_,λu=>?_⟩;have u:=zB u;have p:j<4:=ω
 have l:a+j<DB t:=ω
 rw[YL,zx,Yw l];generalize r:t[a+j]=c;rw[Px];have G:=c.toNat_lt;have o:fm 0 ((t.drop a).take (j+1))=(eZ c).map λd=>16*m+d:=by
  have w:j<(t.drop a).length:=by rw[ZE];omega
  rw[YP w,Xw,x,List.getElem_drop,r];exact Ia m c
 have step:∀d:Nat,d<16->eZ c=Td d->∀z:Int,z=((16*m+d:Nat):Int)->(∃f s:Nat,f<=4/\p3 (((a+j:Nat):Int)+1)=((a+f:Nat):Int)/\z=(s:Int)/\fm 0 ((t.drop a).take f)=Td s)/\a+4-(p3 (((a+j:Nat):Int)+1)).toNat<a+4-(((a+j:Nat):Int)).toNat:=by intro d w y z E;rw[y]at o;rw[qo (n:=a+4) ω ω];exact⟨⟨j+1,16*m+d,ω,ω,E,o⟩,ω⟩
 refine⟨⟨ω,ω⟩,λe=>?_,λe=>⟨λb=>?_,λb=>⟨λk=>?_,λk=>?_⟩⟩⟩;have e:48<=c.toNat/\c.toNat<=57:=by simp only[ph,Bool.if_false_right,YR,zA]at e;omega
 refine step (c.toNat-48) ω (by unfold eZ;rw[zi e]) _ ?_;rw[bR (n:=16*(m:Int)) ω,bR (n:=16*(m:Int)+(c.toNat:Int)) ω,bR ω];omega;have e:¬(48<=c.toNat/\c.toNat<=57):=by simp only[ph,Bool.if_false_right,zas,decide_eq_false_iff_not,zA]at e;omega
 have b:97<=c.toNat/\c.toNat<=102:=by simp only[ph,Bool.if_false_right,YR,zA]at b;omega
 refine step (c.toNat-87) ω (by unfold eZ;rw[za e,zi b]) _ ?_;rw[bR (n:=16*(m:Int)) ω,bR (n:=16*(m:Int)+(c.toNat:Int)) ω,bR (n:=16*(m:Int)+(c.toNat:Int)-97) ω,bR ω];omega;have e:¬(48<=c.toNat/\c.toNat<=57):=by simp only[ph,Bool.if_false_right,zas,decide_eq_false_iff_not,zA]at e;omega
 have b:¬(97<=c.toNat/\c.toNat<=102):=by simp only[ph,Bool.if_false_right,zas,decide_eq_false_iff_not,zA]at b;omega
 have k:65<=c.toNat/\c.toNat<=70:=by simp only[ph,Bool.if_false_right,YR,zA]at k;omega
 refine step (c.toNat-55) ω (by unfold eZ;rw[za e,za b,zi k]) _ ?_;rw[bR (n:=16*(m:Int)) ω,bR (n:=16*(m:Int)+(c.toNat:Int)) ω,bR (n:=16*(m:Int)+(c.toNat:Int)-65) ω,bR ω];omega;have e:¬(48<=c.toNat/\c.toNat<=57):=by simp only[ph,Bool.if_false_right,zas,decide_eq_false_iff_not,zA]at e;omega
 have b:¬(97<=c.toNat/\c.toNat<=102):=by simp only[ph,Bool.if_false_right,zas,decide_eq_false_iff_not,zA]at b;omega
 have k:¬(65<=c.toNat/\c.toNat<=70):=by simp only[ph,Bool.if_false_right,zas,decide_eq_false_iff_not,zA]at k;omega
 have y:eZ c=Te:=by unfold eZ;rw[za e,za b,za k]
 have C:eS (t.drop a)=Te:=by rw[A];have w:a+j<DB t:=l;refine te 0 (c:=c) ?_ y;rw[<-r,<-List.getElem_drop (i:=a) (j:=j) (xs:=t) (h:=by rw[ZE];omega)];exact List.mem_take_iff_getElem.2 ⟨j,by rw[ZE];omega,rfl⟩
 rw[C]at h;exact h;have u:=zC u;have p:j=4:=ω
 subst p;rw[A,x]at h;exact h
end
end
end Go.X
