/- A part of the proof: nothing is stated here for its own sake. -/
import Derived.Test.YtplilfikcimcbaaGreatDoorPeE
open _root_.Go.Addr renaming add->Ue
open _root_.Array renaming size_push->Uh,toList->VW
open _root_.Bool renaming and_eq_true->Uq,eq_iff_iff->UR
open _root_.Go.Builtin renaming append_->Us
open _root_.Go.Instr renaming storeAt->Uj
open _root_.Int renaming toNat_natCast->Ui
open _root_.Go.IntKind renaming wrap->Ud
open _root_.List renaming all_cons->WC,all_eq_true->UI,any_eq_true->XJ,append_assoc->UK,drop_zero->WH,getD_eq_getElem?_getD->Ux,getElem_mem->Ur,length_append->Uk,length_cons->Uz,length_map->Um,length_nil->Vb,length_take->Ve,map_append->U3,map_cons->UJ,mem_append->Uo,mem_append_left->Uv,mem_append_right->UH,mem_cons->Up,mem_filter->U0,mem_flatMap->Vy,mem_map->UD,mem_of_getElem?->VA,mem_range->UT,mem_singleton->Ut,pairwise_cons->VB,take_length->UE,take_succ_eq_append_getElem->Un
open _root_.Nat renaming le_refl->Uf,zero_add->Uy,zero_le->UB
open _root_.Go.Value renaming string->UA
set_option linter.unusedVariables false
set_option maxRecDepth 100000
namespace Go.X
end Go.X
namespace Go.Proofs
end Go.Proofs
open Go Go.X Go.Proofs
open _root_.Bool renaming true->Ta,false->Tc
open _root_.Option renaming some->Td,none->Te
section
namespace Go.X
section
theorem KU(l0:Sl)(h:zc)(R:Value->zc->Prop) (H:let b:=h.push (.cells tC 25);XC Tp 80 #[aK l0,.func (.func 81) #[] #[]] b (λc d=>∃e,c=.bool e/\(e=Ta->XRunU Tp (Uj 25 (.pointer (Td ⟨h.size,0,Te⟩)) (tZ)) d (λf=>∃g i j k,ze f ⟨h.size,0,Te⟩ 0 (tL g i j k)/\R (.tuple #[tA g i j k,iV 1]) f))/\(e=Tc->(decide ((l0.len:Int)>4096)=Ta->XRunU Tp (Uj 25 (.pointer (Td ⟨h.size,0,Te⟩)) (tZ)) d (λl=>∃m n o p,ze l ⟨h.size,0,Te⟩ 0 (tL m n o p)/\R (.tuple #[tA m n o p,iV 6]) l))/\(decide ((l0.len:Int)>4096)=Tc->let q:=d.push (.cells tC 25);XRunU Tp (Uj 25 (.pointer (Td ⟨d.size,0,Te⟩)) (.agg #[iV 5,.string (⟨#[]⟩:Bt),.slice Te 0 0,.slice Te 0 0])) q (λr=>∃(s:Int->zc->Prop) (t:Int->zc->Nat),s 0 r/\∀u:Int,∀v:zc,s u v->((decide (u<l0.len)=Ta->∃w,(l0.a=Td w/\0<=u/\u<l0.len)/\∃x y z A B C D,ze v (w.add (u.toNat*7)) 0 [.string x,aK y,aK z,iV A,.string B,aK C,aK D]/\let E:=v.push (.cells #[.string (⟨#[]⟩:Bt),.slice Te 0 0,.slice Te 0 0,iV 0,.string (⟨#[]⟩:Bt),.slice Te 0 0,.slice Te 0 0] 50);XRunU Tp (Uj 50 (.pointer (Td ⟨v.size,0,Te⟩)) (.agg #[.string x,aK y,aK z,iV A,.string B,aK C,aK D])) E (λF=>∃G,zd F (Ue ⟨d.size,0,Te⟩ 3)=Td (aK G)/\∃I J L M N O P,ze F ⟨v.size,0,Te⟩ 0 [.string I,aK J,aK L,iV M,.string N,aK O,aK P]/\XC Tp 82 #[.agg #[.string I,aK J,aK L,iV M,.string N,aK O,aK P]] F (λQ S=>∃T U V W,Q=tA T U V W/\(S)[((Ue ⟨d.size,0,Te⟩ 3):Addr).block]?=(F)[((Ue ⟨d.size,0,Te⟩ 3):Addr).block]?/\let X:=S.push (.cells #[iV T,.string U,aK V,aK W] 25);(X)[((Ue ⟨d.size,0,Te⟩ 3):Addr).block]?=(F)[((Ue ⟨d.size,0,Te⟩ 3):Addr).block]?/\qt Tp (Us #[23,23] 23 #[aK G,.slice (Td ⟨S.size,0,Te⟩) 1 1]) X (λY Z=>∃aa,Y=aK aa/\XRunU Tp (Uj 23 (.pointer (Td (Ue ⟨d.size,0,Te⟩ 3))) (aK aa)) Z (λab=>(s (Ud .i64 (u+1)) ab/\t (Ud .i64 (u+1)) ab<t u v))))))/\(decide (u<l0.len)=Tc->∃ac ad ae af,ze v ⟨d.size,0,Te⟩ 0 (tL ac ad ae af)/\XC Tp 49 #[tA ac ad ae af] v (λag ah=>∃ai,ag=.bool ai/\((!ai)=Ta->XRunU Tp (Uj 25 (.pointer (Td ⟨h.size,0,Te⟩)) (tZ)) ah (λaj=>∃ak al am an,ze aj ⟨h.size,0,Te⟩ 0 (tL ak al am an)/\R (.tuple #[tA ak al am an,iV 1]) aj))/\((!ai)=Tc->∃ao ap aq ar,ze ah ⟨d.size,0,Te⟩ 0 (tL ao ap aq ar)/\XRunU Tp (Uj 25 (.pointer (Td ⟨h.size,0,Te⟩)) (tA ao ap aq ar)) ah (λau=>∃av aw ax ay,ze au ⟨h.size,0,Te⟩ 0 (tL av aw ax ay)/\R (.tuple #[tA av aw ax ay,iV 0]) au)))))))))):
  XC Tp 45 #[.slice l0.a l0.len l0.cap] h R:=
 XF ⟨[(9,8000)],[(7,[(19,.one (.int .i64))])],[]⟩ [.cell 2 25,.tmp 3] 36 Tryz.func45 H
theorem Nx(b:Bt)(c:Sl)(d:Sl)(e:Int)(f:Bt)(g:Sl)(i:Sl)(h:zc)(R:Value->zc->Prop) (H:let j:=h.push (.cells #[.string b,aK c,aK d,iV e,.string f,aK g,aK i] 50);let k:=j.push (.cells tC 25);∃l,zd k (Ue ⟨h.size,0,Te⟩ 0)=Td (.string l)/\XC Tp 77 #[.string l] k (λm n=>∃o p q,m=.tuple #[.bool o,.bool p,.bool q]/\let r:=n.push (.cells tC 25);XRunU Tp (Uj 25 (.pointer (Td ⟨n.size,0,Te⟩)) (.agg #[iV 6,.string (⟨#[]⟩:Bt),.slice Te 0 0,.slice Te 0 0])) r (λs=>∃t,zd s (Ue ⟨h.size,0,Te⟩ 0)=Td (.string t)/\XC Tp 98 #[.string t] s (λu v=>∃w x y z,u=tA w x y z/\XC Tp 139 #[.pointer (Td ⟨n.size,0,Te⟩),.string (⟨#[111,112]⟩:Bt),tA w x y z] v (λA B=>A=.tuple #[]/\∃C,zd B (Ue ⟨h.size,0,Te⟩ 1)=Td (aK C)/\XC Tp 75 #[aK C] B (λD E=>∃F G,D=.tuple #[.string F,iV G]/\XC Tp 98 #[.string F] E (λI J=>∃L M N O,I=tA L M N O/\XC Tp 139 #[.pointer (Td ⟨n.size,0,Te⟩),.string (⟨#[112,97,116,104]⟩:Bt),tA L M N O] J (λP Q=>P=.tuple #[]/\∀S:zc->Prop,(∀T:zc,((o=Ta->∃U V W X,ze T (Ue ⟨h.size,0,Te⟩ 3) 0 (tL U V W X)/\XC Tp 90 #[tA U V W X] T (λY Z=>∃aa ab ac ad,Y=tA aa ab ac ad/\XC Tp 139 #[.pointer (Td ⟨n.size,0,Te⟩),.string (⟨#[118,97,108,117,101]⟩:Bt),tA aa ab ac ad] Z (λae af=>ae=.tuple #[]/\∃ag ah ai aj,ze af ⟨n.size,0,Te⟩ 0 (tL ag ah ai aj)/\XRunU Tp (Uj 25 (.pointer (Td ⟨j.size,0,Te⟩)) (tA ag ah ai aj)) af (λak=>∃al am an ao,ze ak ⟨j.size,0,Te⟩ 0 (tL al am an ao)/\R (tA al am an ao) ak))))/\(o=Tc->∃ap aq ar au,ze T ⟨n.size,0,Te⟩ 0 (tL ap aq ar au)/\XRunU Tp (Uj 25 (.pointer (Td ⟨j.size,0,Te⟩)) (tA ap aq ar au)) T (λav=>∃aw ax ay az,ze av ⟨j.size,0,Te⟩ 0 (tL aw ax ay az)/\R (tA aw ax ay az) av)))->S T)->(p=Ta->∃aA,zd Q (Ue ⟨h.size,0,Te⟩ 2)=Td (aK aA)/\XC Tp 75 #[aK aA] Q (λaB aC=>∃aD aE,aB=.tuple #[.string aD,iV aE]/\XC Tp 98 #[.string aD] aC (λaF aG=>∃aH aI aJ aL,aF=tA aH aI aJ aL/\XC Tp 139 #[.pointer (Td ⟨n.size,0,Te⟩),.string (⟨#[102,114,111,109]⟩:Bt),tA aH aI aJ aL] aG (λaM aN=>aM=.tuple #[]/\S aN))))/\(p=Tc->S Q))))))))):
  XC Tp 82 #[.agg #[.string b,.slice c.a c.len c.cap,.slice d.a d.len d.cap,.int .i64 e,.string f,.slice g.a g.len g.cap,.slice i.a i.len i.cap]] h R:=
 XF ⟨[],[],[(9,[])]⟩ [.cell 2 25] 46 Tryz.func82 H
theorem Hz(T:Option Addr)(S:Bt)(b:Int)(c:Bt)(d:Sl)(e:Sl)(h:zc)(R:Value->zc->Prop) (H:let f:=h.push (.cells #[iV b,.string c,aK d,aK e] 25);∃g,T=Td g/\∃i,zd f (Ue g 2)=Td (aK i)/\∃j,T=Td j/\∃k,zd f (Ue j 3)=Td (aK k)/\∃l m n o,ze f ⟨h.size,0,Te⟩ 0 (tL l m n o)/\let p:Sl->Sl->zc->Prop:=λ(q:Sl) (r:Sl) (s:zc)=>(qt Tp (Us #[23,23] 23 #[aK k,aK q]) s (λt u=>∃v,t=aK v/\∃w,T=Td w/\XRunU Tp (Uj 22 (.pointer (Td (Ue w 2))) (aK r)) u (λx=>∃y,T=Td y/\XRunU Tp (Uj 23 (.pointer (Td (Ue y 3))) (aK v)) x (λz=>R (.tuple #[]) z))));let A:Sl->Sl->zc->Prop:=λ(B:Sl) (C:Sl) (D:zc)=>(qt Tp (Us #[22,22] 22 #[aK i,aK C]) D (λE F=>∃G,E=aK G/\(F)[((Ue j 3):Addr).block]?=(f)[((Ue j 3):Addr).block]?/\p B G F));(let I:=f.push (.cells #[.string S] 9);(I)[(⟨h.size,0,Te⟩:Addr).block]?=(f)[(⟨h.size,0,Te⟩:Addr).block]?/\(I)[((Ue j 3):Addr).block]?=(f)[((Ue j 3):Addr).block]?/\(I)[((Ue g 2):Addr).block]?=(f)[((Ue g 2):Addr).block]?/\(qt Tp (Us #[22,22] 22 #[aK i,.slice (Td ⟨f.size,0,Te⟩) 1 1]) I (λJ L=>∃M,J=aK M/\(L)[(⟨h.size,0,Te⟩:Addr).block]?=(f)[(⟨h.size,0,Te⟩:Addr).block]?/\(L)[((Ue j 3):Addr).block]?=(f)[((Ue j 3):Addr).block]?/\let N:=L.push (.cells #[iV l,.string m,aK n,aK o] 25);(N)[((Ue j 3):Addr).block]?=(f)[((Ue j 3):Addr).block]?/\p (⟨Td ⟨L.size,0,Te⟩,1,1⟩:Sl) M N))/\(let O:=I.push (.cells #[iV l,.string m,aK n,aK o] 25);(O)[((Ue j 3):Addr).block]?=(f)[((Ue j 3):Addr).block]?/\(O)[((Ue g 2):Addr).block]?=(f)[((Ue g 2):Addr).block]?/\A (⟨Td ⟨I.size,0,Te⟩,1,1⟩:Sl) (⟨Td ⟨f.size,0,Te⟩,1,1⟩:Sl) O))/\(let P:=f.push (.cells #[iV l,.string m,aK n,aK o] 25);(P)[((Ue j 3):Addr).block]?=(f)[((Ue j 3):Addr).block]?/\(P)[((Ue g 2):Addr).block]?=(f)[((Ue g 2):Addr).block]?/\let Q:=P.push (.cells #[.string S] 9);(Q)[((Ue j 3):Addr).block]?=(f)[((Ue j 3):Addr).block]?/\(Q)[((Ue g 2):Addr).block]?=(f)[((Ue g 2):Addr).block]?/\A (⟨Td ⟨f.size,0,Te⟩,1,1⟩:Sl) (⟨Td ⟨P.size,0,Te⟩,1,1⟩:Sl) Q)):
  XC Tp 139 #[.pointer T,.string S,.agg #[.int .i64 b,.string c,.slice d.a d.len d.cap,.slice e.a e.len e.cap]] h R:=
 XF ⟨[(1,8000)],[],[]⟩ [] 26 Tryz.func139 H
theorem wh(j:Sl)(f:FuncId)(e:Array Value)(i:Array Value)(h:zc)(R:Value->zc->Prop) (H:XC Tp 138 #[aK j,.func (.func f) e i] h (λb c=>∃d,b=iV d/\R (.bool (decide (d>=0))) c)):
  XC Tp 80 #[.slice j.a j.len j.cap,.func (.func f) e i] h R:=
 XF ⟨[],[],[]⟩ [.tmp 4] 9 Tryz.func80 H
theorem xg(t:Sl)(r:FuncId)(u:Array Value)(w:Array Value)(h:zc)(R:Value->zc->Prop) (H:∃(b:Int->zc->Prop) (c:Int->zc->Nat),b 0 h/\∀d:Int,∀e:zc,b d e->((decide (d<t.len)=Ta->∃f,(t.a=Td f/\0<=d/\d<t.len)/\∃g i j k l m n,ze e (f.add (d.toNat*7)) 0 [.string g,aK i,aK j,iV k,.string l,aK m,aK n]/\zk Tp r=Ta/\XC Tp r (u++#[.agg #[.string g,aK i,aK j,iV k,.string l,aK m,aK n]]++w) e (λo p=>∃q,o=.bool q/\(q=Ta->R (iV d) p)/\(q=Tc->(b (Ud .i64 (d+1)) p/\c (Ud .i64 (d+1)) p<c d e))))/\(decide (d<t.len)=Tc->R (iV (-1)) e))):
  XC Tp 138 #[.slice t.a t.len t.cap,.func (.func r) u w] h R:=
 XF ⟨[],[(2,[(8,.one (.int .i64))])],[]⟩ [.tmp 4] 19 Tryz.func138 H
theorem Ib(gl:Fr)(b:Bt×(List Bt)×(List Bt)×Tr)(R:Bool->Prop) (H:PC Tp gl 44 [Arg.mk (.pair .str (.pair (.row .str) (.pair (.row .str) .tree))) (b.1,(b.2.1,(b.2.2.1,Tr.mk b.2.2.2.kind b.2.2.2.text b.2.2.2.keys b.2.2.2.items)))] [.bool] (λa:Bool=>R (!a))):
  PC Tp gl 81 [Arg.mk (.pair .str (.pair (.row .str) (.pair (.row .str) .tree))) b] [.bool] R:=
 PF ⟨[],[],[],[]⟩ [.tmp 2] 6 Tryz.func81 H
end
section
variable {M:Fr} {h h':zc} {b:Nat} {ks:List Bt} {xs:List Tr} {sk si:Sl} {bk bi:List Nat}
theorem AgM.but(ag:AgM M h)(k:M b=Option.none)(f:∀j,j≠b->h'[j]?=h[j]?):AgM M h':=λc cs e=>by obtain⟨T,m,l⟩:=ag c cs e;exact⟨T,m,by rw[f c (λi=>by rw[i,k]at e;cases e)];exact l⟩
theorem QF:qo Tp 22=Ta:=by kernel_rfl
theorem QR:je Tp 22=1:=by kernel_rfl
theorem AgM.app{bs:List Nat}(ag:AgM M h)(f:∀j,j<h.size->j∉bs->h'[j]?=h[j]?)(b:∀c∈bs,M c=Option.none):AgM M h':=λc cs e=>by
 obtain⟨T,m,l⟩:=ag c cs e;have i:c∉bs:=λk=>by rw[b c k]at e;cases e
 exact⟨T,m,by rw[f c (ag.lt e) i];exact l⟩
structure Obj (lo:Nat) (h:zc) (M:Fr) (b:Nat) (ks:List Bt) (xs:List Tr) (sk si:Sl) (bk bi:List Nat):Prop where
 ag:AgM M h
 box:Blk h b (zf 6 ⟨#[]⟩ sk si).toArray
 keys:ORow lo h M .str ks sk bk
 items:ORow lo h M .tree xs si bi
 nk:b∉bk
 ni:b∉bi
 dj:∀c∈bk,c∉bi
 no:M b=Te
 lo:lo<=b
theorem Obj.call{lo:Nat}{M M':Fr}(O:Obj lo h M b ks xs sk si bk bi)(L:Later h M h' M'):Obj lo h' M' b ks xs sk si bk bi:= ⟨L.ag,O.box.ofKeep L.keep,O.keys.call L,O.items.call L,O.nk,O.ni,O.dj,by rw[L.old b O.box.lt];exact O.no,O.lo⟩
theorem EX:qo Tp 23=Ta:=by kernel_rfl
theorem Ex:je Tp 23=1:=by kernel_rfl
structure ObK (lo:Nat) (h:zc) (M:Fr) (b:Nat) (ks:List Bt) (xs:List Tr) (sk si s1:Sl) (bk bi bk1:List Nat) (g:zc):Prop where
 ag:AgM M g
 box:Blk g b (zf 6 ⟨#[]⟩ sk si).toArray
 keys:ORow lo g M .str ks s1 bk1
 items:ORow lo g M .tree xs si bi
 nk:b∉bk1
 dj:∀c∈bk1,c∉bi
 kp:Keep lo h g
 grow:h.size<=g.size
theorem ObK.keep{lo:Nat}{sk si s1:Sl}{bk bi bk1:List Nat}{g g':zc}(H:ObK lo h M b ks xs sk si s1 bk bi bk1 g)(e:lo<=h.size)(k:Keep g.size g g'):ObK lo h M b ks xs sk si s1 bk bi bk1 g':=by have L:=Later.same H.ag k;have:=H.grow;exact⟨L.ag,H.box.ofKeep k,H.keys.call L,H.items.call L,H.nk,H.dj,⟨by have:=H.kp.size;have:=k.size;omega,λj c=>by rw[k.get j (by omega)];exact H.kp.get j c⟩,by have:=k.size;omega⟩
set_option maxHeartbeats 4000000 in
theorem IA{lo:Nat}(O:Obj lo h M b ks xs sk si bk bi)(hn:ks.length<=1000/\xs.length<=1000){key:Bt}{x:Tr}{y w:Sl}(hx:RdV M .tree x (.agg (yb x y w).toArray)){K:Value->zc->Prop} (hK:∀(h':zc) (aH az:Sl) (aG aD:List Nat),Obj lo h' M b (ks++[key]) (xs++[x]) aH az aG aD->Keep lo h h'->K (.tuple #[]) h'):
  XC Tp 139 #[.pointer (Td ⟨b,0,Te⟩),.string key,.agg #[.int .i64 x.kind,.string x.text,aK y,aK w]] h K:=by
 have aT:=O.box.lt;have aO:=O.lo;have aL:Rd M .tree x (yb x y w):=by
  unfold RdV at hx;simp only[Wo,if_true]at hx;obtain⟨cs,e,hr⟩:=hx;have:yb x y w=cs:=by injection e with e;simpa using congrArg VW e
  rw[this];exact hr
 have aj:Rd M .str key [.string key]:=rfl;apply Hz (Td ⟨b,0,Te⟩) key x.kind x.text y w;intro h1;have z1:h1.size=h.size+1:=Uh _;have k1:Keep h.size h h1:=Keep.push _ _ (Uf _);have b1:Blk h1 h.size (yb x y w).toArray:=Blk.new _ _ _;clear_value h1;have ai:=O.box.ofKeep k1;have t:∀(g:zc) (kb:Nat),Keep h.size h g->Blk g kb [UA key].toArray->∀(K:Value->zc->Prop),(∀(s1:Sl) (g2:zc) (bk1:List Nat),ObK lo h M b (ks++[key]) xs sk si s1 bk bi bk1 g2->(∀j,j<g.size->j∉bk->g2[j]?=g[j]?)->g.size<=g2.size->K (.slice s1.a s1.len s1.cap) g2) ->
   qt Tp (Us #[22,22] 22 #[.slice sk.a sk.len sk.cap,.slice (Td ⟨kb,0,Te⟩) 1 1]) g K:=by
  intro g kb kg au K hK;have L:=Later.same O.ag kg;have zg:=kg.size;have P:=O.call L;refine ORow.app m9 (by omega) L.ag P.keys (by omega) au aj (by omega) λs1 g2 bk1 G N C r=>hK s1 g2 bk1 ?_ r N;have ax:AgM M g2:=AgM.app L.ag r λc f=>(P.keys.own c f).2.2;refine⟨ax,?_,G,?_,?_,?_,⟨by omega,λj V=>?_⟩,by omega⟩;have:=P.box;unfold Blk at this ⊢;rw[r b (by omega) O.nk];exact this;refine P.items.frame (λc f=>r c (P.items.own c f).2.1 λhk=>O.dj c hk f) (Fr.le.refl _) λc f=>(P.items.own c f).2.2;intro f;rcases C b f with q|q;exact O.nk q;omega;intro c f hi;rcases C c f with q|q;exact O.dj c q hi;have:=(P.items.own c hi).2.1;omega;rw[r j (by omega) λhk=>by have:=(P.keys.own j hk).1;omega];exact kg.get j (by omega)
 have fin:∀(s1 s2:Sl) (u m:zc) (bk1 i:List Nat),ObK lo h M b (ks++[key]) xs sk si s1 bk bi bk1 u->ORow lo m M .tree (xs++[x]) s2 i->u.size<=m.size->(∀c∈i,c∈bi\/u.size<=c)->(∀j,j<u.size->j∉bi->m[j]?=u[j]?) ->
   ∃a:Addr,Td (⟨b,0,Te⟩:Addr)=Td a/\XRunU Tp (Uj 22 (.pointer (Td (Ue a 2))) (.slice s1.a s1.len s1.cap)) m (λg5=>∃a:Addr,Td (⟨b,0,Te⟩:Addr)=Td a/\XRunU Tp (Uj 23 (.pointer (Td (Ue a 3))) (.slice s2.a s2.len s2.cap)) g5 (λZ=>K (.tuple #[]) Z)):=by
  intro s1 s2 u m bk1 i A G N C r;have aA:=A.box.lt;have aQ:=A.grow;have ak:Blk m b (zf 6 ⟨#[]⟩ sk si).toArray:=by have:=A.box;unfold Blk at this ⊢;rw[r b aA O.ni];exact this
  have al:b∉i:=λf=>by rcases C b f with q|q;exact O.ni q;omega
  have H:ORow lo m M .str (ks++[key]) s1 bk1:=A.keys.frame (λc f=>r c (A.keys.own c f).2.1 (A.dj c f)) (Fr.le.refl _) λc f=>(A.keys.own c f).2.2;have aJ:AgM M m:=AgM.app A.ag r λc f=>(A.items.own c f).2.2;refine⟨_,rfl,?_⟩;refine jo QF QR (o:=2) ak (by show 2<4;omega) rfl λg5 q1 q2 q3=>⟨_,rfl,?_⟩;have q1:Blk g5 b (zf 6 ⟨#[]⟩ s1 si).toArray:=q1;refine jo EX Ex (o:=3) q1 (by show 3<4;omega) rfl λZ p1 p2 p3=>?_;have p1:Blk Z b (zf 6 ⟨#[]⟩ s1 s2).toArray:=p1;have f6:∀j,j≠b->Z[j]?=m[j]?:=λj V=>(p3 j V).trans (q3 j V);refine hK Z s1 s2 bk1 i ⟨AgM.but aJ O.no f6,p1,?_,?_,A.nk,al,?_,O.no,O.lo⟩ ⟨by have:=A.kp.size;omega,λj V=>?_⟩;exact H.frame (λc f=>f6 c λe=>A.nk (e ▸ f)) (Fr.le.refl _) λc f=>(H.own c f).2.2;exact G.frame (λc f=>f6 c λe=>al (e ▸ f)) (Fr.le.refl _) λc f=>(G.own c f).2.2;intro c f hi;rcases C c hi with q|q;exact A.dj c f q;have:=(A.keys.own c f).2.1;omega;rw[f6 j (by omega),r j (by omega) λhi=>by have:=(O.items.own j hi).1;omega];exact A.kp.get j V
 have p:∀(s1:Sl) (u:zc) (bk1:List Nat) (xb:Nat),ObK lo h M b (ks++[key]) xs sk si s1 bk bi bk1 u->Blk u xb (yb x y w).toArray->∀(K2:Value->zc->Prop),(∀(s2:Sl) (m:zc) (i:List Nat),ORow lo m M .tree (xs++[x]) s2 i->u.size<=m.size->(∀c∈i,c∈bi\/u.size<=c)->(∀j,j<u.size->j∉bi->m[j]?=u[j]?)->K2 (.slice s2.a s2.len s2.cap) m) ->
   qt Tp (Us #[23,23] 23 #[.slice si.a si.len si.cap,.slice (Td ⟨xb,0,Te⟩) 1 1]) u K2:=by
  intro s1 u bk1 xb A aF K2 aI;have:=A.grow;exact ORow.app rH (by omega) A.ag A.items (by omega) aF aL (by omega) λs2 m i G N C r=>aI s2 m i G N C r
 refine⟨_,rfl,sk,ai.cellAdd (by rfl),_,rfl,si,ai.cellAdd (by rfl),x.kind,x.text,y,w,b1.ld (cs:=yb x y w),?_,?_⟩;intro k;have aM:k.size=h1.size+1:=Uh _;have n:Keep h1.size h1 k:=Keep.push _ _ (Uf _);have ah:Blk k h1.size [UA key].toArray:=Blk.new _ _ _;clear_value k;have Q:Keep h.size h k:=k1.trans n (by omega);refine⟨n.get _ (show h.size<h1.size by omega),n.get _ (show b<h1.size by omega),n.get _ (show b<h1.size by omega),?_,?_⟩;refine t k h1.size Q ah _ λs1 D bk1 A T aZ=>⟨s1,rfl,?_,?_,?_⟩;refine(T h.size (by omega) λf=>?_).trans (n.get _ (by omega));have:=(O.keys.own _ f).2.1;omega;exact(T b (by omega) O.nk).trans (n.get _ (by omega));intro z;have aS:z.size=D.size+1:=Uh _;have aa:Keep D.size D z:=Keep.push _ _ (Uf _);have aB:Blk z D.size (yb x y w).toArray:=Blk.new _ _ _;clear_value z;refine⟨(aa.get _ (show b<D.size by omega)).trans ((T b (by omega) O.nk).trans (n.get _ (by omega))),?_⟩;have ae:=A.keep (by omega) aa;exact p s1 z bk1 D.size ae aB _ λs2 m i G N C r=>⟨s2,rfl,fin s1 s2 z m bk1 i ae G N C r⟩;intro E;have aU:E.size=k.size+1:=Uh _;have I:Keep k.size k E:=Keep.push _ _ (Uf _);have an:Blk E k.size (yb x y w).toArray:=Blk.new _ _ _;clear_value E;have ac:Keep h.size h E:=Q.trans I (by omega);refine⟨(I.get _ (show b<k.size by omega)).trans (n.get _ (by omega)),(I.get _ (show b<k.size by omega)).trans (n.get _ (by omega)),?_⟩;refine t E h1.size ac (ah.ofKeep I) _ λs1 U bk1 A Y aP=>⟨s1,rfl,?_,?_⟩;exact(Y b (by omega) O.nk).trans ((I.get _ (by omega)).trans (n.get _ (by omega)));have ar:Blk U k.size (yb x y w).toArray:=by have:=an;unfold Blk at this ⊢;rw[Y k.size (by omega) λf=>by have:=(O.keys.own _ f).2.1;omega];exact this
 exact p s1 U bk1 k.size A ar _ λs2 m i G N C r=>⟨s2,rfl,fin s1 s2 U m bk1 i A G N C r⟩;intro l;have aN:l.size=h1.size+1:=Uh _;have F:Keep h1.size h1 l:=Keep.push _ _ (Uf _);have aC:Blk l h1.size (yb x y w).toArray:=Blk.new _ _ _;clear_value l;refine⟨F.get _ (show b<h1.size by omega),F.get _ (show b<h1.size by omega),?_⟩;intro B;have aY:B.size=l.size+1:=Uh _;have J:Keep l.size l B:=Keep.push _ _ (Uf _);have ay:Blk B l.size [UA key].toArray:=Blk.new _ _ _;clear_value B;have am:Keep h.size h B:=(k1.trans F (by omega)).trans J (by omega);refine⟨(J.get _ (show b<l.size by omega)).trans (F.get _ (by omega)),(J.get _ (show b<l.size by omega)).trans (F.get _ (by omega)),?_⟩;refine t B l.size am ay _ λs1 S bk1 A af aV=>⟨s1,rfl,?_,?_⟩;exact(af b (by omega) O.nk).trans ((J.get _ (by omega)).trans (F.get _ (by omega)));have aE:Blk S h1.size (yb x y w).toArray:=by have:=aC.ofKeep J;unfold Blk at this ⊢;rw[af h1.size (by omega) λf=>by have:=(O.keys.own _ f).2.1;omega];exact this
 exact p s1 S bk1 h1.size A aE _ λs2 m i G N C r=>⟨s2,rfl,fin s1 s2 S m bk1 i A G N C r⟩
end
end Go.X
end
section
namespace Go.X
open Go Go.X Go.Proofs Go.Lib Go.RowKit
section
def d1:Tr:=.mk 3 (bl [49]) [] []
def d2:Tr:=.mk 3 (bl [50]) [] []
def d3:Tr:=.mk 3 (bl [51]) [] []
def d0:Tr:=.mk 3 (bl [48]) [] []
def dRa:Tr:=.mk 5 ⟨#[]⟩ [] [d1,d2]
def dRb:Tr:=.mk 5 ⟨#[]⟩ [] [d1,d3]
def dA:Tr:=.mk 6 ⟨#[]⟩ [⟨#[97]⟩,⟨#[98]⟩] [d1,dRa]
def dB:Tr:=.mk 6 ⟨#[]⟩ [⟨#[98]⟩,⟨#[99]⟩] [dRb,d0]
def dL:List cR:=[mC [⟨#[97]⟩],W9 [⟨#[98]⟩,ig 1] d3,mu [⟨#[99]⟩] d0]
theorem G8{a b:Bt}(h:decide (lb a<=lb b)=Ta):zj [a,b]=[a,b]:=by
 unfold zj;rw[List.mergeSort_of_pairwise];show[bl (lb a),bl (lb b)]=_;rw[jF,jF];refine VB.2 ⟨λy c=>?_,VB.2 ⟨λy c=>(by cases c),List.Pairwise.nil⟩⟩;have:y=lb b:=by simpa using c
 subst this;exact h
theorem SP:zj dA.keys=[⟨#[97]⟩,⟨#[98]⟩]:=G8 (by kernel_rfl)
theorem Ie:zj dB.keys=[⟨#[98]⟩,⟨#[99]⟩]:=G8 (by kernel_rfl)
theorem IJ:jt dRa.items dRb.items=Td [(0,0),(1,1)]:=by kernel_rfl
theorem Ix:dR 32 [⟨#[98]⟩] dRa dRb=[W9 [⟨#[98]⟩,ig 1] d3]:=by show(if y5 dRa dRb then []else if dRa.kind=6/\dRb.kind=6 then iO (dR 31) [⟨#[98]⟩] dRa dRb else if dRa.kind=5/\dRb.kind=5 then(match jt dRa.items dRb.items with|some m=>iN (dR 31) [⟨#[98]⟩] dRa dRb m|none=>[W9 [⟨#[98]⟩] dRb])else [W9 [⟨#[98]⟩] dRb])=_;rw[zv (by rw[show y5 dRa dRb=Tc by kernel_rfl];decide),zv (by decide),zA (by decide),IJ];kernel_rfl
theorem Sp:jN dA dB=dL:=by
 show(if y5 dA dB then []else if dA.kind=6/\dB.kind=6 then iO (dR 32) [] dA dB else if dA.kind=5/\dB.kind=5 then(match jt dA.items dB.items with|some m=>iN (dR 32) [] dA dB m|none=>[W9 [] dB])else [W9 [] dB])=_;rw[zv (by rw[show y5 dA dB=Tc by kernel_rfl];decide),zA (by decide)];unfold iO;rw[SP,Ie];have b:([⟨#[97]⟩,⟨#[98]⟩]:List Bt).filter (λk=>!dB.keys.contains k)=[⟨#[97]⟩]:=by kernel_rfl
 have i:([⟨#[97]⟩,⟨#[98]⟩]:List Bt).filter (λk=>dB.keys.contains k)=[⟨#[98]⟩]:=by kernel_rfl
 have c:([⟨#[98]⟩,⟨#[99]⟩]:List Bt).filter (λk=>!dA.keys.contains k)=[⟨#[99]⟩]:=by kernel_rfl
 rw[b,i,c];show[mC [⟨#[97]⟩]]++((dR 32 [⟨#[98]⟩] (Yv dA ⟨#[98]⟩) (Yv dB ⟨#[98]⟩)++[])++[mu [⟨#[99]⟩] (Yv dB ⟨#[99]⟩)])=_;have h:Yv dA ⟨#[98]⟩=dRa:=by kernel_rfl
 have e:Yv dB ⟨#[98]⟩=dRb:=by kernel_rfl
 have f:Yv dB ⟨#[99]⟩=d0:=by kernel_rfl
 rw[h,e,f,Ix];rfl
theorem Nq:zi dA=Ta:=by kernel_rfl
theorem HP:zi dB=Ta:=by kernel_rfl
theorem RN:jS dA dB=(dL,0):=by unfold jS;rw[Nq,HP,Sp];rfl
theorem Hq:ow dL=(bl [114,101,109,111,118,101,32,34,47,97,34,10,114,101,112,108,97,99,101,32,34,47,98,47,49,34,32,51,10,97,100,100,32,34,47,99,34,32,48,10],0):=by kernel_rfl
theorem HT:mL dL=[⟨#[47,97]⟩,⟨#[47,98,47,49]⟩,⟨#[47,99]⟩]:=by kernel_rfl
end
section
variable {f:FuncId} {args:Array Value} {h:zc} {g:Bool} {M:Fr} {b:Nat} {s1 s2:Bt} {k:Int} {a:Sl} {l:List Tr}
theorem He{x y:Sl}(e:aK x=aK y):x=y:=by unfold aK at e;injection e with e1 e2 e3;cases x;cases y;simp_all
theorem KI(i:g=Ta){b:Bool->zc->Prop}(E:XC Tp f args h λv h'=>∃r,v=.bool r/\b r h'):
  ∃J:Value->zc->Prop,(g=Ta->XC Tp f args h λv h'=>∃r:Bool,v=.bool r/\J (.bool r) h')/\(g=Tc->∃r:Bool,J (.bool r) h)/\(g=Ta->∀v h',J v h'->∃r:Bool,v=.bool r)/\∀r:Bool,∀h',J (.bool r) h'->b r h':=by
 refine⟨λv h'=>∃r,v=.bool r/\b r h',λ_=>XC.mono E λv h' ⟨r,e,H⟩=>⟨r,e,r,rfl,H⟩,λc=>(by rw[i]at c;cases c),λ_ v h' ⟨r,e,_⟩=>⟨r,e⟩,λr h' ⟨j,e,H⟩=>?_⟩;injection e with e;subst e;exact H
theorem Rf(i:g=Ta){b:Sl->zc->Prop}(E:XC Tp f args h λv h'=>∃s,v=aK s/\b s h'):
  ∃J:Value->zc->Prop,(g=Ta->XC Tp f args h λv h'=>∃s:Sl,v=aK s/\J (aK s) h')/\(g=Tc->∃s:Sl,J (aK s) h)/\(g=Ta->∀v h',J v h'->∃s:Sl,v=aK s)/\∀s:Sl,∀h',J (aK s) h'->b s h':=by
 refine⟨λv h'=>∃s,v=aK s/\b s h',λ_=>XC.mono E λv h' ⟨s,e,H⟩=>⟨s,e,s,rfl,H⟩,λc=>(by rw[i]at c;cases c),λ_ v h' ⟨s,e,_⟩=>⟨s,e⟩,λs h' ⟨j,e,H⟩=>?_⟩;rw[He e];exact H
theorem NE{h h1:zc}{s:Sl}(f:g=Ta){b:Sl->zc->Prop}(E:b s h1):
  ∃J:Value->zc->Prop,(g=Ta->J (aK s) h1)/\(g=Tc->∃x:Sl,J (aK x) h)/\(g=Ta->∀v h',J v h'->∃x:Sl,v=aK x)/\∀x:Sl,∀h',J (aK x) h'->b x h':=by
 refine⟨λv h'=>∃x,v=aK x/\b x h',λ_=>⟨s,rfl,E⟩,λc=>(by rw[f]at c;cases c),λ_ v h' ⟨x,e,_⟩=>⟨x,e⟩,λx h' ⟨i,e,H⟩=>?_⟩;rw[He e];exact H
theorem Pe(m:M b=Te){h f:Tr}{w1 w2:List Value}(h1:Rd M .tree h w1)(l:Rd M .tree f w2)(j:w1.length=4)(n:w2.length=4):Rd (Mx M b (w1++w2).toArray) (.row .tree) [h,f] [aK ⟨Td ⟨b,0,Te⟩,2,2⟩]:=by
 have le:Fr.le M (Mx M b (w1++w2).toArray):=λc cs e=>by unfold Mx;by_cases k:c=b;subst k;rw[m]at e;cases e;rw[zv k];exact e
 refine⟨_,rfl,_,_,rfl,by simp,.inr ⟨b,0,_,rfl,by unfold Mx;rw[zA rfl],λi hi=>?_⟩⟩;have hi:i<2:=hi;rcases(by omega:i=0\/i=1)with rfl|rfl;have:cut (w1++w2).toArray (0+0*sz .tree) (sz .tree)=w1:=by show List.take 4 (List.drop 0 (w1++w2))=w1;rw[WH,<-j,List.take_left]
 rw[this];exact Rd.mono le h1;have:cut (w1++w2).toArray (0+1*sz .tree) (sz .tree)=w2:=by show List.take 4 (List.drop 4 (w1++w2))=w2;rw[List.drop_left' j,<-n,UE]
 rw[this];exact Rd.mono le l
theorem Kz:Rd (Mx M b #[.string s1,.string s2]) (.row .str) [s1,s2] [aK ⟨Td ⟨b,0,Te⟩,2,2⟩]:=by refine⟨_,rfl,_,_,rfl,by simp,.inr ⟨b,0,_,rfl,by unfold Mx;rw[zA rfl],λi hi=>?_⟩⟩;have hi:i<2:=hi;rcases(by omega:i=0\/i=1)with rfl|rfl <;> rfl
theorem SN{s1 s2 c:Bt}:Rd (Mx M b #[.string s1,.string s2,.string c]) (.row .str) [s1,s2,c] [aK ⟨Td ⟨b,0,Te⟩,3,3⟩]:=by refine⟨_,rfl,_,_,rfl,by simp,.inr ⟨b,0,_,rfl,by unfold Mx;rw[zA rfl],λi hi=>?_⟩⟩;have hi:i<3:=hi;rcases(by omega:i=0\/i=1\/i=2)with rfl|rfl|rfl <;> rfl
def tV(k:Int)(s:Bt)(a b:Sl):Value:=.agg #[.int .i64 k,.string s,aK a,aK b]
theorem FP{T:Tr}{s:Bt}{a b:Sl}(h:RdV M .tree T (tV k s a b)):Rd M .tree T [.int .i64 k,.string s,aK a,aK b]:=by
 unfold RdV at h;simp only[Wo,if_true]at h;obtain⟨cs,e,c⟩:=h;unfold tV at e;injection e with e;have:cs=[.int .i64 k,.string s,aK a,aK b]:=by have:=congrArg VW e;simpa using this.symm
 rw[<-this];exact c
structure T22 (gl:Fr) (h0:zc) (M0:Fr) (ob:Nat) (ok oi:Sl) (hO:zc) (E:zc->Fr->Prop) (g:zc) (M:Fr):Prop where
 hM:Fr.le gl M
 L:Later h0 M0 g M
 fr:g[ob]?=hO[ob]?
 lt:ob<g.size
 r1:RdV M .tree d1 (tV d1.kind d1.text ok oi)
 e:E g M
structure Bx22 (h0:zc) (ob:Nat) (g:zc) (M:Fr) (b:Nat):Prop where
 B:Blk g b #[.int .i64 0,.string ⟨#[]⟩,aK ⟨Te,0,0⟩,aK ⟨Te,0,0⟩]
 no:M b=Te
 ne:b≠ob
 lo:h0.size<=b
section
variable {gl : Fr} {h0 : zc} {M0 : Fr} {ob : Nat} {ok oi : Sl} {hO : zc} {E : zc -> Fr -> Prop} {g g' : zc} {M M' : Fr}
theorem T22.later(b:∀{g M g' M'},Later g M g' M'->E g M->E g' M')(t:T22 gl h0 M0 ob ok oi hO E g M)(L:Later g M g' M'):T22 gl h0 M0 ob ok oi hO E g' M':= ⟨t.hM.trans L.le,t.L.trans L,(L.keep.get _ t.lt).trans t.fr,by have:=L.keep.size;have:=t.lt;omega,t.r1.mono L.le,b L t.e⟩
theorem Bx22.later(x:Bx22 h0 ob g M b)(L:Later g M g' M'):Bx22 h0 ob g' M' b:= ⟨x.B.keep (L.keep.get _ x.B.lt),by rw[L.old b x.B.lt];exact x.no,x.ne,x.lo⟩
theorem j5(ag:AgM M g)(a b:Bt):∃M',Later g M (g.push (.cells #[.string a,.string b] 9)) M'/\RdV M' (.row .str) [a,b] (aK ⟨Td ⟨g.size,0,Te⟩,2,2⟩):= ⟨_,Later.frz ag _ _,(Jd rfl).2 Kz⟩
theorem j6(ag:AgM M g){u w:Tr}{k f:Int}{s c:Bt}{a b e b':Sl}(r:RdV M .tree u (tV k s a b))(h:RdV M .tree w (tV f c e b')):
  ∃M',Later g M (g.push (.cells #[.int .i64 k,.string s,aK a,aK b,.int .i64 f,.string c,aK e,aK b'] 25)) M'/\RdV M' (.row .tree) [u,w] (aK ⟨Td ⟨g.size,0,Te⟩,2,2⟩):=
 ⟨_,Later.frz ag _ _,(Jd rfl).2 (Pe (w1:=[_,_,_,_]) (w2:=[_,_,_,_]) (ag.none (Uf _)) (FP r) (FP h) rfl rfl)⟩
theorem Zz(t:T22 gl h0 M0 ob ok oi hO E g M):Later g M (g.push (.cells #[.int .i64 0,.string ⟨#[]⟩,.slice Te 0 0,.slice Te 0 0] 25)) M/\Bx22 h0 ob (g.push (.cells #[.int .i64 0,.string ⟨#[]⟩,.slice Te 0 0,.slice Te 0 0] 25)) M g.size:= ⟨Later.same t.L.ag (Keep.push _ _ (Uf _)),Blk.new _ _ _,t.L.ag.none (Uf _),by have:=t.lt;omega,t.L.keep.size⟩
theorem jU(j:GL gl)(t:T22 gl h0 M0 ob ok oi hO E g M){n:Int}{d:Tr}(h1:-1000000<=n)(i:n<=1000000)(h:Tr.mk 3 (bl (Jw (qu (Lib.itoa n)).1)) [] []=d){K:Int->Bt->Sl->Sl->zc->Prop}(l:∀g' M' a b,Later g M g' M'->RdV M' .tree d (tV d.kind d.text a b)->K d.kind d.text a b g'):
  XC Tp 51 #[.int .i64 n] g λv g'=>∃k s a b,v=tV k s a b/\K k s a b g':=by
 refine(Fe j h1 i (R:=λr=>r=d) h).go t.hM t.L.ag (zn (a:=Arg.mk (.int .i64) n) (Yn _ _) qg) λw g' M' r L c e=>?_;have e:r=d:=e;subst e;have f:=Z2.1 c;obtain⟨a,b,rfl,_,_⟩:=qj f;exact⟨_,_,a,b,rfl,l g' M' a b L f⟩
theorem mN(t:T22 gl h0 M0 ob ok oi hO E g M){s:Sl}(r:RdV M (.row .tree) l (aK s)){K:Int->Bt->Sl->Sl->zc->Prop}(h:∀g' M' a b,Later g M g' M'->RdV M' .tree (.mk 5 ⟨#[]⟩ [] l) (tV 5 ⟨#[]⟩ a b)->K 5 ⟨#[]⟩ a b g'):
  XC Tp 52 #[aK s] g λv g'=>∃k s a b,v=tV k s a b/\K k s a b g':=by
 refine(Mv (gl:=gl) (l:=l) (R:=λr=>r=.mk 5 ⟨#[]⟩ [] l) rfl).go t.hM t.L.ag (zn (a:=Arg.mk (.row .tree) _) r qg) λw g' M' r L c e=>?_;have e:r=.mk 5 ⟨#[]⟩ [] l:=e;subst e;have f:=Z2.1 c;obtain⟨a,b,rfl,_,_⟩:=qj f;exact⟨_,_,a,b,rfl,h g' M' a b L f⟩
theorem tq(t:T22 gl h0 M0 ob ok oi hO E g M){ks:List Bt}{s f:Sl}(j:RdV M (.row .str) ks (aK f))(r:RdV M (.row .tree) l (aK s)){K:Int->Bt->Sl->Sl->zc->Prop}(i:∀g' M' a b,Later g M g' M'->RdV M' .tree (.mk 6 ⟨#[]⟩ ks l) (tV 6 ⟨#[]⟩ a b)->K 6 ⟨#[]⟩ a b g'):
  XC Tp 47 #[aK f,aK s] g λv g'=>∃k s a b,v=tV k s a b/\K k s a b g':=by
 refine(Pf (gl:=gl) (ks:=ks) (l:=l) (R:=λr=>r=.mk 6 ⟨#[]⟩ ks l) rfl).go t.hM t.L.ag (zn (a:=Arg.mk (.row .str) _) j (zn (a:=Arg.mk (.row .tree) _) r qg)) λw g' M' r L c e=>?_;have e:r=.mk 6 ⟨#[]⟩ ks l:=e;subst e;have h:=Z2.1 c;obtain⟨a,b,rfl,_,_⟩:=qj h;exact⟨_,_,a,b,rfl,i g' M' a b L h⟩
theorem Gm(t:T22 gl h0 M0 ob ok oi hO E g M)(x:Bx22 h0 ob g M b){s:Bt}{a c:Sl}{K:zc->Prop}
  (i:∀g',(∀j,j≠b->g'[j]?=g[j]?)->g'.size=g.size->Later h0 M0 g' M->Blk g' b #[.int .i64 k,.string s,aK a,aK c]->K g'):XRunU Tp (Uj 25 (.pointer (Td ⟨b,0,Te⟩)) (tV k s a c)) g K:=
 W0 x.B λg' f z B=>i g' f z ⟨⟨by have:=t.L.keep.size;omega,λj h=>(f j (by have:=x.lo;omega)).trans (t.L.keep.get j h)⟩,t.L.le,t.L.old,AgM.off t.L.ag λc m e=>f c λl=>by rw[l,x.no]at e;exact nomatch e⟩ B
end
theorem LX:Tr.mk 3 (bl (Jw (qu (Lib.itoa 1)).1)) [] []=d1:=by kernel_rfl
theorem sL:Tr.mk 3 (bl (Jw (qu (Lib.itoa 2)).1)) [] []=d2:=by kernel_rfl
theorem sR:Tr.mk 3 (bl (Jw (qu (Lib.itoa 3)).1)) [] []=d3:=by kernel_rfl
theorem tD:Tr.mk 3 (bl (Jw (qu (Lib.itoa 0)).1)) [] []=d0:=by kernel_rfl
theorem qV{b:Bs}(c:b.length<=2048):iu (.mk 3 (bl b) [] []):=by rw[iu,iD];exact⟨⟨by rw[zy];exact c,by simp⟩,trivial⟩
theorem Ag{b:Bs}(c:b.length<=2048):Sm (.mk 3 (bl b) [] []):=Sm.few (by rw[iW,ix];simp) (qV c)
theorem GX{a b:Bs}(c:a.length<=2048)(e:b.length<=2048):iu (.mk 5 ⟨#[]⟩ [] [.mk 3 (bl a) [] [],.mk 3 (bl b) [] []]):=by rw[iu,iD,iD,iD];exact⟨⟨by decide,by simp⟩,qV c,qV e,trivial⟩
theorem KM:Sm dA:=by
 refine Sm.few ?_ ?_;have:iW dA=7:=by kernel_rfl
 omega;unfold dA;rw[iu,iD,iD,iD];exact⟨⟨by decide,by decide⟩,qV (by decide),GX (by decide) (by decide),trivial⟩
theorem Mi:Sm dB:=by
 refine Sm.few ?_ ?_;have:iW dB=7:=by kernel_rfl
 omega;unfold dB;rw[iu,iD,iD,iD];exact⟨⟨by decide,by decide⟩,GX (by decide) (by decide),qV (by decide),trivial⟩
theorem oA{l:List Bt}(h1:decide (l.length<=200)=Ta)(b:l.all (λx=>decide ((lb x).length<=1024))=Ta):PS l:= ⟨zH h1,λx c=>zH (UI.1 b x c)⟩
theorem oZ:Sm zT:=Sm.few (by unfold zT;rw[iW,ix];simp) (by unfold zT;rw[iu,iD];exact⟨⟨by decide,by simp⟩,trivial⟩)
theorem D7:∀o∈dL,OpQ o:=λo b=>by unfold dL at b;simp only[Up,List.not_mem_nil,or_false]at b;rcases b with rfl|rfl|rfl;exact⟨oA (by kernel_rfl) (by kernel_rfl),oA (by kernel_rfl) (by kernel_rfl),oZ⟩;exact⟨oA (by kernel_rfl) (by kernel_rfl),oA (by kernel_rfl) (by kernel_rfl),Ag (by decide)⟩;exact⟨oA (by kernel_rfl) (by kernel_rfl),oA (by kernel_rfl) (by kernel_rfl),Ag (by decide)⟩
def E22(e:Nat)(c b:Sl)(g:zc)(M:Fr):Prop:=Blk g e #[.int .i64 6,.string ⟨#[]⟩,aK c,aK b]/\RdV M .tree dA (tV 6 ⟨#[]⟩ c b)
theorem E22.later{c:Nat}{f b:Sl}{g g':zc}{M M':Fr}(L:Later g M g' M')(e:E22 c f b g M):E22 c f b g' M':=⟨e.1.keep (L.keep.get _ e.1.lt),e.2.mono L.le⟩
def iJ(_:zc)(_:Fr):Prop:=True
end
end Go.X
end
section
namespace Go.X
open Go Go.X Go.Proofs Go.Lib Go.RowKit
set_option maxHeartbeats 4000000 in
set_option maxRecDepth 100000 in
section
theorem PT{gl:Fr}(hg:GL gl)(hb:Brn gl){R:Bool->Prop}(hR:R Ta):PC Tp gl 30 [] [.bool] R:=by
 intro h M vs hM ag ha
 match vs,ha with
 |[],_=>
 apply PX.of
 apply SK
 refine(Fe hg (n:=1) (by decide) (by decide) (R:=λr=>r=d1) LX).go hM ag (zn (a:=Arg.mk (.int .i64) 1) (Yn _ _) qg) λw E M2 r G Y hr=>?_
 have hr:r=d1:=hr
 subst hr
 have r1:=Z2.1 Y
 obtain⟨ok,oi,rfl,_,_⟩:=qj r1
 refine⟨_,_,ok,oi,rfl,?_⟩
 intro h7
 have k7:Keep E.size E h7:=Keep.push _ _ (Uf _)
 have z7:h7.size=E.size+1:=Uh _
 have b7:Blk h7 E.size #[.int .i64 0,.string ⟨#[]⟩,aK ⟨Te,0,0⟩,aK ⟨Te,0,0⟩]:=Blk.new _ _ _
 clear_value h7
 refine W0 b7 λh8 f8 z8 b8=>?_
 have V:Later E M2 h8 M2:=Later.same G.ag ⟨by omega,λj hj=>by rw[f8 j (by omega)];exact k7.get j hj⟩
 have cp:=G.trans V
 intro cG cm
 have kA:∀{g:zc} {Mg:Fr} {U:Nat} {ak ai:Sl},T22 gl h M E.size ok oi h8 iJ g Mg->Blk g U #[.int .i64 6,.string ⟨#[]⟩,aK ak,aK ai]->U≠E.size->RdV Mg .tree dA (tV 6 ⟨#[]⟩ ak ai)->cG ⟨U,0,Te⟩ g:=by
  intro P bq U ak ai an cC dd rA
  refine cm _ _ ?_
  intro cy cu
  have B1:Blk P E.size #[.int .i64 d1.kind,.string d1.text,aK ok,aK oi]:=b8.keep an.fr
  have I:T22 gl h M E.size ok oi P (E22 U ak ai) P bq:=⟨an.hM,an.L,rfl,an.lt,an.r1,cC,rA⟩
  have kB:∀{g:zc} {Mg:Fr} {bb:Nat} {bk bi:Sl},T22 gl h M E.size ok oi P (E22 U ak ai) g Mg->Blk g bb #[.int .i64 6,.string ⟨#[]⟩,aK bk,aK bi]->RdV Mg .tree dB (tV 6 ⟨#[]⟩ bk bi)->cy ⟨bb,0,Te⟩ g:=by
   intro cO cH bb bk bi aj cA rB
   refine cu _ _ ⟨_,_,ak,ai,aj.e.1.ld (cs:=[.int .i64 6,.string ⟨#[]⟩,aK ak,aK ai]),_,_,bk,bi,cA.ld (cs:=[.int .i64 6,.string ⟨#[]⟩,aK bk,aK bi]),?_⟩
   have dl:∀{v:Tr},decide (bR v<=100)=Ta->iI 1048576 v->Sm v:=λh1 E=>⟨by have:=zH h1;omega,E⟩
   refine(ER hg hb (x:=dA) (y:=dB) KM Mi (R:=λr=>r=(dL,0)) RN).go aj.hM aj.L.ag (zn (a:=Arg.mk .tree dA) aj.e.2 (zn (a:=Arg.mk .tree dB) rB qg)) λw c7 di r br Y hr=>?_
   have hr:r=(dL,0):=hr
   subst hr
   obtain⟨us,⟨x1,cJ,rfl,q1,x2,rfl,q2⟩,rfl⟩:=Y
   obtain⟨sl,rfl,rl⟩:=i0 q1
   rw[Jd rfl]at q2
   have e2:x2=.int .i64 0:=by simpa[Rd]using q2
   subst e2
   obtain⟨bA,_,_⟩:=rowLen rl
   have cE:sl.len=3:=bA
   refine⟨sl,_,rfl,?_⟩
   have L0:=aj.L.trans br
   refine(Sz hg hb (l:=dL) D7 (by decide) (R:=λr=>r=_) Hq).go (aj.hM.trans br.le) br.ag (zn (a:=Arg.mk (.row W8) dL) q1 qg) λw dh cZ r bn Y hr=>?_
   have hr:r=(bl [114,101,109,111,118,101,32,34,47,97,34,10,114,101,112,108,97,99,101,32,34,47,98,47,49,34,32,51,10,97,100,100,32,34,47,99,34,32,48,10],0):=hr
   subst hr
   obtain⟨us,⟨x1,cJ,rfl,q3,x2,rfl,q4⟩,rfl⟩:=Y
   rw[w7 q3]
   rw[Jd rfl]at q4
   have e4:x2=.int .i64 0:=by simpa[Rd]using q4
   subst e4
   refine⟨_,_,rfl,?_⟩
   have cv:(bif (bif (bif ((0:Int)==0)then((((sl.len:Nat):Int):Int)==3)else Tc)then((0:Int)==0)else Tc)then(((bl [114,101,109,111,118,101,32,34,47,97,34,10,114,101,112,108,97,99,101,32,34,47,98,47,49,34,32,51,10,97,100,100,32,34,47,99,34,32,48,10]:Bt)).toList==((⟨#[114,101,109,111,118,101,32,34,47,97,34,10,114,101,112,108,97,99,101,32,34,47,98,47,49,34,32,51,10,97,100,100,32,34,47,99,34,32,48,10]⟩:Bt):Bt).toList)else Tc)=Ta:=by
    rw[cE]
    kernel_rfl
   have bF:=L0.trans bn
   rw[cv]
   refine Rf rfl ?_
   refine(Lu hg (l:=dL) (λo ho=>(D7 o ho).s.p) (by decide) (R:=λr=>r=_) HT).go (hM.trans bF.le) bn.ag (zn (a:=Arg.mk (.row W8) dL) (q1.mono bn.le) qg) λw al bN r bP Y hr=>?_
   have hr:r=[⟨#[47,97]⟩,⟨#[47,98,47,49]⟩,⟨#[47,99]⟩]:=hr
   subst hr
   obtain⟨sp,rfl,rp⟩:=i0 (Z2.1 Y)
   refine⟨sp,rfl,?_⟩
   refine NE (s:=⟨Td ⟨al.size,0,Te⟩,3,3⟩) (h1:=al.push (.cells #[.string ⟨#[47,97]⟩,.string ⟨#[47,98,47,49]⟩,.string ⟨#[47,99]⟩] 9)) rfl ?_
   have bj:Later al bN (al.push (.cells #[.string ⟨#[47,97]⟩,.string ⟨#[47,98,47,49]⟩,.string ⟨#[47,99]⟩] 9)) (Mx bN al.size #[.string ⟨#[47,97]⟩,.string ⟨#[47,98,47,49]⟩,.string ⟨#[47,99]⟩]):=Later.frz bP.ag _ _
   have bO:=(bF.trans bP).trans bj
   refine KI rfl ?_
   refine(PW (gl:=gl) (a:=[⟨#[47,97]⟩,⟨#[47,98,47,49]⟩,⟨#[47,99]⟩]) (b:=[⟨#[47,97]⟩,⟨#[47,98,47,49]⟩,⟨#[47,99]⟩]) (by decide) (R:=λr=>r=Ta) λr hr=>hr.2 rfl).go (hM.trans bO.le) bj.ag (zn (a:=Arg.mk (.row .str) _) ((Jd rfl).2 (rp.mono bj.le)) (zn (a:=Arg.mk (.row .str) _) ((Jd rfl).2 SN) qg)) λw cV cF r cB Y hr=>⟨r,Ju Y,?_⟩
   have hr:r=Ta:=hr
   subst hr
   exact⟨cF,Ta,bO.trans cB,Z2.2 (rdBool _),hR⟩
  refine⟨_,_,ok,oi,B1.ld (cs:=[.int .i64 d1.kind,.string d1.text,aK ok,aK oi]),?_⟩
  intro bE bJ bI bS bH bM cd bG bU cj bC b6 bB bL cz cg bw
  have k:∀{g g':zc} {m aB:Fr},T22 gl h M E.size ok oi P (E22 U ak ai) g m->Later g m g' aB->T22 gl h M E.size ok oi P (E22 U ak ai) g' aB:=λt L=>t.later E22.later L
  have aH:∀{g:zc} {m:Fr} {u:Nat} {a c:Sl},T22 gl h M E.size ok oi P (E22 U ak ai) g m->Bx22 h E.size g m u->u≠U->RdV m .tree dB (tV 6 ⟨#[]⟩ a c)->bE ⟨u,0,Te⟩ 6 ⟨#[]⟩ a c g:=λ {g m u a c} t x Z r=>
   Gm t x λg' f z L B=>kB ⟨t.hM,L,(f _ (λe=>x.ne e.symm)).trans t.fr,by have:=t.lt;omega,t.r1,t.e.1.keep (f _ (λe=>Z e.symm)),t.e.2⟩ B r
  have aA:∀{g:zc} {m:Fr} {u:Nat} {si:Sl} {sk:Sl},T22 gl h M E.size ok oi P (E22 U ak ai) g m->Bx22 h E.size g m u->u≠U->RdV m (.row .tree) [dRb,d0] (aK si)->RdV m (.row .str) [⟨#[98]⟩,⟨#[99]⟩] (aK sk)->bJ ⟨u,0,Te⟩ si sk g:=by
   intro g m u si sk t x Z ri J
   refine tq t J ri λg1 m a1 b1 q v1=>?_
   exact aH (k t q) (x.later q) Z v1
  have aP:∀{g:zc} {m:Fr} {si:Sl} {sk:Sl},T22 gl h M E.size ok oi P (E22 U ak ai) g m->RdV m (.row .tree) [dRb,d0] (aK si)->RdV m (.row .str) [⟨#[98]⟩,⟨#[99]⟩] (aK sk)->bI si sk g:=by
   intro g m si sk t ri J
   refine⟨?_,?_⟩
   ·refine tq t J ri λg1 m a1 b1 q v1=>?_
    have⟨G,x2⟩:=Zz (k t q)
    exact aH (k (k t q) G) x2 (Nat.ne_of_gt (k t q).e.1.lt) v1
   ·have⟨L3,x3⟩:=Zz t
    exact aA (k t L3) x3 (Nat.ne_of_gt t.e.1.lt) ri J
  have aD:∀{g:zc} {m:Fr} {u:Nat} {aa:Int} {ac:Bt} {af ae:Sl} {A:Int} {C:Bt} {arr D:Sl} {sk:Sl},T22 gl h M E.size ok oi P (E22 U ak ai) g m->Bx22 h E.size g m u->u≠U->RdV m .tree d0 (tV aa ac af ae)->RdV m .tree dRb (tV A C arr D)->RdV m (.row .str) [⟨#[98]⟩,⟨#[99]⟩] (aK sk)->bS ⟨u,0,Te⟩ aa ac af ae A C arr D sk g:=by
   intro g m u aa ac af ae A C arr D sk t x Z r0 rr J
   have⟨m,q,i1⟩:=j6 t.L.ag rr r0
   exact aA (k t q) (x.later q) Z i1 (J.mono q.le)
  have aU:∀{g:zc} {m:Fr} {u:Nat} {si:Sl},T22 gl h M E.size ok oi P (E22 U ak ai) g m->Bx22 h E.size g m u->u≠U->RdV m (.row .tree) [dRb,d0] (aK si)->bH ⟨u,0,Te⟩ si g:=by
   intro g m u si t x Z ri
   have⟨m,q,k1⟩:=j5 t.L.ag ⟨#[98]⟩ ⟨#[99]⟩
   exact aA (k t q) (x.later q) Z (ri.mono q.le) k1
  have aT:∀{g:zc} {m:Fr} {aa:Int} {ac:Bt} {af ae:Sl} {A:Int} {C:Bt} {arr D:Sl} {sk:Sl},T22 gl h M E.size ok oi P (E22 U ak ai) g m->RdV m .tree d0 (tV aa ac af ae)->RdV m .tree dRb (tV A C arr D)->RdV m (.row .str) [⟨#[98]⟩,⟨#[99]⟩] (aK sk)->bM aa ac af ae A C arr D sk g:=by
   intro g m aa ac af ae A C arr D sk t r0 rr J
   refine⟨?_,?_⟩
   ·have⟨m,q,i1⟩:=j6 t.L.ag rr r0
    exact aP (k t q) i1 (J.mono q.le)
   ·have⟨G,x2⟩:=Zz t
    exact aD (k t G) x2 (Nat.ne_of_gt t.e.1.lt) r0 rr J
  have ar:∀{g:zc} {m:Fr} {u:Nat} {A:Int} {C:Bt} {arr D:Sl} {sk:Sl},T22 gl h M E.size ok oi P (E22 U ak ai) g m->Bx22 h E.size g m u->u≠U->RdV m .tree dRb (tV A C arr D)->RdV m (.row .str) [⟨#[98]⟩,⟨#[99]⟩] (aK sk)->cd ⟨u,0,Te⟩ A C arr D sk g:=by
   intro g m u A C arr D sk t x Z rr J
   refine jU hg t (by decide) (by decide) tD λg1 m a1 b1 q v1=>?_
   exact aD (k t q) (x.later q) Z v1 (rr.mono q.le) (J.mono q.le)
  have aI:∀{g:zc} {m:Fr} {u:Nat} {aa:Int} {ac:Bt} {af ae:Sl} {A:Int} {C:Bt} {arr D:Sl},T22 gl h M E.size ok oi P (E22 U ak ai) g m->Bx22 h E.size g m u->u≠U->RdV m .tree d0 (tV aa ac af ae)->RdV m .tree dRb (tV A C arr D)->bG ⟨u,0,Te⟩ aa ac af ae A C arr D g:=by
   intro g m u aa ac af ae A C arr D t x Z r0 rr
   refine⟨?_,?_⟩
   ·have⟨m,q,k1⟩:=j5 t.L.ag ⟨#[98]⟩ ⟨#[99]⟩
    exact aD (k t q) (x.later q) Z (r0.mono q.le) (rr.mono q.le) k1
   ·have⟨M2,G,i2⟩:=j6 t.L.ag rr r0
    exact aU (k t G) (x.later G) Z i2
  have aJ:∀{g:zc} {m:Fr} {A:Int} {C:Bt} {arr D:Sl} {sk:Sl},T22 gl h M E.size ok oi P (E22 U ak ai) g m->RdV m .tree dRb (tV A C arr D)->RdV m (.row .str) [⟨#[98]⟩,⟨#[99]⟩] (aK sk)->bU A C arr D sk g:=by
   intro g m A C arr D sk t rr J
   refine⟨?_,?_⟩
   ·refine jU hg t (by decide) (by decide) tD λg1 m a1 b1 q v1=>?_
    exact aT (k t q) v1 (rr.mono q.le) (J.mono q.le)
   ·have⟨G,x2⟩:=Zz t
    exact ar (k t G) x2 (Nat.ne_of_gt t.e.1.lt) rr J
  have ay:∀{g:zc} {m:Fr} {u:Nat} {sj:Sl} {sk:Sl},T22 gl h M E.size ok oi P (E22 U ak ai) g m->Bx22 h E.size g m u->u≠U->RdV m (.row .tree) [d1,d3] (aK sj)->RdV m (.row .str) [⟨#[98]⟩,⟨#[99]⟩] (aK sk)->cj ⟨u,0,Te⟩ sj sk g:=by
   intro g m u sj sk t x Z rj J
   refine mN t rj λg1 m a1 b1 q v1=>?_
   exact ar (k t q) (x.later q) Z v1 (J.mono q.le)
  have aY:∀{g:zc} {m:Fr} {u:Nat} {A:Int} {C:Bt} {arr D:Sl},T22 gl h M E.size ok oi P (E22 U ak ai) g m->Bx22 h E.size g m u->u≠U->RdV m .tree dRb (tV A C arr D)->bC ⟨u,0,Te⟩ A C arr D g:=by
   intro g m u A C arr D t x Z rr
   refine⟨?_,?_⟩
   ·have⟨m,q,k1⟩:=j5 t.L.ag ⟨#[98]⟩ ⟨#[99]⟩
    exact ar (k t q) (x.later q) Z (rr.mono q.le) k1
   ·refine jU hg t (by decide) (by decide) tD λg2 M2 a2 b2 G v2=>?_
    exact aI (k t G) (x.later G) Z v2 (rr.mono G.le)
  have a6:∀{g:zc} {m:Fr} {sj:Sl} {sk:Sl},T22 gl h M E.size ok oi P (E22 U ak ai) g m->RdV m (.row .tree) [d1,d3] (aK sj)->RdV m (.row .str) [⟨#[98]⟩,⟨#[99]⟩] (aK sk)->b6 sj sk g:=by
   intro g m sj sk t rj J
   refine⟨?_,?_⟩
   ·refine mN t rj λg1 m a1 b1 q v1=>?_
    exact aJ (k t q) v1 (J.mono q.le)
   ·have⟨G,x2⟩:=Zz t
    exact ay (k t G) x2 (Nat.ne_of_gt t.e.1.lt) rj J
  have au:∀{g:zc} {m:Fr} {u:Nat} {O:Int} {N:Bt} {S Q:Sl} {sk:Sl},T22 gl h M E.size ok oi P (E22 U ak ai) g m->Bx22 h E.size g m u->u≠U->RdV m .tree d3 (tV O N S Q)->RdV m (.row .str) [⟨#[98]⟩,⟨#[99]⟩] (aK sk)->bB ⟨u,0,Te⟩ O N S Q sk g:=by
   intro g m u O N S Q sk t x Z r3 J
   have⟨m,q,i1⟩:=j6 t.L.ag t.r1 r3
   exact ay (k t q) (x.later q) Z i1 (J.mono q.le)
  have aE:∀{g:zc} {m:Fr} {u:Nat} {sj:Sl},T22 gl h M E.size ok oi P (E22 U ak ai) g m->Bx22 h E.size g m u->u≠U->RdV m (.row .tree) [d1,d3] (aK sj)->bL ⟨u,0,Te⟩ sj g:=by
   intro g m u sj t x Z rj
   refine⟨?_,?_⟩
   ·have⟨m,q,k1⟩:=j5 t.L.ag ⟨#[98]⟩ ⟨#[99]⟩
    exact ay (k t q) (x.later q) Z (rj.mono q.le) k1
   ·refine mN t rj λg2 M2 a2 b2 G v2=>?_
    exact aY (k t G) (x.later G) Z v2
  have cc:∀{g:zc} {m:Fr} {O:Int} {N:Bt} {S Q:Sl} {sk:Sl},T22 gl h M E.size ok oi P (E22 U ak ai) g m->RdV m .tree d3 (tV O N S Q)->RdV m (.row .str) [⟨#[98]⟩,⟨#[99]⟩] (aK sk)->cz O N S Q sk g:=by
   intro g m O N S Q sk t r3 J
   refine⟨?_,?_⟩
   ·have⟨m,q,i1⟩:=j6 t.L.ag t.r1 r3
    exact a6 (k t q) i1 (J.mono q.le)
   ·have⟨G,x2⟩:=Zz t
    exact⟨(k t G).fr,au (k t G) x2 (Nat.ne_of_gt t.e.1.lt) r3 J⟩
  have aO:∀{g:zc} {m:Fr} {u:Nat} {sk:Sl},T22 gl h M E.size ok oi P (E22 U ak ai) g m->Bx22 h E.size g m u->u≠U->RdV m (.row .str) [⟨#[98]⟩,⟨#[99]⟩] (aK sk)->cg ⟨u,0,Te⟩ sk g:=by
   intro g m u sk t x Z J
   refine jU hg t (by decide) (by decide) sR λg1 m a1 b1 q v1=>?_
   exact⟨(k t q).fr,au (k t q) (x.later q) Z v1 (J.mono q.le)⟩
  have a7:∀{g:zc} {m:Fr} {u:Nat} {O:Int} {N:Bt} {S Q:Sl},T22 gl h M E.size ok oi P (E22 U ak ai) g m->Bx22 h E.size g m u->u≠U->RdV m .tree d3 (tV O N S Q)->bw ⟨u,0,Te⟩ O N S Q g:=by
   intro g m u O N S Q t x Z r3
   refine⟨?_,?_⟩
   ·have⟨m,q,k1⟩:=j5 t.L.ag ⟨#[98]⟩ ⟨#[99]⟩
    exact⟨(k t q).fr,au (k t q) (x.later q) Z (r3.mono q.le) k1⟩
   ·have⟨M2,G,i2⟩:=j6 t.L.ag t.r1 r3
    exact aE (k t G) (x.later G) Z i2
  refine⟨?_,?_,?_⟩
  ·have⟨m,q,k1⟩:=j5 I.L.ag ⟨#[98]⟩ ⟨#[99]⟩
   refine⟨(k I q).fr,?_,?_⟩
   ·refine jU hg (k I q) (by decide) (by decide) sR λg2 M2 a2 b2 G v2=>?_
    exact⟨(k (k I q) G).fr,cc (k (k I q) G) v2 (k1.mono G.le)⟩
   ·have⟨L3,x3⟩:=Zz (k I q)
    exact⟨(k (k I q) L3).fr,aO (k (k I q) L3) x3 (Nat.ne_of_gt (k I q).e.1.lt) k1⟩
  ·refine jU hg I (by decide) (by decide) sR λg4 M4 a4 b4 F v4=>?_
   refine⟨(k I F).fr,?_,?_,?_⟩
   ·have⟨M5,L5,k5⟩:=j5 (k I F).L.ag ⟨#[98]⟩ ⟨#[99]⟩
    exact⟨(k (k I F) L5).fr,cc (k (k I F) L5) (v4.mono L5.le) k5⟩
   ·have⟨M6,L6,i6⟩:=j6 (k I F).L.ag (k I F).r1 v4
    refine⟨?_,?_,?_⟩
    ·have⟨M7,L7,k7⟩:=j5 (k (k I F) L6).L.ag ⟨#[98]⟩ ⟨#[99]⟩
     exact a6 (k (k (k I F) L6) L7) (i6.mono L7.le) k7
    ·refine mN (k (k I F) L6) i6 λg8 M8 a8 b8 V v8=>?_
     refine⟨?_,?_,?_⟩
     ·have⟨M9,L9,k9⟩:=j5 (k (k (k I F) L6) V).L.ag ⟨#[98]⟩ ⟨#[99]⟩
      exact aJ (k (k (k (k I F) L6) V) L9) (v8.mono L9.le) k9
     ·refine jU hg (k (k (k I F) L6) V) (by decide) (by decide) tD λda bq cQ df T bm=>?_
      refine⟨?_,?_,?_⟩
      ·have⟨M11,L11,k11⟩:=j5 (k (k (k (k I F) L6) V) T).L.ag ⟨#[98]⟩ ⟨#[99]⟩
       exact aT (k (k (k (k (k I F) L6) V) T) L11) (bm.mono L11.le) ((v8.mono T.le).mono L11.le) k11
      ·have⟨M12,L12,i12⟩:=j6 (k (k (k (k I F) L6) V) T).L.ag (v8.mono T.le) bm
       refine⟨?_,?_⟩
       ·have⟨cH,L13,k13⟩:=j5 (k (k (k (k (k I F) L6) V) T) L12).L.ag ⟨#[98]⟩ ⟨#[99]⟩
        exact aP (k (k (k (k (k (k I F) L6) V) T) L12) L13) (i12.mono L13.le) k13
       ·have⟨L14,x14⟩:=Zz (k (k (k (k (k I F) L6) V) T) L12)
        exact aU (k (k (k (k (k (k I F) L6) V) T) L12) L14) x14 (Nat.ne_of_gt (k (k (k (k (k I F) L6) V) T) L12).e.1.lt) i12
      ·have⟨L15,x15⟩:=Zz (k (k (k (k I F) L6) V) T)
       exact aI (k (k (k (k (k I F) L6) V) T) L15) x15 (Nat.ne_of_gt (k (k (k (k I F) L6) V) T).e.1.lt) bm (v8.mono T.le)
     ·have⟨L16,x16⟩:=Zz (k (k (k I F) L6) V)
      exact aY (k (k (k (k I F) L6) V) L16) x16 (Nat.ne_of_gt (k (k (k I F) L6) V).e.1.lt) v8
    ·have⟨L17,x17⟩:=Zz (k (k I F) L6)
     exact aE (k (k (k I F) L6) L17) x17 (Nat.ne_of_gt (k (k I F) L6).e.1.lt) i6
   ·have⟨ah,x18⟩:=Zz (k I F)
    exact⟨(k (k I F) ah).fr,a7 (k (k I F) ah) x18 (Nat.ne_of_gt (k I F).e.1.lt) v4⟩
  ·have⟨L19,x19⟩:=Zz I
   refine⟨(k I L19).fr,?_,?_⟩
   ·have⟨M20,L20,k20⟩:=j5 (k I L19).L.ag ⟨#[98]⟩ ⟨#[99]⟩
    exact⟨(k (k I L19) L20).fr,aO (k (k I L19) L20) (x19.later L20) (Nat.ne_of_gt I.e.1.lt) k20⟩
   ·refine jU hg (k I L19) (by decide) (by decide) sR λcT dm c8 cY bg cw=>?_
    exact⟨(k (k I L19) bg).fr,a7 (k (k I L19) bg) (x19.later bg) (Nat.ne_of_gt I.e.1.lt) cw⟩

 have H:T22 gl h M E.size ok oi h8 iJ h8 M2:=⟨hM.trans cp.le,cp,rfl,by omega,r1,trivial⟩
 refine⟨_,_,ok,oi,b8.ld (cs:=[.int .i64 d1.kind,.string d1.text,aK ok,aK oi]),_,_,ok,oi,b8.ld (cs:=[.int .i64 d1.kind,.string d1.text,aK ok,aK oi]),?_⟩
 intro bQ bz cq bV bu cn bY co ck bZ b9 bT ca bD
 have i:∀{g g':zc} {m aB:Fr},T22 gl h M E.size ok oi h8 iJ g m->Later g m g' aB->T22 gl h M E.size ok oi h8 iJ g' aB:=λt L=>t.later (λ_ _=>trivial) L
 have aM:∀{g:zc} {m:Fr} {u:Nat} {a c:Sl},T22 gl h M E.size ok oi h8 iJ g m->Bx22 h E.size g m u->RdV m .tree dA (tV 6 ⟨#[]⟩ a c)->bQ ⟨u,0,Te⟩ 6 ⟨#[]⟩ a c g:=λ {g m u a c} t x r=>
  Gm t x λg' f z L B=>kA ⟨t.hM,L,(f _ (λe=>x.ne e.symm)).trans t.fr,by have:=t.lt;omega,t.r1,trivial⟩ B x.ne r
 have aC:∀{g:zc} {m:Fr} {u:Nat} {si:Sl} {sk:Sl},T22 gl h M E.size ok oi h8 iJ g m->Bx22 h E.size g m u->RdV m (.row .tree) [d1,dRa] (aK si)->RdV m (.row .str) [⟨#[97]⟩,⟨#[98]⟩] (aK sk)->bz ⟨u,0,Te⟩ si sk g:=by
  intro g m u si sk t x ri J
  refine tq t J ri λg1 m a1 b1 q v1=>?_
  exact aM (i t q) (x.later q) v1
 have aS:∀{g:zc} {m:Fr} {si:Sl} {sk:Sl},T22 gl h M E.size ok oi h8 iJ g m->RdV m (.row .tree) [d1,dRa] (aK si)->RdV m (.row .str) [⟨#[97]⟩,⟨#[98]⟩] (aK sk)->cq si sk g:=by
  intro g m si sk t ri J
  refine⟨?_,?_⟩
  ·refine tq t J ri λg1 m a1 b1 q v1=>?_
   have⟨G,x2⟩:=Zz (i t q)
   exact aM (i (i t q) G) x2 v1
  ·have⟨L3,x3⟩:=Zz t
   exact aC (i t L3) x3 ri J
 have az:∀{g:zc} {m:Fr} {u:Nat} {A:Int} {C:Bt} {arr D:Sl} {sk:Sl},T22 gl h M E.size ok oi h8 iJ g m->Bx22 h E.size g m u->RdV m .tree dRa (tV A C arr D)->RdV m (.row .str) [⟨#[97]⟩,⟨#[98]⟩] (aK sk)->bV ⟨u,0,Te⟩ A C arr D sk g:=by
  intro g m u A C arr D sk t x rr J
  have⟨m,q,i1⟩:=j6 t.L.ag t.r1 rr
  exact aC (i t q) (x.later q) i1 (J.mono q.le)
 have aN:∀{g:zc} {m:Fr} {u:Nat} {si:Sl},T22 gl h M E.size ok oi h8 iJ g m->Bx22 h E.size g m u->RdV m (.row .tree) [d1,dRa] (aK si)->bu ⟨u,0,Te⟩ si g:=by
  intro g m u si t x ri
  have⟨m,q,k1⟩:=j5 t.L.ag ⟨#[97]⟩ ⟨#[98]⟩
  exact aC (i t q) (x.later q) (ri.mono q.le) k1
 have aL:∀{g:zc} {m:Fr} {A:Int} {C:Bt} {arr D:Sl} {sk:Sl},T22 gl h M E.size ok oi h8 iJ g m->RdV m .tree dRa (tV A C arr D)->RdV m (.row .str) [⟨#[97]⟩,⟨#[98]⟩] (aK sk)->cn A C arr D sk g:=by
  intro g m A C arr D sk t rr J
  refine⟨?_,?_⟩
  ·have⟨m,q,i1⟩:=j6 t.L.ag t.r1 rr
   exact aS (i t q) i1 (J.mono q.le)
  ·have⟨G,x2⟩:=Zz t
   exact⟨(i t G).fr,az (i t G) x2 rr J⟩
 have ax:∀{g:zc} {m:Fr} {u:Nat} {sj:Sl} {sk:Sl},T22 gl h M E.size ok oi h8 iJ g m->Bx22 h E.size g m u->RdV m (.row .tree) [d1,d2] (aK sj)->RdV m (.row .str) [⟨#[97]⟩,⟨#[98]⟩] (aK sk)->bY ⟨u,0,Te⟩ sj sk g:=by
  intro g m u sj sk t x rj J
  refine mN t rj λg1 m a1 b1 q v1=>?_
  exact⟨(i t q).fr,az (i t q) (x.later q) v1 (J.mono q.le)⟩
 have aF:∀{g:zc} {m:Fr} {u:Nat} {A:Int} {C:Bt} {arr D:Sl},T22 gl h M E.size ok oi h8 iJ g m->Bx22 h E.size g m u->RdV m .tree dRa (tV A C arr D)->co ⟨u,0,Te⟩ A C arr D g:=by
  intro g m u A C arr D t x rr
  refine⟨?_,?_⟩
  ·have⟨m,q,k1⟩:=j5 t.L.ag ⟨#[97]⟩ ⟨#[98]⟩
   exact⟨(i t q).fr,az (i t q) (x.later q) (rr.mono q.le) k1⟩
  ·have⟨M2,G,i2⟩:=j6 t.L.ag t.r1 rr
   exact aN (i t G) (x.later G) i2
 have aQ:∀{g:zc} {m:Fr} {sj:Sl} {sk:Sl},T22 gl h M E.size ok oi h8 iJ g m->RdV m (.row .tree) [d1,d2] (aK sj)->RdV m (.row .str) [⟨#[97]⟩,⟨#[98]⟩] (aK sk)->ck sj sk g:=by
  intro g m sj sk t rj J
  refine⟨?_,?_⟩
  ·refine mN t rj λg1 m a1 b1 q v1=>?_
   exact⟨(i t q).fr,aL (i t q) v1 (J.mono q.le)⟩
  ·have⟨G,x2⟩:=Zz t
   exact⟨(i t G).fr,ax (i t G) x2 rj J⟩
 have am:∀{g:zc} {m:Fr} {u:Nat} {O:Int} {N:Bt} {S Q:Sl} {sk:Sl},T22 gl h M E.size ok oi h8 iJ g m->Bx22 h E.size g m u->RdV m .tree d2 (tV O N S Q)->RdV m (.row .str) [⟨#[97]⟩,⟨#[98]⟩] (aK sk)->bZ ⟨u,0,Te⟩ O N S Q sk g:=by
  intro g m u O N S Q sk t x r3 J
  have⟨m,q,i1⟩:=j6 t.L.ag t.r1 r3
  exact⟨(i t q).fr,ax (i t q) (x.later q) i1 (J.mono q.le)⟩
 have aV:∀{g:zc} {m:Fr} {u:Nat} {sj:Sl},T22 gl h M E.size ok oi h8 iJ g m->Bx22 h E.size g m u->RdV m (.row .tree) [d1,d2] (aK sj)->b9 ⟨u,0,Te⟩ sj g:=by
  intro g m u sj t x rj
  refine⟨?_,?_⟩
  ·have⟨m,q,k1⟩:=j5 t.L.ag ⟨#[97]⟩ ⟨#[98]⟩
   exact⟨(i t q).fr,ax (i t q) (x.later q) (rj.mono q.le) k1⟩
  ·refine mN t rj λg2 M2 a2 b2 G v2=>?_
   exact⟨(i t G).fr,aF (i t G) (x.later G) v2⟩
 have aZ:∀{g:zc} {m:Fr} {O:Int} {N:Bt} {S Q:Sl} {sk:Sl},T22 gl h M E.size ok oi h8 iJ g m->RdV m .tree d2 (tV O N S Q)->RdV m (.row .str) [⟨#[97]⟩,⟨#[98]⟩] (aK sk)->bT O N S Q sk g:=by
  intro g m O N S Q sk t r3 J
  refine⟨?_,?_⟩
  ·have⟨m,q,i1⟩:=j6 t.L.ag t.r1 r3
   exact⟨(i t q).fr,aQ (i t q) i1 (J.mono q.le)⟩
  ·have⟨G,x2⟩:=Zz t
   exact⟨(i t G).fr,(i t G).fr,am (i t G) x2 r3 J⟩
 have aG:∀{g:zc} {m:Fr} {u:Nat} {sk:Sl},T22 gl h M E.size ok oi h8 iJ g m->Bx22 h E.size g m u->RdV m (.row .str) [⟨#[97]⟩,⟨#[98]⟩] (aK sk)->ca ⟨u,0,Te⟩ sk g:=by
  intro g m u sk t x J
  refine jU hg t (by decide) (by decide) sL λg1 m a1 b1 q v1=>?_
  exact⟨(i t q).fr,(i t q).fr,am (i t q) (x.later q) v1 (J.mono q.le)⟩
 have be:∀{g:zc} {m:Fr} {u:Nat} {O:Int} {N:Bt} {S Q:Sl},T22 gl h M E.size ok oi h8 iJ g m->Bx22 h E.size g m u->RdV m .tree d2 (tV O N S Q)->bD ⟨u,0,Te⟩ O N S Q g:=by
  intro g m u O N S Q t x r3
  refine⟨?_,?_⟩
  ·have⟨m,q,k1⟩:=j5 t.L.ag ⟨#[97]⟩ ⟨#[98]⟩
   exact⟨(i t q).fr,(i t q).fr,am (i t q) (x.later q) (r3.mono q.le) k1⟩
  ·have⟨M2,G,i2⟩:=j6 t.L.ag t.r1 r3
   exact⟨(i t G).fr,aV (i t G) (x.later G) i2⟩
 refine⟨?_,?_,?_⟩
 ·have⟨m,q,k1⟩:=j5 H.L.ag ⟨#[97]⟩ ⟨#[98]⟩
  refine⟨(i H q).fr,(i H q).fr,?_,?_⟩
  ·refine jU hg (i H q) (by decide) (by decide) sL λg2 M2 a2 b2 G v2=>?_
   exact⟨(i (i H q) G).fr,(i (i H q) G).fr,aZ (i (i H q) G) v2 (k1.mono G.le)⟩
  ·have⟨L3,x3⟩:=Zz (i H q)
   exact⟨(i (i H q) L3).fr,(i (i H q) L3).fr,aG (i (i H q) L3) x3 k1⟩
 ·refine jU hg H (by decide) (by decide) sL λg4 M4 a4 b4 F v4=>?_
  refine⟨(i H F).fr,(i H F).fr,?_,?_,?_⟩
  ·have⟨M5,L5,k5⟩:=j5 (i H F).L.ag ⟨#[97]⟩ ⟨#[98]⟩
   exact⟨(i (i H F) L5).fr,(i (i H F) L5).fr,aZ (i (i H F) L5) (v4.mono L5.le) k5⟩
  ·have⟨M6,L6,i6⟩:=j6 (i H F).L.ag (i H F).r1 v4
   refine⟨(i (i H F) L6).fr,?_,?_,?_⟩
   ·have⟨M7,L7,k7⟩:=j5 (i (i H F) L6).L.ag ⟨#[97]⟩ ⟨#[98]⟩
    exact⟨(i (i (i H F) L6) L7).fr,aQ (i (i (i H F) L6) L7) (i6.mono L7.le) k7⟩
   ·refine mN (i (i H F) L6) i6 λg8 M8 a8 b8 V v8=>?_
    refine⟨(i (i (i H F) L6) V).fr,?_,?_,?_⟩
    ·have⟨M9,L9,k9⟩:=j5 (i (i (i H F) L6) V).L.ag ⟨#[97]⟩ ⟨#[98]⟩
     exact⟨(i (i (i (i H F) L6) V) L9).fr,aL (i (i (i (i H F) L6) V) L9) (v8.mono L9.le) k9⟩
    ·have⟨bq,T,i10⟩:=j6 (i (i (i H F) L6) V).L.ag (i (i (i H F) L6) V).r1 v8
     refine⟨?_,?_⟩
     ·have⟨M11,L11,k11⟩:=j5 (i (i (i (i H F) L6) V) T).L.ag ⟨#[97]⟩ ⟨#[98]⟩
      exact aS (i (i (i (i (i H F) L6) V) T) L11) (i10.mono L11.le) k11
     ·have⟨L12,x12⟩:=Zz (i (i (i (i H F) L6) V) T)
      exact aN (i (i (i (i (i H F) L6) V) T) L12) x12 i10
    ·have⟨L13,x13⟩:=Zz (i (i (i H F) L6) V)
     exact⟨(i (i (i (i H F) L6) V) L13).fr,aF (i (i (i (i H F) L6) V) L13) x13 v8⟩
   ·have⟨L14,x14⟩:=Zz (i (i H F) L6)
    exact⟨(i (i (i H F) L6) L14).fr,aV (i (i (i H F) L6) L14) x14 i6⟩
  ·have⟨L15,x15⟩:=Zz (i H F)
   exact⟨(i (i H F) L15).fr,(i (i H F) L15).fr,be (i (i H F) L15) x15 v4⟩
 ·have⟨L16,x16⟩:=Zz H
  refine⟨(i H L16).fr,(i H L16).fr,?_,?_⟩
  ·have⟨M17,L17,k17⟩:=j5 (i H L16).L.ag ⟨#[97]⟩ ⟨#[98]⟩
   exact⟨(i (i H L16) L17).fr,(i (i H L16) L17).fr,aG (i (i H L16) L17) (x16.later L17) k17⟩
  ·refine jU hg (i H L16) (by decide) (by decide) sL λcP dq cM de ah cL=>?_
   exact⟨(i (i H L16) ah).fr,(i (i H L16) ah).fr,be (i (i H L16) ah) (x16.later ah) cL⟩
end
end Go.X
end
section
namespace Go.X
open Go Go.X Go.Proofs Go.Lib Go.RowKit
section
variable {v a b:Tr} {o:cR}
def SQ(p:List Bt):Prop:=∀s∈p,(lb s).length<=1048576
theorem SQ.snoc{p:List Bt}(h:SQ p){s:Bt}(c:(lb s).length<=1048576):SQ (p++[s]):=λx b=>by rcases Uo.1 b with b|b;exact h x b;rw[Ut.1 b];exact c
def SmB(v:Tr):Prop:=Sm v/\bR v<=1000000
theorem TM:SmB zT:=⟨oZ,by unfold zT;rw[bR,jz];omega⟩
theorem SmB.item{v x:Tr}(h:SmB v)(b:x∈v.items):SmB x:=⟨h.1.item b,by have:=qn b;have:=h.2;omega⟩
theorem SmB.len(h:SmB v):v.items.length<=1000000:=by have:=h.2;have:=Zg v.items;have:=wq v;omega
theorem sA{l:List Tr}(h:∀x∈l,SmB x)(i:Nat):SmB (l.getD i zT):=by
 rw[Ux];cases e:l[i]? with
 |none=>exact TM
 |some x=>exact h x (VA e)
theorem vY{i:Nat}(hi:i<=1000000):(lb (ig i)).length<=1048576:=by unfold ig;rw[jf];have:=Go.X.itoa_len (i:Int);omega
theorem A5(b:Sm v){k:Bt}(c:k∈v.keys):(lb k).length<=1048576:=by rw[mr];exact((nH _ v).1 b.tx).1.2.2 k c
def OQ(n:Nat)(o:cR):Prop:=SQ o.2.1/\o.2.1.length<=n/\o.2.2.1=[]/\Sm o.2.2.2
theorem Cs{rw:List Tr->List Tr->Option (List (Nat×Nat))}(y:∀us ws m,rw us ws=Td m->Rising 0 0 us.length ws.length m):∀(f:Nat) (p:List Bt) (a b:Tr),SmB a->SmB b->SQ p->∀o∈il rw f p a b,OQ (p.length+f) o
 |0,p,a,b,_,_,_,o,c=>nomatch c
 |f+1,p,a,b,ha,hb,hp,o,c=>by
  have L:∀i,SmB (ij a i):=sA λx j=>ha.item j;have w:∀i,SmB (ij b i):=sA λx j=>hb.item j;have H:∀k,SmB (Yv a k):=λk=>sA (λx j=>ha.item j) _;have t:∀k,SmB (Yv b k):=λk=>sA (λx j=>hb.item j) _;have ln:∀s:Bt,(p++[s]).length=p.length+1:=λs=>by simp
  have sub:∀s u v,(lb s).length<=1048576->SmB u->SmB v->o∈il rw f (p++[s]) u v->OQ (p.length+(f+1)) o:=λs u v J C E h=>by obtain⟨h1,z,D,A⟩:=Cs y f (p++[s]) u v C E (hp.snoc J) o h;exact⟨h1,by rw[ln]at z;omega,D,A⟩
  have r:∀k∈zj a.keys,(lb k).length<=1048576:=λk e=>A5 ha.1 ((qe a.keys).mem_iff.1 e);have F:∀k∈zj b.keys,(lb k).length<=1048576:=λk e=>A5 hb.1 ((qe b.keys).mem_iff.1 e);have l:o∈[W9 p b]->OQ (p.length+(f+1)) o:=λh=>by rw[Ut.1 h];exact⟨hp,by show p.length<=_;omega,rfl,hb.1⟩
  unfold il at c;split at c;exact nomatch c;split at c;unfold iO at c;rcases Uo.1 c with c|c;obtain⟨k,e,rfl⟩:=UD.1 c;exact⟨hp.snoc (r k (U0.1 e).1),by show(p++[k]).length<=_;rw[ln];omega,rfl,oZ⟩;rcases Uo.1 c with c|c;obtain⟨k,e,h⟩:=Vy.1 c;exact sub k _ _ (r k (U0.1 e).1) (H k) (t k) h;obtain⟨k,e,rfl⟩:=UD.1 c;exact⟨hp.snoc (F k (U0.1 e).1),by show(p++[k]).length<=_;rw[ln];omega,rfl,(t k).1⟩;split at c;split at c;rename_i m B;have n:=(j4 (y _ _ _ B)).1;have la:=ha.len;have I:=hb.len;unfold iN at c;rcases Uo.1 c with c|c;obtain⟨q,G,h⟩:=Vy.1 c;exact sub _ _ _ (vY (by have:=n q G;omega)) (L q.1) (w q.2) h;rcases Uo.1 c with c|c;obtain⟨i,hi,rfl⟩:=UD.1 c;exact⟨hp.snoc (vY (by have:=UT.1 (U0.1 (List.mem_reverse.1 hi)).1;omega)),by show(p++[_]).length<=_;rw[ln];omega,rfl,oZ⟩;obtain⟨i,hi,rfl⟩:=UD.1 c;exact⟨hp.snoc (vY (by have:=UT.1 (U0.1 hi).1;omega)),by show(p++[_]).length<=_;rw[ln];omega,rfl,(w i).1⟩;exact l c;exact l c
theorem Lh(e:Sm a)(f:Sm b):∀o∈(jS a b).1,OQ 33 o:=λo c=>by unfold jS at c;split at c;rename_i h;rw[Uq]at h;have:=Cs Zd 33 [] a b ⟨e,by have:=GV.sz ⟨h.1,e⟩;omega⟩ ⟨f,by have:=GV.sz ⟨h.2,f⟩;omega⟩ (λs i=>nomatch i) o c;rwa[Vb,Uy]at this;exact nomatch c
theorem OQ.sl(h:OQ 33 o):SL o.2.1:=⟨by have:=h.2.1;omega,h.1⟩
theorem OQ.s(h:OQ 33 o):OpS o:=⟨h.sl,by rw[h.2.2.1];exact⟨by simp,by simp⟩,h.2.2.2⟩
theorem Oj(h:(jS a b).2=0):zi a=Ta/\zi b=Ta/\(jS a b).1=jN a b:=by unfold jS at h ⊢;split;rename_i c;rw[Uq]at c;exact⟨c.1,c.2,rfl⟩;rename_i c;rw[zv c]at h;exact nomatch h
theorem HG(ga:GV a)(gb:GV b):jN a b=[]↔y5 a b=Ta:= ⟨λh=>D9 Zd 33 [] a b (by have:=ga.dp;omega) ga.ok gb.ok h,λh=>TR h⟩
end
end Go.X
end
section
namespace Go.X
open Go Go.Lib
section
theorem Lw(i:Nat):lb (ig i)=decDigits i:=by unfold ig;rw[jf,II]
variable {t : Bt} {xs : List Tr}
end
section
variable {v:Tr}
def lU(x:Tr):Bool:=decide (x.kind≠7)&&zm x
theorem E6(h:lU v=Ta):zm v=Ta:=by unfold lU at h;simp_all
theorem Bn:∀(n:Nat) (v:Tr),bR v<=n->xp lU v=Ta->xp zm v=Ta
 |0,v,h,_=>by have:=Qg v;omega
 |n+1,v,h,hq=>D4 (E6 (Qi hq)) λy b=>Bn n y (by have:=qn b;omega) (yd hq b)
theorem CB(h:xp lU v=Ta):xp zm v=Ta:=Bn _ v (Uf _) h
section
variable {rw : List Tr -> List Tr -> Option (List (Nat × Nat))} {f : Nat} {a b : Tr}
end
end
section
variable {v w:Tr}
theorem Fb(h:xp lU v=Ta)(h1:bR v<=4096)(b:gK v<=32):zi v=Ta:=by unfold zi xq;rw[zJ h1,zJ b];exact h
theorem AX(h:zi v=Ta):xp lU v=Ta/\bR v<=4096/\gK v<=32:=by unfold zi xq at h;rw[Uq,Uq]at h;exact⟨h.2,zH h.1.1,zH h.1.2⟩
theorem BG:∀{l:Bs},l.all js=Ta->Qd l=Ta
 |[],_=>yP
 |c::l,h=>by rw[WC,Uq]at h;have:=TU h.1;rw[SZ (by omega)];exact BG h.2
theorem zW(i:Nat):Qd (lb (ig i))=Ta:=by rw[Lw];exact BG (Wz i i (Uf _)).1
theorem xG:yv []=Ta:=rfl
theorem Er{p:List Bt}(b:yv p=Ta):qc (mC p)=Ta:=by unfold qc mC;simp only[jf];rw[b,xG];decide
theorem JS{p:List Bt}(b:yv p=Ta)(c:zi w=Ta):qc (W9 p w)=Ta:=by unfold qc W9;simp only[jf];rw[b,xG,show ye Qk=(Ta,Tc,Ta)from rfl];simp[c]
theorem DR{p:List Bt}(b:yv p=Ta)(c:zi w=Ta):qc (mu p w)=Ta:=by unfold qc mu;simp only[jf];rw[b,xG,show ye nz=(Ta,Tc,Ta)from rfl];simp[c]
theorem Js{p:List Bt}{s:Bt}(f:p.length<64)(c:∀s∈p,Qd (lb s)=Ta)(b:Qd (lb s)=Ta):yv (p++[s])=Ta:=by unfold yv;rw[Uq,UI];refine⟨zJ (by rw[Uk];simp;omega),λx e=>?_⟩;rcases Uo.1 e with h|h;exact c x h;rw[Ut.1 h];exact b
theorem wG(h:xp lU v=Ta)(c:v.kind=6):∀k∈v.keys,Qd (lb k)=Ta:=λk b=>by have h:=E6 (Qi h);unfold zm j9 at h;simp[c]at h;exact h.1.1.1 k b
theorem Jt{v x:Tr}(h:x∈v.items):gK x+1<=gK v:=by have:=pF h;rw[Qf v];omega
theorem Bo{rw:List Tr->List Tr->Option (List (Nat×Nat))}(C:∀us ws m,rw us ws=Td m->Rising 0 0 us.length ws.length m):
  ∀(f:Nat) (p:List Bt) (a b:Tr),p.length+gK a<=64->p.length+gK b<=64->(∀s∈p,Qd (lb s)=Ta)->xp lU a=Ta->xp lU b=Ta->bR b<=4096->gK b<=32->∀o∈il rw f p a b,qc o=Ta
 |0,p,a,b,_,_,_,_,_,_,_=>λo e=>nomatch e
 |f+1,p,a,b,la,lb',hu,ha,hb,zb,db=>by
  have E:zi b=Ta:=Fb hb zb db;have G:yv p=Ta:=by unfold yv;rw[Uq,UI];exact⟨zJ (by omega),hu⟩
  have one:∀o∈[W9 p b],qc o=Ta:=λo e=>by rw[Ut.1 e];exact JS G E
  have l:∀{s x y},Qd (lb s)=Ta->x∈a.items->y∈b.items->∀o∈il rw f (p++[s]) x y,qc o=Ta:=λ {s x y} H l j=>by have h1:=Jt l;have u:=Jt j;have F:=qn j;refine Bo C f (p++[s]) x y (by rw[Uk];simp;omega) (by rw[Uk];simp;omega) (λz hz=>?_) (yd ha l) (yd hb j) (by omega) (by omega);rcases Uo.1 hz with h|h;exact hu z h;rw[Ut.1 h];exact H
  have D:∀{y},y∈b.items->zi y=Ta:=λ {y} j=>by have u:=Jt j;have F:=qn j;exact Fb (yd hb j) (by omega) (by omega)
  unfold il;split;exact λo e=>nomatch e;split;rename_i t;obtain⟨na,n⟩:=nE (CB ha) t.1;obtain⟨w,i⟩:=nE (CB hb) t.2;have A:=qe a.keys;have pb:=qe b.keys;intro o e;unfold iO at e;rcases Uo.1 e with h|h;obtain⟨k,c,rfl⟩:=UD.1 h;have c:=A.mem_iff.1 (U0.1 c).1;have:=Jt (ma na n c);exact Er (Js (by have:=Qf (Yv a k);omega) hu (wG ha t.1 k c));rcases Uo.1 h with h|h;obtain⟨k,c,h⟩:=Vy.1 h;obtain⟨h1,u⟩:=U0.1 c;have h1:=A.mem_iff.1 h1;exact l (wG ha t.1 k h1) (ma na n h1) (ma w i (List.contains_iff_mem.1 u)) o h;obtain⟨k,c,rfl⟩:=UD.1 h;have c:=pb.mem_iff.1 (U0.1 c).1;have:=Jt (ma w i c);exact DR (Js (by have:=Qf (Yv b k);omega) hu (wG hb t.2 k c)) (D (ma w i c));split;split;rename_i m I;obtain⟨r,_,_⟩:=j4 (C _ _ _ I);intro o e;unfold iN at e;rcases Uo.1 e with h|h;obtain⟨q,B,h⟩:=Vy.1 h;exact l (zW _) (l7 (r q B).2.1) (l7 (r q B).2.2.2) o h;rcases Uo.1 h with h|h;obtain⟨k,c,rfl⟩:=UD.1 h;have c:=UT.1 (U0.1 (List.mem_reverse.1 c)).1;have:=Jt (l7 c);exact Er (Js (by have:=Qf (ij a k);omega) hu (zW _));obtain⟨k,c,rfl⟩:=UD.1 h;have c:=UT.1 (U0.1 c).1;have:=Jt (l7 c);exact DR (Js (by have:=Qf (ij b k);omega) hu (zW _)) (D (l7 c));exact one;exact one
end
end Go.X
end
section
namespace Go.X
section
variable {M gl M':Fr} {b:Nat} {w:Value} {R:Tr -> Prop} {h g:zc} {ks:List Bt} {xs:List Tr}
theorem uW{b:Bool}(h:RdV M .bool b w):w=.bool b:=by rw[Jd rfl]at h;have:[w]=[Value.bool b]:=h;simpa using this
theorem Hj{s:Bt}(h:RdV M .str s w):w=.string s:=by rw[Jd rfl]at h;have:[w]=[UA s]:=h;simpa using this
def rC:Bt:=⟨#[111,112]⟩
def tu:Bt:=⟨#[112,97,116,104]⟩
def rV:Bt:=⟨#[102,114,111,109]⟩
def Ga:Bt:=⟨#[118,97,108,117,101]⟩
theorem S5{r:Bool×Bool×Bool}(h:Q5 M [.bool,.bool,.bool] r w):w=.tuple #[.bool r.1,.bool r.2.1,.bool r.2.2]:=by obtain⟨vs,⟨j,rest,rfl,e,i,b,rfl,c,f,rfl,hz⟩,rfl⟩:=h;rw[uW e,uW c,uW hz];rfl
def iC(s:Bt):Tr:=.mk 4 s [] []
def jR(p:List Bt):Bt:=bl (iA (p.map lb))
def pR(o:cR):List Bt:=([rC]++[tu])++((if(ye (lb o.1)).2.1=Ta then [rV]else [])++(if(ye (lb o.1)).1=Ta then [Ga]else []))
def qS(o:cR):List Tr:=([iC o.1]++[iC (jR o.2.1)])++((if(ye (lb o.1)).2.1=Ta then [iC (jR o.2.2.1)]else [])++(if(ye (lb o.1)).1=Ta then [o.2.2.2]else []))
def X0(o:cR):Tr:=.mk 6 ⟨#[]⟩ (pR o) (qS o)
theorem Ns{s:Bt}(h:R (iC s)):PC Tp gl 98 [Arg.mk .str s] [.tree] R:=by apply Ew;exact h
theorem OZ{r:Bt×Int}(h:Q5 M [.str,.int .i64] r w):w=.tuple #[.string r.1,.int .i64 r.2]:=by obtain⟨vs,⟨f,rest,rfl,c,e,rfl,b⟩,rfl⟩:=h;rw[Hj c,Xo b];rfl
theorem wE{r:Tr}(h:Q5 M [.tree] r w):∃sk si:Sl,w=.agg #[.int .i64 r.kind,.string r.text,aK sk,aK si]/\RdV M .tree r (.agg (yb r sk si).toArray):=by have h:=Z2.1 h;obtain⟨sk,si,e,_⟩:=qj h;exact⟨sk,si,e,by rw[e]at h;exact h⟩
theorem BQ{bs:List Nat}(L:Later h M g M')(e:∀c∈bs,h.size<=c):Later h M g (MxL M' g bs):=by
 refine⟨L.keep,L.le.trans (oI L.ag bs),λc f=>?_,MxL.ag L.ag bs⟩;have i:c∉bs:=λb=>by have:=e c b;omega
 rw[<-L.old c f];unfold MxL;rw[zv i]
theorem Obj.rd{lo:Nat}{sk si:Sl}{bk bi:List Nat}(O:Obj lo h M b ks xs sk si bk bi)(f:ks.length<=1000000/\xs.length<=1000000):RdV (MxL M h (bk++bi)) .tree (.mk 6 ⟨#[]⟩ ks xs) (.agg (zf 6 ⟨#[]⟩ sk si).toArray):=by refine zr (v:=.mk 6 ⟨#[]⟩ ks xs) ?_ ?_;exact O.keys.rd O.ag (λc e=>Uv _ e) f.1;exact O.items.rd O.ag (λc e=>UH _ e) f.2
structure Mk (h:zc) (M:Fr) (ab:List Value) (b:Nat) (g:zc) (M':Fr) (ks:List Bt) (xs:List Tr):Prop where
 la:Later h M g M'
 ab:Blk g h.size ab.toArray
 rb:∃cs:Array Value,Blk g (h.size+1) cs/\cs.size=4
 no:M' (h.size+1)=Te
 lt:h.size+1<b
 ob:∃sk si bk bi,Obj b g M' b ks xs sk si bk bi
theorem Mk.call{e:List Value}{g g':zc}{M' M'':Fr}(I:Mk h M e b g M' ks xs)(L:Later g M' g' M''):Mk h M e b g' M'' ks xs:=by obtain⟨cs,c,f⟩:=I.rb;obtain⟨sk,si,bk,bi,O⟩:=I.ob;exact⟨I.la.trans L,I.ab.ofKeep L.keep,⟨cs,c.ofKeep L.keep,f⟩,by rw[L.old _ c.lt];exact I.no,I.lt,⟨sk,si,bk,bi,O.call L⟩⟩
theorem Mk.more{l:List Value}(I:Mk h M l b g M' ks xs)(w:ks.length<=1000/\xs.length<=1000){key:Bt}{x:Tr}{m n:Sl}(u:RdV M' .tree x (.agg (yb x m n).toArray)){K:Value->zc->Prop} (q:∀g',Mk h M l b g' M' (ks++[key]) (xs++[x])->K (.tuple #[]) g'):
  XC Tp 139 #[.pointer (Td ⟨b,0,Te⟩),.string key,.agg #[.int .i64 x.kind,.string x.text,aK m,aK n]] g K:=by
 obtain⟨sk,si,bk,bi,O⟩:=I.ob;have t:=I.lt;refine IA O w u λg' f i c e k kp=>q g' ?_;have z:=I.la.keep.size;have p:Keep h.size h g':=⟨by have:=kp.size;have:=O.box.lt;omega,λj y=>by rw[kp.get j (by omega)];exact I.la.keep.get j y⟩;obtain⟨cs,o,r⟩:=I.rb;refine⟨⟨p,I.la.le,I.la.old,k.ag⟩,?_,⟨cs,?_,r⟩,I.no,t,⟨f,i,c,e,k⟩⟩;have:=I.ab;unfold Blk at this ⊢;rw[kp.get _ (by omega)];exact this;unfold Blk at o ⊢;rw[kp.get _ (by omega)];exact o
set_option maxHeartbeats 4000000 in
theorem MD(hg:GL gl){o:cR}(ho:OpS o)(hr:qc o=Ta)(hR:R (X0 o)):PC Tp gl 82 [Arg.mk W8 o] [.tree] R:=by
 have ae:yv o.2.1=Ta/\yv o.2.2.1=Ta:=by have:=hr;unfold qc at this;simp only[Uq]at this;exact⟨this.2.1,this.2.2.1⟩
 intro h M vs hM ag ha
 match vs,ha with
 |[u],⟨hu,_⟩=>
 have hu:RdV M W8 o u:=hu;obtain⟨sp,sf,sk,si,rfl,r1,r2,r3⟩:=yR hu;apply PX.of;apply Nx o.1 sp sf o.2.2.2.kind o.2.2.2.text sk si;intro h1 h2;have z1:h1.size=h.size+1:=Uh _;have z2:h2.size=h1.size+1:=Uh _;have k1:Keep h.size h h1:=Keep.push _ _ (Uf _);have k2:Keep h1.size h1 h2:=Keep.push _ _ (Uf _);have b1:Blk h1 h.size (zw o.1 sp sf o.2.2.2 sk si).toArray:=Blk.new _ _ _;have b2:Blk h2 h1.size (zf 0 ⟨#[]⟩ ⟨Te,0,0⟩ ⟨Te,0,0⟩).toArray:=Blk.new _ _ _;clear_value h1 h2;have K2:Keep h.size h h2:=k1.trans k2 (by omega);have L2:Later h M h2 M:=Later.same ag K2;have aE:M h1.size=Te:=by
  cases e:M h1.size with
  |none=>rfl
  |some cs=>have:=ag.lt e;omega
 have ax:=b1.ofKeep k2;refine⟨o.1,ax.cellAdd (by rfl),?_⟩;have hs:PC Tp gl 77 [Arg.mk .str o.1] [.bool,.bool,.bool] (λr=>r=ye (lb o.1)):=AR rfl;refine hs.go (vs:=[.string o.1]) (hM.trans L2.le) L2.ag (zn (rdStr _) qg) λw C M5 r L5 z Z=>?_;have Z:r=ye (lb o.1):=Z;subst Z;have z5:=L5.keep.size;refine⟨(ye (lb o.1)).1,(ye (lb o.1)).2.1,(ye (lb o.1)).2.2,S5 z,?_⟩;intro h9;have z9:h9.size=C.size+1:=Uh _;have k9:Keep C.size C h9:=Keep.push _ _ (Uf _);have b9:Blk h9 C.size (zf 0 ⟨#[]⟩ ⟨Te,0,0⟩ ⟨Te,0,0⟩).toArray:=Blk.new _ _ _;clear_value h9;refine q9 b9 rfl 6 ⟨#[]⟩ ⟨Te,0,0⟩ ⟨Te,0,0⟩ λar az aN aF=>?_;have ac:Keep C.size C ar:=⟨by omega,λj hj=>by rw[aF j (by omega)];exact k9.get j hj⟩;have La:=Later.same L5.ag ac;have ak:=(L2.trans L5).trans La;have aJ:M5 C.size=Te:=by
  cases e:M5 C.size with
  |none=>rfl
  |some cs=>have:=L5.ag.lt e;omega
 have ah:Mk h M (zw o.1 sp sf o.2.2.2 sk si) C.size ar M5 [] []:=by refine⟨ak,(ax.ofKeep L5.keep).ofKeep ac,⟨_,by rw[<-z1];exact(b2.ofKeep L5.keep).ofKeep ac,rfl⟩,by rw[<-z1,L5.old _ (by omega)];exact aE,by omega,⟨⟨Te,0,0⟩,⟨Te,0,0⟩,[],[],⟨ak.ag,az,ORow.nil,ORow.nil,by simp,by simp,(λc t=>by cases t),aJ,Uf _⟩⟩⟩
 have am:∀(s:Bt) (key:Bt) {g:zc} {M':Fr} {ks:List Bt} {xs:List Tr} (I:Mk h M (zw o.1 sp sf o.2.2.2 sk si) C.size g M' ks xs) (hn:ks.length<=1000/\xs.length<=1000) {K:zc->Prop},(∀g' M'',Mk h M (zw o.1 sp sf o.2.2.2 sk si) C.size g' M'' (ks++[key]) (xs++[iC s])->K g') ->
   XC Tp 98 #[.string s] g (λL G=>∃q:Int,∃n:Bt,∃b:Sl,∃i:Sl,L=.agg #[.int .i64 q,.string n,.slice b.a b.len b.cap,.slice i.a i.len i.cap] /\ XC Tp 139 #[.pointer (Td ⟨C.size,0,Te⟩),.string key,.agg #[.int .i64 q,.string n,.slice b.a b.len b.cap,.slice i.a i.len i.cap]] G (λN J=>N=.tuple #[]/\K J)):=by
  intro s key g M' ks xs I hn K hK;have aD:PC Tp gl 98 [Arg.mk .str s] [.tree] (λr=>r=iC s):=Ns rfl;refine aD.go (vs:=[.string s]) (hM.trans I.la.le) I.la.ag (zn (rdStr _) qg) λw g1 M1 r L1 z y=>?_;have y:r=iC s:=y;subst y;obtain⟨Q,P,rfl,hx⟩:=wE z;refine⟨(iC s).kind,(iC s).text,Q,P,rfl,?_⟩;exact(I.call L1).more hn hx λg' I'=>⟨rfl,hK g' M1 I'⟩
 have au:∀(p:List Bt) (key:Bt) (s:Sl) {g:zc} {M':Fr} {ks:List Bt} {xs:List Tr} (I:Mk h M (zw o.1 sp sf o.2.2.2 sk si) C.size g M' ks xs) (hn:ks.length<=1000/\xs.length<=1000) (hp:SL p) (aj:yv p=Ta) (hs:RdV M (.row .str) p (aK s)) {K:zc->Prop},(∀g' M'',Mk h M (zw o.1 sp sf o.2.2.2 sk si) C.size g' M'' (ks++[key]) (xs++[iC (jR p)])->K g') ->
   XC Tp 75 #[aK s] g (λal ai=>∃F:Bt,∃S:Int,al=.tuple #[.string F,.int .i64 S] /\ XC Tp 98 #[.string F] ai (λL G=>∃q:Int,∃n:Bt,∃b:Sl,∃i:Sl,L=.agg #[.int .i64 q,.string n,.slice b.a b.len b.cap,.slice i.a i.len i.cap] /\ XC Tp 139 #[.pointer (Td ⟨C.size,0,Te⟩),.string key,.agg #[.int .i64 q,.string n,.slice b.a b.len b.cap,.slice i.a i.len i.cap]] G (λN J=>N=.tuple #[]/\K J))):=by
  intro p key s g M' ks xs I hn hp aj hs K hK;have aA:PC Tp gl 75 [Arg.mk (.row .str) p] [.str,.int .i64] (λr=>r.1=jR p):=uK hg hp (λ_=>rfl) (λe=>by rw[aj]at e;cases e);refine aA.go (vs:=[aK s]) (hM.trans I.la.le) I.la.ag (zn (RdV.mono I.la.le hs) qg) λw g1 M1 r L1 z y=>?_;have y:r.1=jR p:=y;refine⟨r.1,r.2,OZ z,?_⟩;rw[y];exact am (jR p) key (I.call L1) hn hK
 have fin:∀(g:zc) (M':Fr) (ks:List Bt) (xs:List Tr),Mk h M (zw o.1 sp sf o.2.2.2 sk si) C.size g M' ks xs->(ks.length<=1000/\xs.length<=1000)->Tr.mk 6 ⟨#[]⟩ ks xs=X0 o ->
   ∃D:Int,∃E:Bt,∃l:Sl,∃m:Sl,ze g ⟨C.size,0,Te⟩ 0 [.int .i64 D,.string E,.slice l.a l.len l.cap,.slice m.a m.len m.cap] /\ XRunU Tp (Uj 25 (.pointer (Td ⟨h1.size,0,Te⟩)) (.agg #[.int .i64 D,.string E,.slice l.a l.len l.cap,.slice m.a m.len m.cap])) g (λT=>∃U:Int,∃Y:Bt,∃B:Sl,∃A:Sl,ze T ⟨h1.size,0,Te⟩ 0 [.int .i64 U,.string Y,.slice B.a B.len B.cap,.slice A.a A.len A.cap] /\ (∃M' r,Later h M T M'/\Q5 M' [.tree] r (.agg #[.int .i64 U,.string Y,.slice B.a B.len B.cap,.slice A.a A.len A.cap])/\R r)):=by
  intro g M' ks xs I hn e;obtain⟨Q,P,bk,bi,O⟩:=I.ob;obtain⟨cs,e1,e2⟩:=I.rb;rw[<-z1]at e1;have aO:=I.lt;refine⟨6,⟨#[]⟩,Q,P,O.box.ld (cs:=zf 6 ⟨#[]⟩ Q P),?_⟩;refine q9 e1 e2 6 ⟨#[]⟩ Q P λg' q1 q2 q3=>⟨6,⟨#[]⟩,Q,P,q1.ld (cs:=zf 6 ⟨#[]⟩ Q P),MxL M' g' (bk++bi),X0 o,?_,?_,hR⟩;have H:M' h1.size=Te:=by rw[z1];exact I.no
  have i2:=I.la.keep.size;have L':Later h M g' M':=⟨⟨by omega,λj hj=>by rw[q3 j (by omega)];exact I.la.keep.get j hj⟩,I.la.le,I.la.old,AgM.but I.la.ag H q3⟩;refine BQ L' λc t=>?_;rcases Uo.1 t with t|t;have:=(O.keys.own c t).1;omega;have:=(O.items.own c t).1;omega;have H:M' h1.size=Te:=by rw[z1];exact I.no
  have O':Obj C.size g' M' C.size ks xs Q P bk bi:=by refine⟨AgM.but I.la.ag H q3,?_,?_,?_,O.nk,O.ni,O.dj,O.no,O.lo⟩;have:=O.box;unfold Blk at this ⊢;rw[q3 _ (by omega)];exact this;exact O.keys.frame (λc t=>q3 c (by have:=(O.keys.own c t).1;omega)) (Fr.le.refl _) λc t=>(O.keys.own c t).2.2;exact O.items.frame (λc t=>q3 c (by have:=(O.items.own c t).1;omega)) (Fr.le.refl _) λc t=>(O.items.own c t).2.2
  rw[<-e];exact Z2.2 (O'.rd ⟨by omega,by omega⟩)
 refine⟨o.1,ah.ab.cellAdd (by rfl),?_⟩;refine am o.1 rC ah (by simp) λaM aP an=>?_;refine⟨sp,an.ab.cellAdd (by rfl),?_⟩;refine au o.2.1 tu sp an (by simp) ho.p ae.1 r1 λaB aC aa=>?_;intro aI af;have V:∀(g:zc) (M':Fr) (ks:List Bt) (xs:List Tr),Mk h M (zw o.1 sp sf o.2.2.2 sk si) C.size g M' ks xs->ks=([rC]++[tu])++(if(ye (lb o.1)).2.1=Ta then [rV]else [])->xs=([iC o.1]++[iC (jR o.2.1)])++(if(ye (lb o.1)).2.1=Ta then [iC (jR o.2.2.1)]else [])->aI g:=by
  intro g M' ks xs I e1 e2;have hn:ks.length<=999/\xs.length<=999:=by rw[e1,e2];split <;> simp
  apply af;refine⟨λt=>?_,λt=>?_⟩;refine⟨o.2.2.2.kind,o.2.2.2.text,sk,si,?_,?_⟩;exact⟨I.ab.cellAdd (o:=3) (k:=0) (by rfl),I.ab.cellAdd (o:=3) (k:=1) (by rfl),I.ab.cellAdd (o:=3) (k:=2) (by rfl),I.ab.cellAdd (o:=3) (k:=3) (by rfl),trivial⟩;have aG:PC Tp gl 90 [Arg.mk .tree o.2.2.2] [.tree] (λr=>r=o.2.2.2):=Mh hg ho.v (HO hr t) rfl;refine aG.go (vs:=[.agg #[.int .i64 o.2.2.2.kind,.string o.2.2.2.text,aK sk,aK si]]) (hM.trans I.la.le) I.la.ag (zn (RdV.mono I.la.le r3) qg) λw g1 M1 r L1 z y=>?_;have y:r=o.2.2.2:=y;subst y;obtain⟨Q,P,rfl,hx⟩:=wE z;refine⟨o.2.2.2.kind,o.2.2.2.text,Q,P,rfl,?_⟩;refine(I.call L1).more ⟨by omega,by omega⟩ hx λg' I'=>⟨rfl,?_⟩;refine fin g' M1 _ _ I' ⟨by simp;omega,by simp;omega⟩ ?_;unfold X0 pR qS;rw[e1,e2,zA t,zA t];simp only[UK];rfl;refine fin g M' ks xs I ⟨by omega,by omega⟩ ?_;unfold X0 pR qS;rw[e1,e2,t];simp
 refine⟨λt=>?_,λt=>?_⟩;refine⟨sf,aa.ab.cellAdd (by rfl),?_⟩;refine au o.2.2.1 rV sf aa (by simp) ho.f ae.2 r2 λaH aL ay=>?_;refine V aH aL _ _ ay ?_ ?_;rw[zA t];rfl;rw[zA t];rfl;refine V aB aC _ _ aa ?_ ?_;rw[t];simp;rw[t];simp
end
section
variable {M gl:Fr}
theorem I7(o:cR):(o.1,(o.2.1,(o.2.2.1,Tr.mk o.2.2.2.kind o.2.2.2.text o.2.2.2.keys o.2.2.2.items)))=o:=by rw[Zu]
theorem yK:RdV M .tree zT (.agg #[.int .i64 0,.string (⟨#[]⟩:Bt),.slice Te 0 0,.slice Te 0 0]):=by refine zr (v:=zT) (sk:=⟨Te,0,0⟩) (si:=⟨Te,0,0⟩) ?_ ?_;exact⟨_,rfl,Te,0,rfl,⟨by simp[zT],by simp[zT]⟩,.inl rfl⟩;exact⟨_,rfl,Te,0,rfl,⟨by simp[zT],by simp[zT]⟩,.inl rfl⟩
def iX(l:List Tr):Tr:=.mk 5 ⟨#[]⟩ [] l
def l6(l:List cR):Tr×Int:=if l.all qc=Ta then(if l.length<=4096 then(if zi (iX (l.map X0))=Ta then(iX (l.map X0),0)else(zT,1))else(zT,6))else(zT,1)
set_option maxHeartbeats 1000000 in
theorem I9{F:FuncId}{A C:Array Value}{h:zc}(ag:AgM M h){xs:List cR}{s:Sl}(y:Rd M (.row W8) xs [aK s]){p:cR->Bool}(q:∀x∈xs,rZ gl F A C h M W8 x (p x)):
  PX Tp 80 #[aK s,.func (.func F) A C] h M [.bool] (λr=>r=xs.any p):=by
 apply PX.of;apply wh s F A C;apply xg s F A C;obtain⟨w,G,B⟩:=rowLen y;refine⟨λi m=>∃k:Nat,i=k/\k<=xs.length/\(∃l,Later h M m l)/\(xs.take k).any p=Tc,λi _=>xs.length-i.toNat,⟨0,rfl,by omega,⟨M,Later.refl ag⟩,by simp⟩,?_⟩;rintro i m ⟨k,rfl,H,⟨l,e⟩,c⟩;refine⟨λo=>?_,λo=>?_⟩;have b:k<xs.length:=by simp at o;omega
 obtain⟨a,sp,sf,sk,si,D,z,E⟩:=ED e.ag (Rd.mono e.le y) b;refine⟨a,⟨D,by omega,by omega⟩,xs[k].1,sp,sf,xs[k].2.2.2.kind,xs[k].2.2.2.text,sk,si,by rw[Ui];exact z,(q _ (Ur b)).1,?_⟩;refine((q _ (Ur b)).2 m l _ e E).go λv I t r u f j=>⟨r,Ju f,λn=>?_,λn=>?_⟩;refine⟨(k:Int),rfl,t,_,e.trans u,Z2.2 (rdBool _),?_⟩;have:xs.any p=Ta:=XJ.2 ⟨xs[k],Ur b,by rw[<-j];exact n⟩;rw[this];simp;rw[ja b (by omega)];refine⟨⟨k+1,rfl,by omega,⟨t,e.trans u⟩,?_⟩,by simp only[Ui];omega⟩;rw[Un b,List.any_append,c];simp only[List.any_cons,List.any_nil,<-j,n];rfl;have b:k=xs.length:=by simp at o;omega
 subst b;rw[UE]at c;refine⟨-1,rfl,l,_,e,Z2.2 (rdBool _),?_⟩;rw[c];rfl
theorem Ml(l:List cR):l.any (λo=>!qc o)=!l.all qc:=by
 induction l with
 |nil=>rfl
 |cons o l b=>rw[List.any_cons,WC,b];cases qc o <;> rfl
set_option maxHeartbeats 4000000 in
theorem N0(hg:GL gl){l:List cR}(hl:∀o∈l,OpS o)(hn:l.length<=100000)(sm:l.all qc=Ta->l.length<=4096->Sm (iX (l.map X0))){R:Tr×Int->Prop}(G:R (l6 l)):PC Tp gl 45 [Arg.mk (.row W8) l] [.tree,.int .i64] R:=by
 intro h M vs hM ag ha
 match vs,ha with
 |[u],⟨hu,_⟩=>
 have hu:RdV M (.row W8) l u:=hu;obtain⟨sl,rfl,rl⟩:=i0 hu;obtain⟨ll,_,_⟩:=rowLen rl;apply PX.of;apply KU sl;intro h1;have k1:Keep h.size h h1:=Keep.push _ _ (Uf _);have b1:Blk h1 h.size (zf 0 ⟨#[]⟩ ⟨Te,0,0⟩ ⟨Te,0,0⟩).toArray:=Blk.new _ _ _;have z1:h1.size=h.size+1:=Uh _;clear_value h1;have L1:Later h M h1 M:=Later.same ag k1;have aL:M h.size=Te:=by
  cases e:M h.size with
  |none=>rfl
  |some cs=>have:=ag.lt e;omega
 have ret:∀(g:zc) (M':Fr) (r:Tr) (e:Int) (sk si:Sl) (bs:List Nat),Later h M g M'->(∃cs:Array Value,Blk g h.size cs/\cs.size=4)->M' h.size=Te->RdV M' .tree r (.agg (yb r sk si).toArray)->R (r,e) ->
   XRunU Tp (Uj 25 (.pointer (Td ⟨h.size,0,Te⟩)) (.agg #[.int .i64 r.kind,.string r.text,aK sk,aK si])) g (λg'=>∃V:Int,∃aa:Bt,∃p:Sl,∃m:Sl,ze g' ⟨h.size,0,Te⟩ 0 [.int .i64 V,.string aa,.slice p.a p.len p.cap,.slice m.a m.len m.cap] /\ (∃M' r',Later h M g' M'/\Q5 M' [.tree,.int .i64] r' (.tuple #[.agg #[.int .i64 V,.string aa,.slice p.a p.len p.cap,.slice m.a m.len m.cap],.int .i64 e])/\R r')):=by
  intro g M' r e sk si bs L hb hn y G;obtain⟨cs,e1,e2⟩:=hb;refine q9 e1 e2 r.kind r.text sk si λg' q1 q2 q3=>⟨r.kind,r.text,sk,si,q1.ld (cs:=zf r.kind r.text sk si),M',(r,e),?_,⟨[_,_],⟨_,_,rfl,y,_,rfl,Yn _ _⟩,rfl⟩,G⟩;have i2:=L.keep.size;exact⟨⟨by omega,λj hj=>by rw[q3 j (by omega)];exact L.keep.get j hj⟩,L.le,L.old,AgM.but L.ag hn q3⟩
 have ar:∀x∈l,rZ gl 81 #[] #[] h1 M W8 x (!qc x):=by
  intro x q;refine⟨by kernel_rfl,λh' M' u L hu=>?_⟩;have hp:PC Tp gl 81 [Arg.mk W8 x] [.bool] (λr=>r=!qc x):=by apply Ib;rw[I7];exact yB hg (hl x q) rfl
  exact hp.px (vs:=[u]) (hM.trans L.le) L.ag (zn hu qg)
 refine(I9 (gl:=gl) (F:=81) (A:=#[]) (C:=#[]) L1.ag rl ar).go λw f M3 r L3 t y=>?_;have y:r=l.any (λo=>!qc o):=y;rw[Ml]at y;subst y;have z3:=L3.keep.size;have aj:=L1.trans L3;have b3:=b1.ofKeep L3.keep;have af:M3 h.size=Te:=by rw[L3.old _ (by omega)];exact aL
 unfold l6 at G;refine⟨_,Ju t,λq=>?_,λq=>?_⟩;have J:¬l.all qc=Ta:=by simpa using q
 rw[zv J]at G;exact ret f M3 zT 1 ⟨Te,0,0⟩ ⟨Te,0,0⟩ [] aj ⟨_,b3,rfl⟩ af yK G;have I:l.all qc=Ta:=by simpa using q
 rw[zA I]at G;refine⟨λq=>?_,λq=>?_⟩;have:¬l.length<=4096:=by
  have:(sl.len:Int)>4096:=by simpa using q
  omega
 rw[zv this]at G;exact ret f M3 zT 6 ⟨Te,0,0⟩ ⟨Te,0,0⟩ [] aj ⟨_,b3,rfl⟩ af yK G;have az:l.length<=4096:=by
  have:¬(sl.len:Int)>4096:=by simpa using q
  omega
 rw[zA az]at G;intro T;have aY:Keep f.size f T:=Keep.push _ _ (Uf _);have aS:Blk T f.size (zf 0 ⟨#[]⟩ ⟨Te,0,0⟩ ⟨Te,0,0⟩).toArray:=Blk.new _ _ _;have bj:T.size=f.size+1:=Uh _;clear_value T;refine q9 aS rfl 5 ⟨#[]⟩ ⟨Te,0,0⟩ ⟨Te,0,0⟩ λaI aV a7 aG=>?_;have aB:Keep f.size f aI:=⟨by omega,λj hj=>by rw[aG j (by omega)];exact aY.get j hj⟩;have aO:=Later.same L3.ag aB;have aA:M3 f.size=Te:=by
  cases e:M3 f.size with
  |none=>rfl
  |some cs=>have:=L3.ag.lt e;omega
 refine⟨λi g=>∃(k:Nat) (M':Fr) (si:Sl) (bi:List Nat),i=k/\k<=l.length/\Later h M g M'/\(∃cs:Array Value,Blk g h.size cs/\cs.size=4)/\M' h.size=Te/\Blk g f.size (zf 5 ⟨#[]⟩ ⟨Te,0,0⟩ si).toArray/\M' f.size=Te/\ORow (f.size+1) g M' .tree ((l.take k).map X0) si bi,λi _=>l.length-i.toNat,⟨0,M3,⟨Te,0,0⟩,[],rfl,by omega,aj.trans aO,⟨_,b3.ofKeep aB,rfl⟩,af,aV,aA,ORow.nil⟩,?_⟩;rintro i g ⟨k,M',si,bi,rfl,hk,L,aF,ak,n,aT,D⟩;refine⟨λB=>?_,λB=>?_⟩;have z:k<l.length:=by simp at B;omega
 obtain⟨a,sp,sf,ck,ci,e1,e2,e3⟩:=ED L.ag (Rd.mono L.le rl) z;refine⟨a,⟨e1,by omega,by omega⟩,l[k].1,sp,sf,l[k].2.2.2.kind,l[k].2.2.2.text,ck,ci,by rw[Ui];exact e2,?_⟩;intro U;have k29:Keep g.size g U:=Keep.push _ _ (Uf _);have b29:Blk U g.size (zw ⟨#[]⟩ ⟨Te,0,0⟩ ⟨Te,0,0⟩ zT ⟨Te,0,0⟩ ⟨Te,0,0⟩).toArray:=Blk.new _ _ _;have be:U.size=g.size+1:=Uh _;clear_value U;refine PU b29 rfl l[k].1 sp sf l[k].2.2.2 ck ci λaE aP bg aQ=>?_;have aD:Keep g.size g aE:=⟨by omega,λj hj=>by rw[aQ j (by omega)];exact k29.get j hj⟩;have ae:=Later.same L.ag aD;have ba:=n.lt;refine⟨si,(n.ofKeep aD).cellAdd (by rfl),l[k].1,sp,sf,l[k].2.2.2.kind,l[k].2.2.2.text,ck,ci,aP.ld (cs:=zw l[k].1 sp sf l[k].2.2.2 ck ci),?_⟩;have aM:PC Tp gl 82 [Arg.mk W8 l[k]] [.tree] (λr=>r=X0 l[k]):=MD hg (hl _ (Ur z)) (UI.1 I _ (Ur z)) rfl;refine aM.go (vs:=[.agg (zw l[k].1 sp sf l[k].2.2.2 ck ci).toArray]) ((hM.trans L.le).trans ae.le) ae.ag (zn e3 qg) λw S E r P t y=>?_;have y:r=X0 l[k]:=y;subst y;obtain⟨dk,di,rfl,q⟩:=wE t;have bm:=P.keep.size;refine⟨(X0 l[k]).kind,(X0 l[k]).text,dk,di,rfl,P.keep.get _ (show f.size<aE.size by omega),?_⟩;intro Q;have au:Keep S.size S Q:=Keep.push _ _ (Uf _);have aJ:Blk Q S.size (yb (X0 l[k]) dk di).toArray:=Blk.new _ _ _;have a8:Q.size=S.size+1:=Uh _;clear_value Q;have aU:=Later.same P.ag au;refine⟨(au.get _ (show f.size<S.size by omega)).trans (P.keep.get _ (by omega)),?_⟩;have Y:Later g M' Q E:=(ae.trans P).trans aU;have b:=D.call Y;have a6:Rd E .tree (X0 l[k]) (yb (X0 l[k]) dk di):=by
  unfold RdV at q;simp only[Wo,if_true]at q;obtain⟨cs,e,y⟩:=q;have:yb (X0 l[k]) dk di=cs:=by injection e with e;simpa using congrArg VW e
  rw[this];exact y
 have aH:((l.take k).map X0).length=k:=by rw[Um,Ve];omega
 have H:=n.ofKeep Y.keep;refine ORow.app rH (by omega) Y.ag b (by omega) aJ a6 (by omega) λs' an bs' r1 r2 r3 r4=>⟨s',rfl,?_⟩;have aC:f.size∉bi:=λhm=>by have:=(b.own _ hm).1;omega
 have n0:h.size∉bi:=λhm=>by have:=(b.own _ hm).1;omega
 have al:Blk an f.size (zf 5 ⟨#[]⟩ ⟨Te,0,0⟩ si).toArray:=by unfold Blk at H ⊢;rw[r4 _ (by omega) aC];exact H
 refine jo EX Ex (o:=3) al (by show 3<4;omega) rfl λaZ q1 q2 q3=>?_;have q1:Blk aZ f.size (zf 5 ⟨#[]⟩ ⟨Te,0,0⟩ s').toArray:=q1;have ac:E f.size=Te:=by rw[Y.old _ (by omega)];exact aT
 have am:E h.size=Te:=by rw[Y.old _ (by omega)];exact ak
 have ay:AgM E an:=AgM.app Y.ag r4 λc B=>(b.own c B).2.2;have Lg:=L.trans Y;rw[ja z (by omega)];refine⟨⟨k+1,E,s',bs',rfl,by omega,⟨⟨by have:=Lg.keep.size;omega,λj hj=>?_⟩,Lg.le,Lg.old,AgM.but ay ac q3⟩,?_,am,q1,ac,?_⟩,by simp only[Ui];omega⟩;rw[q3 j (by omega),r4 j (by have:=Lg.keep.size;omega) λhm=>by have:=(b.own _ hm).1;omega];exact Lg.keep.get j hj;obtain⟨cs,e1,e2⟩:=aF;refine⟨cs,?_,e2⟩;have:=e1.ofKeep Y.keep;unfold Blk at this ⊢;rw[q3 _ (by omega),r4 _ (by omega) n0];exact this;rw[Un z,U3];exact r1.frame (λc B=>q3 c (by have:=(r1.own c B).1;omega)) (Fr.le.refl _) λc B=>(r1.own c B).2.2;have z:k=l.length:=by simp at B;omega
 subst z;rw[UE]at D;have aH:(l.map X0).length=l.length:=Um ..;refine⟨5,⟨#[]⟩,⟨Te,0,0⟩,si,n.ld (cs:=zf 5 ⟨#[]⟩ ⟨Te,0,0⟩ si),?_⟩;have Z:=D.own;have hv:RdV (MxL M' g bi) .tree (iX (l.map X0)) (.agg (zf 5 ⟨#[]⟩ ⟨Te,0,0⟩ si).toArray):=by refine zr (v:=iX (l.map X0)) (sk:=⟨Te,0,0⟩) ?_ ?_;exact⟨_,rfl,Te,0,rfl,⟨by simp[iX],by simp[iX]⟩,.inl rfl⟩;exact D.rd L.ag (λc B=>B) (by omega)
 have Lf:Later h M g (MxL M' g bi):=BQ L λc B=>by have:=(Z c B).1;omega
 have sm:=sm I az;have aN:PC Tp gl 49 [Arg.mk .tree (iX (l.map X0))] [.bool] (λr=>r=zi (iX (l.map X0))):=Ql hg sm rfl;refine aN.go (vs:=[.agg #[.int .i64 5,.string ⟨#[]⟩,aK ⟨Te,0,0⟩,aK si]]) (hM.trans Lf.le) Lf.ag (zn hv qg) λw ai ah r O t y=>?_;have y:r=zi (iX (l.map X0)):=y;subst y;have Lx:=Lf.trans O;have ax:∀c,c<=f.size->M' c=Te->ah c=Te:=λc B e=>by rw[O.old _ (by have:=n.lt;omega)];unfold MxL;rw[zv (λhm=>by have:=(Z _ hm).1;omega)];exact e
 have N:∃cs:Array Value,Blk ai h.size cs/\cs.size=4:=by obtain⟨cs,e1,e2⟩:=aF;exact⟨cs,e1.ofKeep O.keep,e2⟩
 refine⟨_,Ju t,λq=>?_,λq=>?_⟩;have J:¬zi (iX (l.map X0))=Ta:=by simpa using q
 rw[zv J]at G;exact ret ai ah zT 1 ⟨Te,0,0⟩ ⟨Te,0,0⟩ [] Lx N (ax _ (by omega) ak) yK G;have J:zi (iX (l.map X0))=Ta:=by simpa using q
 rw[zA J]at G;refine⟨5,⟨#[]⟩,⟨Te,0,0⟩,si,(n.ofKeep O.keep).ld (cs:=zf 5 ⟨#[]⟩ ⟨Te,0,0⟩ si),?_⟩;exact ret ai ah (iX (l.map X0)) 0 ⟨Te,0,0⟩ si [] Lx N (ax _ (by omega) ak) (RdV.mono O.le hv) G
end
end Go.X
end
section
namespace Go.X
open Go Go.X Go.Proofs Go.Lib Go.RowKit
section
variable {v:Tr}
structure OpX (o:cR):Prop where
 s:OpS o
 d:o.1.size<=1048576
 p:(jR o.2.1).size<=1048576
 f:(jR o.2.2.1).size<=1048576
theorem vI{s:Bt}(h:s.size<=1048576):iI 1048576 (iC s):=by unfold iC;rw[iI,kW];exact⟨⟨h,by simp,by simp⟩,trivial⟩
theorem yE(s:Bt):bR (iC s)=1:=by rw[iC,bR,jz]
theorem DK{o:cR}(h:OpX o)(e:qc o=Ta):bR (X0 o)<=5000/\iI 1048576 (X0 o):=by
 have hz:=Lm e;constructor;unfold X0 qS;rw[bR,Za,Za,Za];have i:jz [iC o.1]=1:=by rw[jz,jz,yE]
 have m:jz [iC (jR o.2.1)]=1:=by rw[jz,jz,yE]
 have j:jz (if(ye (lb o.1)).2.1=Ta then [iC (jR o.2.2.1)]else [])<=1:=by split;rw[jz,jz,yE];omega;rw[jz];omega
 have l:jz (if(ye (lb o.1)).1=Ta then [o.2.2.2]else [])<=4096:=by split;rw[jz,jz];omega;rw[jz];omega
 omega;unfold X0;rw[iI];refine⟨⟨by decide,?_,?_⟩,?_⟩;unfold pR;simp only[Uk];split <;> split <;> simp;intro k b;unfold pR at b;have:k=rC\/k=tu\/k=rV\/k=Ga:=by simp only[Uo,Ut]at b;rcases b with(rfl|rfl)|b|b;exact .inl rfl;exact .inr (.inl rfl);split at b;exact .inr (.inr (.inl (Ut.1 b)));cases b;split at b;exact .inr (.inr (.inr (Ut.1 b)));cases b
 rcases this with rfl|rfl|rfl|rfl <;> decide;rw[Xs];intro x c;unfold qS at c;simp only[Uo,Ut]at c;rcases c with(rfl|rfl)|c|c;exact vI h.d;exact vI h.p;split at c;rw[Ut.1 c];exact vI h.f;cases c;split at c;rw[Ut.1 c];exact h.s.v.tx;cases c
theorem HD{l:List cR}(c:∀o∈l,OpX o)(h:l.all qc=Ta)(j:l.length<=4096):Sm (iX (l.map X0)):=by
 rw[UI]at h;constructor;have:∀m:List cR,(∀o∈m,OpX o/\qc o=Ta)->jz (m.map X0)<=m.length*5000:=by
  intro m;induction m with
  |nil=>intro _;simp[jz]
  |cons o m i=>intro f;have h1:=DK (f o (by simp)).1 (f o (by simp)).2;have k:=i λx c=>f x (by simp[c]);rw[UJ,jz,Uz];omega
 have h1:=this l λo b=>⟨c o b,h o b⟩;unfold iX;rw[bR];omega;unfold iX;rw[iI,Xs];refine⟨⟨by decide,by simp,by simp⟩,λx e=>?_⟩;obtain⟨o,b,rfl⟩:=UD.1 e;exact(DK (c o b) (h o b)).2
structure TxB (v:Tr):Prop where
 s:Sm v
 n:bR v<=4096
 t:iu v
theorem TxB.item{v x:Tr}(h:TxB v)(b:x∈v.items):TxB x:=⟨h.s.item b,by have:=qn b;have:=h.n;omega,Ac.1 ((vX v).1 h.t).2 x b⟩
theorem TxB.len(h:TxB v):v.items.length<=4096:=by have:=h.n;have:=Zg v.items;have:=wq v;omega
theorem TxB.zero:TxB zT:=⟨oZ,by unfold zT;rw[bR,jz];omega,by unfold zT;rw[iu,iD];exact⟨⟨by decide,by simp⟩,trivial⟩⟩
theorem TxB.getD{l:List Tr}(h:∀x∈l,TxB x)(i:Nat):TxB (l.getD i zT):=by
 rw[Ux];cases e:l[i]? with
 |none=>exact TxB.zero
 |some x=>exact h x (VA e)
theorem xF{i:Nat}(hi:i<=4096):(lb (ig i)).length<=5000:=by unfold ig;rw[jf];have:=Go.X.itoa_len (i:Int);omega
def SQ5(p:List Bt):Prop:=∀s∈p,(lb s).length<=5000
theorem SQ5.snoc{p:List Bt}(h:SQ5 p){s:Bt}(c:(lb s).length<=5000):SQ5 (p++[s]):=λx b=>by rcases Uo.1 b with b|b;exact h x b;rw[Ut.1 b];exact c
theorem TxB.key(b:TxB v){k:Bt}(c:k∈v.keys):(lb k).length<=5000:=by rw[mr];have:=((vX v).1 b.t).1.2 k c;omega
def OQ5(n:Nat)(o:cR):Prop:=SQ5 o.2.1/\o.2.1.length<=n/\o.2.2.1=[]/\TxB o.2.2.2
theorem Av{rw:List Tr->List Tr->Option (List (Nat×Nat))}(y:∀us ws m,rw us ws=Td m->Rising 0 0 us.length ws.length m):∀(f:Nat) (p:List Bt) (a b:Tr),TxB a->TxB b->SQ5 p->∀o∈il rw f p a b,OQ5 (p.length+f) o
 |0,p,a,b,_,_,_,o,c=>nomatch c
 |f+1,p,a,b,ha,hb,hp,o,c=>by
  have L:∀i,TxB (ij a i):=TxB.getD λx j=>ha.item j;have w:∀i,TxB (ij b i):=TxB.getD λx j=>hb.item j;have H:∀k,TxB (Yv a k):=λk=>TxB.getD (λx j=>ha.item j) _;have t:∀k,TxB (Yv b k):=λk=>TxB.getD (λx j=>hb.item j) _;have ln:∀s:Bt,(p++[s]).length=p.length+1:=λs=>by simp
  have sub:∀s u v,(lb s).length<=5000->TxB u->TxB v->o∈il rw f (p++[s]) u v->OQ5 (p.length+(f+1)) o:=λs u v J C E h=>by obtain⟨h1,z,D,A⟩:=Av y f (p++[s]) u v C E (hp.snoc J) o h;exact⟨h1,by rw[ln]at z;omega,D,A⟩
  have r:∀k∈zj a.keys,(lb k).length<=5000:=λk e=>ha.key ((qe a.keys).mem_iff.1 e);have F:∀k∈zj b.keys,(lb k).length<=5000:=λk e=>hb.key ((qe b.keys).mem_iff.1 e);have l:o∈[W9 p b]->OQ5 (p.length+(f+1)) o:=λh=>by rw[Ut.1 h];exact⟨hp,by show p.length<=_;omega,rfl,hb⟩
  unfold il at c;split at c;exact nomatch c;split at c;unfold iO at c;rcases Uo.1 c with c|c;obtain⟨k,e,rfl⟩:=UD.1 c;exact⟨hp.snoc (r k (U0.1 e).1),by show(p++[k]).length<=_;rw[ln];omega,rfl,TxB.zero⟩;rcases Uo.1 c with c|c;obtain⟨k,e,h⟩:=Vy.1 c;exact sub k _ _ (r k (U0.1 e).1) (H k) (t k) h;obtain⟨k,e,rfl⟩:=UD.1 c;exact⟨hp.snoc (F k (U0.1 e).1),by show(p++[k]).length<=_;rw[ln];omega,rfl,t k⟩;split at c;split at c;rename_i m B;have n:=(j4 (y _ _ _ B)).1;have la:=ha.len;have I:=hb.len;unfold iN at c;rcases Uo.1 c with c|c;obtain⟨q,G,h⟩:=Vy.1 c;exact sub _ _ _ (xF (by have:=n q G;omega)) (L q.1) (w q.2) h;rcases Uo.1 c with c|c;obtain⟨i,hi,rfl⟩:=UD.1 c;exact⟨hp.snoc (xF (by have:=UT.1 (U0.1 (List.mem_reverse.1 hi)).1;omega)),by show(p++[_]).length<=_;rw[ln];omega,rfl,TxB.zero⟩;obtain⟨i,hi,rfl⟩:=UD.1 c;exact⟨hp.snoc (xF (by have:=UT.1 (U0.1 hi).1;omega)),by show(p++[_]).length<=_;rw[ln];omega,rfl,w i⟩;exact l c;exact l c
theorem A0{gl:Fr}{m:Int}(f:0<=m/\m<=1000){R:Bool->Prop}(h:∀b,(b=Ta->(iW v:Int)<=m/\iu v)->R b):PC Tp gl 12 [Arg.mk .tree v,Arg.mk (.int .i64) m] [.bool] R:=by
 apply MM;rw[Zu];refine E4 v m 0 f (by omega) λr h1 j i=>⟨λb=>b=Ta->iu v,λ_=>AE v λb c=>c,λb c=>h _ λe=>?_⟩;cases hr:decide (r>=0)with
 |false=>rw[hr]at e;cases e
 |true=>
  rw[hr,zK]at e;have h0:0<=r:=by simp at hr;omega
  have:=i h0;exact⟨by omega,c hr e⟩
theorem OQ5.x{o:cR}(h:OQ5 33 o)(e:o.1.size<=100):OpX o:=by
 have b:OpS o:=⟨⟨by have:=h.2.1;omega,λs b=>by have:=h.1 s b;omega⟩,by rw[h.2.2.1];exact⟨by simp,by simp⟩,h.2.2.2.s⟩;refine⟨b,by omega,?_,?_⟩;unfold jR;have h1:=yF (l:=o.2.1.map lb) (m:=5000) λx c=>by obtain⟨s,b,rfl⟩:=UD.1 c;exact h.1 s b
 rw[Um]at h1;rw[zy];have:=h.2.1;omega;rw[h.2.2.1];decide
end
section
theorem LH(l:List cR):(l6 l).2≠0\/(l6 l).1.items.length=l.length:=by unfold l6;split;split;split;right;show(l.map X0).length=l.length;rw[Um];left;decide;left;decide;left;decide
set_option maxHeartbeats 1000000 in
theorem NG{gl:Fr}(p:GL gl)(H:Brn gl){a b:Tr}{R:Bool->Prop}(C:R Ta):PC Tp gl 8 [Arg.mk .tree a,Arg.mk .tree b] [.bool] R:=by
 apply J6;simp only[Zu];refine PT p H ?_;refine A0 (by omega) λb1 D=>⟨λr=>r=Ta->(iW b:Int)<=120/\iu b,λ_=>A0 (by omega) λb2 n=>n,λb2 n=>⟨λ_=>C,λA=>?_⟩⟩;have t:b1=Ta/\b2=Ta:=by cases b1 <;> cases b2 <;> simp at A;exact⟨rfl,rfl⟩
 obtain⟨N,Y⟩:=t;obtain⟨ka,I⟩:=D N;obtain⟨kb,tb⟩:=n N Y;have sa:Sm a:=Sm.few (by omega) I;have sb:Sm b:=Sm.few (by omega) tb;have Q:TxB a:=⟨sa,by have:=nK a;omega,I⟩;have Z:TxB b:=⟨sb,by have:=nK b;omega,tb⟩;refine ER p H sa sb ⟨λ_=>C,λA=>?_⟩;have hz:(jS a b).2=0:=by simpa using A
 obtain⟨G,M,E⟩:=Oj hz;have ga:GV a:=⟨G,sa⟩;have gb:GV b:=⟨M,sb⟩;rw[E];have j:∀o∈jN a b,OpS o:=λo u=>(Lh sa sb o (by rw[E];exact u)).s;have f:∀o∈jN a b,qc o=Ta:=by obtain⟨oa,za,da⟩:=AX G;obtain⟨ob,S,db⟩:=AX M;exact Bo Zd 33 [] a b (by simp;omega) (by simp;omega) (λs t=>nomatch t) oa ob S db
 have q:∀o∈jN a b,m7 o:=vG 33 [] a b;have y:∀o∈jN a b,OpX o:=λo u=>by have J:=Av Zd 33 [] a b Q Z (λs t=>nomatch t) o u;rw[Vb,Uy]at J;refine J.x ?_;rcases(q o u).2 with⟨e,_⟩|e|e <;> rw[e] <;> decide
 have L:=vu ga gb;have T:(jN a b).length<=4096:=by have:=Ad Zd 33 [] a b ga.ok gb.ok;have h1:=nK a;have F:=nK b;show(il jt 33 [] a b).length<=4096;omega
 generalize hl:jN a b=l at *;refine⟨λi=>∃k:Nat,i=(k:Int)/\k<=l.length,λi=>l.length-i.toNat,⟨0,rfl,UB _⟩,?_⟩;rintro i ⟨k,rfl,hk⟩;refine⟨λO=>?_,λO=>?_⟩;have c:k<l.length:=by simpa using O
 have w:0<=(k:Int)/\l[(k:Int).toNat]?=Td l[k]:=⟨by omega,by simp[c]⟩;have B:=Ur c;refine⟨l[k],w,?_⟩;simp only;refine yB p (j _ B) ?_;rw[f _ B];refine⟨l[k],λ_=>w,l[k],λ_=>w,l[k],λ_=>w,?_⟩;have V:(bif (!Ta)then Ta else(bif (bif (!((l[k].1:Bt).toList==((⟨#[97,100,100]⟩:Bt):Bt).toList))then(!((l[k].1:Bt).toList==((⟨#[114,101,109,111,118,101]⟩:Bt):Bt).toList))else Tc)then(!((l[k].1:Bt).toList==((⟨#[114,101,112,108,97,99,101]⟩:Bt):Bt).toList))else Tc))=Tc:=by simp only[uh];rcases(q _ B).2 with⟨e,_⟩|e|e <;> rw[e,jf] <;> rfl
 rw[V];refine⟨(λh=>nomatch h),λ_=>?_⟩;rw[ja c (by omega)];exact⟨⟨k+1,rfl,c⟩,by simp only[Ui];omega⟩;refine N0 p j (by omega) (λh1 F=>HD y h1 F) ?_;refine⟨λr=>r=y5 a b,λ_=>BK p sa sb (by rw[ga.open,gb.open];rfl),λU m=>?_⟩;have m:=m rfl;subst m;have d1:(((((l.length:Nat):Int):Int)==0)==y5 a b)=Ta:=by
  have z:(((l.length:Nat):Int)==0)=decide (l=[]):=by rw[UR];simp
  have P:l=[]↔y5 a b=Ta:=by rw[<-hl];exact HG ga gb
  rw[z,beq_iff_eq,UR,decide_eq_true_iff];exact P
 have d2:(bif ((l6 l).2 != 0)then Ta else((((l6 l).1.items.length:Nat):Int)==((l.length:Nat):Int)))=Ta:=by
  rcases LH l with h|h;have:((l6 l).2 != 0)=Ta:=by simpa using h
  rw[this];rfl;rw[h];cases((l6 l).2 != 0) <;> simp
 rw[d1,d2];exact C
end
end Go.X
end
