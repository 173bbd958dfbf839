/- A part of the proof: nothing is stated here for its own sake. -/
import Derived.Test.YtplilfikcimcbaaGreatDoorPhE
import Derived.Sort.OwnSortedInts
open _root_.Go.Addr renaming add->Ua
open _root_.Array renaming getElem?_eq_some_iff->Ut,push->VJ,size->UA,size_push->Ur
open _root_.Bool renaming and_eq_false_iff->VW,and_eq_true->Ui,and_true->V4,eq_iff_iff->Uy,not_eq_true'->WZ,or_eq_true->Vq
open _root_.Go.Builtin renaming append_->Ug,firstCells->VY
open _root_.Classical renaming byContradiction->WB
open _root_.Go.Instr renaming findNow->VX,keyThatStays->WT,mapUpdate->VC,sameNow->YB,storeAt->Ub
open _root_.Int renaming toNat_natCast->Ue
open _root_.Go.IntKind renaming i64->Ve,wrap->T9
open _root_.List renaming Pairwise->YC,all_cons->WQ,all_eq_true->Us,all_map->YO,append_assoc->UB,append_nil->UM,drop_eq_getElem_cons->UZ,drop_zero->VD,eq_nil_of_length_eq_zero->UK,ext_getElem?->Vd,filter_cons->VZ,getD_eq_getElem?_getD->U0,getElem?_eq_getElem->Ul,getElem?_eq_none->WC,getElem?_eq_some_iff->UE,getElem?_map->U2,getElem?_modify->Vj,getElem?_take->UU,getElem_append_left->Vt,getElem_append_right->VP,getElem_map->WE,getElem_mem->Up,getElem_of_mem->WK,getElem_set_self->XO,length->VA,length_append->Uf,length_cons->Uk,length_drop->UD,length_eq_zero_iff->Vk,length_map->Um,length_nil->UG,length_pos_iff->U5,length_range->XP,length_replicate->VI,length_set->WW,length_singleton->VH,length_take->UQ,map_append->U7,map_congr_left->WN,map_cons->Uq,map_fst_zip->XZ,map_id->YU,map_map->U3,map_nil->V6,mem_append->Uv,mem_append_left->Un,mem_append_right->Uw,mem_cons->Uj,mem_cons_of_mem->Uo,mem_cons_self->Uu,mem_filter->WV,mem_flatMap->VO,mem_iff_getElem->V1,mem_map->US,mem_range->UY,mergeSort_perm->XD,nil_append->UX,nodup_cons->Vp,nodup_nil->XV,not_mem_nil->XY,pairwise_cons->Vn,pairwise_lt_range->XH,range->U8,range_succ->WY,replicate->Vh,take_append_drop->Vw,take_length->Uz,take_of_length_le->Vi,take_succ_cons->V7,take_succ_eq_append_getElem->Uh,take_zero->WU,zip_cons_cons->Vv
open _root_.List.Pairwise renaming nil->YT
open _root_.List.cons renaming injEq->Vu
open _root_.Nat renaming add_zero->WP,le_refl->Uc,le_trans->VB,lt_or_ge->U1,min_eq_left->V9,mul_le_mul_right->UC,mul_one->Vz,not_lt_zero->WJ,zero_add->UI,zero_le->UH
open _root_.Option renaming map_some->XK
open _root_.Option.some renaming inj->UO,injEq->Ud
open _root_.Prod.mk renaming injEq->Vg
open _root_.UInt8 renaming ofNat->UL,toNat_inj->XL
open _root_.Go.Value renaming int->UT,slice->VV,string->UJ
open _root_.Go.Value.slice renaming injEq->UW
set_option linter.unusedVariables false
set_option maxRecDepth 100000
namespace Go.X
end Go.X
namespace Go.Proofs
end Go.Proofs
open Go Go.X Go.Proofs
open _root_.Bool renaming true->Ta,false->Tc
open _root_.Option renaming some->Td,none->Te
namespace Go.X
section
open Go.RowKit
theorem xe{g:zb}{M:Fr}(ag:AgM M g){k:Int}{s:Bt}{sk si:Sl}{K:zb->Prop}(c:∀g',Later g M g' M->g'.size=g.size+1->Blk g' g.size #[.int .i64 k,.string s,aK sk,aK si]->K g'):
  XRunU Tp (Ub 25 (.pointer (Td ⟨g.size,0,Te⟩)) (.agg #[.int .i64 k,.string s,aK sk,aK si])) (VJ g (.cells #[.int .i64 0,.string ⟨#[]⟩,.slice Te 0 0,.slice Te 0 0] 25)) K:=by
 have e:Keep g.size g (VJ g (.cells #[.int .i64 0,.string ⟨#[]⟩,.slice Te 0 0,.slice Te 0 0] 25)):=Keep.push _ _ (Uc _);have i:(VJ g (.cells #[.int .i64 0,.string ⟨#[]⟩,.slice Te 0 0,.slice Te 0 0] 25)).size=g.size+1:=Ur _;have b:Blk (VJ g (.cells #[.int .i64 0,.string ⟨#[]⟩,.slice Te 0 0,.slice Te 0 0] 25)) g.size #[.int .i64 0,.string ⟨#[]⟩,.slice Te 0 0,.slice Te 0 0]:=Blk.new _ _ _;refine yq b λg' f z B=>c g' (Later.same ag ⟨by omega,λj h=>by grind⟩) (by omega) B
set_option maxRecDepth 100000 in
set_option maxHeartbeats 2000000 in
theorem Ck{gl:Fr}(hg:GL gl)(hb:Brn gl){lo:Nat}:∀(n:Nat) (v:Tr),n<=1000000->bR v<=n->Zy cX v=Ta->Sm v->∀(h:zb) (M:Fr) (b:Nat) (S:List (Bt×Int)) (bs:List Nat) (u:Value),AgM M h->Fr.le gl M->Tb lo h M b S bs->lo<=h.size->S.length<=513->RdV M .tree v u ->
  XC Tp 55 #[.pointer (Td ⟨b,0,Te⟩),u] h λr h'=>r=.tuple #[]/\∃M' bs',Grw h M b bs h' M' bs'/\Tb lo h' M' b (dA (S++Qh v S.length)) bs'
 |0,v,_,hz,_,_=>by have:=Zf v;omega
 |n+1,v,hn,hz,hok,hsm=>by
  intro h M b S bs u ag hM HB aL hS hu;obtain⟨sk,si,rfl,rk,ri⟩:=qq hu;have z:=hok;rw[yp,Ui]at z;have aP:v.items.length<=1000000:=by have:=ww v.items;rw[q9]at hz;omega
  have ih:∀(i:Nat) (hi:i<v.items.length) (h:zb) (M:Fr) (S:List (Bt×Int)) (bs:List Nat) (u:Value),AgM M h->Fr.le gl M->Tb lo h M b S bs->lo<=h.size->S.length<=513->RdV M .tree v.items[i] u ->
    XC Tp 55 #[.pointer (Td ⟨b,0,Te⟩),u] h λr h'=>r=.tuple #[]/\∃M' bs',Grw h M b bs h' M' bs'/\Tb lo h' M' b (dA (S++Qh v.items[i] S.length)) bs':=λi hi h M S bs u=>by
   have hm:=Up hi;have hs:=qi hm;have am:Zy cX v.items[i]=Ta:=by rw[yz,Us]at z;exact z.2 _ hm
   exact Ck hg hb n v.items[i] (by omega) (by omega) am (hsm.item hm) h M b S bs u
  obtain⟨li,_,_⟩:=rowLen ri;obtain⟨lk,_,_⟩:=rowLen rk;have aO:=HB.ltb;have ar:=HB.lt;apply SR (Td ⟨b,0,Te⟩) v.kind v.text sk si;intro h1;obtain⟨k1,z1,P1⟩:=jf (g:=h1) rfl;clear_value h1;intro h2;obtain⟨k2,z2,T2⟩:=jf (g:=h2) rfl;clear_value h2;have P2:=P1.ofKeep k2;have aH:Keep h.size h h2:=k1.trans k2 (by omega);have L2:Later h M h2 M:=Later.same ag aH;have aa:=HB.call L2;have row:Qh v S.length=(if v.kind=6 then Ja v.items v.keys S.length else if v.kind=5 then c9 v.items S.length else [])++[(dI v,(S.length:Int))]:=ly v _;have fin:∀(A:List (Bt×Int)) (lab:Bt) (F:FuncId) (C:Array Value),Qh v S.length=A++[(lab,(S.length:Int))]->zo Tp F=Ta -> (∀(h':zb) (M':Fr),Later h2 M h' M'->XC Tp F (#[]++#[]++C) h' λw h1=>w=.tuple #[]/\∃J t,Grw h' M' b bs h1 J t/\Tb lo h1 J b (dA (S++A)) t) ->
    ∀(h':zb) (M':Fr),Later h2 M h' M'->XC Tp 94 #[.pointer (Td ⟨b,0,Te⟩),.string lab,.func (.func F) #[] C] h' λr h3=>r=.tuple #[]/\Value.tuple #[]=Value.tuple #[]/\∃M' bs',Grw h M b bs h3 M' bs'/\Tb lo h3 M' b (dA (S++Qh v S.length)) bs':=by
   intro A lab F C ak hF hk h' M' H;have aQ:=H.keep.size;refine AS hF (aa.call H) (by omega) (oV (S++A)) (hk h' M' H) λh3 M3 ae T3 B3=>⟨rfl,rfl,M3,ae,Grw.ofCall (L2.trans H) T3 ar,?_⟩;have:=qE (S++A) λ_=>[(lab,(S.length:Int))];rw[this,UB,<-ak]at B3;exact B3
  refine⟨v.kind,T2.cellAdd (o:=0) (k:=0) rfl,λh5=>?_,λh5=>⟨λh6=>?_,λh6=>?_⟩⟩;have h5:v.kind=5:=by simpa using h5
  refine⟨Td ⟨b,0,Te⟩,P2.cell (o:=0) rfl,?_⟩;refine fin (c9 v.items S.length) ⟨#[91]⟩ _ _ (by rw[row,za (by omega),zA h5];unfold dI;rw[zA h5]) (by kernel_rfl) (λh' M' H=>?_) h2 M (Later.refl L2.ag);show XC _ _ #[.pointer (Td ⟨h1.size,0,Te⟩),.pointer (Td ⟨h.size,0,Te⟩)] _ _;have z':=H.keep.size;have T':Blk h' h1.size #[.int .i64 v.kind,.string v.text,aK sk,aK si]:=T2.keep (H.keep.get _ (by omega));have P':Blk h' h.size #[.pointer (Td ⟨b,0,Te⟩)]:=P2.keep (H.keep.get _ (by omega));have ah:=aa.call H;apply Xj ⟨h1.size,0,Te⟩ ⟨h.size,0,Te⟩;refine⟨si,T'.cellAdd (o:=0) (k:=3) rfl,λi g=>∃(m:Nat) (J:Fr) (t:List Nat),i=(m:Int)/\m<=v.items.length/\Grw h' M' b bs g J t/\Tb lo g J b (dA (S++c9 (v.items.take m) S.length)) t,λi _=>v.items.length-i.toNat,⟨0,M',bs,rfl,UH _,Grw.refl H.ag,by rw[WU,c9,UM,kE hS];exact ah⟩,?_⟩;rintro i g ⟨m,J,t,rfl,hm,T,B⟩;have gz:=T.grow;refine⟨λhc=>?_,λhc=>?_⟩;have I:m<v.items.length:=by have:=zC hc;omega
  obtain⟨a,ck,ci,ea,ab,t1,t2⟩:=Jt T.ag (ri.mono (H.le.trans T.le)) I;refine⟨a,⟨ea,by omega,by omega⟩,v.items[m].kind,v.items[m].text,ck,ci,by rw[Ue];exact ab,?_⟩;intro aC;refine xe T.ag λy E aG af=>?_;have Pg:Blk y h.size #[.pointer (Td ⟨b,0,Te⟩)]:=P'.keep ((E.keep.get h.size (by omega)).trans (T.fr h.size (by omega) (by omega) λhm=>by grind));refine⟨Td ⟨b,0,Te⟩,Pg.cell (o:=0) rfl,v.items[m].kind,v.items[m].text,ck,ci,af.ld (cs:=[_,_,aK ck,aK ci]),?_⟩;refine XC.mono (ih m I y J _ t _ E.ag (hM.trans (H.le.trans T.le)) (B.call E) (by omega) (oV _) (zr t1 t2)) ?_;rintro r h19 ⟨rfl,M2,ap,ay,aJ⟩;refine⟨rfl,⟨m+1,M2,ap,by rw[qn I (by omega)],I,T.trans (Grw.ofCall E ay λc hc=>B.lt c hc),?_⟩,?_⟩;simp_all[qE,s4];grind [qn];grind
  ·have h6:v.kind=6:=by simpa using h6
   have aN:v.keys.length=v.items.length:=by have:=z.1;unfold cX zn at this;simp[h6]at this;exact this.1.2
   have aB:∀k∈v.keys,xd (lb k)=Ta:=by have:=z.1;unfold cX zn qw at this;simp[h6]at this;exact this.1.1.1
   refine⟨Td ⟨b,0,Te⟩,P2.cell (o:=0) rfl,?_⟩;refine fin (Ja v.items v.keys S.length) ⟨#[123]⟩ _ _ (by rw[row,zA h6];unfold dI;simp_all) (by kernel_rfl) (λh' M' H=>?_) h2 M (Later.refl L2.ag);show XC _ _ #[.pointer (Td ⟨h1.size,0,Te⟩),.pointer (Td ⟨h.size,0,Te⟩)] _ _;have z':=H.keep.size;have T':Blk h' h1.size #[.int .i64 v.kind,.string v.text,aK sk,aK si]:=T2.keep (H.keep.get _ (by omega));have P':Blk h' h.size #[.pointer (Td ⟨b,0,Te⟩)]:=P2.keep (H.keep.get _ (by omega));have ah:=aa.call H;apply Xk ⟨h1.size,0,Te⟩ ⟨h.size,0,Te⟩;refine⟨si,T'.cellAdd (o:=0) (k:=3) rfl,λi g=>∃(m:Nat) (J:Fr) (t:List Nat),i=(m:Int)/\m<=v.items.length/\Grw h' M' b bs g J t/\Tb lo g J b (dA (S++Ja (v.items.take m) v.keys S.length)) t,λi _=>v.items.length-i.toNat,⟨0,M',bs,rfl,UH _,Grw.refl H.ag,by rw[WU,Ja,UM,kE hS];exact ah⟩,?_⟩;rintro i g ⟨m,J,t,rfl,hm,T,B⟩;have gz:=T.grow;refine⟨λhc=>?_,λhc=>?_⟩
   ·have I:m<v.items.length:=by have:=zC hc;omega
    have Y:m<v.keys.length:=by omega
    have V:=H.le.trans T.le;obtain⟨a,ck,ci,ea,ab,t1,t2⟩:=Jt T.ag (ri.mono V) I;refine⟨a,⟨ea,by omega,by omega⟩,v.items[m].kind,v.items[m].text,ck,ci,by rw[Ue];exact ab,?_⟩;intro aC;refine xe T.ag λy E aG af=>?_;have Pg:Blk y h.size #[.pointer (Td ⟨b,0,Te⟩)]:=P'.keep ((E.keep.get h.size (by omega)).trans (T.fr h.size (by omega) (by omega) λhm=>by grind));have Tg:Blk y h1.size #[.int .i64 v.kind,.string v.text,aK sk,aK si]:=T'.keep ((E.keep.get h1.size (by omega)).trans (T.fr h1.size (by omega) (by omega) λhm=>by grind));obtain⟨a2,aE,x,au,aA⟩:=fG E.ag (rk.mono V) Y (i:=(m:Int)) rfl (L:=sk.len) rfl (Q:=λx=>x=v.keys[m]) rfl;subst aA;refine⟨Td ⟨b,0,Te⟩,Pg.cell (o:=0) rfl,sk,Tg.cellAdd (o:=0) (k:=2) rfl,a2,aE,v.keys[m],au,?_⟩;have aj:=aB _ (Up Y);have ax:Sm (.mk 4 v.keys[m] [] []):=⟨by rw[q9];simp[xn],by rw[dw];refine⟨⟨?_,UH _,λk hk=>by cases hk⟩,trivial⟩;have:=hsm.key (Up Y);simp_all⟩;have BB:=B.call E;have tail:∀(e:zb) (f:Fr) (kt:Bt),Later y J e f->kt=(Y7 (.mk 4 v.keys[m] [] [])).1->XC Tp 94 #[.pointer (Td ⟨b,0,Te⟩),.string ((⟨#[107]⟩:Bt)++kt),.func (.func 99) #[] #[.pointer (Td ⟨h.size,0,Te⟩),.pointer (Td ⟨g.size,0,Te⟩)]] e λw ai=>w=.tuple #[] /\
      (∃(q:Nat) (J:Fr) (t:List Nat),hZ ((m:Int)+1)=(q:Int)/\q<=v.items.length/\Grw h' M' b bs ai J t/\Tb lo ai J b (dA (S++Ja (v.items.take q) v.keys S.length)) t)/\v.items.length-(hZ ((m:Int)+1)).toNat<v.items.length-(m:Int).toNat:=by
     rintro e f kt l rfl;rw[EX aj];have aM:=l.keep.size;have P:=E.trans l;refine AS (by kernel_rfl) (B.call P) (by omega) (oV (dA (S++Ja (v.items.take m) v.keys S.length)++Qh v.items[m] (dA (S++Ja (v.items.take m) v.keys S.length)).length)) ?_ λh3 M3 ae T3 B3=>⟨rfl,⟨m+1,M3,ae,by rw[qn I (by omega)],I,T.trans (Grw.ofCall P T3 λc hc=>B.lt c hc),?_⟩,?_⟩;show XC _ _ #[.pointer (Td ⟨h.size,0,Te⟩),.pointer (Td ⟨g.size,0,Te⟩)] _ _;apply Y9 ⟨h.size,0,Te⟩ ⟨g.size,0,Te⟩;refine⟨Td ⟨b,0,Te⟩,(Pg.keep (l.keep.get _ (by omega))).cell (o:=0) rfl,v.items[m].kind,v.items[m].text,ck,ci,(af.keep (l.keep.get _ (by omega))).ld (cs:=[_,_,aK ck,aK ci]),?_⟩;exact XC.mono (ih m I e f _ t _ l.ag (hM.trans (V.trans l.le)) (B.call P) (by omega) (oV _) (zr (t1.mono l.le) (t2.mono l.le))) λr h' O=>⟨O.1,rfl,O.2⟩;have e1:=qE (S++Ja (v.items.take m) v.keys S.length) λk=>Qh v.items[m] k++[(eS v.keys[m],(k:Int))];have e2:=qE (dA (S++Ja (v.items.take m) v.keys S.length)++Qh v.items[m] (dA (S++Ja (v.items.take m) v.keys S.length)).length) λ_=>[(eS v.keys[m],((dA (S++Ja (v.items.take m) v.keys S.length)).length:Int))];rw[e2,UB,e1,UB,Uf,<-DX I Y]at B3;exact B3;grind [qn]
    have Z:∀(p:zb) (s:Fr) (xk xi:Sl),Later y J p s->RdV s .tree (.mk 4 v.keys[m] [] []) (.agg #[.int .i64 4,.string v.keys[m],aK xk,aK xi])->∀{K:Value->zb->Prop},(∀e f,Later y J e f->Later p s e f->K (.string (Y7 (.mk 4 v.keys[m] [] [])).1) e) ->
      XC Tp 97 #[.agg #[.int .i64 4,.string v.keys[m],aK xk,aK xi]] p K:=λp s xk xi D O K hK=>by
     refine(uA hg hb ax (R:=λr=>r=(Y7 (.mk 4 v.keys[m] [] [])).1) rfl).go (vs:=[.agg #[.int .i64 4,.string v.keys[m],aK xk,aK xi]]) (hM.trans (V.trans D.le)) D.ag (zq O zy) λw e f r l N O=>?_;subst O;rw[fj N];exact hK e f (D.trans l) l
    have off:∀{K:Value->zb->Prop},(∀p s xk xi,Later y J p s->RdV s .tree (.mk 4 v.keys[m] [] []) (.agg #[.int .i64 4,.string v.keys[m],aK xk,aK xi])->K (.agg #[.int .i64 4,.string v.keys[m],aK xk,aK xi]) p)->XC Tp 98 #[.string v.keys[m]] y K:=λ {K} hK=>by refine(show PC Tp gl 98 [Arg.mk .str v.keys[m]] [.tree] (λr=>r=.mk 4 v.keys[m] [] [])from by apply Gq;rfl).go (hM.trans V) E.ag (zq (a:=Arg.mk .str _) (rdStr _) zy) λw p s r D N O=>?_;subst O;have O:=Yk.1 N;grind [qq]
    have U:zw ((⟨#[107]⟩:Bt).size+(Y7 (.mk 4 v.keys[m] [] [])).1.size):=by have h1:=hsm.key (Up Y);unfold Y7;rw[zA (rv aj),xo];show zw ((bl [107]).size+(bl (dv (lb v.keys[m])).1).size);have:=nm (lb v.keys[m]);exact W6 (by grind)
    have aI:b<y.size:=by have:=B.ltb;omega
    have G:∀(e:zb) (f:Fr),Later y J e f->e[h.size]?=y[h.size]?:=λe f L=>L.keep.get _ (by omega);refine⟨off λp s xk xi D O=>⟨_,_,xk,xi,rfl,G p s D,?_,G p s D,?_⟩,rfl,rfl,rfl,off λp s xk xi D O=>⟨_,_,xk,xi,rfl,G p s D,?_⟩⟩;exact Z p s xk xi D O λe f l _=>⟨_,rfl,U,G e f l,G e f l,tail e f _ l rfl⟩;exact Z p s xk xi D O λe f l _=>⟨_,rfl,U,G e f l,tail e f _ l rfl⟩;exact Z p s xk xi D O λe f l _=>⟨_,rfl,U,G e f l,tail e f _ l rfl⟩
   grind
  have h5:v.kind≠5:=by simpa using h5
  have h6:v.kind≠6:=by simpa using h6
  refine⟨Td ⟨b,0,Te⟩,P2.cell (o:=0) rfl,v.kind,v.text,sk,si,T2.ld (cs:=[_,_,aK sk,aK si]),?_⟩;refine(uA hg hb hsm (R:=λr=>r=(Y7 v).1) rfl).go (vs:=[.agg #[.int .i64 v.kind,.string v.text,aK sk,aK si]]) hM L2.ag (zq hu zy) λw az aF r an N O=>?_;subst O;rw[fj N,Cj z.1 h5 h6];refine⟨_,rfl,an.keep.get h.size (by omega),?_⟩;refine fin [] (dI v) _ _ (by simp_all) (by kernel_rfl) (λh' M' H=>?_) az aF an;show XC _ _ #[] _ _;apply Xl;exact⟨rfl,M',bs,Grw.refl H.ag,by rw[UM,kE hS];exact aa.call H⟩
end
section
open Go.Lib
variable {n i:Nat}
def aR(L:List Int)(i:Nat):Int:=L.getD i 0
def gg(L:List Int)(j:Nat):Bool:=decide (0<=aR L j)&&decide (aR L j<=j)&&(U8 j).all λi=>!(decide (aR L j<=(i:Int))&&decide (aR L i<aR L j))
def eT(L:List Int)(j:Nat):Bool:=(U8 j).all (gg L)
def jk(t:List Bt×List Int):Bool:=decide (t.1.length=t.2.length)&&decide (t.1.length<=512)&&eT t.2 t.2.length
def dl(L:List Int)(n i:Nat):Int:=match (U8 n).find? λj=>decide (i<j)&&decide (aR L j<=(i:Int))with
 |some j=>(j:Int)
 |none=>-1
def eJ(L:List Int):List Int:=(U8 L.length).map (dl L L.length)
def J8(L:List Int)(j:Nat):List Nat:=(U8 j).filter λi=>decide (dl L j i<0)
theorem Zl{L:List Int}{j:Nat}:gg L j=Ta↔0<=aR L j/\aR L j<=j/\∀i,i<j->aR L j<=(i:Int)->aR L j<=aR L i:=by unfold gg;simp only[Ui,zB,Us,UY,WZ,VW,decide_eq_false_iff_not];constructor;rintro⟨⟨h1,h2⟩,c⟩;exact⟨h1,h2,λi hi b=>by rcases c i hi with h|h <;> omega⟩;rintro⟨h1,h2,c⟩;refine⟨⟨h1,h2⟩,λi hi=>?_⟩;by_cases b:aR L j<=(i:Int);exact .inr (by have:=c i hi b;omega);exact .inl b
theorem Xo{L:List Int}{j:Nat}:eT L j=Ta↔∀i,i<j->gg L i=Ta:=by unfold eT;simp only[Us,UY]
theorem QJ{L:List Int}{j:Nat}(h:eT L j=Ta)(h2:gg L j=Ta):eT L (j+1)=Ta:=by rw[Xo]at h ⊢;intro i hi;rcases U1 i j with b|b;exact h i b;rw[show i=j from by omega];exact h2
theorem H0{p:Nat->Bool}:∀{n j:Nat},(U8 n).find? p=Td j->j<n/\p j=Ta/\∀i,i<j->p i=Tc:=by
 intro n;induction n with
 |zero=>intro j h;simp at h
 |succ n c=>
  intro j h;rw[WY,List.find?_append]at h;cases e:(U8 n).find? p with
  |some k=>rw[e]at h;simp at h;subst h;obtain⟨h1,h2,f⟩:=c e;exact⟨by omega,h2,f⟩
  |none=>rw[e]at h;rw[List.find?_eq_none]at e;simp[List.find?]at h;split at h;rename_i b;simp at h;subst h;exact⟨by omega,b,λi hi=>by simpa using e i (UY.2 hi)⟩;simp at h
theorem j9(L:List Int)(n i:Nat):(dl L n i=-1/\∀j,i<j->j<n->(i:Int)<aR L j)\/∃p:Nat,dl L n i=(p:Int)/\i<p/\p<n/\aR L p<=(i:Int)/\∀j,i<j->j<p->(i:Int)<aR L j:=by
 unfold dl;cases e:(U8 n).find? λj=>decide (i<j)&&decide (aR L j<=(i:Int))with
 |none=>refine .inl ⟨rfl,λj h1 h2=>?_⟩;rw[List.find?_eq_none]at e;have:=e j (UY.2 h2);simp[h1]at this;omega
 |some p=>obtain⟨h1,h2,c⟩:=H0 e;simp only[Ui,zB]at h2;refine .inr ⟨p,rfl,h2.1,h1,h2.2,λj a b=>?_⟩;have:=c j b;simp[a]at this;omega
theorem tp{L:List Int}{n i p:Nat}(h1:i<p)(h2:p<n)(k:aR L p<=(i:Int))(f:∀j,i<j->j<p->(i:Int)<aR L j):dl L n i=(p:Int):=by rcases j9 L n i with⟨_,e⟩|⟨q,e,a,b,c,d⟩;have:=e p h1 h2;omega;rw[e];rcases Nat.lt_trichotomy p q with h|h|h;have:=d p h1 h;omega;rw[h];have:=f q a h;omega
theorem Bv{L:List Int}(h:∀j,i<j->j<n->(i:Int)<aR L j):dl L n i=-1:=by rcases j9 L n i with⟨e,_⟩|⟨q,e,a,b,c,d⟩;exact e;have:=h q a b;omega
theorem D9(L:List Int)(n i:Nat)(hi:i<n):dl L (n+1) i=if dl L n i<0/\aR L n<=(i:Int)then(n:Int)else dl L n i:=by
 rcases j9 L n i with⟨e,h⟩|⟨p,e,a,b,c,d⟩;by_cases f:aR L n<=(i:Int);rw[zA ⟨by omega,f⟩];exact tp hi (by omega) f λj h1 h2=>h j h1 h2
 rw[za (λq=>f q.2),e];refine Bv λj h1 h2=>?_;rcases U1 j n with k|k;exact h j h1 k;rw[show j=n from by omega];omega;rw[za (λq=>by omega),e];exact tp a (by omega) c d
theorem Ea(L:List Int)(n:Nat):dl L (n+1) n=-1:=Bv λj h1 h2=>by omega
theorem EU{L:List Int}{j:Nat}(h:eT L j=Ta):∀(k i:Nat),j-i<=k->i<j->∃r,r<j/\dl L j r=-1/\i<=r/\aR L r<=aR L i
 |0,i,hk,hi=>by omega
 |k+1,i,hk,hi=>by rcases j9 L j i with⟨e,_⟩|⟨p,e,a,b,c,_⟩;exact⟨i,hi,e,Uc _,Int.le_refl _⟩;obtain⟨r,f,l,m,n⟩:=EU h k p (by omega) b;rw[Xo]at h;have:=(Zl.1 (h p b)).2.2 i a c;exact⟨r,f,l,by omega,by omega⟩
theorem ru{L:List Int}{j i:Nat}:i∈J8 L j↔i<j/\dl L j i=-1:=by unfold J8;rw[WV,UY,zB];constructor;rintro⟨a,b⟩;rcases j9 L j i with⟨e,_⟩|⟨p,e,_⟩;exact⟨a,e⟩;omega;rintro⟨a,b⟩;exact⟨a,by omega⟩
theorem Pt{L:List Int}{j:Nat}(h:eT L j=Ta)(h0:0<=aR L j)(h1:aR L j<=j)(h2:∀r∈J8 L j,aR L j<=(r:Int)->aR L j<=aR L r):gg L j=Ta:=by refine Zl.2 ⟨h0,h1,λi hi k=>?_⟩;obtain⟨r,c,b,f,e⟩:=EU h (j-i) i (Uc _) hi;have:=h2 r (ru.2 ⟨c,b⟩) (by omega);omega
theorem HV(L:List Int)(j:Nat):J8 L (j+1)=(J8 L j).filter (λi:Nat=>decide ((i:Int)<aR L j))++[j]:=by unfold J8;rw[WY,List.filter_append,List.filter_filter];congr 1;refine List.filter_congr λi hi=>?_;rw[UY]at hi;rw[D9 L j i hi,Uy,Ui,zB,zB,zB];by_cases b:dl L j i<0;by_cases c:aR L j<=(i:Int);rw[zA ⟨b,c⟩];omega;rw[za (λq=>c q.2)];omega;rw[za (λq=>b q.1)];omega;rw[VZ,zA (by rw[Ea];decide)];rfl
theorem Hd(L:List Int)(j:Nat):(J8 L j).Pairwise (· < ·):=by unfold J8;exact YC.sublist List.filter_sublist XH
theorem CN:∀{l:List Nat},l.Pairwise (· < ·)->∀{x:Int} {m:Nat},m<=l.length->(∀i (h:i<l.length),i<m->(l[i]:Int)<x)->(∀i (h:i<l.length),m<=i->x<=(l[i]:Int))->l.filter (λi:Nat=>decide ((i:Int)<x))=l.take m
 |[],_,x,m,_,_,_=>by simp
 |a::l,hp,x,m,hm,h1,h2=>by
  cases m with
  |zero=>rw[WU,List.filter_eq_nil_iff];intro b c;obtain⟨i,hi,rfl⟩:=V1.1 c;have:=h2 i hi (UH _);simp;exact this
  |succ m=>rw[VZ,zA (by have:=h1 0 (by simp) (by omega);simpa using this),V7];congr 1;exact CN (Vn.1 hp).2 (by simpa using hm) (λi h hi=>by have:=h1 (i+1) (by simpa using h) (by omega);simpa using this) (λi h hi=>by have:=h2 (i+1) (by simpa using h) (by omega);simpa using this)
theorem zK{L:List Int}(h:i<L.length):L[i]?=Td (aR L i):=by unfold aR;rw[U0,Ul h];rfl
theorem uB{L:List Int}(h:i<L.length):(eJ L)[i]?=Td (dl L L.length i):=by unfold eJ;rw[U2,List.getElem?_range h];rfl
theorem Yi(L:List Int):(eJ L).length=L.length:=by unfold eJ;rw[Um,XP]
end
section
open Go.RowKit
variable {M:Fr} {a b:Ty} {h g:zb} {n q bo bt i:Nat} {ts:Sl} {ct:Array Value}
theorem pj{x:El (.row a)×El (.row b)}{u:Value}(h:RdV M (.pair (.row a) (.row b)) x u):∃s1 s2:Sl,u=.agg #[aK s1,aK s2]/\Rd M (.row a) x.1 [aK s1]/\Rd M (.row b) x.2 [aK s2]:=by unfold RdV at h;simp only[dB,if_true]at h;obtain⟨cs,rfl,c1,c2,rfl,h1,h2⟩:=h;obtain⟨i,rfl,e⟩:=h1;obtain⟨f,rfl,c⟩:=h2;obtain⟨s1,rfl,l⟩:=lH (M:=M) (t:=a) (xs:=x.1) ((c7 rfl).2 ⟨i,rfl,e⟩);obtain⟨s2,rfl,k⟩:=lH (M:=M) (t:=b) (xs:=x.2) ((c7 rfl).2 ⟨f,rfl,c⟩);grind
theorem Yj{x:El (.row a)×El (.row b)}{s1 s2:Sl}(h1:Rd M (.row a) x.1 [aK s1])(h2:Rd M (.row b) x.2 [aK s2]):RdV M (.pair (.row a) (.row b)) x (.agg #[aK s1,aK s2]):=by unfold RdV;simp only[dB,if_true];exact⟨[_,_],rfl,[_],[_],rfl,h1,h2⟩
theorem JM(z:Value)(n:Nat):madeCells #[z] n=(Vh n z).toArray:=by apply Array.ext;simp[madeCells];intro i h1 h2;simp[madeCells,Nat.mod_one]
theorem wU{t e:TypeId}{z:Value}{bytes:Nat}(E:ElemT Tp t e z 1 bytes)(o:z.cells=#[z])(f:bytes<=1000)(p:n<=1000000){K:Value->zb->Prop}(m:K (aK ⟨Td ⟨h.size,0,Te⟩,n,n⟩) (h.push (.cells (Vh n z).toArray e))):
  XRun Tp (Instr.makeSlice t (.int .i64 (n:Int)) (.int .i64 (n:Int))) h K:=by
 intro B d;obtain⟨i,hi,b,l,k⟩:=E.info;have q:(bytes:Int)*(n:Int)<=1000*1000000:=Int.mul_le_mul (by omega) (by omega) (by omega) (by omega);have c:=run_make (P:=Tp) (mk B d h) t e i z E.slice hi b .i64 .i64 (n:Int) (n:Int) (by omega) (Int.le_refl _) (by rw[k];omega) (by omega);rw[Ue,l,Vz,o,JM]at c;exact⟨_,_,_,c,m⟩
theorem CR.pop{els:List (List Value)}{sl:Sl}{b:Nat}{cs:Array Value}(H:CR g 1 els sl b cs)(f:q<=els.length):CR g 1 (els.take q) ⟨sl.a,q,sl.cap⟩ b cs:=by have h:=H.ln;have c:=H.ro.le;refine⟨⟨by grind,?_⟩,by simp_all,λi e hi=>?_⟩;rcases H.ro.at_ with⟨h1,h2⟩|h1;grind;grind;rw[UU]at hi;split at hi;exact H.el i e hi;cases hi
structure ParI (h:zb) (n bo:Nat) (T:List Nat) (outs:List Int) (ts:Sl) (bt:Nat) (ct:Array Value) (g:zb):Prop where
 k:Keep bo h g
 out:Blk g bo (outs.map (UT .i64)).toArray
 ln:outs.length=n
 top:CR g 1 (T.map λi:Nat=>[UT .i64 (i:Int)]) ts bt ct
 hb:bo<bt
theorem ParI.len{T:List Nat}{outs:List Int}(S:ParI h n bo T outs ts bt ct g):ts.len=T.length:=by rw[S.top.ln,Um]
theorem ParI.cell{T:List Nat}{outs:List Int}(S:ParI h n bo T outs ts bt ct g)(hi:i<T.length):ts.a=Td ⟨bt,0,Te⟩/\zc g ⟨bt,0+i,Te⟩=Td (.int .i64 ((T[i]:Nat):Int)):=by
 have b:(T.map λi:Nat=>[UT .i64 (i:Int)])≠[]:=λe=>by simp_all
 obtain⟨c,B⟩:=S.top.blk b;obtain⟨_,f⟩:=S.top.el i [.int .i64 ((T[i]:Nat):Int)] (by simp_all);refine⟨c,B.cell ?_⟩;have:=m5 f (q:=0) (by omega);simp_all
theorem ParI.set{T:List Nat}{outs:List Int}(S:ParI h n bo T outs ts bt ct g)(hi:i<n){x:Int}{K:zb->Prop}(l:∀g',ParI h n bo T (outs.set i x) ts bt ct g'->g'.size=g.size->K g'):
  XRunU Tp (Ub 3 (.pointer (Td ((⟨bo,0,Te⟩:Addr).add (i*1)))) (.int .i64 x)) g K:=by
 have b:=S.ln;have c:=S.hb;rw[zj,UI,Vz];refine qo lQ (by kernel_rfl) S.out (by simp;omega) rfl λg' m e f'=>l g' ⟨⟨by have:=S.k.size;omega,λj f=>(f' j (by omega)).trans (S.k.get j f)⟩,?_,by simp_all,S.top.frame λ_=>f' bt (by omega),c⟩ e;simp_all
theorem Ng{s:Sl}{i:Int}(h1:i=(q:Int)):(⟨de s.a 1 (0:Int).toNat ((s.cap:Nat):Int).toNat,i.toNat-(0:Int).toNat,((s.cap:Nat):Int).toNat-(0:Int).toNat⟩:Sl)=⟨s.a,q,s.cap⟩:=by simp_all[Dl]
set_option maxRecDepth 100000 in
set_option maxHeartbeats 2000000 in
theorem sX{gl:Fr}{t:List Bt×List Int}{R:List Int×Bool->Prop}(hR:R (if jk t=Ta then(eJ t.2,Ta)else([],Tc))):PC Tp gl 60 [Arg.mk (.pair (.row .str) (.row p3)) t] [.row p3,.bool] R:=by
 intro h M vs hM ag ha
 match vs,ha with
 |[u],⟨hu,_⟩=>
  obtain⟨s1,s2,rfl,r1,r2⟩:=pj (show RdV M (.pair (.row .str) (.row p3)) t u from hu);apply PX.of;obtain⟨l1,_,_⟩:=rowLen r1;obtain⟨l2,b2,_⟩:=rowLen r2;apply JS s1 s2;intro h1;obtain⟨k1,z1,D⟩:=jf (g:=h1) rfl;clear_value h1;have bad:∀g:zb,jk t=Tc->Keep h.size h g->∃M' r,Later h M g M'/\Zp M' [.row p3,.bool] r (.tuple #[.slice Te 0 0,.bool Tc])/\R r:=λg e k=>⟨M,([],Tc),Later.same ag k,⟨[_,_],⟨_,_,rfl,(c7 rfl).2 Xg,_,rfl,rdBool _⟩,rfl⟩,by simp_all⟩;refine⟨s1,D.cellAdd (o:=0) (k:=0) rfl,s2,D.cellAdd (o:=0) (k:=1) rfl,s1,λ_=>D.cellAdd (o:=0) (k:=0) rfl,λf=>?_,λf=>?_⟩;refine bad _ ?_ k1;cases l:jk t with
  |false=>rfl
  |true=>unfold jk at l;grind
  have s:s1.len=s2.len:=by by_cases e:s1.len=s2.len;exact e;grind
  have aA:s1.len<=512:=by
   have:((s1.len:Int) != (s2.len:Int))=Tc:=by simp;omega
   rw[this]at f;have:=zD f;omega
  refine⟨s2,D.cellAdd (o:=0) (k:=1) rfl,?_⟩;refine wU (E:=(kz:ElemT _ _ _ _ 1 8)) rfl (by omega) (by omega) ⟨⟨Td ⟨h1.size,0,Te⟩,s2.len,s2.len⟩,rfl,s2,?_,?_⟩;exact(D.keepN (n:=h1.size) (Keep.push _ _ (Uc _)) (by omega)).cellAdd (o:=0) (k:=1) rfl;obtain⟨L,I⟩:∃L,L=t.2:=⟨_,rfl⟩;have hn:L.length=s2.len:=by rw[I,l2]
  have nr:∀m,m<L.length->gg L m=Tc->jk t=Tc:=λm hm e=>by
   cases l:jk t with
   |false=>rfl
   |true=>unfold jk at l;simp only[Ui,zB]at l;rw[I]at hm e;have:=Xo.1 l.2 m hm;simp_all
  refine⟨λts j g=>∃(m:Nat) (outs:List Int) (bt:Nat) (ct:Array Value),j=(m:Int)/\m<=L.length/\eT L m=Ta/\ParI h1 L.length h1.size (J8 L m) outs ts bt ct g/\∀i,i<m->outs[i]?=Td (dl L m i),λ_ j _=>L.length-j.toNat,?_,?_⟩;refine⟨0,Vh L.length 0,h1.size+1,#[],rfl,UH _,rfl,⟨Keep.push _ _ (Uc _),?_,VI,⟨⟨UH _,.inl ⟨rfl,rfl⟩⟩,rfl,λi e hi=>by simp[J8]at hi⟩,by omega⟩,λi hi=>by omega⟩;rw[List.map_replicate,hn];exact Blk.new _ _ _;rintro ts j g ⟨m,outs,bt,ct,rfl,hm,O,S,hv⟩;refine⟨λf=>?_,λf=>?_⟩;have s:m<L.length:=by have:=zC f;omega
  have G:Keep h.size h g:=k1.trans S.k (by omega);have Y:AgM M g:=ag.keep G;obtain⟨b,o,e1,J⟩:=gO Y r2 (k:=m) (by omega);have hx:t.2[m]'(by omega)=aR L m:=by subst I;unfold aR;rw[U0,Ul s];rfl
  rw[hx]at J;refine⟨⟨b,o,Te⟩,⟨e1,by omega,by omega⟩,aR L m,by rw[qh,Ue];exact J,λh3=>?_,λh3=>?_⟩;refine bad _ (nr m s ?_) G;cases e:gg L m with
  |false=>rfl
  |true=>obtain⟨a1,a2,_⟩:=Zl.1 e;grind
  have a0:0<=aR L m:=by by_cases e:aR L m<0;simp_all;omega
  have a1:aR L m<=m:=by rw[zF (show¬aR L m<0 by omega)]at h3;have:=zD h3;omega
  generalize C:aR L m=lf at *;have hT:∀k,(V:k<(J8 L m).length)->(J8 L m)[k]<m:=λk V=>(ru.1 (Up V)).1;refine⟨λts g=>∃(q:Nat) (outs:List Int) (ct:Array Value),q<=(J8 L m).length/\ParI h1 L.length h1.size ((J8 L m).take q) outs ts bt ct g/\(∀i,i<m->outs[i]?=Td (if i∈(J8 L m).drop q then(m:Int)else dl L m i))/\∀r∈(J8 L m).drop q,lf<=(r:Int)/\lf<=aR L r,λts _=>ts.len,?_,?_⟩;exact⟨(J8 L m).length,outs,ct,Uc _,by simp_all,λi hi=>by simp_all,λr l=>by simp_all⟩;rintro ts' g' ⟨q,B,A,hq,x,U,hp⟩;have aB:ts'.len=q:=by rw[x.len,UQ,V9 hq]
  have N:Keep h.size h g':=k1.trans x.k (by omega);have an:=x.top.ro.le;have aC:m<=512:=by omega
  have ar:q<=512:=by
   have:(J8 L m).length<=m:=by unfold J8;exact VB (List.length_filter_le _ _) (by simp)
   omega
  obtain⟨k,V⟩:∃k,k=(J8 L m).getD (q-1) 0:=⟨_,rfl⟩;obtain⟨a,p1⟩:∃a:Addr,0<q->ts'.a=Td a/\zc g' (a.add ((q-1)*1))=Td (.int .i64 (k:Int)):=by by_cases h0:0<q;obtain⟨e3,e4⟩:=x.cell (i:=q-1) (by grind);refine⟨_,λ_=>⟨e3,?_⟩⟩;rw[zj,Vz,e4,List.getElem_take,V,U0,Ul (by omega)];rfl;exact⟨⟨0,0,Te⟩,λh=>absurd h h0⟩
  have w:0<q->hZ (((ts'.len:Nat):Int)-1)=((q-1:Nat):Int):=λh0=>by rw[wrap64 (by omega) (by omega)];omega
  have ae:0<q->k<m/\k∈J8 L m/\(J8 L m).drop (q-1)=k::(J8 L m).drop q:=λh0=>by grind [UZ]
  refine⟨a,λf=>?_,(k:Int),λf=>?_,λf=>?_,λf=>?_⟩;grind;have h0:0<q:=by have:=zC f;omega
  rw[w h0,Ue];exact(p1 h0).2;have h0:0<q:=by by_cases e:0<q;exact e;rw[zF (show¬((ts'.len:Nat):Int)>0 by omega)]at f;cases f
  rw[zE (show((ts'.len:Nat):Int)>0 by omega)]at f;have au:lf<=(k:Int):=by have:=zC f;omega
  obtain⟨am,ax,H⟩:=ae h0;have w:=w h0;obtain⟨b3,o3,e3,e4⟩:=gO (ag.keep N) r2 (k:=k) (by omega);have ak:t.2[k]'(by omega)=aR L k:=by subst I;unfold aR;rw[U0,Ul (by omega)];rfl
  rw[ak]at e4;refine⟨a,⟨(p1 h0).1,by rw[w];omega,by rw[w];omega⟩,(k:Int),by rw[w,Ue];exact(p1 h0).2,s2,(D.keepN x.k (by omega)).cellAdd (o:=0) (k:=1) rfl,⟨b3,o3,Te⟩,⟨e3,by omega,by omega⟩,aR L k,by rw[qh,Ue];exact e4,λh4=>?_,λh4=>?_⟩;refine bad _ (nr m s ?_) N;cases e:gg L m with
  |false=>rfl
  |true=>have:=(Zl.1 e).2.2 k am (by omega);grind
  have h5:lf<=aR L k:=by have:=zD h4;omega
  have ai:q<=ts'.cap:=by omega
  have P:(0:Int)<=0/\0<=hZ (((ts'.len:Nat):Int)-1)/\hZ (((ts'.len:Nat):Int)-1)<=((ts'.cap:Nat):Int)/\((ts'.cap:Nat):Int)<=((ts'.cap:Nat):Int):=by rw[w];omega
  have Q:∀z,ParI h1 L.length h1.size ((J8 L m).take q) (B.set k (m:Int)) ts' bt A z->(∃(q2:Nat) (outs:List Int) (ct:Array Value),q2<=(J8 L m).length/\ParI h1 L.length h1.size ((J8 L m).take q2) outs ⟨de ts'.a 1 (0:Int).toNat ((ts'.cap:Nat):Int).toNat,(hZ (((ts'.len:Nat):Int)-1)).toNat-(0:Int).toNat,((ts'.cap:Nat):Int).toNat-(0:Int).toNat⟩ bt ct z/\(∀i,i<m->outs[i]?=Td (if i∈(J8 L m).drop q2 then(m:Int)else dl L m i))/\∀r∈(J8 L m).drop q2,lf<=(r:Int)/\lf<=aR L r)/\(hZ (((ts'.len:Nat):Int)-1)).toNat-(0:Int).toNat<ts'.len:=λz c=>by rw[Ng w];refine⟨⟨q-1,_,A,by omega,⟨c.k,c.out,c.ln,?_,c.hb⟩,λi hi=>?_,λr l=>?_⟩,by rw[w];omega⟩;have:=c.top.pop (q:=q-1) (by grind);grind [List.map_take];rw[List.getElem?_set,H];by_cases e:k=i;grind;rw[za e,U i hi];congr 1;by_cases J:i∈(J8 L m).drop q;grind;grind;rw[H]at l;rcases Uj.1 l with rfl|l;omega;grind
  refine⟨⟨h1.size,0,Te⟩,⟨rfl,by omega,by grind⟩,⟨.inl rfl,P,?_⟩,?_⟩;rw[Ue];exact x.set (by omega) λz c _=>Q z c;rw[Ue];exact x.set (by omega) λz c _=>⟨.inl rfl,P,Q z c⟩;have F:0<q->(k:Int)<lf:=λh0=>by grind
  have y:=Hd L m;have Z:(J8 L m).filter (λi:Nat=>decide ((i:Int)<aR L m))=(J8 L m).take q:=by
   rw[C];refine CN y hq (λi hi af=>?_) λi hi af=>?_;have h0:0<q:=by omega
   have h1:=F h0;have e:k=(J8 L m)[q-1]'(by omega):=by rw[V,U0,Ul (by omega)];rfl
   rcases U1 i (q-1)with h2|h2;have:=List.pairwise_iff_getElem.1 y i (q-1) hi (by omega) h2;omega;grind;exact(hp _ (by rw[List.mem_drop_iff_getElem];exact⟨i-q,by omega,by congr 1;omega⟩)).1
  have ab:gg L m=Ta:=Pt O (by omega) (by omega) λr l aj=>by
   rw[C]at aj ⊢;have az:r∉(J8 L m).take q:=λh=>by grind
   rw[<-Vw q (J8 L m)]at l;grind
  refine⟨⟨h1.size,0,Te⟩,⟨rfl,by omega,by grind⟩,?_⟩;rw[Ue];refine x.set (by omega) λz c z2=>?_;intro g3;obtain⟨k3,z3,B3⟩:=jf (g:=g3) rfl;clear_value g3;have aE:=c.k.size;have ay:=c.out.lt;have ap:=c.hb;have T3:CR g3 1 (((J8 L m).take q).map λi:Nat=>[UT .i64 (i:Int)]) ts' bt A:=c.top.frame λhx=>k3.get bt (by rcases c.top.ro.at_ with⟨e5,e6⟩|⟨_,e6,_⟩;grind;exact e6.lt);refine CR.app (E:=(kz:ElemT _ _ _ _ 1 8)) (by omega) T3 B3 rfl (by intro u hu;simp at hu;rw[hu];rfl) (by grind) λs' g4 b' c4 T4 z4 w4 l4 f4=>⟨s',rfl,⟨m+1,_,b',c4,by rw[wrap64 (by omega) (by omega)];omega,s,QJ O ab,⟨⟨by omega,λj hj=>?_⟩,?_,c.ln,?_,?_⟩,λi hi=>?_⟩,?_⟩;rw[f4 j (by omega) (by omega),k3.get j (by omega)];exact c.k.get j hj;refine c.out.keep ?_;rw[f4 h1.size (by omega) (by omega),k3.get _ (by omega)];rw[HV,Z,U7];exact T4;omega;rw[List.getElem?_set];by_cases e:m=i;subst e;rw[zA rfl,zA (by rw[x.ln];exact s),Ea];rw[za e,U i (by omega),D9 L m i (by omega),C];congr 1;have aa:i∈J8 L m↔dl L m i<0:=by rw[ru];rcases j9 L m i with⟨e7,_⟩|⟨p,e7,_⟩;omega;omega
  by_cases J:i∈(J8 L m).drop q;grind;rw[za J,za];rintro⟨h6,h7⟩;have h8:=aa.2 h6;rw[<-Vw q (J8 L m)]at h8;grind;grind [qn,Ue];have ah:m=L.length:=by have:=zD f;omega
  subst ah;have l:jk t=Ta:=by unfold jk;simp only[Ui,zB];exact⟨⟨by omega,by omega⟩,by simp_all⟩
  rw[l]at hR;have G:Keep h.size h g:=k1.trans S.k (by omega);have Y:AgM M g:=ag.keep G;have ho:outs=eJ t.2:=by rw[<-I];apply Vd;intro i;by_cases hi:i<L.length;rw[hv i hi,uB hi];rw[WC (by rw[S.ln];omega),WC (by rw[Yi];omega)]
  refine⟨MxL M g [h1.size],(outs,Ta),MxL.later ag G (by simp_all),⟨[_,_],⟨_,_,rfl,(c7 rfl).2 ⟨_,rfl,Td ⟨h1.size,0,Te⟩,s2.len,?_,⟨?_,?_⟩,.inr ⟨h1.size,0,_,rfl,MxL.at (by simp) S.out,λi hi=>?_⟩⟩,_,rfl,rdBool _⟩,rfl⟩,by grind⟩;show VV _ _ _=VV _ _ _;rw[S.ln,hn];show outs.length<=_;rw[S.ln];omega;show outs.length<=_;rw[S.ln];omega;show cut (outs.map (UT .i64)).toArray (0+i*1) 1=[UT .i64 outs[i]];refine Xe rfl λq hq=>?_;simp_all
end
section
open Go.ChangeMaps
variable {P:Program} {kt:TypeId}
def gX(l:List (Int×Value))(k:Int):Option Value:=match l with
 |[]=>Te
 |p::l=>if p.1=k then Td p.2 else gX l k
def gB(l:List (Int×Value))(k:Int)(v:Value):List (Int×Value):=match l with
 |[]=>[(k,v)]
 |p::l=>if p.1=k then(k,v)::l else p::gB l k v
def fW(l:List (Int×Value)):List (Value×Value):=l.map λp=>(UT .i64 p.1,p.2)
structure MapTI (P:Program) (t kt et:TypeId):Prop where
 map:P.underlying t=Td (.map kt et)
 key:P.underlying kt=Td (.int .i64)
theorem xX(k:Int):∀(f:List MapEntry) (l:List (Int×Value)) (i:Nat),f.map (λe=>(e.key,e.val))=l.map (λp=>(UT .i64 p.1,p.2)) ->
  (gX l k=Te/\VX (.int .i64) (.int .i64 k) f i=Td Te)\/(∃j v e,gX l k=Td v/\f[j]?=Td e/\e.key=.int .i64 k/\e.val=v/\VX (.int .i64) (.int .i64 k) f i=Td (Td (i+j,v)) /\ ∀w,(f.modify j λe=>{ e with key:=.int .i64 k,val:=w }).map (λe=>(e.key,e.val))=(gB l k w).map λp=>(UT .i64 p.1,p.2))
 |[],l,i,h=>by
  have:l=[]:=by cases l <;> simp_all
  subst this;exact .inl ⟨rfl,rfl⟩
 |e::f,l,i,h=>by
  cases l with
  |nil=>simp at h
  |cons p l=>
   simp only[Uq,Vu,Vg]at h;obtain⟨⟨h1,h2⟩,o⟩:=h;by_cases c:p.1=k;refine .inr ⟨0,p.2,e,by simp[gX,c],rfl,by rw[h1,c],h2,?_,λw=>?_⟩;have b:(k==p.1)=Ta:=by simpa using c.symm
   simp[VX,YB,h1,h2,b];simp[gB,c,o];have b:(k==p.1)=Tc:=by simpa using λe=>c e.symm
   rcases xX k f l (i+1) o with⟨m,n⟩|⟨j,v,e',m,n,t,q,s,r⟩;refine .inl ⟨by simp[gX,c,m],?_⟩;simp[VX,YB,h1,b,n];refine .inr ⟨j+1,v,e',by simp[gX,c,m],by simpa using n,t,q,?_,λw=>?_⟩;simp[VX,YB,h1,b,s];omega;simp[gB,c,h1,h2,r w]
theorem FX(c:P.underlying kt=Td (.int .i64))(b:Bool)(k:Int)(h:zb):QExec P (Instr.checkKey b 10000 kt (.int .i64 k)) h ():=by intro B d;have e:=QExec.underlying (h:=h) c B d;unfold Instr.checkKey;simp_all
theorem CE(c:P.underlying kt=Td (.int .i64))(k:Int)(b:List MapEntry)(r:Option (Nat×Value))(h:zb)(e:VX (.int .i64) (.int .i64 k) b 0=Td r):
  QExec P (Instr.findKey kt (.int .i64 k) b) h r:=by
 intro B d;have f:=QExec.underlying (h:=h) c B d;unfold Instr.findKey;simp_all
theorem Kr{l:List (Int×Value)}{k:Int}{v:Value}(g:gX l k=Te):gB l k v=l++[(k,v)]:=by
 induction l with
 |nil=>rfl
 |cons p l c=>simp only[gX]at g;split at g;cases g;rename_i b;simp[gB,b,c g]
theorem FS{t kt et:TypeId}(T:MapTI P t kt et){h:zb}{m:Nat}{l:List (Int×Value)}(H:MapW h m (fW l))(k:Int)(v:Value){K:zb->Prop}
  (w:∀h':zb,MapW h' m (fW (gB l k v))->h'.size=h.size->(∀i,i≠m->h'[i]?=h[i]?)->K h'):XRunU P (VC t (.map (Td m)) (.int .i64 k) v) h K:=by
 have f:=H.lt;obtain⟨b,c,h1,h2,J,G⟩:=H;intro B d;have z:=QExec.underlying (h:=h) T.map B d;have u:=Qx (P:=P) h1 B d;have A:=FX T.key Tc k h B d;have n:∀o:Obj,(setObj m o).run P (mk B d h)=.ok () (mk B d (h.setIfInBounds m o)):=by intro o;have:(mk B d h).heap[m]?=Td (.map b c):=h1;simp[setObj,Sem.run,this];rfl
 unfold VC;rcases xX k b.toList l 0 h2 with⟨y,q⟩|⟨j,M,e,y,q,F,I,E,C⟩;refine⟨d,h.setIfInBounds m (.map (b.push { key:=.int .i64 k,val:=v,born:=c }) (c+1)),?_,w _ ⟨b.push { key:=.int .i64 k,val:=v,born:=c },c+1,by simp[f],?_,?_,?_⟩ (by simp) (λi hi=>by grind)⟩;rw[Sem.run_bind,z];simp only[Result.andThen_ok,Sem.run_bind,u,A];rw[CE T.key k b.toList Te h q B d];simp_all;rw[Kr y];unfold fW at h2 ⊢;simp[h2];grind;grind;have x:j<b.size:=by have:=(UE.1 q).1;simpa using this
 have s:((b.modify j λe=>{ e with key:=.int .i64 k,val:=v }).toList.map (·.born))=b.toList.map (·.born):=by apply Vd;intro i;simp only[Array.toList_modify,U2,Vj];by_cases D:j=i;simp_all;simp_all
 refine⟨d,_,?_,w (h.setIfInBounds m (.map (b.modify j λe=>{ e with key:=.int .i64 k,val:=v }) c)) ⟨b.modify j λe=>{ e with key:=.int .i64 k,val:=v },c,by simp[f],?_,?_,?_⟩ (by simp) (λi hi=>by grind)⟩;rw[Sem.run_bind,z];simp only[Result.andThen_ok,Sem.run_bind,u,A];rw[CE T.key k b.toList _ h E B d];simp only[Result.andThen_ok,UI];have p:((b[j]?).map (·.key)).getD (.int .i64 k)=.int .i64 k:=by
  have:b[j]?=Td e:=by simpa using q
  rw[this];exact F
 rw[p];have L:WT (.int .i64 k) (.int .i64 k)=pure (.int .i64 k):=by unfold WT;rw[zA (by show((Ve==Ve)&&(k==k))=Ta;simp)]
 simp_all;have:=C v;unfold fW;grind;intro e' r;have:e'.born∈((b.modify j λe=>{ e with key:=.int .i64 k,val:=v }).toList.map (·.born)):=US.2 ⟨e',r,rfl⟩;grind;simp_all
end
section
open Go.Lib
section
variable {i n:Nat}
def gQ(L:List Int):List Nat:=(U8 L.length).filter λi=>(U8 L.length).all λj=>decide (j<=i)||decide (aR L j≠aR L i)
theorem Pj{L:List Int}:i∈gQ L↔i<L.length/\∀j,i<j->j<L.length->aR L j≠aR L i:=by unfold gQ;rw[WV,UY,Us];refine and_congr_right λ_=>⟨λh j h1 h2=>?_,λh j b=>?_⟩;have:=h j (UY.2 h2);simp only[Vq,zB]at this;rcases this with h|h;omega;exact h;simp only[Vq,zB];by_cases c:j<=i;exact .inl c;exact .inr (h j (by omega) (UY.1 b))
theorem yM(L:List Int):(gQ L).Pairwise (· < ·):=by unfold gQ;exact YC.sublist List.filter_sublist XH
def ge(L:List Int)(m:Nat):List Nat->List Nat
 |[]=>[m]
 |p::P=>if aR L p=aR L m then m::P else p::ge L m P
def fm(L:List Int):Nat->List Nat
 |0=>[]
 |m+1=>ge L m (fm L m)
def iq(L:List Int)(i:Nat):Int×Value:=(aR L i,.int .i64 (i:Int))
theorem ES(L:List Int)(m:Nat):∀P:List Nat,gB (P.map (iq L)) (aR L m) (.int .i64 (m:Int))=(ge L m P).map (iq L)
 |[]=>rfl
 |p::P=>by rw[Uq,gB,ge];by_cases h:aR L p=aR L m;rw[zA h,zA (show(iq L p).1=aR L m from h),Uq];rfl;rw[za h,za (show¬(iq L p).1=aR L m from h),Uq,ES L m P]
theorem ux{L:List Int}{m:Nat}:∀{P:List Nat},(P.map (aR L)).Nodup->∀i,i∈ge L m P↔i=m\/(i∈P/\aR L i≠aR L m)
 |[],_,i=>by simp[ge]
 |p::P,hn,i=>by rw[Uq,Vp]at hn;rw[ge];by_cases h:aR L p=aR L m;rw[zA h,Uj,Uj];refine or_congr_right ⟨λhi=>⟨.inr hi,λe=>hn.1 ?_⟩,λhi=>?_⟩;rw[h,<-e];exact List.mem_map_of_mem hi;rcases hi.1 with rfl|h2;exact absurd h hi.2;exact h2;rw[za h,Uj,Uj,ux hn.2 i];constructor;rintro(rfl|rfl|h2);exact .inr ⟨.inl rfl,h⟩;exact .inl rfl;exact .inr ⟨.inr h2.1,h2.2⟩;rintro(rfl|⟨rfl|h2,b⟩);exact .inr (.inl rfl);exact .inl rfl;exact .inr (.inr ⟨h2,b⟩)
theorem Ct{L:List Int}{m:Nat}:∀{P:List Nat},(P.map (aR L)).Nodup->((ge L m P).map (aR L)).Nodup
 |[],_=>by simp[ge]
 |p::P,hn=>by have f:=hn;rw[Uq,Vp]at hn;rw[ge];by_cases h:aR L p=aR L m;rw[zA h,Uq,Vp,<-h];exact hn;rw[za h,Uq,Vp];refine⟨λb=>?_,Ct hn.2⟩;obtain⟨q,c,e⟩:=US.1 b;rcases(ux hn.2 q).1 c with rfl|⟨h2,_⟩;exact h e.symm;exact hn.1 (e ▸ List.mem_map_of_mem h2)
theorem tT(L:List Int):∀m,((fm L m).map (aR L)).Nodup/\∀i,i∈fm L m↔i<m/\∀j,i<j->j<m->aR L j≠aR L i
 |0=>⟨XV,λi=>by simp[fm]⟩
 |m+1=>by
  obtain⟨h1,h2⟩:=tT L m;refine⟨Ct h1,λi=>?_⟩;rw[fm,ux h1,h2];constructor;rintro(rfl|⟨⟨a,b⟩,c⟩);exact⟨by omega,λj _ _=>by omega⟩;refine⟨by omega,λj h k=>?_⟩;rcases U1 j m with f|f;exact b j h f;rw[show j=m from by omega];exact λe=>c e.symm
  rintro⟨a,b⟩;rcases U1 i m with f|f;exact .inr ⟨⟨f,λj h k=>b j h (by omega)⟩,λe=>b m f (by omega) e.symm⟩;exact .inl (by omega)
theorem wD{α β:Type}{f:α->β}{l:List α}(h:(l.map f).Nodup):l.Nodup:=by
 induction l with
 |nil=>exact XV
 |cons x l c=>rw[Uq,Vp]at h;exact Vp.2 ⟨λb=>h.1 (List.mem_map_of_mem b),c h.2⟩
theorem O9(L:List Int):(fm L L.length).Perm (gQ L):=by obtain⟨h1,h2⟩:=tT L L.length;refine(List.perm_ext_iff_of_nodup (wD h1) ((yM L).imp λh=>Nat.ne_of_lt h)).2 λi=>?_;rw[h2,Pj]
def zt(L:List Int)(n:Nat):List Nat:=(U8 L.length).filter λi=>decide (dl L L.length i=(n:Int))
theorem J9{L:List Int}:i∈zt L n↔i<L.length/\dl L L.length i=(n:Int):=by unfold zt;rw[WV,UY,zB]
theorem my{L:List Int}(h:eT L L.length=Ta)(hi:i<L.length)(f:dl L L.length i=(n:Int)):i<n/\n<L.length/\aR L n<=(i:Int)/\aR L n<=aR L i/\∀j,i<j->j<n->(i:Int)<aR L j:=by
 rcases j9 L L.length i with⟨e,_⟩|⟨p,e,a,b,c,d⟩;omega;have:p=n:=by omega
 subst this;rw[Xo]at h;exact⟨a,b,c,(Zl.1 (h p b)).2.2 i a c,d⟩
end
section
variable {n:Nat}
def OkX(n:Nat)(X:List (Bt×Int)):Prop:=∀j (h:j<X.length),(n:Int)<=X[j].2/\X[j].2<=((n+j:Nat):Int)/\∀i (hi:i<X.length),i<j->X[j].2<=((n+i:Nat):Int)->X[j].2<=X[i].2
theorem OkX.nil(n:Nat):OkX n []:=λj h=>absurd h (WJ j)
theorem OkX.app{X Y:List (Bt×Int)}(k:OkX n X)(l:OkX (n+X.length) Y):OkX n (X++Y):=by intro j h;rw[Uf]at h;by_cases h1:j<X.length;rw[Vt h1];obtain⟨a,b,c⟩:=k j h1;refine⟨a,b,λi hi e f=>?_⟩;rw[Vt (by omega)];exact c i (by omega) e f;rw[VP (by omega)];obtain⟨a,b,c⟩:=l (j-X.length) (by omega);refine⟨by omega,by omega,λi hi e f=>?_⟩;by_cases h2:i<X.length;omega;rw[VP (by omega)];exact c (i-X.length) (by omega) (by omega) (by omega)
theorem OkX.root{X:List (Bt×Int)}(h:OkX n X)(s:Bt):OkX n (X++[(s,(n:Int))]):=by
 intro j k;rw[Uf,VH]at k;by_cases h1:j<X.length;rw[Vt h1];obtain⟨a,b,c⟩:=h j h1;refine⟨a,b,λi hi e f=>?_⟩;rw[Vt (by omega)];exact c i (by omega) e f;have:j=X.length:=by omega
 subst this;rw[VP (Uc _)];refine⟨by simp,by simp;omega,λi hi e f=>?_⟩;rw[Vt (by omega)];have:=(h i (by omega)).1;simp;exact this
mutual
theorem pS:∀(v:Tr) (n:Nat),OkX n (Qh v n)
 |.mk k s ks xs,n=>by rw[Qh];refine OkX.root ?_ _;split;exact Es xs ks n;split;exact FH xs n;exact OkX.nil n
theorem FH:∀(l:List Tr) (n:Nat),OkX n (c9 l n)
 |[],n=>by rw[c9];exact OkX.nil n
 |x::l,n=>by rw[c9];exact(pS x n).app (FH l _)
theorem Es:∀(l:List Tr) (ks:List Bt) (n:Nat),OkX n (Ja l ks n)
 |[],_,n=>by rw[Ja];exact OkX.nil n
 |x::l,ks,n=>by rw[Ja];have h1:=(pS x n).root (eS ks.head!);have h2:=h1.app (Y:=Ja l ks.tail (n+(Qh x n).length+1)) (by rw[Uf,VH,<-Nat.add_assoc];exact Es l _ _);rw[UB]at h2;exact h2
end
def dV(X:List (Bt×Int)):List Bt×List Int:=(X.map (·.1),X.map (·.2))
theorem Mr{w:Tr}(h:wy w<=512):jk (dV (Qh w 0))=Ta:=by
 have l:=jz w 0;unfold jk dV;simp only[Ui,zB,Um];refine⟨⟨by simp,by omega⟩,Xo.2 λj f=>Zl.2 ?_⟩;have e:∀i (hi:i<(Qh w 0).length),aR ((Qh w 0).map (·.2)) i=(Qh w 0)[i].2:=λi hi=>by unfold aR;rw[U0,U2,Ul hi];rfl
 obtain⟨a,b,c⟩:=pS w 0 j f;rw[e j f];refine⟨by omega,by omega,λi hi k=>?_⟩;rw[e i (by omega)];exact c i (by omega) hi (by omega)
def BlkS(L:List Int):Nat->List Nat->Nat->Prop
 |a,[],r=>a=r
 |a,e::es,r=>a<e/\aR L (e-1)=(a:Int)/\(∀i,a<=i->i<e->(a:Int)<=aR L i)/\BlkS L e es r
theorem BlkS.le{L:List Int}:∀{c:List Nat} {a r:Nat},BlkS L a c r->a<=r/\(∀e∈c,a<e/\e<=r)/\c.Pairwise (· < ·)/\∀i,a<=i->i<r->(a:Int)<=aR L i
 |[],a,r,h=>by have h:a=r:=h;exact⟨Nat.le_of_eq h,by simp,YT,λi _ _=>by omega⟩
 |e::c,a,r,⟨h1,h2,h3,h4⟩=>by obtain⟨l,f,n,k⟩:=h4.le;refine⟨by omega,λx b=>?_,Vn.2 ⟨λx b=>(f x b).1,n⟩,λi hi m=>?_⟩;rcases Uj.1 b with rfl|b;exact⟨h1,l⟩;have:=f x b;omega;by_cases h:i<e;exact h3 i hi h;have:=k i (by omega) m;omega
theorem BlkS.par{L:List Int}{r:Nat}(k:r<L.length):∀{b:List Nat} {a:Nat},BlkS L a b r->aR L r<=(a:Int)->∀i,a<=i->i<r->(dl L L.length i=(r:Int)↔i+1∈b)
 |[],a,h,_,i,h1,h2=>by have h:a=r:=h;omega
 |e::b,a,⟨h1,h2,h3,h4⟩,hl,i,hi,hir=>by
  obtain⟨x,q,z,l⟩:=h4.le;by_cases c:i<e;by_cases c2:i+1=e;refine⟨λ_=>by rw[c2];exact Uu,λ_=>?_⟩;refine tp hir k (by omega) λj n f=>?_;have:=l j (by omega) f;omega;refine⟨λt=>?_,λo=>?_⟩;exfalso;rcases j9 L L.length i with⟨s,_⟩|⟨p,s,w,y,u,m⟩;omega;have:¬(e-1<p):=λh=>by have:=m (e-1) (by omega) h;omega
  omega;rcases Uj.1 o with h|h;exact absurd h c2;have:=(q _ h).1;omega;rw[BlkS.par k h4 (by omega) i (by omega) hir,Uj];exact⟨λh=>.inr h,λh=>by rcases h with h|h;omega;exact h⟩
theorem BH:∀{a b:List Nat},a.Pairwise (· < ·)->b.Pairwise (· < ·)->(∀i,i∈a↔i∈b)->a=b
 |[],[],_,_,_=>rfl
 |[],y::b,_,_,h=>absurd ((h y).2 Uu) (by simp)
 |x::a,[],_,_,h=>absurd ((h x).1 Uu) (by simp)
 |x::a,y::b,ha,hb,h=>by
  rw[Vn]at ha hb;have c:x=y:=by have h1:=(h x).1 Uu;have h2:=(h y).2 Uu;rcases Uj.1 h1 with e|e;exact e;rcases Uj.1 h2 with f|f;exact f.symm;have:=ha.1 y f;have:=hb.1 x e;omega
  subst c;rw[BH ha.2 hb.2 λi=>?_];have h1:=h i;rw[Uj,Uj]at h1;constructor;intro hi;have:=ha.1 i hi;rcases h1.1 (.inr hi)with e|e;omega;exact e;intro hi;have:=hb.1 i hi;rcases h1.2 (.inr hi)with e|e;omega;exact e
theorem xS(L:List Int)(n:Nat):(zt L n).Pairwise (· < ·):=YC.sublist List.filter_sublist XH
theorem BlkS.kids{L:List Int}{r a:Nat}{c:List Nat}(b:r<L.length)(H:BlkS L a c r)(z:aR L r=(a:Int)):zt L r=c.map λe=>e-1:=by
 obtain⟨w,k,o,q⟩:=H.le;refine BH (xS L r) (List.pairwise_map.2 ?_) λi=>?_;exact YC.imp_of_mem (λ {x y} m A h=>by have:=(k x m).1;omega) o;rw[J9,US];constructor;rintro⟨h1,h2⟩;have f:i<r/\a<=i:=by
  rcases j9 L L.length i with⟨n,_⟩|⟨p,n,u,B,s,t⟩;omega;have:p=r:=by omega
  subst this;omega
 exact⟨i+1,(H.par b (by omega) i f.2 f.1).1 h2,by omega⟩;rintro⟨e,l,rfl⟩;have:=k e l;exact⟨by omega,(H.par b (by omega) (e-1) (by omega) (by omega)).2 (by rw[show e-1+1=e by omega];exact l)⟩
end
end
section
open Go.RowKit
section
variable {g:zb} {b:Nat} {v:Tr}
theorem PG:qj Tp 31=Ta:=by kernel_rfl
theorem NC:jg Tp 31=2:=by kernel_rfl
theorem hH{x y:Value}(B:Blk g b #[x,y]){s1 s2:Sl}{K:zb->Prop}(f:∀g',(∀j,j≠b->g'[j]?=g[j]?)->g'.size=g.size->Blk g' b #[aK s1,aK s2]->K g'):
  XRunU Tp (Ub 31 (.pointer (Td ⟨b,0,Te⟩)) (.agg #[aK s1,aK s2])) g K:=by
 refine fT (vs:=[aK s1,aK s2]) PG B rfl NC (Uc _) (λu c=>?_) λg' e i h=>f g' h i e;simp at c;rcases c with rfl|rfl <;> rfl
theorem Later.stay{h g g':zb}{M M':Fr}(L:Later h M g M')(l:h.size<=b)(k:M' b=Te)(f:∀j,j≠b->g'[j]?=g[j]?)(z:g'.size=g.size):Later h M g' M':= ⟨⟨by have:=L.keep.size;omega,λj i=>by rw[f j (by omega)];exact L.keep.get j i⟩,L.le,L.old,λc cs e=>by rw[f c (λh=>by subst h;rw[k]at e;cases e)];exact L.ag c cs e⟩
def Wa(v:Tr):(List Bt×List Int)×Int:=if zz v=Ta then(if 512<wy (zf v)then(([],[]),6)else(dV (Qh (zf v) 0),0))else(([],[]),1)
theorem sC(h:zz v=Ta):ja v=zf v:=by unfold ja;rw[zA (J7 h)]
set_option maxRecDepth 100000 in
set_option maxHeartbeats 1000000 in
theorem uM{gl:Fr}(S:GL gl)(hb:Brn gl)(Z:Sm v){R:(List Bt×List Int)×Int->Prop}(s:R (Wa v)):PC Tp gl 14 [Arg.mk .tree v] [.pair (.row .str) (.row p3),.int .i64] R:=by
 intro h M vs Y ag ha
 match vs,ha with
 |[u],⟨N,_⟩=>
  have N:RdV M .tree v u:=N;have E:=N;obtain⟨sk,si,rfl,rk,ri⟩:=qq N;apply PX.of;apply Lv v.kind v.text sk si;intro h1;obtain⟨k1,z1,B1⟩:=jf (g:=h1) rfl;clear_value h1;intro h2;obtain⟨k2,z2,R2⟩:=jf (g:=h2) rfl;clear_value h2;have B2:=B1.ofKeep k2;have V:Keep h.size h h2:=k1.trans k2 (by omega);have L2:Later h M h2 M:=Later.same ag V;have done:∀(g:zb) (M':Fr) (t:List Bt×List Int) (e:Int) (s1 s2:Sl),Later h2 M g M'->Rd M' (.row .str) t.1 [aK s1]->Rd M' (.row p3) t.2 [aK s2]->R (t,e) ->
    XRunU Tp (Ub 31 (.pointer (Td ⟨h1.size,0,Te⟩)) (.agg #[aK s1,aK s2])) g λg'=>∃O P:Sl,zd g' ⟨h1.size,0,Te⟩ 0 [aK O,aK P]/\∃M2 q,Later h M g' M2/\Zp M2 [.pair (.row .str) (.row p3),.int .i64] q (.tuple #[.agg #[aK O,aK P],.int .i64 e])/\R q:=by
   intro g M' t e s1 s2 L O P J;have nR:M' h1.size=Te:=by rw[L.old _ (by omega)];exact ag.none (by omega)
   refine hH (R2.keep (L.keep.get _ (by omega))) λg' f z B=>⟨s1,s2,B.ld (cs:=[aK s1,aK s2]),M',(t,e),Later.stay (L2.trans L) (by omega) nR f z,⟨[_,_],⟨_,_,rfl,Yj O P,_,rfl,Zw _ _⟩,rfl⟩,J⟩
  refine⟨v.kind,v.text,sk,si,B2.ld (cs:=[_,_,aK sk,aK si]),?_⟩;refine(yN S Z (R:=λr=>r=zz v) rfl).go (vs:=[.agg #[.int .i64 v.kind,.string v.text,aK sk,aK si]]) Y L2.ag (zq E zy) λw H M8 r F n J=>?_;subst J;refine⟨_,dt n,λp=>?_,λp=>?_⟩
  ·have p:zz v=Tc:=by simpa using p
   unfold Wa at s;rw[za (by rw[p];simp)]at s;exact done H M8 ([],[]) 1 ⟨Te,0,0⟩ ⟨Te,0,0⟩ F Xg Xg s
  have p:zz v=Ta:=by simpa using p
  unfold Wa at s;rw[zA p]at s;have z8:=F.keep.size;intro x;obtain⟨aa,ae,Q⟩:=jf (g:=x) rfl;clear_value x;have l:Later h2 M x M8:=F.trans (Later.same F.ag aa);refine⟨v.kind,v.text,sk,si,(B2.keep (l.keep.get _ (by omega))).ld (cs:=[_,_,aK sk,aK si]),?_⟩;refine(FN S Z (R:=λr=>r=ja v) rfl).go (vs:=[.agg #[.int .i64 v.kind,.string v.text,aK sk,aK si]]) (Y.trans l.le) l.ag (zq (E.mono l.le) zy) λw G y r i n J=>?_;subst J;have D:=Yk.1 n;obtain⟨xk,xi,rfl,y1,y2⟩:=qq D;refine⟨_,_,xk,xi,rfl,?_⟩;have hs:=sC p;have ab:zz (ja v)=Ta:=by rw[zM];exact p
  obtain⟨q1,q2,q3,q4⟩:=Yh ab;have af:=i.keep.size;have nB:y H.size=Te:=by rw[i.old _ (by omega)];exact F.ag.none (by omega)
  have HB:Tb H.size G y H.size [] []:=⟨⟨Te,0,0⟩,⟨Te,0,0⟩,[],[],rfl,Q.keep (i.keep.get _ (by omega)),ORow.nil,ORow.nil,λc b=>(by cases b),λb=>(by cases b),λb=>(by cases b),nB,Uc _⟩;refine XC.mono (Ck S hb (bR (ja v)) (ja v) (by omega) (Uc _) q3 (sn Z) G y H.size [] [] _ i.ag (Y.trans (l.le.trans i.le)) HB (by omega) (UH _) D) ?_;rintro w h25 ⟨rfl,A,bs,T,s1,s2,b1,b2,rfl,B⟩;rw[UX,UG,hs]at B;have ah:=T.grow;have I:Later h2 M h25 A:=by have hk:=l.keep;refine⟨⟨by omega,λj hj=>?_⟩,l.le.trans (i.le.trans T.le),λc b=>?_,T.ag⟩;rw[T.fr j (by omega) (by omega) (by simp),i.keep.get j (by omega)];exact hk.get j hj;rw[T.old c (by omega),i.old c (by omega)];exact l.old c b
  have m:=B.r1.len;rw[Um]at m;have ai:=jz (zf v) 0;refine⟨rfl,s1,by rw[add0];exact B.box.cellAdd (o:=0) (k:=0) rfl,λb=>?_,λb=>?_⟩
  ·have b:=zC b;have:512<wy (zf v):=by unfold dA at m;rw[UQ]at m;omega
   rw[zA this]at s;exact done h25 A ([],[]) 6 ⟨Te,0,0⟩ ⟨Te,0,0⟩ I Xg Xg s
  ·have b:=zD b;have:¬512<wy (zf v):=by unfold dA at m;rw[UQ]at m;omega
   rw[za this]at s;have C:=kE (X:=Qh (zf v) 0) (by omega);rw[C]at B;refine⟨s1,s2,by rw[add0];exact B.box.ld (cs:=[aK s1,aK s2]),?_⟩;have own:∀c∈b1++b2,h2.size<=c:=λc b=>by rcases Uv.1 b with h|h;have:=(B.r1.own c h).1;omega;have:=(B.r2.own c h).1;omega
   have U:Later h2 M h25 (MxL A h25 (b1++b2)):=Later.own I own;exact done h25 _ (dV (Qh (zf v) 0)) 0 s1 s2 U (B.r1.rd T.ag (λc b=>Un _ b) (by rw[Um];omega)) (B.r2.rd T.ag (λc b=>Uw _ b) (by rw[Um];omega)) s
end
section
variable {x y:Bool} {a b:Int} {gl:Fr} {R:Bool -> Prop}
theorem ie(a b:Bt):(a.toList==b.toList)=decide (a=b):=by rw[Z8,Z8,Uy,beq_iff_eq,zB,kM]
theorem A1:(bif x then Ta else y)=Ta↔x=Ta\/y=Ta:=by simp
theorem lq:(bif x then Ta else y)=Tc↔x=Tc/\y=Tc:=by simp
theorem kH:(bif x then y else Tc)=Ta↔x=Ta/\y=Ta:=by simp
theorem tm:(bif x then y else Tc)=Tc↔x=Tc\/y=Tc:=by grind
theorem d8(h:decide (a<b)=Ta):a<b:=zC h
theorem eQ(h:decide (a<b)=Tc):¬a<b:=zD h
theorem SQ{L:List Int}{m:Nat}(h:m<L.length):(0:Int)<=(m:Int)/\L[((m:Nat):Int).toNat]?=Td (aR L m):=⟨by omega,by rw[Ue];exact zK h⟩
theorem uV{t:List Bt×List Int}(h:jk t=Ta):t.1.length=t.2.length/\t.2.length<=512/\eT t.2 t.2.length=Ta:=by unfold jk at h;grind
theorem FW{t:List Bt×List Int}(b:R (jk t)):PC Tp gl 21 [Arg.mk (.pair (.row .str) (.row p3)) t] [.bool] R:=by apply OX;refine sX (t:=t) (R:=λr=>R r.2) ?_;grind
theorem Oe{t:List Bt×List Int}{R:List Int->Prop}(b:R (if jk t=Ta then eJ t.2 else [])):PC Tp gl 26 [Arg.mk (.pair (.row .str) (.row p3)) t] [.row p3] R:=by apply MB;refine sX (t:=t) (R:=λr=>((!r.2)=Ta->R ([]:List Int))/\((!r.2)=Tc->R r.1)) ?_;grind
def iw(P:List Int)(m:Nat):List Nat:=(U8 m).filter λi=>decide (aR P i<0)
theorem wE{P:List Int}(f:P.length<=1000000){R:List Int->Prop}(l:R ((iw P P.length).map λi:Nat=>(i:Int))):
  ∃(I:(List Int)->Int->Prop) (μ:(List Int)->Int->Nat),I ([]:List Int) 0/\∀out:List Int,∀x:Int,I out x->(((decide ((x:Int)<((VA P:Nat):Int)))=Ta->∃y:Int,(0<=(x:Int)/\P[(x:Int).toNat]?=Td y)/\((decide ((y:Int)<0))=Ta->((VA out+VA ([x]:List Int))*8<=140737488355328/\(I (out++([x]:List Int)) (hZ (x+1))/\μ (out++([x]:List Int)) (hZ (x+1))<μ out x)))/\((decide ((y:Int)<0))=Tc->(I out (hZ (x+1))/\μ out (hZ (x+1))<μ out x)))/\((decide ((x:Int)<((VA P:Nat):Int)))=Tc->R out)):=by
 refine⟨λo i=>∃m:Nat,i=m/\m<=P.length/\o=(iw P m).map λi:Nat=>(i:Int),λ_ i=>P.length-i.toNat,⟨0,rfl,UH _,rfl⟩,?_⟩;rintro o i ⟨m,rfl,k,rfl⟩;refine⟨λc=>?_,λc=>?_⟩;have b:m<P.length:=by have:=d8 c;omega
 rw[qn b (by omega)];have e:(iw P m).length<=m:=by unfold iw;exact VB (List.length_filter_le _ _) (by simp)
 refine⟨aR P m,SQ b,λh=>⟨by grind,⟨m+1,rfl,b,?_⟩,by grind⟩,λh=>⟨⟨m+1,rfl,b,?_⟩,by grind⟩⟩;unfold iw;rw[WY,List.filter_append,VZ,zA h,U7];rfl;unfold iw;rw[WY,List.filter_append,VZ,za (by rw[h];simp),List.filter_nil,UM];grind
theorem Oi{t:List Bt×List Int}(h:jk t=Ta):iw (eJ t.2) (eJ t.2).length=J8 t.2 t.2.length:=by unfold iw J8;rw[Yi];refine List.filter_congr λi hi=>?_;have:=zK (L:=eJ t.2) (i:=i) (by rw[Yi];simp_all);rw[uB (UY.1 hi)]at this;simp_all
theorem MN{t:List Bt×List Int}{R:List Int->Prop}(b:R (if jk t=Ta then(J8 t.2 t.2.length).map (λi:Nat=>(i:Int))else [])):PC Tp gl 24 [Arg.mk (.pair (.row .str) (.row p3)) t] [.row p3] R:=by
 apply OD;refine Oe (t:=t) ?_;cases h:jk t with
 |false=>rw[h]at b;exact wE (P:=[]) (by simp) b
 |true=>obtain⟨_,c,_⟩:=uV h;rw[h]at b;refine wE (P:=eJ t.2) (by rw[Yi];omega) ?_;rw[Oi h];exact b
theorem l7{α:Type}{a b:List α}(c:a.length=b.length){k:Nat}(e:a.length<=k)(h:∀i (h1:i<a.length) (h2:i<b.length),i<k->a[i]=b[i]):a=b:=List.ext_getElem c λi h1 h2=>h i h1 h2 (by omega)
theorem BJ{a b:List Int}(o:a.length<=1000000)(f:∀r,(r=Ta↔a=b)->R r):PC Tp gl 23 [Arg.mk (.row p3) a,Arg.mk (.row p3) b] [.bool] R:=by
 apply Tn;refine⟨λl=>f _ ⟨λh=>(by cases h),λh=>by grind⟩,λl=>?_⟩;have l:(a.length:Int)=b.length:=by simpa using l
 have e:a.length=b.length:=by omega
 refine⟨λi=>∃k:Nat,i=k/\k<=a.length/\∀i (h1:i<a.length) (h2:i<b.length),i<k->a[i]=b[i],λi=>a.length-i.toNat,⟨0,rfl,UH _,λi _ _ h=>by omega⟩,?_⟩;rintro i ⟨k,rfl,p,m⟩;refine⟨λc=>?_,λc=>?_⟩;have c:k<a.length:=by have:=d8 c;omega
 rw[qn c (by omega)];refine⟨a[k],⟨by omega,by simp⟩,b[k],⟨by omega,by simp⟩,λn=>f _ ⟨λh=>(by cases h),λh=>?_⟩,λn=>⟨⟨k+1,rfl,c,λi h1 h2 q=>?_⟩,by grind⟩⟩;simp_all;grind;have c:k=a.length:=by have:=eQ c;omega
 exact f _ ⟨λ_=>l7 e (Nat.le_of_eq c.symm) m,λ_=>rfl⟩
theorem Al{a b:List Bt×List Int}(h1:a.1.length<=1000000)(h2:a.2.length<=1000000)(l:∀r,(r=Ta↔a=b)->R r):PC Tp gl 16 [Arg.mk (.pair (.row .str) (.row p3)) a,Arg.mk (.pair (.row .str) (.row p3)) b] [.bool] R:=by
 apply Ij;refine⟨λm=>l _ ⟨λh=>(by cases h),λh=>by simp_all⟩,λm=>?_⟩;obtain⟨c1,c2⟩:=lq.1 m;have c1:(a.1.length:Int)=b.1.length:=by simpa using c1
 have c2:(a.2.length:Int)=b.2.length:=by simpa using c2
 have o:a.1.length=b.1.length:=by omega
 have q:a.2.length=b.2.length:=by omega
 refine⟨λi=>∃k:Nat,i=k/\k<=a.1.length/\∀i (h1:i<a.1.length) (h2:i<b.1.length),i<k->a.1[i]=b.1[i],λi=>a.1.length-i.toNat,⟨0,rfl,UH _,λi _ _ h=>by omega⟩,?_⟩;rintro i ⟨k,rfl,n,e⟩;refine⟨λc=>?_,λc=>?_⟩;have c:k<a.1.length:=by have:=d8 c;omega
 rw[qn c (by omega)];refine⟨a.1[k],⟨by omega,by simp⟩,b.1[k],⟨by omega,by simp⟩,λf=>l _ ⟨λh=>(by cases h),λh=>?_⟩,λf=>⟨⟨k+1,rfl,c,λi h1 h2 p=>?_⟩,by grind⟩⟩;simp_all;grind [ie];have c:k=a.1.length:=by have:=eQ c;omega
 have s:a.1=b.1:=l7 o (Nat.le_of_eq c.symm) e;refine⟨λi=>∃k:Nat,i=k/\k<=a.2.length/\∀i (h1:i<a.2.length) (h2:i<b.2.length),i<k->a.2[i]=b.2[i],λi=>a.2.length-i.toNat,⟨0,rfl,UH _,λi _ _ h=>by omega⟩,?_⟩;rintro i ⟨k,rfl,n,e⟩;refine⟨λc=>?_,λc=>?_⟩;have c:k<a.2.length:=by have:=d8 c;omega
 rw[qn c (by omega)];refine⟨a.2[k],⟨by omega,by simp⟩,b.2[k],⟨by omega,by simp⟩,λf=>l _ ⟨λh=>(by cases h),λh=>?_⟩,λf=>⟨⟨k+1,rfl,c,λi h1 h2 p=>?_⟩,by grind⟩⟩;simp_all;grind;have c:k=a.2.length:=by have:=eQ c;omega
 have t:a.2=b.2:=l7 q (Nat.le_of_eq c.symm) e;grind
end
end
section
open Go.Lib
section
variable {Ls:List Bt} {b:Nat} {w x:Tr} {K:List Nat} {s:Bt}
def iZ(v:Tr):Bt:=if zz v=Ta then bl (jy Tc 0 v 0)else⟨#[]⟩
def dR:Tr:=.mk 0 ⟨#[]⟩ [] []
def Z3(Ls:List Bt)(i:Nat):Bt:=Ls.getD i ⟨#[]⟩
def yr(s:Bt):Tr×Bool:=((jc (lb s)).1,decide ((jc (lb s)).2.2=0)&&(decide ((jc (lb s)).1.items.length=0)&&(decide ((jc (lb s)).1.kind<5)&&decide (iZ (jc (lb s)).1=s))))
def db(Ls:List Bt)(L:List Int)(rd:Nat->Tr×Bool)(k:Nat):Bt×Tr×Bool:=
 match zt L k with
 |[j]=>if(lb (Z3 Ls k)).head?=Td 107 then((yr (bl (lb (Z3 Ls k)).tail)).1.text,(rd j).1,(yr (bl (lb (Z3 Ls k)).tail)).2&&((rd j).2&&decide ((yr (bl (lb (Z3 Ls k)).tail)).1.kind=4)))else(⟨#[]⟩,dR,Tc)
 |_=>(⟨#[]⟩,dR,Tc)
def cR(Ls:List Bt)(L:List Int):Nat->Nat->Tr×Bool
 |0,_=>(dR,Tc)
 |f+1,n=>
  if Z3 Ls n=bl [91]then(if(zt L n).all (λk=>(cR Ls L f k).2)=Ta then(.mk 5 ⟨#[]⟩ [] ((zt L n).map λk=>(cR Ls L f k).1),Ta)else(dR,Tc))
  else if Z3 Ls n=bl [123]then(if(zt L n).all (λk=>(db Ls L (cR Ls L f) k).2.2)=Ta then(.mk 6 ⟨#[]⟩ ((zt L n).map λk=>(db Ls L (cR Ls L f) k).1) ((zt L n).map λk=>(db Ls L (cR Ls L f) k).2.1),Ta)else(dR,Tc))
  else((yr (Z3 Ls n)).1,(yr (Z3 Ls n)).2&&decide (zt L n=[]))
def fP(Ls:List Bt)(L:List Int)(rd:Nat->Tr×Bool)(i:Nat):Bt×Tr×Bool:=
 if(lb (Z3 Ls i)).head?=Td 107/\(jc (lb (Z3 Ls i)).tail).2.2=0/\(jc (lb (Z3 Ls i)).tail).1.kind=4/\aR L i<(i:Int)/\aR L (i-1)=aR L i then((jc (lb (Z3 Ls i)).tail).1.text,rd (i-1))else(⟨#[]⟩,dR,Tc)
def dC(Ls:List Bt)(L:List Int):Nat->Nat->Tr×Bool
 |0,_=>(dR,Tc)
 |f+1,n=>
  if Z3 Ls n=bl [91]then(if(zt L n).all (λk=>(dC Ls L f k).2)=Ta then(.mk 5 ⟨#[]⟩ [] ((zt L n).map λk=>(dC Ls L f k).1),Ta)else(dR,Tc))
  else if Z3 Ls n=bl [123]then(if(zt L n).all (λk=>(fP Ls L (dC Ls L f) k).2.2)=Ta then(.mk 6 ⟨#[]⟩ ((zt L n).map λk=>(fP Ls L (dC Ls L f) k).1) ((zt L n).map λk=>(fP Ls L (dC Ls L f) k).2.1),Ta)else(dR,Tc))
  else((yr (Z3 Ls n)).1,(yr (Z3 Ls n)).2&&decide (aR L n=(n:Int)))
structure SegT (Ls:List Bt) (L:List Int) (b:Nat) (X:List (Bt×Int)):Prop where
 le:b+X.length<=L.length
 at_:∀i (h:i<X.length),Z3 Ls (b+i)=X[i].1/\aR L (b+i)=X[i].2
theorem SegT.left{L:List Int}{X Y:List (Bt×Int)}(S:SegT Ls L b (X++Y)):SegT Ls L b X:=by have:=S.le;rw[Uf]at this;refine⟨by omega,λi h=>?_⟩;have:=S.at_ i (by grind);simp_all
theorem SegT.right{L:List Int}{X Y:List (Bt×Int)}(S:SegT Ls L b (X++Y)):SegT Ls L (b+X.length) Y:=by have:=S.le;rw[Uf]at this;refine⟨by omega,λi h=>?_⟩;have:=S.at_ (X.length+i) (by simp_all);grind
theorem Ht{X:List (Bt×Int)}:SegT (dV X).1 (dV X).2 0 X:=by refine⟨by simp[dV],λi h=>?_⟩;unfold Z3 aR dV;simp_all
theorem Y2(w:Tr):0<wy w:=by rw[oF];omega
theorem jI{L:List Int}(S:SegT Ls L b (Qh w b)):b+wy w<=L.length/\Z3 Ls (b+wy w-1)=dI w/\aR L (b+wy w-1)=(b:Int)/\∀i,b<=i->i<b+wy w->(b:Int)<=aR L i:=by
 have m:=jz w b;have l:=Y2 w;have k:=S.le;have c:∀(h:wy w-1<(Qh w b).length),(Qh w b)[wy w-1]=(dI w,(b:Int)):=λh=>by have e:=ly w b;grind
 obtain⟨f,a2⟩:=S.at_ (wy w-1) (by omega);rw[c (by omega),show b+(wy w-1)=b+wy w-1 by omega]at f a2;refine⟨by omega,f,a2,λi h1 h2=>?_⟩;obtain⟨_,c2⟩:=S.at_ (i-b) (by omega);rw[show b+(i-b)=i by omega]at c2;rw[c2];exact(pS w b (i-b) (by omega)).1
def fi(d:Nat):List Tr->Nat->List Nat
 |[],_=>[]
 |x::l,n=>(n+wy x+d)::fi d l (n+wy x+d)
theorem Bc{Ls:List Bt}{L:List Int}:∀(l:List Tr) (b:Nat),SegT Ls L b (c9 l b)->BlkS L b (fi 0 l b) (b+cY 0 l)
 |[],b,_=>by rw[fi,cY];exact rfl
 |x::l,b,S=>by rw[c9]at S;obtain⟨m,k,f,e⟩:=jI S.left;have h:=Y2 x;have c:=S.right;rw[jz]at c;rw[fi,cY];refine⟨by omega,f,λi h1 h2=>e i h1 (by omega),?_⟩;have:=Bc l (b+wy x) c;grind
theorem Dg{L:List Int}{l:List Tr}{ks:List Bt}(S:SegT Ls L b (Ja (x::l) ks b)):
  SegT Ls L b (Qh x b)/\Z3 Ls (b+wy x)=eS ks.head!/\aR L (b+wy x)=(b:Int)/\b+wy x<L.length/\SegT Ls L (b+wy x+1) (Ja l ks.tail (b+wy x+1)):=by
 rw[Ja]at S;have c:=S.right;rw[jz]at c;have h0:=c.at_ 0 (by simp);have h1:=c.le;rw[Uk]at h1;have e:=SegT.right (X:=[(eS ks.head!,(b:Int))]) c;exact⟨S.left,h0.1,h0.2,by omega,e⟩
theorem FI{Ls:List Bt}{L:List Int}:∀(l:List Tr) (ks:List Bt) (b:Nat),SegT Ls L b (Ja l ks b)->BlkS L b (fi 1 l b) (b+cY 1 l)
 |[],_,b,_=>by rw[fi,cY];exact rfl
 |x::l,ks,b,S=>by obtain⟨e,f,k2,n,c⟩:=Dg S;obtain⟨m,k,o,h⟩:=jI e;rw[fi,cY];refine⟨by omega,k2,λi h1 h2=>?_,?_⟩;grind;have:=FI l ks.tail (b+wy x+1) c;grind
theorem HE{L:List Int}(S:SegT Ls L b (Qh x b))(h1:b+wy x<L.length)(h2:aR L (b+wy x)=(b:Int)):zt L (b+wy x)=[b+wy x-1]:=by obtain⟨k,l,f,e⟩:=jI S;have h:=Y2 x;have B:BlkS L b [b+wy x] (b+wy x):=⟨by omega,f,λi a c=>e i a c,rfl⟩;rw[B.kids h1 h2];rfl
theorem Bm(c:zz w=Ta)(f:w.kind<5)(hi:w.items=[])(b:(jy Tc 0 w 0).length<=65536):yr (bl (jy Tc 0 w 0))=(w,Ta):=by obtain⟨n,e⟩:=rO (ln:=Tc) (N:=0) c b;unfold yr iZ;simp_all
theorem Cm(b:zz w=Ta){c:UInt8}(i:c=91\/c=123):jy Tc 0 w 0≠[c]:=λe=>by
 obtain⟨n,h⟩:=rO (ln:=Tc) (N:=0) b (by rw[e];simp);rw[e]at h;have h:=congrArg (·.2.2) h;have f:decide ((jc [91]).2.2=0)=Tc:=by kernel_rfl
 have k:decide ((jc [123]).2.2=0)=Tc:=by kernel_rfl
 grind
theorem Ex(h:cX w=Ta)(hi:w.items=[]):zz w=Ta:=by unfold zz wm;rw[yp,q9,gZ,hi];simp only[xn,Wb,eZ,V4];exact h
theorem Do{rd:Nat->Tr×Bool}{xs:List Tr}(h:K.map rd=xs.map λx=>(x,Ta)):K.all (λk=>(rd k).2)=Ta/\K.map (λk=>(rd k).1)=xs:=by
 have b:K.all (λk=>(rd k).2)=(K.map rd).all (·.2):=by rw[YO];rfl
 have c:K.map (λk=>(rd k).1)=(K.map rd).map (·.1):=by rw[U3];rfl
 rw[b,c,h,YO,U3];exact⟨Us.2 λ_ _=>rfl,by rw[show((·.1) ∘ λx:Tr=>(x,Ta))=id from rfl,YU]⟩
theorem CY{rd:Nat->Bt×Tr×Bool}{b:List (Bt×Tr)}(h:K.map rd=b.map λp=>(p.1,p.2,Ta)):K.all (λk=>(rd k).2.2)=Ta/\K.map (λk=>(rd k).1)=b.map (·.1)/\K.map (λk=>(rd k).2.1)=b.map (·.2):=by
 have c:K.all (λk=>(rd k).2.2)=(K.map rd).all (·.2.2):=by rw[YO];rfl
 have f:K.map (λk=>(rd k).1)=(K.map rd).map (·.1):=by rw[U3];rfl
 have e:K.map (λk=>(rd k).2.1)=(K.map rd).map (·.2.1):=by rw[U3];rfl
 simp_all
theorem vK{Ls:List Bt}{L:List Int}{rd:Nat->Tr×Bool}{e:Nat}:∀(l:List Tr) (b:Nat),SegT Ls L b (c9 l b)->b+cY 0 l<=e->(∀x∈l,∀c,SegT Ls L c (Qh x c)->c+wy x<=e->rd (c+wy x-1)=(x,Ta)) ->
  ((fi 0 l b).map λe=>e-1).map rd=l.map λx=>(x,Ta)
 |[],_,_,_,_=>rfl
 |x::l,b,S,he,H=>by rw[c9]at S;rw[cY]at he;have f:=S.right;rw[jz]at f;rw[fi,Uq,Uq,Uq,WP,H x Uu b S.left (by omega),vK l _ f (by omega) λy h=>H y (Uo _ h)]
theorem qF{Ls:List Bt}{L:List Int}{rd:Nat->Bt×Tr×Bool}{e:Nat}:∀(l:List Tr) (ks:List Bt) (b:Nat),ks.length=l.length->SegT Ls L b (Ja l ks b)->b+cY 1 l<=e -> (∀p∈ks.zip l,∀c,SegT Ls L c (Qh p.2 c)->Z3 Ls (c+wy p.2)=eS p.1->aR L (c+wy p.2)=(c:Int)->c+wy p.2<L.length->c+wy p.2<e->rd (c+wy p.2)=(p.1,p.2,Ta)) ->
  ((fi 1 l b).map λe=>e-1).map rd=(ks.zip l).map λp=>(p.1,p.2,Ta)
 |[],_,_,h,_,_,_=>by rw[List.zip_nil_right];rfl
 |x::l,[],_,h,_,_,_=>by simp at h
 |x::l,k::ks,b,h,S,he,H=>by obtain⟨o,f,k2,m,i⟩:=Dg S;rw[cY]at he;rw[fi,Uq,Uq,Vv,Uq,Nat.add_sub_cancel,H (k,x) Uu b o f k2 m (by grind),qF l ks _ (by simpa using h) i (by omega) λy n=>H y (Uo _ n)]
theorem Ag(h:lb s=[]):s=⟨#[]⟩:=by rw[<-Zx s,h]
theorem Ee{s k:Bt}(b:s=eS k)(c:xd (lb k)=Ta)(f:s.size<=65536):(lb s).head?=Td 107/\yr (bl (lb s).tail)=(.mk 4 k [] [],Ta)/\(jc (lb s).tail).2.2=0/\(jc (lb s).tail).1=.mk 4 k [] []:=by
 subst b;have e:lb (eS k)=107::jy Tc 0 (.mk 4 k [] []) 0:=by unfold eS;rw[ym,xo];rfl
 have h:zz (.mk 4 k [] [])=Ta:=Ex (by unfold cX zn;grind) rfl;grind [gn,rO,Bm]
theorem CH{Ls:List Bt}{L:List Int}(J:∀i,i<L.length->(Z3 Ls i).size<=65536):∀(m:Nat) (w:Tr) (b:Nat),bR w<=m->Zy cX w=Ta->SegT Ls L b (Qh w b)->∀f,b+wy w<=f ->
  cR Ls L f (b+wy w-1)=(w,Ta)/\dC Ls L f (b+wy w-1)=(w,Ta)
 |0,w,b,h,_,_,_,_=>by rw[q9]at h;omega
 |m+1,w,b,hm,ok,S,f,hf=>by
  obtain⟨g1,r,N,g4⟩:=jI S;have z:=Y2 w;obtain⟨f,rfl⟩:∃f',f=f'+1:=⟨f-1,by omega⟩;have I:b+wy w-1<L.length:=by omega
  have o:=lD ok;have C:=oF w;have D:=J _ I;have M:∀x∈w.items,∀c,SegT Ls L c (Qh x c)->c+wy x<=f->cR Ls L f (c+wy x-1)=(x,Ta)/\dC Ls L f (c+wy x-1)=(x,Ta):=λx A c l n=>CH J m x c (by have:=qi A;omega) (Ye ok A) l f n;have aa:w.kind<5->w.items=[]->cR Ls L (f+1) (b+wy w-1)=(w,Ta)/\dC Ls L (f+1) (b+wy w-1)=(w,Ta):=λhk hi=>by
   have h1:wy w=1:=by rw[C,za (by omega),za (by omega)]
   have u:=Ex o hi;have E:dI w=bl (jy Tc 0 w 0):=by unfold dI;rw[za (by omega),za (by omega)]
   rw[E]at r;have hl:(jy Tc 0 w 0).length<=65536:=by rw[r,<-gn,ym]at D;exact D
   have F:¬bl (jy Tc 0 w 0)=bl [91]:=λe=>Cm u (.inl rfl) (tH.1 e);have n2:¬bl (jy Tc 0 w 0)=bl [123]:=λe=>Cm u (.inr rfl) (tH.1 e);have n3:zt L (b+wy w-1)=[]:=by
    have B:BlkS L b [] (b+wy w-1):=by show b=b+wy w-1;omega
    rw[B.kids I N];rfl
   rw[cR,dC,r,za F,za n2,za F,za n2,Bm u hk hi hl,n3,N,h1];simp
  rcases me o with⟨k,_,_,i⟩|⟨k,_,_,i⟩|⟨k,_,_,i⟩|⟨k,_,_,i⟩|⟨k,t,ks⟩|⟨k,Q,kl,t⟩;simp_all;simp_all;simp_all;simp_all;rw[k]at C;simp only[za (show¬(5:Int)=6 by decide),if_true]at C;have y:SegT Ls L b (c9 w.items b):=by rw[ly,k]at S;simp only[za (show¬(5:Int)=6 by decide),if_true]at S;exact S.left
  have E:dI w=bl [91]:=by unfold dI;rw[zA k]
  rw[E]at r;have s:zt L (b+wy w-1)=(fi 0 w.items b).map λe=>e-1:=by refine BlkS.kids I ?_ N;have:=Bc w.items b y;rw[show b+wy w-1=b+cY 0 w.items by omega];exact this
  obtain⟨Z,a2⟩:=Do (vK (rd:=cR Ls L f) (e:=f) w.items b y (by omega) λx A c l n=>(M x A c l n).1);obtain⟨G,V⟩:=Do (vK (rd:=dC Ls L f) (e:=f) w.items b y (by omega) λx A c l n=>(M x A c l n).2);have u:Tr.mk 5 ⟨#[]⟩ [] w.items=w:=by cases w;simp only[Tr.kind,Tr.text,Tr.keys,Tr.items]at k t ks ⊢;rw[k,ks,Ag t]
  rw[cR,dC,r,zA rfl,zA rfl,s,zA Z,zA G,a2,V,u];simp;rw[k]at C;simp only[if_true]at C;have y:SegT Ls L b (Ja w.items w.keys b):=by rw[ly,k]at S;simp only[if_true]at S;exact S.left
  have E:dI w=bl [123]:=by unfold dI;rw[za (by omega),zA k]
  rw[E]at r;have s:zt L (b+wy w-1)=(fi 1 w.items b).map λe=>e-1:=by refine BlkS.kids I ?_ N;have:=FI w.items w.keys b y;rw[show b+wy w-1=b+cY 1 w.items by omega];exact this
  have ku:∀q∈w.keys,xd (lb q)=Ta:=by unfold qw at Q;rw[Ui,Us]at Q;exact Q.1
  obtain⟨Z,a2,G⟩:=CY (qF (rd:=db Ls L (cR Ls L f)) (e:=f) w.items w.keys b kl y (by omega) λp z c l U q2 H q4=>by obtain⟨P,Y,_⟩:=Ee U (ku _ (List.of_mem_zip z).1) (J _ H);have O:=Y2 p.2;unfold db;rw[HE l H q2];dsimp only;rw[zA P,Y,(M p.2 (List.of_mem_zip z).2 c l (by omega)).1];rfl);obtain⟨V,a5,a6⟩:=CY (qF (rd:=fP Ls L (dC Ls L f)) (e:=f) w.items w.keys b kl y (by omega) λp z c l U q2 H q4=>by obtain⟨P,_,Y,r3⟩:=Ee U (ku _ (List.of_mem_zip z).1) (J _ H);have O:=Y2 p.2;obtain⟨_,_,s3,_⟩:=jI l;unfold fP;rw[zA ⟨P,Y,by rw[r3],by omega,by rw[s3,q2]⟩,r3,(M p.2 (List.of_mem_zip z).2 c l (by omega)).2]);have u:Tr.mk 6 ⟨#[]⟩ w.keys w.items=w:=by cases w;simp only[Tr.kind,Tr.text,Tr.keys,Tr.items]at k t ⊢;rw[k,Ag t]
  have z1:(w.keys.zip w.items).map (·.1)=w.keys:=by rw[XZ (by omega)]
  have z2:(w.keys.zip w.items).map (·.2)=w.items:=by rw[List.map_snd_zip (by omega)]
  rw[z1]at a2 a5;rw[z2]at G a6;have F:¬bl [123]=bl [91]:=λe=>by simp_all
  rw[cR,dC,r,za F,zA rfl,za F,zA rfl,s,zA Z,zA V,a2,G,a5,a6,u];simp
end
section
theorem tX(s:Bs):((jc s).2.2=0->zz (jc s).1=Ta)/\Sm (jc s).1:=by
 by_cases c:(Yl s).2.2=0;obtain⟨f,_,i⟩:=GG c;have b:(jc s).1=Ys s (Yl s).1.2 33 0:=by unfold jc;rw[zA c]
 rw[b];exact⟨λ_=>f,i⟩;have b:(jc s).1=.mk 0 (bl []) [] []:=by unfold jc;rw[za c]
 refine⟨λh=>?_,?_⟩;unfold jc at h;rw[za c]at h;exact absurd h c;rw[b];refine⟨by rw[q9];simp[xn],?_⟩;rw[dw];exact⟨⟨UH _,UH _,λk e=>by cases e⟩,trivial⟩
theorem kq:Sm dR:=by refine⟨by rw[q9];simp[dR,Tr.items,xn],?_⟩;unfold dR;rw[dw];exact⟨⟨UH _,UH _,λk b=>by cases b⟩,trivial⟩
theorem sB(s:Bt):Sm (yr s).1/\((yr s).2=Ta->bR (yr s).1=1):=by refine⟨(tX (lb s)).2,λh=>?_⟩;unfold yr at h ⊢;simp only[Ui,zB]at h;have hi:=Vk.1 h.2.1;rw[q9,hi];rfl
theorem Cp{L:List Int}{n:Nat}:∀(K:List Nat) (a:Nat),K.Pairwise (λi j:Nat=>(i:Int)<aR L j)->(∀k∈K,(a:Int)<=aR L k/\aR L k<=k/\k<n)->a<=n->(K.map λk=>k+1-(aR L k).toNat).sum<=n-a
 |[],a,_,_,_=>by simp
 |k::K,a,hp,hk,han=>by rw[Vn]at hp;obtain⟨h1,h2,c⟩:=hk k Uu;have:=Cp K (k+1) hp.2 (λj b=>⟨by have:=hp.1 j b;omega,(hk j (Uo _ b)).2⟩) (by omega);rw[Uq,List.sum_cons];omega
theorem Mw{L:List Int}(h:eT L L.length=Ta)(n:Nat):(zt L n).Pairwise (λi j:Nat=>(i:Int)<aR L j):=by refine YC.imp_of_mem (λ {i j} hi c b=>?_) (xS L n);obtain⟨h1,h2⟩:=J9.1 hi;obtain⟨f,e⟩:=J9.1 c;exact(my h h1 h2).2.2.2.2 j b (my h f e).1
theorem Bi{f:Nat->Tr}{g:Nat->Nat}:∀{K:List Nat},(∀k∈K,bR (f k)<=g k)->xn (K.map f)<=(K.map g).sum
 |[],_=>by simp[xn]
 |k::K,h=>by rw[Uq,Uq,List.sum_cons,xn];have h1:=h k Uu;have h2:=Bi (K:=K) λj b=>h j (Uo _ b);omega
theorem Fg{m:Nat}{f:Nat->Tr}:∀{K:List Nat},(∀k∈K,dw m (f k))->dS m (K.map f)
 |[],_=>by rw[V6,dS];trivial
 |k::K,h=>by rw[Uq,dS];exact⟨h k Uu,Fg λj b=>h j (Uo _ b)⟩
theorem pk{L:List Int}(c:eT L L.length=Ta)(s:L.length<=512){n:Nat}(m:n<L.length){kd:Int}{ks:List Bt}{f:Nat->Tr}(e:∀k∈zt L n,bR (f k)<=k+1-(aR L k).toNat/\dw 1048576 (f k))(b:ks.length<=1048576/\∀k∈ks,k.size<=1048576):
  Sm (.mk kd ⟨#[]⟩ ks ((zt L n).map f))/\bR (.mk kd ⟨#[]⟩ ks ((zt L n).map f))<=n+1-(aR L n).toNat:=by
 have h:=Xo.1 c;obtain⟨r,a2,_⟩:=Zl.1 (h n m);have h1:=Bi (K:=zt L n) λk b=>(e k b).1;have h2:=Cp (n:=n) (zt L n) (aR L n).toNat (Mw c n) (λk b=>by obtain⟨h1,h2⟩:=J9.1 b;obtain⟨i,p,t,o,q⟩:=my c h1 h2;exact⟨by omega,(Zl.1 (h k h1)).2.1,i⟩) (by omega);have l:bR (.mk kd ⟨#[]⟩ ks ((zt L n).map f))<=n+1-(aR L n).toNat:=by rw[q9];show 1+xn ((zt L n).map f)<=_;omega
 refine⟨⟨by omega,?_⟩,l⟩;rw[dw];exact⟨⟨UH _,b.1,b.2⟩,Fg λk b=>(e k b).2⟩
theorem BM{v:Tr}(h:Sm v):v.text.size<=1048576:=by have:=h.tx;cases v;rw[dw]at this;exact this.1.1
theorem lc{Ls:List Bt}{L:List Int}(c:eT L L.length=Ta)(m:L.length<=512):∀(f n:Nat),n<L.length ->
  (Sm (cR Ls L f n).1/\((cR Ls L f n).2=Ta->bR (cR Ls L f n).1<=n+1-(aR L n).toNat))/\(Sm (dC Ls L f n).1/\((dC Ls L f n).2=Ta->bR (dC Ls L f n).1<=n+1-(aR L n).toNat))
 |0,n,_=>⟨⟨kq,λh=>by cases h⟩,⟨kq,λh=>by cases h⟩⟩
 |f+1,n,hn=>by
  have r:=Xo.1 c;obtain⟨E,a2,_⟩:=Zl.1 (r n hn);have x:(zt L n).length<=512:=by unfold zt;exact VB (List.length_filter_le _ _) (by simp;omega)
  have low:∀{i k:Nat},i∈zt L k->i<L.length/\i<k/\aR L k<=aR L i:=λ {i k} hi=>by obtain⟨h1,h2⟩:=J9.1 hi;obtain⟨l,o,G,z,D⟩:=my c h1 h2;exact⟨h1,l,z⟩
  have e:([]:List Bt).length<=1048576/\∀k∈([]:List Bt),k.size<=1048576:=⟨UH _,λk b=>by cases b⟩;have lf:Sm (yr (Z3 Ls n)).1/\((yr (Z3 Ls n)).2=Ta->bR (yr (Z3 Ls n)).1<=n+1-(aR L n).toNat):=⟨(sB _).1,λh=>by rw[(sB _).2 h];omega⟩;constructor;rw[cR];split;split;rename_i h;rw[Us]at h;obtain⟨l,o⟩:=pk (kd:=5) (ks:=[]) c m hn (f:=λk=>(cR Ls L f k).1) (λk b=>by obtain⟨⟨q,p⟩,_⟩:=lc (Ls:=Ls) c m f k (low b).1;exact⟨p (h k b),q.tx⟩) e;exact⟨l,λ_=>o⟩;exact⟨kq,λh=>by cases h⟩;split;split;rename_i h;rw[Us]at h;have key:∀k∈zt L n,(bR (db Ls L (cR Ls L f) k).2.1<=k+1-(aR L k).toNat/\dw 1048576 (db Ls L (cR Ls L f) k).2.1)/\(db Ls L (cR Ls L f) k).1.size<=1048576:=λk b=>by
   have h2:=h k b;revert h2;unfold db;split;rename_i j A;split;intro h2;simp only[Ui]at h2;have t:j∈zt L k:=by rw[A];simp
   obtain⟨B,F,C⟩:=low t;obtain⟨⟨q,p⟩,_⟩:=lc (Ls:=Ls) c m f j B;have w:=p h2.2.1;obtain⟨b1,b2,_⟩:=Zl.1 (r k (low b).1);exact⟨⟨by dsimp only;omega,q.tx⟩,BM (sB _).1⟩;intro h2;cases h2;intro h2;cases h2
  obtain⟨l,o⟩:=pk (kd:=6) (ks:=(zt L n).map λk=>(db Ls L (cR Ls L f) k).1) c m hn (f:=λk=>(db Ls L (cR Ls L f) k).2.1) (λk b=>(key k b).1) ⟨by rw[Um];omega,λs u=>by obtain⟨k,b,rfl⟩:=US.1 u;exact(key k b).2⟩;exact⟨l,λ_=>o⟩;exact⟨kq,λh=>by cases h⟩;exact⟨lf.1,λh=>lf.2 (by rw[Ui]at h;exact h.1)⟩;rw[dC];split;split;rename_i h;rw[Us]at h;obtain⟨l,o⟩:=pk (kd:=5) (ks:=[]) c m hn (f:=λk=>(dC Ls L f k).1) (λk b=>by obtain⟨_,⟨q,p⟩⟩:=lc (Ls:=Ls) c m f k (low b).1;exact⟨p (h k b),q.tx⟩) e;exact⟨l,λ_=>o⟩;exact⟨kq,λh=>by cases h⟩;split;split;rename_i h;rw[Us]at h;have key:∀k∈zt L n,(bR (fP Ls L (dC Ls L f) k).2.1<=k+1-(aR L k).toNat/\dw 1048576 (fP Ls L (dC Ls L f) k).2.1)/\(fP Ls L (dC Ls L f) k).1.size<=1048576:=λk b=>by have h2:=h k b;revert h2;unfold fP;split;rename_i y;intro h2;have h2:(dC Ls L f (k-1)).2=Ta:=h2;obtain⟨_,⟨q,p⟩⟩:=lc (Ls:=Ls) c m f (k-1) (by have:=(low b).1;omega);have w:=p h2;obtain⟨b1,b2,_⟩:=Zl.1 (r k (low b).1);have c1:=y.2.2.2.1;have c2:=y.2.2.2.2;exact⟨⟨by show bR (dC Ls L f (k-1)).1<=_;rw[c2]at w;omega,q.tx⟩,BM (tX _).2⟩;intro h2;cases h2
  obtain⟨l,o⟩:=pk (kd:=6) (ks:=(zt L n).map λk=>(fP Ls L (dC Ls L f) k).1) c m hn (f:=λk=>(fP Ls L (dC Ls L f) k).2.1) (λk b=>(key k b).1) ⟨by rw[Um];omega,λs u=>by obtain⟨k,b,rfl⟩:=US.1 u;exact(key k b).2⟩;exact⟨l,λ_=>o⟩;exact⟨kq,λh=>by cases h⟩;exact⟨lf.1,λh=>lf.2 (by rw[Ui]at h;exact h.1)⟩
def gd(w:Tr)(t:List Bt×List Int):Prop:=zz w=Ta/\zf w=w/\wy w<=512/\t=dV (Qh w 0)
theorem Z0{w:Tr}{t:List Bt×List Int}(h:gd w t)(l:∀s∈t.1,s.size<=65536):jk t=Ta/\0<t.2.length/\aR t.2 (t.2.length-1)=0/\cR t.1 t.2 t.2.length (t.2.length-1)=(w,Ta)/\dC t.1 t.2 t.2.length (t.2.length-1)=(w,Ta):=by
 obtain⟨h1,h2,k,rfl⟩:=h;have c:=jz w 0;have f:=Y2 w;have S:=Ht (X:=Qh w 0);have m:(dV (Qh w 0)).2.length=wy w:=by unfold dV;rw[Um,c]
 have q:(dV (Qh w 0)).1.length=wy w:=by unfold dV;rw[Um,c]
 obtain⟨o,p,e,n⟩:=jI S;have ok:Zy cX w=Ta:=by unfold zz at h1;rw[Ui]at h1;exact h1.2
 have b:=CH (Ls:=(dV (Qh w 0)).1) (L:=(dV (Qh w 0)).2) (λi hi=>by unfold Z3;rw[U0,Ul (by omega)];exact l _ (Up _)) (bR w) w 0 (Uc _) ok S (wy w) (by omega);rw[UI]at e b;rw[m];exact⟨Mr k,f,e,b.1,b.2⟩
end
end
section
open Go.RowKit
section
variable {M M':Fr} {x:Tr} {g' g:zb} {bv rb n:Nat} {K:Value -> zb -> Prop} {xk xi s1 s2 s3:Sl} {Ls:List Bt}
theorem FR(v:Tr):(Y7 v).1=iZ v:=by unfold Y7 iZ;split <;> rfl
theorem lu{b:Bool}{u:Value}(h:RdV M .tree x u):Zp M [.tree,.bool] (x,b) (.tuple #[u,.bool b]):=⟨[_,_],⟨_,_,rfl,h,_,rfl,rdBool _⟩,rfl⟩
set_option maxHeartbeats 1000000 in
theorem xJ{gl:Fr}(I:GL gl)(Y:Brn gl){s:Bt}{R:Tr×Bool->Prop}(hR:R (yr s)):PC Tp gl 109 [Arg.mk .str s] [.tree,.bool] R:=by
 intro h M vs H ag ha
 match vs,ha with
 |[u],⟨hu,_⟩=>
 cases ju hu;apply PX.of;apply SJ s;intro h1;have S:Keep h.size h h1:=Keep.push _ _ (Uc _);have z1:h1.size=h.size+1:=Ur _;have E:Blk h1 h.size #[.int .i64 0,.string ⟨#[]⟩,.slice Te 0 0,.slice Te 0 0]:=Blk.new _ _ _;clear_value h1;have P:Later h M h1 M:=Later.same ag S;have n1:M h.size=Te:=ag.none (Uc _);have t:=Le (gl:=gl) I (s:=lb s) (R:=λr=>r=jc (lb s)) rfl;rw[Zx]at t;refine t.go (vs:=[.string s]) H P.ag (zq (a:=Arg.mk .str s) (rdStr _) zy) λw B q r y c A=>?_;have A:r=jc (lb s):=A;obtain⟨us,⟨x1,ab,rfl,D,x2,V,rfl,q2,x3,rfl,q3⟩,rfl⟩:=c;obtain⟨xk,xi,rfl,rk,ri⟩:=qq D;cases qz q2;cases qz q3;refine⟨_,_,xk,xi,_,_,rfl,?_⟩;intro Z;refine xe y.ag λl b aa i=>⟨_,_,xk,xi,i.ld (cs:=[_,_,aK xk,aK xi]),xi,λ_=>i.cellAdd (o:=0) (k:=3) rfl,?_⟩;have O:=(rowLen ri).1;intro C;have J:Later h M l q:=P.trans (y.trans b);have n:Blk l h.size #[.int .i64 0,.string ⟨#[]⟩,.slice Te 0 0,.slice Te 0 0]:=E.keep ((y.trans b).keep.get _ E.lt);have G:q h.size=Te:=by rw[y.old _ E.lt];exact n1
 have fin:∀(g:zb) (Mg:Fr) (x:Bt),Later l q g Mg->((bif (bif ((r.2.2:Int)==0)then(((xi.len:Nat):Int)==0)else Tc)then(decide (r.1.kind<5))else Tc)=Ta->x=iZ r.1) ->
   XRunU Tp (Ub 25 (.pointer (Td ⟨UA h,0,Te⟩)) (.agg #[.int .i64 r.1.kind,.string r.1.text,aK xk,aK xi])) g (λg'=>C (bif (bif (bif ((r.2.2:Int)==0)then(((xi.len:Nat):Int)==0)else Tc)then(decide (r.1.kind<5))else Tc)then((x:Bt).toList==(s:Bt).toList)else Tc) g'):=λg Mg x L m=>by
  refine yq (n.keep (L.keep.get _ n.lt)) λg' f z U=>⟨_,_,xk,xi,U.ld (cs:=[_,_,aK xk,aK xi]),Mg,(r.1,_),Later.stay (J.trans L) (Uc _) (by rw[L.old _ n.lt];exact G) f z,lu (D.mono (b.le.trans L.le)),?_⟩;rw[O];rw[O]at m;subst A;have e:(bif (bif (bif ((jc (lb s)).2.2==0)then(((VA (jc (lb s)).1.items:Nat):Int)==0)else Tc)then(decide ((jc (lb s)).1.kind<5))else Tc)then(x.toList==s.toList)else Tc)=(yr s).2:=by unfold yr;by_cases h1:(jc (lb s)).2.2=0;by_cases h2:(jc (lb s)).1.items.length=0;by_cases B:(jc (lb s)).1.kind<5;have m:=m (by simp[h1,h2,B]);subst m;rw[ie];simp[h1,h2,B];simp[B];simp[h2];simp[h1]
  rw[e];exact hR
 refine⟨rfl,rfl,r.1.kind,λ_=>i.cellAdd (o:=0) (k:=0) rfl,rfl,rfl,r.1.kind,r.1.text,xk,xi,λ_=>i.ld (cs:=[_,_,aK xk,aK xi]),rfl,λv g=>∃Mg,Later l q g Mg/\∃x:Bt,v=.string x/\((bif (bif ((r.2.2:Int)==0)then(((xi.len:Nat):Int)==0)else Tc)then(decide (r.1.kind<5))else Tc)=Ta->x=iZ r.1),λQ=>?_,λQ=>⟨⟨#[]⟩,q,Later.refl b.ag,_,rfl,λh=>by rw[Q]at h;cases h⟩,λ_ v g ⟨_,_,x,e,_⟩=>⟨x,e⟩,?_⟩;have F:Sm r.1:=by rw[A];exact(tX (lb s)).2
 refine(uA I Y F (R:=λx=>x=iZ r.1) (FR _)).go (vs:=[.agg #[.int .i64 r.1.kind,.string r.1.text,aK xk,aK xi]]) (H.trans J.le) b.ag (zq (a:=Arg.mk .tree r.1) (D.mono b.le) zy) λw g Mg x p c m=>?_;exact⟨x,fj c,Mg,p,x,rfl,λ_=>m⟩;rintro x g ⟨Mg,p,x',e,m⟩;cases e;have N:=p.keep.get _ i.lt;exact⟨N,⟨N,fin g Mg x p m⟩,fin g Mg x p m⟩
structure VbM (lo:Nat) (h0:zb) (M0:Fr) (b:Nat) (k:Int) (z2 z3:Sl) (g:zb) (M:Fr) (ks:List Bt) (xs:List Tr) (sk si:Sl) (bk bi:List Nat):Prop where
 L:Later h0 M0 g M
 box:Blk g b #[.int .i64 k,.string ⟨#[]⟩,aK z2,aK z3]
 keys:ORow lo g M .str ks sk bk
 items:ORow lo g M .tree xs si bi
 dj:∀c∈bk,c∉bi
 hb:h0.size<=b
 bl:b<lo
 lg:lo<=g.size
 nB:M b=Te
section
variable {lo : Nat} {h0 : zb} {M0 : Fr} {b : Nat} {k : Int} {z2 z3 : Sl} {g : zb} {M : Fr} {ks : List Bt} {xs : List Tr} {sk si : Sl} {bk bi : List Nat}
theorem VbM.call(V:VbM lo h0 M0 b k z2 z3 g M ks xs sk si bk bi)(L:Later g M g' M'):VbM lo h0 M0 b k z2 z3 g' M' ks xs sk si bk bi:= ⟨V.L.trans L,V.box.keep (L.keep.get b V.box.lt),V.keys.call L,V.items.call L,V.dj,V.hb,V.bl,by have:=V.lg;have:=L.keep.size;omega,by rw[L.old b V.box.lt];exact V.nB⟩
theorem VbM.push(V:VbM lo h0 M0 b k z2 z3 g M ks xs sk si bk bi)(o:Obj):VbM lo h0 M0 b k z2 z3 (g.push o) M ks xs sk si bk bi:=V.call (Later.push V.L.ag o)
theorem VbM.key(V:VbM lo h0 M0 b k z2 z3 g M ks xs sk si bk bi)(t:ks.length<=1000000){x:Bt}(y:Blk g bv #[.string x]) (p:∀m g' n,VbM lo h0 M0 b k z2 z3 g' M (ks++[x]) xs m si n bi->g.size<=g'.size->(∀j,j<g.size->j∉bk->g'[j]?=g[j]?)->K (aK m) g'):
  XRun Tp (Ug #[22,22] 22 #[aK sk,.slice (Td ⟨bv,0,Te⟩) 1 1]) g K:=by
 have A:=V.bl;have q:=V.lg;have s:=V.hb;refine ORow.app vq (by omega) V.L.ag V.keys V.lg (vs:=[.string x]) y rfl t λm g' o r z w f=>p m g' o ⟨⟨⟨by have:=V.L.keep.size;omega,λj u=>?_⟩,V.L.le,V.L.old,λc cs e=>?_⟩,V.box.keep (f b V.box.lt λi=>?_),r,V.items.frame (λc l=>f c (V.items.own c l).2.1 λi=>V.dj c i l) (Fr.le.refl _) (λc l=>(V.items.own c l).2.2),λc l i=>?_,V.hb,V.bl,by omega,V.nB⟩ z f;rw[f j (by omega) λi=>by have:=(V.keys.own j i).1;omega];exact V.L.keep.get j u;rw[f c (V.L.ag.lt e) λi=>by have:=(V.keys.own c i).2.2;rw[this]at e;cases e];exact V.L.ag c cs e;have:=(V.keys.own b i).1;omega;rcases w c l with h|h;exact V.dj c h i;have:=(V.items.own c i).2.1;omega
theorem xP(b:RdV M .tree x (.agg #[.int .i64 x.kind,.string x.text,aK xk,aK xi])):Rd M .tree x [.int .i64 x.kind,.string x.text,aK xk,aK xi]:=by
 unfold RdV at b;simp only[dB,if_true]at b;obtain⟨cs,e,c⟩:=b;injection e with e;have:cs=[.int .i64 x.kind,.string x.text,aK xk,aK xi]:=by have:=congrArg Array.toList e;simpa using this.symm
 rw[<-this];exact c
theorem VbM.item(V:VbM lo h0 M0 b k z2 z3 g M ks xs sk si bk bi)(u:xs.length<=1000000)(A:Blk g bv #[.int .i64 x.kind,.string x.text,aK xk,aK xi])(t:RdV M .tree x (.agg #[.int .i64 x.kind,.string x.text,aK xk,aK xi])) (p:∀m g' n,VbM lo h0 M0 b k z2 z3 g' M ks (xs++[x]) sk m bk n->g.size<=g'.size->(∀j,j<g.size->j∉bi->g'[j]?=g[j]?)->K (aK m) g'):
  XRun Tp (Ug #[23,23] 23 #[aK si,.slice (Td ⟨bv,0,Te⟩) 1 1]) g K:=by
 have B:=V.bl;have q:=V.lg;have s:=V.hb;refine ORow.app nl (by omega) V.L.ag V.items V.lg (vs:=[.int .i64 x.kind,.string x.text,aK xk,aK xi]) A (xP t) u λm g' o r z w f=>p m g' o ⟨⟨⟨by have:=V.L.keep.size;omega,λj y=>?_⟩,V.L.le,V.L.old,λc cs e=>?_⟩,V.box.keep (f b V.box.lt λi=>?_),V.keys.frame (λc l=>f c (V.keys.own c l).2.1 λi=>V.dj c l i) (Fr.le.refl _) (λc l=>(V.keys.own c l).2.2),r,λc l i=>?_,V.hb,V.bl,by omega,V.nB⟩ z f;rw[f j (by omega) λi=>by have:=(V.items.own j i).1;omega];exact V.L.keep.get j y;rw[f c (V.L.ag.lt e) λi=>by have:=(V.items.own c i).2.2;rw[this]at e;cases e];exact V.L.ag c cs e;have:=(V.items.own b i).1;omega;rcases w c i with h|h;exact V.dj c l h;have:=(V.keys.own c l).2.1;omega
theorem VbM.turn(V:VbM lo h0 M0 b k z2 z3 g M ks xs sk si bk bi){l:Int}{i h:Sl}(B:Blk g' b #[.int .i64 l,.string ⟨#[]⟩,aK i,aK h])(z:g'.size=g.size)(f:∀j,j≠b->g'[j]?=g[j]?):VbM lo h0 M0 b l i h g' M ks xs sk si bk bi:=by have m:=V.bl;exact⟨Later.stay V.L V.hb V.nB f z,B,V.keys.frame (λc e=>f c (by have:=(V.keys.own c e).1;omega)) (Fr.le.refl _) (λc e=>(V.keys.own c e).2.2),V.items.frame (λc e=>f c (by have:=(V.items.own c e).1;omega)) (Fr.le.refl _) (λc e=>(V.items.own c e).2.2),V.dj,V.hb,V.bl,by rw[z];exact V.lg,V.nB⟩
theorem VbM.st2(V:VbM lo h0 M0 b k z2 z3 g M ks xs sk si bk bi){K:zb->Prop}(c:∀g',VbM lo h0 M0 b k sk z3 g' M ks xs sk si bk bi->g'.size=g.size->(∀j,j≠b->g'[j]?=g[j]?)->K g'):
  XRunU Tp (Ub 22 (.pointer (Td (Ua ⟨b,0,Te⟩ 2))) (aK sk)) g K:=by
 rw[zj];exact qo mq mQ V.box (by show 2<4;omega) rfl λg' B z f=>c g' (V.turn B z f) z f
theorem VbM.st3(V:VbM lo h0 M0 b k z2 z3 g M ks xs sk si bk bi){K:zb->Prop}(c:∀g',VbM lo h0 M0 b k z2 si g' M ks xs sk si bk bi->g'.size=g.size->(∀j,j≠b->g'[j]?=g[j]?)->K g'):
  XRunU Tp (Ub 23 (.pointer (Td (Ua ⟨b,0,Te⟩ 3))) (aK si)) g K:=by
 rw[zj];exact qo nz pn V.box (by show 3<4;omega) rfl λg' B z f=>c g' (V.turn B z f) z f
theorem VbM.fin(V:VbM lo h0 M0 b k z2 z3 g M ks xs sk si bk bi)(f:ks.length<=1000000/\xs.length<=1000000):Later h0 M0 g (MxL M g (bk++bi))/\RdV (MxL M g (bk++bi)) .tree (.mk k ⟨#[]⟩ ks xs) (.agg #[.int .i64 k,.string ⟨#[]⟩,aK sk,aK si]):=by have l:=V.bl;have i:=V.hb;refine⟨Later.own V.L λc e=>?_,zr (v:=.mk k ⟨#[]⟩ ks xs) (V.keys.rd V.L.ag (λc e=>Un _ e) f.1) (V.items.rd V.L.ag (λc e=>Uw _ e) f.2)⟩;rcases Uv.1 e with h|h;have:=(V.keys.own c h).1;omega;have:=(V.items.own c h).1;omega
end
def kf(L:List Int):List (List Int):=(U8 L.length).map λk=>(zt L k).map λi:Nat=>(i:Int)
structure RdrS (M:Fr) (rb:Nat) (Ls:List Bt) (L:List Int) (s1 s2 s3:Sl):Prop where
 at_:M rb=Td #[aK s1,aK s2,aK s3]
 r1:Rd M (.row .str) Ls [aK s1]
 r3:Rd M (.row (.row p3)) (kf L) [aK s3]
theorem RdrS.mono{L:List Int}(H:RdrS M rb Ls L s1 s2 s3)(le:Fr.le M M'):RdrS M' rb Ls L s1 s2 s3:=⟨le _ _ H.at_,H.r1.mono le,H.r3.mono le⟩
theorem Tf{xs:List (List Int)}{s:Sl}(H:Rd M (.row (.row p3)) xs [aK s]){k:Nat}(l:k<xs.length):∃(a:Addr) (f:Sl),s.a=Td a/\(∀g,AgM M g->zc g (a.add (k*1))=Td (aK f))/\Rd M (.row p3) xs[k] [aK f]:=by
 obtain⟨b,o,cs,m,n,h⟩:=Go.X.rowAt H l;obtain⟨f,i⟩:∃f:Sl,cut cs (o+k*sz (.row p3)) (sz (.row p3))=[aK f]:=by obtain⟨w,e,a,c,q,_⟩:=h;exact⟨⟨a,_,c⟩,by rw[e,q];rfl⟩
 rw[i]at h;exact⟨_,f,m,λg ag=>by rw[qh];exact jt ag n i,h⟩
theorem un(L:List Int):(kf L).length=L.length:=by unfold kf;rw[Um,XP]
theorem RdrS.kids{L:List Int}(H:RdrS M rb Ls L s1 s2 s3)(c:n<L.length):∃(a:Addr) (sk:Sl),(s3.a=Td a/\(0:Int)<=(n:Int)/\(n:Int)<(s3.len:Int))/\(∀g,AgM M g->zc g (a.add (((n:Nat):Int).toNat*1))=Td (aK sk))/\Rd M (.row p3) ((zt L n).map λi:Nat=>(i:Int)) [aK sk]:=by
 obtain⟨a,e,f,l,b⟩:=Tf H.r3 (k:=n) (by rw[un];exact c);have h:=(rowLen H.r3).1;rw[un]at h;refine⟨a,e,⟨f,by omega,by omega⟩,λg ag=>by rw[Ue];exact l g ag,?_⟩;have:(kf L)[n]'(by rw[un];exact c)=(zt L n).map λi:Nat=>(i:Int):=by unfold kf;rw[WE,List.getElem_range]
 rw[this]at b;exact b
theorem RdrS.lab{L:List Int}(H:RdrS M rb Ls L s1 s2 s3)(ag:AgM M g)(b:n<Ls.length):∃a:Addr,(s1.a=Td a/\(0:Int)<=(n:Int)/\(n:Int)<(s1.len:Int))/\zc g (a.add (((n:Nat):Int).toNat*1))=Td (.string (Z3 Ls n)):=by obtain⟨a,h1,x,h2,c⟩:=fG ag H.r1 b (i:=(n:Int)) rfl (L:=s1.len) rfl (Q:=λx=>x=Z3 Ls n) (by unfold Z3;rw[U0,Ul b];rfl);subst c;exact⟨a,h1,h2⟩
theorem RdrS.c0{L:List Int}(H:RdrS M rb Ls L s1 s2 s3)(ag:AgM M g):zc g (Ua (Ua ⟨rb,0,Te⟩ 0) 0)=Td (aK s1):=by rw[zj,zj];exact jt ag H.at_ rfl
theorem RdrS.c2{L:List Int}(H:RdrS M rb Ls L s1 s2 s3)(ag:AgM M g):zc g (Ua ⟨rb,0,Te⟩ 2)=Td (aK s3):=by rw[zj];exact jt ag H.at_ rfl
end
section
variable {M:Fr} {w:Value} {Ls:List Bt} {k:Nat}
theorem j3{r:Tr×Bool}(h:Zp M [.tree,.bool] r w):∃sk si:Sl,w=.tuple #[.agg #[.int .i64 r.1.kind,.string r.1.text,aK sk,aK si],.bool r.2]/\RdV M .tree r.1 (.agg #[.int .i64 r.1.kind,.string r.1.text,aK sk,aK si]):=by
 obtain⟨vs,⟨f,rest,rfl,c,e,rfl,b⟩,rfl⟩:=h;obtain⟨sk,si,rfl,_,_⟩:=qq c;have b:e=.bool r.2:=by have:=(c7 rfl).1 b;simpa[Rd]using this
 subst b;exact⟨sk,si,rfl,c⟩
theorem PD{r:Bt×Tr×Bool}(h:Zp M [.str,.tree,.bool] r w):∃sk si:Sl,w=.tuple #[.string r.1,.agg #[.int .i64 r.2.1.kind,.string r.2.1.text,aK sk,aK si],.bool r.2.2]/\RdV M .tree r.2.1 (.agg #[.int .i64 r.2.1.kind,.string r.2.1.text,aK sk,aK si]):=by
 obtain⟨vs,⟨k,e,rfl,c,l,rest,rfl,f,i,rfl,b⟩,rfl⟩:=h;obtain⟨sk,si,rfl,_,_⟩:=qq f;have b:i=.bool r.2.2:=by have:=(c7 rfl).1 b;simpa[Rd]using this
 have c:k=.string r.1:=by have:=(c7 rfl).1 c;simpa[Rd]using this
 subst b;subst c;exact⟨sk,si,rfl,f⟩
theorem Ah{s:Bt}{x:Tr}{b:Bool}{u:Value}(h:RdV M .tree x u):Zp M [.str,.tree,.bool] (s,x,b) (.tuple #[.string s,u,.bool b]):=⟨[_,_,_],⟨_,_,rfl,rdStr _,_,_,rfl,h,_,rfl,rdBool _⟩,rfl⟩
theorem om:RdV M .tree dR (.agg #[.int .i64 0,.string ⟨#[]⟩,aK ⟨Te,0,0⟩,aK ⟨Te,0,0⟩]):=zr (v:=dR) Xg Xg
theorem BK{l:Bs}:(bif ((((bl l).size:Nat):Int)==0)then Ta else(!(((bl l).extract (0:Int).toNat (1:Int).toNat:Bt).toList==(⟨#[107]⟩:Bt).toList)))=!decide (l.head?=Td 107):=by
 rw[show(0:Int).toNat=0 from rfl,show(1:Int).toNat=1 from rfl,qe,zh,ie];cases l with
 |nil=>rfl
 |cons c t=>
  have e:((((c::t).length:Nat):Int)==0)=Tc:=by rw[beq_eq_false_iff_ne,Uk];omega
  have b:(bl (((c::t).drop 0).take (1-0))=(⟨#[107]⟩:Bt))↔(c=107):=by rw[VD,show 1-0=0+1 from rfl,V7,WU];constructor;intro h;have:=congrArg lb h;rw[ym]at this;have h2:lb (⟨#[107]⟩:Bt)=[107]:=rfl;rw[h2]at this;injection this;rintro rfl;rfl
  rw[e,zH];congr 1;rw[Uy,zB,zB,b];simp
theorem Se{L:List Int}{rd:Nat->Tr×Bool}(h:(lb (Z3 Ls k)).head?≠Td 107\/(zt L k).length≠1):db Ls L rd k=(⟨#[]⟩,dR,Tc):=by unfold db;split;rename_i j b;rw[b]at h;rw[za];rcases h with h|h;exact h;exact absurd rfl h;rfl
theorem Hz{L:List Int}{rd:Nat->Tr×Bool}{k j:Nat}(h:(lb (Z3 Ls k)).head?=Td 107)(b:zt L k=[j]):db Ls L rd k=((yr (bl (lb (Z3 Ls k)).tail)).1.text,(rd j).1,(yr (bl (lb (Z3 Ls k)).tail)).2&&((rd j).2&&decide ((yr (bl (lb (Z3 Ls k)).tail)).1.kind=4))):=by unfold db;rw[b];dsimp only;rw[zA h]
set_option maxRecDepth 100000 in
set_option maxHeartbeats 1000000 in
theorem Pr{gl:Fr}(hg:GL gl)(hb:Brn gl){rb:Nat}{L:List Int}{s1 s2 s3:Sl}(aF:Ls.length=L.length){rd:Nat->Tr×Bool}{n:Nat}(hn:n<L.length) (H:∀j∈zt L n,∀(h:zb) (M:Fr),Fr.le gl M->AgM M h->RdrS M rb Ls L s1 s2 s3->PX Tp 61 #[.pointer (Td ⟨rb,0,Te⟩),.int .i64 (j:Int)] h M [.tree,.bool] (λr=>r=rd j))
  {h:zb} (hM:Fr.le gl M) (ag:AgM M h) (S:RdrS M rb Ls L s1 s2 s3):PX Tp 108 #[.pointer (Td ⟨rb,0,Te⟩),.int .i64 (n:Int)] h M [.str,.tree,.bool] (λr=>r=db Ls L rd n):=by
 apply PX.of;apply MQ (Td ⟨rb,0,Te⟩) (n:Int);intro h1;have u:Later h M h1 M:=Later.push ag _;obtain⟨_,z1,B1⟩:=jf (g:=h1) rfl;clear_value h1;obtain⟨a,ah,af⟩:=S.lab u.ag (n:=n) (by omega);obtain⟨c,sk,aA,ak,V⟩:=S.kids hn;have J:=(rowLen V).1;rw[Um]at J;obtain⟨l,hl⟩:∃l,Z3 Ls n=bl l:=⟨lb (Z3 Ls n),(Zx _).symm⟩;rw[hl]at af;have O:lb (Z3 Ls n)=l:=by rw[hl,ym]
 refine⟨⟨rb,0,Te⟩,rfl,s1,S.c0 u.ag,a,ah,bl l,af,λq=>?_,⟨rb,0,Te⟩,λ_=>rfl,s3,λ_=>S.c2 u.ag,c,λ_=>aA,sk,λ_=>ak _ u.ag,λq=>?_,λq=>?_⟩;have:((bl l).size:Int)≠0:=λe=>by rw[e]at q;simp at q
 refine⟨by omega,by omega,by omega⟩;rw[BK,A1]at q;have aa:db Ls L rd n=(⟨#[]⟩,dR,Tc):=Se (by
  rw[O];rcases q with h|h;exact .inl (by simpa using h);refine .inr λe=>?_
  rw[J,e]at h;simp at h)
 refine yq (k:=0) (s:=⟨#[]⟩) (sk:=⟨Te,0,0⟩) (si:=⟨Te,0,0⟩) B1 λg f z B=>⟨_,_,_,_,B.ld (cs:=[.int .i64 0,.string ⟨#[]⟩,aK ⟨Te,0,0⟩,aK ⟨Te,0,0⟩]),M,_,Later.stay u (Uc _) (ag.none (Uc _)) f z,Ah om,aa.symm⟩
 ·rw[BK,lq]at q;have hh:l.head?=Td 107:=by simpa using q.1
  have ar:(zt L n).length=1:=by
   have:=q.2;rw[J]at this;have:((zt L n).length:Int)=1:=by simpa using this
   omega
  obtain⟨j,hj⟩:=List.length_eq_one_iff.1 ar;rw[hj]at V;have aB:1<=(bl l).size:=by
   rw[zh];cases l with
   |nil=>simp at hh
   |cons c t=>simp
  refine⟨⟨by omega,by omega,by omega⟩,?_⟩;have ex:(bl l).extract (1:Int).toNat (((bl l).size:Nat):Int).toNat=bl l.tail:=by rw[Ue,zh,show(1:Int).toNat=1 from rfl,qe];congr 1;rw[List.drop_one,Vi (by simp)]
  rw[ex];refine(xJ hg hb (s:=bl l.tail) (R:=λr=>r=yr (bl l.tail)) rfl).go (vs:=[.string (bl l.tail)]) (hM.trans u.le) u.ag (zq (a:=Arg.mk .str _) (rdStr _) zy) λw P ay r y Q hr=>?_;subst hr;obtain⟨xk,xi,rfl,aL⟩:=j3 Q;refine⟨_,_,xk,xi,_,rfl,?_⟩;have E:=u.trans y;have aC:=y.keep.size;intro aJ;refine xe y.ag λan x aH am=>?_;have i:=x.ag;have I:=S.mono (E.le.trans x.le);obtain⟨c',au,U,Y,p⟩:=I.kids hn;rw[hj]at p;have Z:=(rowLen p).1;obtain⟨b3,o3,e3,e4⟩:=gO i p (k:=0) (by simp);refine⟨⟨rb,0,Te⟩,rfl,s3,I.c2 i,c',U,au,Y _ i,⟨b3,o3,Te⟩,⟨e3,Int.le_refl _,by rw[Z];simp⟩,(j:Int),by rw[qh];exact e4,?_⟩;refine(H j (by rw[hj];simp) an ay (hM.trans (E.le.trans x.le)) i I).go λw aM N r A F hr=>?_;subst hr;obtain⟨C,D,rfl,ai⟩:=j3 F;refine⟨_,_,C,D,_,rfl,?_⟩;intro aG;have aI:=A.keep.size;refine xe A.ag λb G aE aj=>?_;have ab:Blk b P.size #[.int .i64 (yr (bl l.tail)).1.kind,.string (yr (bl l.tail)).1.text,aK xk,aK xi]:=(am.keep (A.keep.get _ (by omega))).keep (G.keep.get _ (by omega));have m:Later h1 M b N:=y.trans (x.trans (A.trans G));have ae:Blk b h.size #[.int .i64 0,.string ⟨#[]⟩,.slice Te 0 0,.slice Te 0 0]:=B1.keep (m.keep.get _ (by omega));have ap:N h.size=Te:=by rw[m.old _ (by omega)];exact ag.none (Uc _)
  have kc:∀g:zb,(∀j,j≠h.size->g[j]?=b[j]?)->zc g (Ua ⟨P.size,0,Te⟩ 0)=Td (.int .i64 (yr (bl l.tail)).1.kind):=λg f=>(ab.keep (f _ (by omega))).cellAdd (o:=0) (k:=0) rfl;have az:(bif (bif (yr (bl l.tail)).2 then(rd j).2 else Tc)then(decide ((yr (bl l.tail)).1.kind=4))else Tc)=((yr (bl l.tail)).2&&((rd j).2&&decide ((yr (bl l.tail)).1.kind=4))):=by cases(yr (bl l.tail)).2 <;> cases(rd j).2 <;> rfl
  have ax:((yr (bl l.tail)).1.kind==4)=decide ((yr (bl l.tail)).1.kind=4):=by rw[Uy,beq_iff_eq,zB]
  have done:∀{g:zb},(∀j,j≠h.size->g[j]?=b[j]?)->g.size=b.size->∃M' r,Later h M g M'/\Zp M' [.str,.tree,.bool] r (.tuple #[.string (yr (bl l.tail)).1.text,.agg #[.int .i64 (rd j).1.kind,.string (rd j).1.text,aK C,aK D],.bool (bif (bif (yr (bl l.tail)).2 then(rd j).2 else Tc)then((yr (bl l.tail)).1.kind==4)else Tc)])/\r=db Ls L rd n:=λ {g} f z=>
   ⟨N,_,Later.stay (u.trans m) (Uc _) ap f z,Ah (ai.mono G.le),by rw[Hz (by rw[O];exact hh) hj,O,ax,az]⟩
  refine⟨_,ab.cellAdd (o:=0) (k:=1) rfl,_,_,C,D,aj.ld (cs:=[_,_,aK C,aK D]),?_⟩;repeat' first
   |exact rfl
   |exact yq ae λg f z B=>⟨_,_,C,D,B.ld (cs:=[_,_,aK C,aK D]),done f z⟩
   |exact yq ae λg f z B=>⟨_,λ_=>kc g f,_,_,C,D,B.ld (cs:=[_,_,aK C,aK D]),done f z⟩
   |refine⟨_,λ_=>kc b λ_ _=>rfl,?_⟩
   |refine⟨?_,?_⟩
end
section
theorem K8(L:List Int)(n:Nat):(zt L n).length<=L.length:=by unfold zt;grind
theorem VbM.new{h0 g:zb}{M0 M:Fr}{b:Nat}{k:Int}(L:Later h0 M0 g M)(B:Blk g b #[.int .i64 k,.string ⟨#[]⟩,.slice Te 0 0,.slice Te 0 0])(e:h0.size<=b)(f:b<g.size)(i:M b=Te):VbM (b+1) h0 M0 b k ⟨Te,0,0⟩ ⟨Te,0,0⟩ g M [] [] ⟨Te,0,0⟩ ⟨Te,0,0⟩ [] []:= ⟨L,B,ORow.nil,ORow.nil,λc h=>(by cases h),e,Nat.lt_succ_self _,f,i⟩
section
variable {lo : Nat} {h0 : zb} {M0 : Fr} {b : Nat} {k : Int} {g : zb} {M : Fr} {ks : List Bt} {xs : List Tr} {sk si : Sl} {bk bi : List Nat}
theorem VbM.done(V:VbM lo h0 M0 b k sk si g M ks xs sk si bk bi)(t:ks.length<=1000000/\xs.length<=1000000){q:Tr×Bool}(w:q=(.mk k ⟨#[]⟩ ks xs,Ta)):
  ∃(o:Int) (l:Bt) (f e:Sl),zd g ⟨b,0,Te⟩ 0 [.int .i64 o,.string l,aK f,aK e]/\XRunU Tp (Ub 25 (.pointer (Td ⟨b,0,Te⟩)) (.agg #[.int .i64 o,.string l,aK f,aK e])) g λc=>
   ∃(i:Int) (s:Bt) (n m:Sl),zd c ⟨b,0,Te⟩ 0 [.int .i64 i,.string s,aK n,aK m]/\∃h r,Later h0 M0 c h/\Zp h [.tree,.bool] r (.tuple #[.agg #[.int .i64 i,.string s,aK n,aK m],.bool Ta])/\r=q:=by
 subst w;refine⟨_,_,sk,si,V.box.ld (cs:=[_,_,aK sk,aK si]),?_⟩;refine yq V.box λx u z2 p=>⟨_,_,sk,si,p.ld (cs:=[_,_,aK sk,aK si]),?_⟩;obtain⟨L,r⟩:=(V.turn p z2 u).fin t;grind [lu]
theorem VbM.bad{z2 z3:Sl}(V:VbM lo h0 M0 b k z2 z3 g M ks xs sk si bk bi){g':zb}{M':Fr}(L:Later g M g' M'){q:Tr×Bool}(o:q=(dR,Tc)):
  XRunU Tp (Ub 25 (.pointer (Td ⟨b,0,Te⟩)) (.agg #[.int .i64 0,.string ⟨#[]⟩,.slice Te 0 0,.slice Te 0 0])) g' λc=>
   ∃(h:Int) (m:Bt) (l i:Sl),zd c ⟨b,0,Te⟩ 0 [.int .i64 h,.string m,aK l,aK i]/\∃f r,Later h0 M0 c f/\Zp f [.tree,.bool] r (.tuple #[.agg #[.int .i64 h,.string m,aK l,aK i],.bool Tc])/\r=q:=by
 subst o;have e:=V.call L;refine yq (k:=0) (s:=⟨#[]⟩) (sk:=⟨Te,0,0⟩) (si:=⟨Te,0,0⟩) e.box λt n z2 p=>⟨_,_,_,_,p.ld (cs:=[.int .i64 0,.string ⟨#[]⟩,aK ⟨Te,0,0⟩,aK ⟨Te,0,0⟩]),M',_,Later.stay e.L e.hb e.nB n z2,lu om,rfl⟩
end
set_option maxRecDepth 100000 in
set_option maxHeartbeats 4000000 in
theorem sw{gl:Fr}(hg:GL gl)(hb:Brn gl){rb:Nat}{Ls:List Bt}{L:List Int}{s1 s2 s3:Sl}(ay:Ls.length=L.length)(hL:L.length<=512)(am:eT L L.length=Ta):∀(f n:Nat),n<f->n<L.length->∀(h:zb) (M:Fr),Fr.le gl M->AgM M h->RdrS M rb Ls L s1 s2 s3 ->
  PX Tp 61 #[.pointer (Td ⟨rb,0,Te⟩),.int .i64 (n:Int)] h M [.tree,.bool] (λr=>r=cR Ls L f n)
 |0,n,h,_=>absurd h (WJ n)
 |f+1,n,hf,hn=>by
  intro h M hM ag S;have low:∀{i k:Nat},i∈zt L k->i<k/\i<L.length:=λ {i k} hi=>by obtain⟨h1,h2⟩:=J9.1 hi;exact⟨(my am h1 h2).1,h1⟩
  have ih:∀j,j∈zt L n->∀(h:zb) (M:Fr),Fr.le gl M->AgM M h->RdrS M rb Ls L s1 s2 s3->PX Tp 61 #[.pointer (Td ⟨rb,0,Te⟩),.int .i64 (j:Int)] h M [.tree,.bool] (λr=>r=cR Ls L f j):=λj U=>by obtain⟨h1,h2⟩:=low U;exact sw hg hb ay hL am f j (by omega) h2
  have im:∀j,j∈zt L n->∀(h:zb) (M:Fr),Fr.le gl M->AgM M h->RdrS M rb Ls L s1 s2 s3->PX Tp 108 #[.pointer (Td ⟨rb,0,Te⟩),.int .i64 (j:Int)] h M [.str,.tree,.bool] (λr=>r=db Ls L (cR Ls L f) j):=λj U h M hM ag S=>by obtain⟨h1,h2⟩:=low U;exact Pr hg hb ay h2 (λi hi=>by obtain⟨h3,h4⟩:=low hi;exact sw hg hb ay hL am f i (by omega) h4) hM ag S
  have bC:=K8 L n;apply PX.of;apply PI (Td ⟨rb,0,Te⟩) (n:Int);intro h1;have L1:Later h M h1 M:=Later.push ag _;obtain⟨_,z1,B1⟩:=jf (g:=h1) rfl;clear_value h1;obtain⟨a,aC,aS⟩:=S.lab L1.ag (n:=n) (by omega);have nB:M h.size=Te:=ag.none (Uc _);refine⟨⟨rb,0,Te⟩,rfl,s1,S.c0 L1.ag,a,aC,Z3 Ls n,aS,λp=>?_,λp=>⟨λY=>?_,λY=>?_⟩⟩;rw[ie]at p;have p:Z3 Ls n=bl [91]:=zC p;rw[cR,zA p];refine qo (o:=0+0) lQ (by kernel_rfl) B1 (by simp) rfl λh6 B6 z6 f6=>?_;have B6:Blk h6 h.size #[.int .i64 5,.string ⟨#[]⟩,.slice Te 0 0,.slice Te 0 0]:=B6;have L6:Later h M h6 M:=Later.stay L1 (Uc _) nB f6 z6;obtain⟨c,sk,O,F,q⟩:=S.kids hn;have E:=(rowLen q).1;rw[Um]at E;refine⟨⟨rb,0,Te⟩,rfl,s3,S.c2 L6.ag,c,O,sk,F _ L6.ag,λi g=>∃(m:Nat) (M':Fr) (si:Sl) (bi:List Nat),i=(m:Int)/\m<=(zt L n).length/\(∀j (U:j<(zt L n).length),j<m->(cR Ls L f (zt L n)[j]).2=Ta)/\VbM (h.size+1) h M h.size 5 ⟨Te,0,0⟩ si g M' [] (((zt L n).take m).map λk=>(cR Ls L f k).1) ⟨Te,0,0⟩ si [] bi,λi _=>(zt L n).length-i.toNat,⟨0,M,⟨Te,0,0⟩,[],rfl,UH _,λj _ h=>absurd h (WJ j),VbM.new L6 B6 (Uc _) (by omega) nB⟩,?_⟩;rintro i g ⟨m,M',si,bi,rfl,hm,aI,V⟩;have N:(((zt L n).take m).map λk=>(cR Ls L f k).1).length=m:=by rw[Um,UQ,V9 hm]
  refine⟨λhc=>?_,λhc=>?_⟩;have b:m<(zt L n).length:=by have:=d8 hc;omega
  have Sg:=S.mono V.L.le;obtain⟨b3,o3,e3,e4⟩:=gO V.L.ag (q.mono V.L.le) (k:=m) (by simp_all);rw[WE]at e4;refine⟨⟨b3,o3,Te⟩,⟨e3,by omega,by omega⟩,(((zt L n)[m]:Nat):Int),by rw[qh,Ue];exact e4,?_⟩;refine(ih _ (Up b) g M' (hM.trans V.L.le) V.L.ag Sg).go λw bJ bm r an e hr=>?_;subst hr;obtain⟨yk,yi,rfl,I⟩:=j3 e;refine⟨_,_,yk,yi,_,rfl,?_⟩;intro bA;refine xe an.ag λbD az bH bn=>⟨λy=>?_,λy=>?_⟩;have aB:(cR Ls L f (zt L n)[m]).2=Tc:=by simpa using y
  refine V.bad (an.trans az) ?_;grind;have aB:(cR Ls L f (zt L n)[m]).2=Ta:=by simpa using y
  have aJ:=V.call (an.trans az);refine⟨si,by have:=aJ.box.cellAdd (o:=0) (k:=3) rfl;exact this,_,_,yk,yi,bn.ld (cs:=[_,_,aK yk,aK yi]),?_⟩;intro bF;have a8:=aJ.push (.cells #[.int .i64 (cR Ls L f (zt L n)[m]).1.kind,.string (cR Ls L f (zt L n)[m]).1.text,aK yk,aK yi] 25);refine a8.item (by rw[N];omega) (Blk.new _ _ _) (I.mono az.le) λs' g2 aa V2 z2 Q=>⟨s',rfl,?_⟩;refine V2.st3 λg3 V3 z3 f3=>⟨⟨m+1,bm,s',aa,by rw[qn b (by omega)],b,λj U h=>?_,?_⟩,by rw[qn b (by omega)];grind⟩;grind;rw[Uh b,U7];exact V3;have ak:m=(zt L n).length:=by have:=eQ hc;omega
  subst ak;rw[Uz]at V;refine V.done ⟨UH _,by grind⟩ ?_;rw[zA (Us.2 λx p=>?_)];obtain⟨j,U,rfl⟩:=V1.1 p;grind
  ·rw[ie]at p Y;have p:¬Z3 Ls n=bl [91]:=zD p;have Y:Z3 Ls n=bl [123]:=zC Y;rw[cR,za p,zA Y];refine qo (o:=0+0) lQ (by kernel_rfl) B1 (by simp) rfl λh6 B6 z6 f6=>?_;have B6:Blk h6 h.size #[.int .i64 6,.string ⟨#[]⟩,.slice Te 0 0,.slice Te 0 0]:=B6;have L6:Later h M h6 M:=Later.stay L1 (Uc _) nB f6 z6;obtain⟨c,sk,O,F,q⟩:=S.kids hn;have E:=(rowLen q).1;rw[Um]at E;refine⟨⟨rb,0,Te⟩,rfl,s3,S.c2 L6.ag,c,O,sk,F _ L6.ag,λi g=>∃(m:Nat) (M':Fr) (sk si:Sl) (bk bi:List Nat),i=(m:Int)/\m<=(zt L n).length/\(∀j (U:j<(zt L n).length),j<m->(db Ls L (cR Ls L f) (zt L n)[j]).2.2=Ta)/\VbM (h.size+1) h M h.size 6 sk si g M' (((zt L n).take m).map λk=>(db Ls L (cR Ls L f) k).1) (((zt L n).take m).map λk=>(db Ls L (cR Ls L f) k).2.1) sk si bk bi,λi _=>(zt L n).length-i.toNat,⟨0,M,⟨Te,0,0⟩,⟨Te,0,0⟩,[],[],rfl,UH _,λj _ h=>absurd h (WJ j),VbM.new L6 B6 (Uc _) (by omega) nB⟩,?_⟩;rintro i g ⟨m,M',tk,G,bk,bi,rfl,hm,aI,V⟩;have N:(((zt L n).take m).map λk=>(db Ls L (cR Ls L f) k).1).length=m:=by rw[Um,UQ,V9 hm]
   have ar:(((zt L n).take m).map λk=>(db Ls L (cR Ls L f) k).2.1).length=m:=by rw[Um,UQ,V9 hm]
   refine⟨λhc=>?_,λhc=>?_⟩
   ·have b:m<(zt L n).length:=by have:=d8 hc;omega
    have Sg:=S.mono V.L.le;obtain⟨b3,o3,e3,e4⟩:=gO V.L.ag (q.mono V.L.le) (k:=m) (by simp_all);rw[WE]at e4;refine⟨⟨b3,o3,Te⟩,⟨e3,by omega,by omega⟩,(((zt L n)[m]:Nat):Int),by rw[qh,Ue];exact e4,?_⟩;refine(im _ (Up b) g M' (hM.trans V.L.le) V.L.ag Sg).go λw D t r au e hr=>?_;generalize aP:db Ls L (cR Ls L f) (zt L n)[m]=rr at hr;subst hr;obtain⟨yk,yi,rfl,I⟩:=PD e;refine⟨_,_,_,yk,yi,_,rfl,?_⟩;intro bB;refine xe au.ag λah aM bE be=>⟨λy=>?_,λy=>?_⟩;have aB:(db Ls L (cR Ls L f) (zt L n)[m]).2.2=Tc:=by rw[aP];simpa using y
    refine V.bad (au.trans aM) ?_;grind
    ·have aB:(db Ls L (cR Ls L f) (zt L n)[m]).2.2=Ta:=by rw[aP];simpa using y
     have ai:=V.call au;have Z:=ai.call aM;have bG:=ai.lg;have aY:=Z.box.cellAdd (o:=0) (k:=3) rfl;have aV:=Z.box.cellAdd (o:=0) (k:=2) rfl;have aT:∀c,c∈bk->c<D.size:=λc hc=>(ai.keys.own c hc).2.1;have ab:h.size∉bk:=λhm=>by have:=(ai.keys.own _ hm).1;omega
     have aZ:D.size∉bk:=λhm=>by grind
     have bz:h.size<D.size:=by omega
     have fin:∀{g:zb} {s2 s3:Sl} {b2 b3:List Nat},VbM (h.size+1) h M h.size 6 tk G g t ((((zt L n).take m).map λk=>(db Ls L (cR Ls L f) k).1)++[r.1]) ((((zt L n).take m).map λk=>(db Ls L (cR Ls L f) k).2.1)++[r.2.1]) s2 s3 b2 b3 ->
       XRunU Tp (Ub 22 (.pointer (Td (Ua ⟨h.size,0,Te⟩ 2))) (aK s2)) g λa7=>XRunU Tp (Ub 23 (.pointer (Td (Ua ⟨h.size,0,Te⟩ 3))) (aK s3)) a7 λg=>(∃(m2:Nat) (M':Fr) (sk si:Sl) (bk bi:List Nat),hZ ((m:Int)+1)=(m2:Int)/\m2<=(zt L n).length/\(∀j (U:j<(zt L n).length),j<m2->(db Ls L (cR Ls L f) (zt L n)[j]).2.2=Ta)/\VbM (h.size+1) h M h.size 6 sk si g M' (((zt L n).take m2).map λk=>(db Ls L (cR Ls L f) k).1) (((zt L n).take m2).map λk=>(db Ls L (cR Ls L f) k).2.1) sk si bk bi)/\(zt L n).length-(hZ ((m:Int)+1)).toNat<(zt L n).length-((m:Nat):Int).toNat:=by
      intro g s2 s3 b2 b3 W;refine W.st2 λg1 W1 _ _=>W1.st3 λg2 W2 _ _=>⟨⟨m+1,t,s2,s3,b2,b3,by rw[qn b (by omega)],b,λj U h=>?_,?_⟩,by rw[qn b (by omega)];omega⟩;grind;grind [Uh]
     refine⟨tk,aV,G,aY,_,_,yk,yi,be.ld (cs:=[_,_,aK yk,aK yi]),?_,?_⟩;intro ae;obtain⟨u,bI,aN⟩:=jf (g:=ae) rfl;have aH:VbM (h.size+1) h M h.size 6 tk G ae t _ _ tk G bk bi:=Z.push _;clear_value ae;refine⟨u.get D.size (by omega),u.get h.size (by omega),u.get h.size (by omega),?_,?_⟩;refine aH.key (by rw[N];omega) aN λs' g2 aA W2 z2 Q=>⟨s',rfl,(Q D.size (by omega) aZ).trans (u.get D.size (by omega)),(Q h.size (by omega) ab).trans (u.get h.size (by omega)),?_⟩;intro ap;obtain⟨aU,_,a6⟩:=jf (g:=ap) rfl;have bg:VbM (h.size+1) h M h.size 6 tk G ap t _ _ s' G aA bi:=W2.push _;clear_value ap;refine⟨(aU.get h.size (by omega)).trans ((Q h.size (by omega) ab).trans (u.get h.size (by omega))),?_⟩;exact bg.item (by rw[ar];omega) a6 I λH g3 aa W3 _ _=>⟨H,rfl,fin W3⟩;intro af;obtain⟨aG,bu,a1⟩:=jf (g:=af) rfl;have ba:VbM (h.size+1) h M h.size 6 tk G af t _ _ tk G bk bi:=aH.push _;clear_value af;have ax:af[h.size]?=ah[h.size]?:=(aG.get _ (by omega)).trans (u.get _ (by omega));refine⟨ax,ax,?_⟩;refine ba.key (by rw[N];omega) (aN.ofKeep aG) λs' g2 aA W2 z2 Q=>⟨s',rfl,(Q h.size (by omega) ab).trans ax,?_⟩;exact W2.item (by rw[ar];omega) (a1.keep (Q ae.size (by omega) λhm=>by grind)) I λH g3 aa W3 _ _=>⟨H,rfl,fin W3⟩;intro C;obtain⟨aO,br,aE⟩:=jf (g:=C) rfl;have aF:VbM (h.size+1) h M h.size 6 tk G C t _ _ tk G bk bi:=Z.push _;clear_value C;have P:C[h.size]?=ah[h.size]?:=aO.get _ (by omega);refine⟨P,P,?_⟩;intro A;obtain⟨aj,bq,aQ⟩:=jf (g:=A) rfl;have aL:VbM (h.size+1) h M h.size 6 tk G A t _ _ tk G bk bi:=aF.push _;clear_value A;have J:A[h.size]?=ah[h.size]?:=(aj.get _ (by omega)).trans P;refine⟨J,J,?_⟩;refine aL.key (by rw[N];omega) aQ λs' g2 aA W2 z2 Q=>⟨s',rfl,(Q h.size (by omega) ab).trans J,?_⟩;exact W2.item (by rw[ar];omega) ((aE.ofKeep aj).keep (Q ah.size (by omega) λhm=>by grind)) I λH g3 aa W3 _ _=>⟨H,rfl,fin W3⟩
   have ak:m=(zt L n).length:=by have:=eQ hc;omega
   subst ak;rw[Uz]at V;refine V.done ⟨by grind,by grind⟩ ?_;rw[zA (Us.2 λx p=>?_)];obtain⟨j,U,rfl⟩:=V1.1 p;grind
  ·rw[ie]at p Y;have p:¬Z3 Ls n=bl [91]:=zD p;have Y:¬Z3 Ls n=bl [123]:=zD Y;rw[cR,za p,za Y];refine⟨⟨rb,0,Te⟩,rfl,s1,S.c0 L1.ag,a,aC,Z3 Ls n,aS,?_⟩;refine(xJ hg hb (s:=Z3 Ls n) (R:=λr=>r=yr (Z3 Ls n)) rfl).go (vs:=[.string (Z3 Ls n)]) (hM.trans L1.le) L1.ag (zq (a:=Arg.mk .str _) (rdStr _) zy) λw h2 M2 r L2 e hr=>?_;subst hr;obtain⟨xk,xi,rfl,bj⟩:=j3 e;refine⟨_,_,xk,xi,_,rfl,?_⟩;have n2:M2 h.size=Te:=by rw[L2.old _ (by omega)];exact nB
   refine yq (B1.keep (L2.keep.get _ (by omega))) λg f z B=>?_;have Lg:Later h M g M2:=Later.stay (L1.trans L2) (Uc _) n2 f z;have Sg:=S.mono Lg.le;obtain⟨c,sk,O,F,q⟩:=Sg.kids hn;have E:=(rowLen q).1;rw[Um]at E;have hq:(bif (yr (Z3 Ls n)).2 then(((sk.len:Nat):Int)==0)else Tc)=((yr (Z3 Ls n)).2&&decide (zt L n=[])):=by
    rw[E];cases hk:zt L n with
    |nil=>simp
    |cons a l=>grind
   have AG:∀{g':zb},(∀j,j≠h.size->g'[j]?=g[j]?)->g'.size=g.size->Later h M g' M2:=λf z=>Later.stay Lg (Uc _) n2 f z;have fin:∀{g':zb},(∀j,j≠h.size->g'[j]?=g[j]?)->g'.size=g.size->∃M' r,Later h M g' M'/\Zp M' [.tree,.bool] r (.tuple #[.agg #[.int .i64 (yr (Z3 Ls n)).1.kind,.string (yr (Z3 Ls n)).1.text,aK xk,aK xi],.bool (bif (yr (Z3 Ls n)).2 then(((sk.len:Nat):Int)==0)else Tc)])/\r=((yr (Z3 Ls n)).1,(yr (Z3 Ls n)).2&&decide (zt L n=[])):=λf z=>
    ⟨M2,_,AG f z,lu bj,by rw[hq]⟩
   repeat' first
    |exact rfl
    |refine⟨⟨rb,0,Te⟩,λ_=>rfl,?_⟩
    |refine⟨s3,λ_=>Sg.c2 Lg.ag,?_⟩
    |refine⟨s3,λ_=>Sg.c2 (AG f' z').ag,?_⟩
    |refine⟨c,λ_=>O,?_⟩
    |refine⟨sk,λ_=>F _ Lg.ag,?_⟩
    |refine⟨sk,λ_=>F _ (AG f' z').ag,?_⟩
    |exact⟨_,_,xk,xi,B'.ld (cs:=[_,_,aK xk,aK xi]),fin f' z'⟩
    |refine⟨_,_,xk,xi,B.ld (cs:=[_,_,aK xk,aK xi]),?_⟩
    |refine yq B λg' f' z' B'=>?_
    |refine⟨?_,?_⟩
end
end
section
open Go.Lib
variable {ks:List Bt} {v x y a b:Tr}
theorem P9{ys:List Tr}(c:ks.Nodup)(b:ks.length=ys.length):(ks.map λq=>dq (ks.zip ys) q)=ys:=by have:=congrArg (List.map (·.2)) (lN ks ys c b);rw[U3,List.map_snd_zip (by omega)]at this;exact this
theorem TM(h:ks.Nodup):(yo ks).Nodup:=(yw ks).nodup_iff.2 h
theorem Fx:∀(n:Nat) (v:Tr),bR v<=n->Zy zn v=Ta->zf (zf v)=zf v
 |0,v,h,_=>by have:=Zf v;omega
 |n+1,v,hz,hok=>by
  rw[yp,Ui,yz,Us]at hok;obtain⟨f,l⟩:=hok;have p:∀x∈v.items,zf (zf x)=zf x:=λx b=>Fx n x (by have:=qi b;omega) (l x b);have S:=pD f;have hi:∀x∈(zf v).items,zf x=x:=λx b=>by obtain⟨y,o,rfl⟩:=US.1 (S.ip.mem_iff.1 b);exact p y o
  have i:(zf v).items.map zf=(zf v).items:=by
   conv=>rhs;rw[<-YU (zf v).items]
   exact WN λx b=>hi x b
  rw[yg (zf v),S.k,i];by_cases c:v.kind=6;rw[zA c];obtain⟨r,m⟩:=Y1 f c;have e:(zf v).keys=yo v.keys:=by rw[yg,zA c]
  have q:yo (zf v).keys=(zf v).keys:=by rw[e];exact Zk (yw _)
  rw[q,P9 (by rw[e];exact TM r) (by rw[S.kp.length_eq,S.ip.length_eq,Um];exact m),<-S.k];generalize zf v=w;cases w;rfl;rw[za c];have e:(zf v).keys=[]:=by rw[yg,za c]
  rw[<-e,<-S.k];generalize zf v=w;cases w;rfl
theorem F5(h:zz v=Ta):Zy cX v=Ta/\Zy zn v=Ta:=by have e:zz v=(wm v&&Zy cX v):=rfl;rw[e,Ui]at h;exact⟨h.2,lT (λx b=>by unfold cX at b;rw[Ui]at b;exact b.2) v h.2⟩
theorem AU(h:Zg v=Ta):Zy zn v=Ta:=by unfold Zg at h;rw[Ui]at h;exact h.2
theorem A8(b:zz v=Ta)(c:wy (zf v)<=512):gd (zf v) (dV (Qh (zf v) 0)):= ⟨by rw[Cs (J7 b)];exact b,Fx _ v (Uc _) (F5 b).2,c,rfl⟩
theorem tF{α:Type}[DecidableEq α]:∀{xs ys:List α},xs.Nodup->(∀x∈xs,x∈ys)->xs.length<=ys.length
 |[],ys,_,_=>UH _
 |x::xs,ys,hn,h=>by
  rw[Vp]at hn;have f:=h x Uu;have:=tF (ys:=ys.erase x) hn.2 λy c=>by have b:y≠x:=λe=>hn.1 (e ▸ c);exact(List.mem_erase_of_ne b).2 (h y (Uo _ c))
  have i:=List.length_pos_of_mem f;rw[List.length_erase_of_mem f]at this;rw[Uk];omega
theorem Oj{xs ys:List Bt}(c:xs.Nodup)(b:ys.Nodup)(i:xs.length=ys.length)(h:∀x∈xs,x∈ys):xs.Perm ys:=by
 refine(List.perm_ext_iff_of_nodup c b).2 λz=>⟨h z,λf=>?_⟩;refine WB λe=>?_;have:=tF (xs:=z::xs) (ys:=ys) (Vp.2 ⟨e,c⟩) λy b=>by rcases Uj.1 b with rfl|b;exact f;exact h y b
 rw[Uk]at this;omega
theorem r8(f:Tr->Tr)(q:Bt):∀(ks:List Bt) (ys:List Tr),ks.length=ys.length->q∈ks->dq (ks.zip (ys.map f)) q=f (dq (ks.zip ys) q)
 |[],_,_,h=>by cases h
 |z::ks,[],h,_=>by simp at h
 |z::ks,y::ys,h,hk=>by rw[Uq,Vv,Vv,dq,dq];by_cases b:z=q;rw[zA b,zA b];rw[za b,za b];rcases Uj.1 hk with e|e;exact absurd e.symm b;exact r8 f q ks ys (by simpa using h) e
def eW(kb:List Bt)(ys:List Tr)(q:Tr->Tr->Bool)(k:Bt)(x:Tr):Bool:=decide (k∈kb)&&q x (dq (kb.zip ys) k)
noncomputable def eh(x y:Tr):Bool:=@decide (zf x=zf y) (Classical.propDecidable _)
theorem lB:eh x y=Ta↔zf x=zf y:=@decide_eq_true_iff _ (Classical.propDecidable _)
theorem tS(h:¬zf x=zf y):eh x y=Tc:=@decide_eq_false _ (Classical.propDecidable _) h
theorem P5(u:zn a=Ta)(s:zn b=Ta)(k:a.kind=6)(n:a.kind=b.kind)(r:a.text=b.text)(w:a.items.length=b.items.length):((a.keys.zip a.items).all λp=>eW b.keys b.items eh p.1 p.2)=Ta↔zf a=zf b:=by
 obtain⟨na,o⟩:=Y1 u k;obtain⟨t,lb⟩:=Y1 s (by rw[<-n];exact k);have m:=lN a.keys a.items na o;rw[yg a,yg b,zA k,zA (by rw[<-n];exact k),Us];have key:∀q∈a.keys,q∈b.keys->(eW b.keys b.items eh q (dq (a.keys.zip a.items) q)=Ta↔dq (a.keys.zip (a.items.map zf)) q=dq (b.keys.zip (b.items.map zf)) q):=λq c f=>by rw[r8 zf q _ _ o c,r8 zf q _ _ lb f];unfold eW;rw[Ui,zB,lB];exact⟨λh=>h.2,λh=>⟨f,h⟩⟩
 constructor;intro H;have c:∀q∈a.keys,eW b.keys b.items eh q (dq (a.keys.zip a.items) q)=Ta:=λq c=>by
  have:(q,dq (a.keys.zip a.items) q)∈a.keys.zip a.items:=by rw[<-m];exact US.2 ⟨q,c,by rw[m]⟩
  exact H _ this
 have e:∀q∈a.keys,q∈b.keys:=λq h=>by have:=c q h;unfold eW at this;rw[Ui,zB]at this;exact this.1
 have i:=Oj na t (by omega) e;rw[<-Zk i,n,r];congr 1;refine WN λq h=>?_;have h:=(yw _).mem_iff.1 h;exact(key q h (e q h)).1 (c q h);intro H p i;injection H with e1 e2 e3 e4;have l:a.keys.Perm b.keys:=(yw a.keys).symm.trans (e3 ▸ yw b.keys);rw[<-e3]at e4;rw[<-m]at i;obtain⟨q,c,rfl⟩:=US.1 i;exact(key q c (l.mem_iff.1 c)).2 (List.map_inj_left.1 e4 q ((yw _).mem_iff.2 c))
theorem Aw:∀(xs ys:List Tr),xs.length=ys.length->(((xs.zip ys).all λp=>eh p.1 p.2)=Ta↔xs.map zf=ys.map zf)
 |[],[],_=>by simp
 |[],_::_,h=>by simp at h
 |_::_,[],h=>by simp at h
 |x::xs,y::ys,h=>by rw[Vv,WQ,Ui,Aw xs ys (by simpa using h),Uq,Uq,Vu];rw[lB]
theorem Sj(c:¬a.kind=6)(e:a.kind=b.kind)(f:a.text=b.text)(h:a.items.length=b.items.length):((a.items.zip b.items).all λp=>eh p.1 p.2)=Ta↔zf a=zf b:=by rw[Aw _ _ h,yg a,yg b,za c,za (by rw[<-e];exact c),e,f];simp
theorem tW(c:zn a=Ta)(f:zn b=Ta)(h:a.kind≠b.kind\/a.text≠b.text\/a.items.length≠b.items.length):¬zf a=zf b:=λe=>by have A:=pD c;have B:=pD f;rcases h with h|h|h;exact h (by rw[<-A.k,<-B.k,e]);exact h (by rw[<-A.t,<-B.t,e]);refine h ?_;have h1:=A.ip.length_eq;have h2:=B.ip.length_eq;rw[Um]at h1 h2;rw[<-h1,<-h2,e]
theorem BY(d:Nat):∀l:List Tr,cY d l=(l.map λx=>wy x+d).sum
 |[]=>rfl
 |x::l=>by rw[cY,BY d l,Uq,List.sum_cons]
end
section
open Go.RowKit
variable {u m:Nat} {M:Fr} {w:Value}
theorem FP:ElemT Tp 74 29 (.slice Te 0 0) 1 24:=⟨by kernel_rfl,⟨Tryz.t29,by kernel_rfl,by kernel_rfl,by kernel_rfl,by kernel_rfl⟩,rfl,by decide⟩
structure KdS (lo:Nat) (h0:zb) (M0:Fr) (kb rb:Nat) (c1 c2 c3:Sl) (g:zb) (M:Fr) (K:List (List Int)) (ss:List Sl) (bf:Nat->List Nat):Prop where
 L:Later h0 M0 g M
 kbk:Blk g kb (ss.map aK).toArray
 rbk:Blk g rb #[aK c1,aK c2,aK c3]
 ln:ss.length=K.length
 row:∀i (hi:i<K.length) (hi2:i<ss.length),ORow lo g M (.int .i64) K[i] ss[i] (bf i)
 dj:∀i j,i<K.length->j<K.length->i≠j->∀c∈bf i,c∉bf j
 hk:h0.size<=kb
 kr:kb<rb
 rl:rb<lo
 lg:lo<=g.size
 nk:M kb=Te
 nr:M rb=Te
section
variable {lo : Nat} {h0 : zb} {M0 : Fr} {kb rb : Nat} {c1 c2 c3 : Sl} {g : zb} {M : Fr} {K : List (List Int)} {ss : List Sl} {bf : Nat -> List Nat}
theorem KdS.push(S:KdS lo h0 M0 kb rb c1 c2 c3 g M K ss bf)(o:Obj):KdS lo h0 M0 kb rb c1 c2 c3 (g.push o) M K ss bf:=by have L:=Later.push S.L.ag o;exact⟨S.L.trans L,S.kbk.ofKeep L.keep,S.rbk.ofKeep L.keep,S.ln,λi hi hi2=>(S.row i hi hi2).call L,S.dj,S.hk,S.kr,S.rl,by have:=S.lg;have:=L.keep.size;omega,S.nk,S.nr⟩
theorem KdS.add(S:KdS lo h0 M0 kb rb c1 c2 c3 g M K ss bf)(n:u<K.length)(s:u<ss.length)(J:K[u].length<=1000000){bv:Nat}{x:Int}(P:Blk g bv #[.int .i64 x]){Q:zb->Prop} (E:∀g' p y,KdS lo h0 M0 kb rb c1 c2 c3 g' M (K.set u (K[u]++[x])) (ss.set u p) y->Q g'):
  XRun Tp (Ug #[29,29] 29 #[aK ss[u],.slice (Td ⟨bv,0,Te⟩) 1 1]) g λv q=>∃z:Sl,v=aK z/\q[rb]?=g[rb]?/\XRunU Tp (Ub 29 (.pointer (Td ((⟨kb,0,Te⟩:Addr).add (u*1)))) (aK z)) q Q:=by
 have H:=S.hk;have N:=S.kr;have O:=S.rl;have F:=S.lg;have own:∀i,i<K.length->∀c∈bf i,lo<=c/\c<g.size/\M c=Te:=λi hi=>(S.row i hi (by rw[S.ln];exact hi)).own;refine ORow.app kz (by omega) S.L.ag (S.row u n s) F (vs:=[.int .i64 x]) P rfl J λp q B r z w f=>⟨p,rfl,f rb (by omega) (λb=>by have:=(own u n _ b).1;omega),?_⟩;rw[zj,UI,Vz];have D:q[kb]?=g[kb]?:=f kb (by omega) λb=>by have:=(own u n _ b).1;omega
 have I:q[rb]?=g[rb]?:=f rb (by omega) λb=>by have:=(own u n _ b).1;omega
 have m:∀c∈B,lo<=c/\c<q.size/\M c=Te:=r.own;refine qo rY qY (S.kbk.keep D) (by simp;exact s) rfl λG U z2 t=>E G p (λj=>if j=u then B else bf j) ⟨⟨⟨by have:=S.L.keep.size;omega,λj o=>?_⟩,S.L.le,S.L.old,λc cs e=>?_⟩,?_,?_,by rw[WW,WW];exact S.ln,λi hi hi2=>?_,λi j hi o l c k b=>?_,H,N,O,by omega,S.nk,S.nr⟩;rw[t j (by omega),f j (by omega) λb=>by have:=(own u n _ b).1;omega];exact S.L.keep.get j o;rw[t c (λh=>by subst h;rw[S.nk]at e;cases e),f c (S.L.ag.lt e) λb=>by have:=(own u n _ b).2.2;rw[this]at e;cases e];exact S.L.ag c cs e;have e:(ss.map aK).toArray.setIfInBounds u (aK p)=((ss.set u p).map aK).toArray:=by rw[List.map_set];simp
 rw[<-e];exact U;exact(S.rbk.keep I).keep (t rb (by omega));rw[WW]at hi hi2;by_cases e:i=u;subst e;rw[XO,XO];simp only[zA];exact r.frame (λc k=>t c (by have:=(m c k).1;omega)) (Fr.le.refl _) λc k=>(m c k).2.2;rw[List.getElem_set_ne (λh=>e h.symm),List.getElem_set_ne (λh=>e h.symm)];simp only[za e];refine(S.row i hi hi2).frame (λc k=>?_) (Fr.le.refl _) λc k=>(own i hi c k).2.2;rw[t c (by have:=(own i hi c k).1;omega)];exact f c (own i hi c k).2.1 λb=>S.dj i u hi n e c k b;rw[WW]at hi o;by_cases e:i=u;subst e;have A:¬j=i:=λh=>l h.symm;simp only[zA]at k;simp only[za A]at b;rcases w c k with h|h;exact S.dj i j hi o l c h b;have:=(own j o c b).2.1;omega;simp only[za e]at k;by_cases C:j=u;subst C;simp only[zA]at b;rcases w c b with h|h;exact S.dj i j hi o l c k h;have:=(own i hi c k).2.1;omega;simp only[za C]at b;exact S.dj i j hi o l c k b
theorem KdS.fin(S:KdS lo h0 M0 kb rb c1 c2 c3 g M K ss bf)(o:K.length<=1000000)(k:∀x∈K,x.length<=1000000):∃M',Later h0 M0 g M'/\Fr.le M M'/\M' rb=Td #[aK c1,aK c2,aK c3]/\Rd M' (.row (.row p3)) K [aK ⟨Td ⟨kb,0,Te⟩,K.length,K.length⟩]:=by
 have h:=S.hk;have p:=S.kr;have r:=S.rl;have m:=S.lg;have own:∀i,i<K.length->∀c∈bf i,lo<=c/\c<g.size/\M c=Te:=λi hi=>(S.row i hi (by rw[S.ln];exact hi)).own;refine⟨MxL M g (kb::rb::(U8 K.length).flatMap bf),Later.own S.L λc b=>?_,gv S.L.ag _,MxL.at (by simp) S.rbk,⟨_,rfl,Td ⟨kb,0,Te⟩,K.length,rfl,⟨by omega,by omega⟩,.inr ⟨kb,0,_,rfl,MxL.at (by simp) S.kbk,λi hi=>?_⟩⟩⟩;rcases Uj.1 b with rfl|b;exact h;rcases Uj.1 b with rfl|b;omega;obtain⟨i,hi,l⟩:=VO.1 b;have:=(own i (UY.1 hi) c l).1;omega;have hi2:i<ss.length:=by rw[S.ln];exact hi
 have e:cut (ss.map aK).toArray (0+i*sz (.row p3)) (sz (.row p3))=[aK ss[i]]:=by
  show cut (ss.map aK).toArray (0+i*1) 1=[aK ss[i]];refine Xe rfl λq n=>?_;have f:q=0:=by omega
  subst f;simp[hi2]
 rw[e];exact(S.row i hi hi2).rd S.L.ag (λc b=>Uo _ (Uo _ (VO.2 ⟨i,UY.2 hi,b⟩))) (k _ (Up hi))
end
def dM(L:List Int)(m:Nat):List (List Int):=(U8 L.length).map λk:Nat=>((U8 m).filter λi=>decide (dl L L.length i=(k:Int))).map λi:Nat=>(i:Int)
theorem mT(L:List Int)(m:Nat):(dM L m).length=L.length:=by unfold dM;rw[Um,XP]
theorem PE(L:List Int):dM L L.length=kf L:=rfl
theorem I7(L:List Int):dM L 0=Vh L.length []:=by unfold dM;apply List.ext_getElem;simp;intro i h1 h2;simp
theorem ND{L:List Int}(h:dl L L.length m<0):dM L (m+1)=dM L m:=by unfold dM;refine WN λk _=>?_;rw[WY,List.filter_append,VZ,za (by rw[zB];omega),List.filter_nil,UM]
theorem OP{L:List Int}(h:dl L L.length m=(u:Int))(c:u<(dM L m).length):dM L (m+1)=(dM L m).set u ((dM L m)[u]++[(m:Int)]):=by apply List.ext_getElem;rw[WW,mT,mT];intro i h1 h2;rw[mT]at h1;have e:∀m,(b:i<(dM L m).length)->(dM L m)[i]=((U8 m).filter λj=>decide (dl L L.length j=(i:Int))).map λj:Nat=>(j:Int):=λm b=>UO ((Ul b).symm.trans (by unfold dM;rw[U2,List.getElem?_range h1];rfl));rw[e];by_cases hi:u=i;subst hi;rw[XO,e,WY,List.filter_append,VZ,zA (zE h),U7];rfl;rw[List.getElem_set_ne hi,e,WY,List.filter_append,VZ,za (by rw[zB];omega),List.filter_nil,UM]
theorem Fi{L:List Int}:∀x∈dM L m,x.length<=m:=λx b=>by unfold dM at b;obtain⟨k,_,rfl⟩:=US.1 b;rw[Um];exact VB (List.length_filter_le _ _) (by simp)
theorem Kq{r:List Int×Bool}(h:Zp M [.row p3,.bool] r w):∃s:Sl,w=.tuple #[aK s,.bool r.2]/\Rd M (.row p3) r.1 [aK s]:=by
 obtain⟨vs,⟨i,rest,rfl,f,e,rfl,b⟩,rfl⟩:=h;obtain⟨s,rfl,c⟩:=lH f;have b:e=.bool r.2:=by have:=(c7 rfl).1 b;simpa[Rd]using this
 subst b;exact⟨s,rfl,c⟩
theorem E5{r:(List Bt×List Int)×Int}(h:Zp M [.pair (.row .str) (.row p3),.int .i64] r w):∃s1 s2:Sl,w=.tuple #[.agg #[aK s1,aK s2],.int .i64 r.2]/\Rd M (.row .str) r.1.1 [aK s1]/\Rd M (.row p3) r.1.2 [aK s2]:=by obtain⟨vs,⟨f,rest,rfl,c,e,rfl,b⟩,rfl⟩:=h;obtain⟨s1,s2,rfl,h1,h2⟩:=pj c;rw[qz b];exact⟨s1,s2,rfl,h1,h2⟩
end
section
open Go.Lib
variable {gl M:Fr} {F:FuncId} {xs ys:List Tr} {h:zb}
theorem TS(hF:zo Tp F=Ta){q:Tr->Tr->Bool}(hp:∀x∈xs,∀y∈ys,PC Tp gl F [Arg.mk .tree x,Arg.mk .tree y] [.bool] (λr=>r=q x y)){s1 s2:Sl}(hM:Fr.le gl M)(ag:AgM M h) (r1:Rd M (.row .tree) xs [aK s1]) (r2:Rd M (.row .tree) ys [aK s2]):
  PX Tp 140 #[aK s1,aK s2,.func (.func F) #[] #[]] h M [.bool] (λr=>r=(decide (xs.length=ys.length)&&(xs.zip ys).all λp=>q p.1 p.2)):=by
 obtain⟨l1,n1,_⟩:=rowLen r1;obtain⟨l2,n2,_⟩:=rowLen r2;apply PX.of;apply qu s1 s2 F #[] #[];refine⟨λQ=>⟨M,_,Later.refl ag,Yk.2 (rdBool _),?_⟩,λQ=>?_⟩;grind;have ar:xs.length=ys.length:=by rw[l1,l2]at Q;simp at Q;omega
 refine⟨λi g=>∃(k:Nat) (M':Fr),i=(k:Int)/\k<=xs.length/\Later h M g M'/\((xs.zip ys).take k).all (λp=>q p.1 p.2)=Ta,λi _=>xs.length-i.toNat,⟨0,M,rfl,UH _,Later.refl ag,by simp⟩,?_⟩;rintro i g ⟨k,M',rfl,hk,L,ai⟩;refine⟨λz=>?_,λz=>?_⟩;have m:k<xs.length:=by rw[l1]at z;simp at z;omega
 have D:k<ys.length:=by omega
 obtain⟨a,C,u,ea,S,t1,t2⟩:=Jt L.ag (r1.mono L.le) m;refine⟨a,⟨ea,by omega,by omega⟩,xs[k].kind,xs[k].text,C,u,by rw[Ue];exact S,?_⟩;intro c;have af:Keep g.size g c:=Keep.push _ _ (Uc _);have ae:Blk c g.size (xu 0 ⟨#[]⟩ ⟨Te,0,0⟩ ⟨Te,0,0⟩).toArray:=Blk.new _ _ _;have ak:c.size=g.size+1:=Ur _;clear_value c;refine pQ ae rfl _ _ _ _ λb Y ax P=>?_;have H:Keep g.size g b:=⟨by omega,λj U=>by rw[P j (by omega)];exact af.get j U⟩;have o:=L.ag.keep H;obtain⟨a2,J,N,V,t,t3,t4⟩:=Jt o (r2.mono L.le) D;refine⟨a2,⟨V,by omega,by omega⟩,ys[k].kind,ys[k].text,J,N,by rw[Ue];exact t,?_⟩;intro f;have I:Keep b.size b f:=Keep.push _ _ (Uc _);have aa:Blk f b.size (xu 0 ⟨#[]⟩ ⟨Te,0,0⟩ ⟨Te,0,0⟩).toArray:=Blk.new _ _ _;have an:f.size=b.size+1:=Ur _;clear_value f;refine pQ aa rfl _ _ _ _ λl ab ap G=>?_;have s:Blk l g.size (xu xs[k].kind xs[k].text C u).toArray:=(Y.ofKeep I).keep (G _ (by omega));have ah:Keep g.size g l:=⟨by omega,λj U=>by rw[G j (by omega),I.get j (by omega)];exact H.get j U⟩;have e:Later h M l M':=L.trans (Later.same L.ag ah);refine⟨xs[k].kind,xs[k].text,C,u,s.ld (cs:=xu xs[k].kind xs[k].text C u),ys[k].kind,ys[k].text,J,N,ab.ld (cs:=xu ys[k].kind ys[k].text J N),hF,?_⟩;have n:=(hp xs[k] (Up m) ys[k] (Up D)).px (h:=l) (M:=M') (vs:=[.agg #[.int .i64 xs[k].kind,.string xs[k].text,aK C,aK u],.agg #[.int .i64 ys[k].kind,.string ys[k].text,aK J,aK N]]) (hM.trans e.le) e.ag (zq (zr t1 t2) (zq (zr t3 t4) zy));refine n.go λw au B r E A hr=>?_;have hr:r=q xs[k] ys[k]:=hr;subst hr;have aj:(xs.zip ys).take (k+1)=(xs.zip ys).take k++[(xs[k],ys[k])]:=by rw[Uh (by simp;omega)];simp
 refine⟨q xs[k] ys[k],dt A,λhf=>⟨B,_,e.trans E,Yk.2 (rdBool _),?_⟩,λht=>?_⟩;have O:q xs[k] ys[k]=Tc:=by simpa using hf
 have:(xs.zip ys).all (λp=>q p.1 p.2)=Tc:=by rw[List.all_eq_false];exact⟨(xs[k],ys[k]),V1.2 ⟨k,by simp;omega,by simp⟩,by simp[O]⟩
 simp_all;have am:q xs[k] ys[k]=Ta:=by simpa using ht
 rw[qn m (by omega)];refine⟨⟨k+1,B,rfl,m,e.trans E,?_⟩,by grind⟩;simp_all;have Z:k=xs.length:=by rw[l1]at z;simp at z;omega
 subst Z;refine⟨M',_,L,Yk.2 (rdBool _),?_⟩;simp_all[Vi]
theorem FO{l:List Bt}(h:l.Nodup){i j:Nat}(hi:i<l.length)(b:j<l.length)(e:l[i]=l[j]):i=j:=by unfold List.Nodup at h;rw[List.pairwise_iff_getElem]at h;grind
theorem HH(ks:List Bt)(us:List Value)(h:ks.length=us.length):(c8 (ks.zip us)).map (·.1)=ks.map UJ:=by
 unfold c8;rw[U3];have:(ks.zip us).map (λp=>UJ p.1)=(ks.zip us).unzip.1.map UJ:=by simp
 show(ks.zip us).map (λp=>UJ p.1)=_;rw[this,List.unzip_zip h]
theorem QS{ks:List Bt}(h:ks.Nodup):(ks.map UJ).Nodup:=by grind
set_option maxHeartbeats 2000000 in
theorem KG(hF:zo Tp F=Ta){q:Tr->Tr->Bool}{f kb:List Bt}{t n:List Value}(aF:f.Nodup)(la:f.length=xs.length)(a6:kb.length=ys.length)(aU:t.length=xs.length)(aY:n.length=ys.length)(aO:xs.length<=1000000000000/\ys.length<=1000000000000) (hp:∀x∈xs,∀y∈ys,PC Tp gl F [Arg.mk .tree x,Arg.mk .tree y] [.bool] (λr=>r=q x y)) {z m2:Nat} (hM:Fr.le gl M) (ag:AgM M h) (w1:MapW h z (c8 (f.zip t))) (w2:MapW h m2 (c8 (kb.zip n))) (ra:∀i (h1:i<xs.length) (h2:i<t.length),RdV M .tree xs[i] t[i]) (rb:∀i (h1:i<ys.length) (h2:i<n.length),RdV M .tree ys[i] n[i]):
  PX Tp 141 #[.map (Td z),.map (Td m2),.func (.func F) #[] #[]] h M [.bool] (λr=>r=(decide (xs.length=ys.length)&&(f.zip xs).all λp=>eW kb ys q p.1 p.2)):=by
 apply PX.of;apply zu (Td z) (Td m2) F #[] #[];have L1:(c8 (f.zip t)).length=xs.length:=by unfold c8;simp;omega
 have C:(c8 (kb.zip n)).length=ys.length:=by unfold c8;simp;omega
 have O:=yE (P:=Tp) (ty:=3) mapVal.map w1;have I:=yE (P:=Tp) (ty:=3) mapVal.map w2;rw[L1]at O;rw[C]at I;refine⟨xs.length,O,ys.length,I,λhx=>⟨M,_,Later.refl ag,Yk.2 (rdBool _),?_⟩,λhx=>?_⟩;grind;have a1:xs.length=ys.length:=by simp at hx;omega
 have aM:=w1.lt;have ai:=w2.lt;have aL:((c8 (f.zip t)).map (·.1)).Nodup:=by rw[HH _ _ (by omega)];exact QS aF
 refine rm mapVal.map w1 λh4 z4 k4 aJ=>⟨Td ⟨h.size,0,Te⟩,rfl,?_⟩;refine⟨λg=>∃dn M',MapIt g h.size z (c8 (f.zip t)) dn/\Later h M g M'/\h.size<g.size/\∀i (h1:i<f.length) (h2:i<xs.length),UJ f[i]∈dn->eW kb ys q f[i] xs[i]=Ta,λg=>leftN g h.size z,⟨[],M,aJ,Later.same ag k4,by omega,λi _ _ hm=>(by cases hm)⟩,?_⟩;rintro g ⟨dn,M',it,L,zg,az⟩;have kg:=L.keep;refine rj it aL (by omega) (λab=>.inl ⟨rfl,(λhc=>(by cases hc)),λ_=>⟨M',_,L,Yk.2 (rdBool _),?_⟩⟩) λk u am hk B aH ar z1 f1 pI=>.inr ⟨k,u,rfl,λ_=>?_,λhc=>(by cases hc)⟩
 ·have aP:((f.zip xs).all λp=>eW kb ys q p.1 p.2)=Ta:=by rw[Us];intro p S;obtain⟨i,hi,e⟩:=WK S;rw[List.length_zip,Nat.lt_min]at hi;have:=az i hi.1 hi.2 (ab (.string f[i],t[i]) (by unfold c8;refine US.2 ⟨(f[i],t[i]),V1.2 ⟨i,by simp;omega,by simp⟩,rfl⟩));rw[<-e];simpa using this
  simp_all
 ·obtain⟨i,aT,hi2,ek,eu⟩:∃i,∃(h1:i<f.length) (h2:i<t.length),k=.string f[i]/\u=t[i]:=by unfold c8 at am;obtain⟨p,S,e⟩:=US.1 am;obtain⟨i,hi,e2⟩:=WK S;grind
  subst ek;subst eu;have Z:i<xs.length:=by omega
  have aj:Keep h.size h B:=⟨by omega,λj J=>by rw[f1 j (by omega)];exact kg.get j J⟩;have an:AgM M' B:=λb c e=>by obtain⟨T,mm,e2⟩:=L.ag b c e;by_cases hb:b=h.size;subst hb;obtain⟨_,_,_,_,_,e3,_⟩:=it;simp_all;simp_all
  refine uK ar ⟨_,_,rfl,?_⟩;intro E;have aE:Keep B.size B E:=Keep.push _ _ (Uc _);have aC:Blk E B.size (xu 0 ⟨#[]⟩ ⟨Te,0,0⟩ ⟨Te,0,0⟩).toArray:=Blk.new _ _ _;have aS:E.size=B.size+1:=Ur _;clear_value E;obtain⟨ck,ci,eu,t1,t2⟩:=qq (ra i Z hi2);rw[eu];refine pQ aC rfl _ _ _ _ λo aB aQ ax=>?_;have Q:Keep B.size B o:=⟨by omega,λj J=>by rw[ax j (by omega)];exact aE.get j J⟩;have aN:=an.keep Q;have ay:MapW o m2 (c8 (kb.zip n)):=w2.keep ((Q.get _ (by omega)).trans (aj.get _ ai));have m:=Wp mapVal ay.at f[i] Ta;simp only[if_true]at m;obtain⟨y,H,D,hget,t3,t4,hm1⟩:∃(y:Tr) (H D:Sl),eX (kb.zip n) f[i] (.agg #[.int .i64 0,.string ⟨#[]⟩,.slice Te 0 0,.slice Te 0 0])=.agg #[.int .i64 y.kind,.string y.text,aK H,aK D]/\RdV M .tree y (.agg #[.int .i64 y.kind,.string y.text,aK H,aK D]) /\
    ((dx (kb.zip n) f[i]).isSome=Ta->y∈ys)/\eW kb ys q f[i] xs[i]=((dx (kb.zip n) f[i]).isSome&&q xs[i] y):=by
   by_cases hk:f[i]∈kb;obtain⟨j,q1,q2,q3,q4,q5⟩:=oc f[i] kb ys (by omega) hk;have g3:=q5 n (by omega);have J:j<n.length:=by omega
   rw[Ul J]at g3;obtain⟨H,D,ew,t3,t4⟩:=qq (rb j q2 J);refine⟨ys[j],H,D,by unfold eX;grind,by grind,λ_=>Up q2,?_⟩;rw[g3];unfold eW;simp_all;have N:dx (kb.zip n) f[i]=Te:=CI (by rw[XZ (by omega)];exact hk);refine⟨dR,⟨Te,0,0⟩,⟨Te,0,0⟩,by unfold eX;rw[N];rfl,om,?_,?_⟩;simp_all;rw[N];unfold eW;simp_all
  rw[hget]at m;refine⟨y.kind,y.text,H,D,(dx (kb.zip n) f[i]).isSome,m,?_⟩;intro G;have ah:Keep o.size o G:=Keep.push _ _ (Uc _);have aG:Blk G o.size (xu 0 ⟨#[]⟩ ⟨Te,0,0⟩ ⟨Te,0,0⟩).toArray:=Blk.new _ _ _;have aZ:G.size=o.size+1:=Ur _;clear_value G;refine pQ aG rfl _ _ _ _ λl aA aV ae=>?_;have af:Blk l B.size (xu xs[i].kind xs[i].text ck ci).toArray:=(aB.ofKeep ah).keep (ae _ (by omega));have s:Keep B.size B l:=⟨by omega,λj J=>by rw[ae j (by omega),ah.get j (by omega)];exact Q.get j J⟩;have ap:Keep h.size h l:=aj.trans s (by omega);have A:Later h M l M':=⟨ap,L.le,L.old,an.keep s⟩;have aa:MapIt l h.size z (c8 (f.zip t)) (.string f[i]::dn):=aH.keep (s.get _ (by omega)) (s.get _ (by omega));have V:leftN l h.size z<leftN g h.size z:=by rw[leftN.keep (s.get h.size (by omega)) (s.get z (by omega))];exact pI
  refine⟨xs[i].kind,xs[i].text,ck,ci,λ_=>af.ld (cs:=xu xs[i].kind xs[i].text ck ci),y.kind,y.text,H,D,λ_=>aA.ld (cs:=xu y.kind y.text H D),?_⟩;have aI:eW kb ys q f[i] xs[i]=Tc->((f.zip xs).all λp=>eW kb ys q p.1 p.2)=Tc:=λhf=>by rw[List.all_eq_false];exact⟨(f[i],xs[i]),V1.2 ⟨i,by simp;omega,by simp⟩,by simp[hf]⟩
  refine⟨λw N=>∃b Y,w=.bool b/\Later l M' N Y/\((dx (kb.zip n) f[i]).isSome=Ta->b=q xs[i] y),λhs=>⟨hF,?_⟩,λhs=>⟨Ta,Ta,M',rfl,Later.refl A.ag,λhc=>by simp_all⟩,λ_ w N ⟨b,_,e,_⟩=>⟨b,e⟩,?_⟩;have au:(dx (kb.zip n) f[i]).isSome=Ta:=by simpa using hs
  have U:=(hp xs[i] (Up Z) y (t4 au)).px (h:=l) (M:=M') (vs:=[.agg #[.int .i64 xs[i].kind,.string xs[i].text,aK ck,aK ci],.agg #[.int .i64 y.kind,.string y.text,aK H,aK D]]) (hM.trans A.le) A.ag (zq (RdV.mono L.le (zr t1 t2)) (zq (RdV.mono L.le t3) zy));exact U.go λw N Y r C ak hr=>⟨r,dt ak,r,Y,rfl,C,λ_=>hr⟩;rintro b N ⟨b',Y,e,C,hb⟩;cases e;refine⟨λhf=>⟨Y,_,A.trans C,Yk.2 (rdBool _),?_⟩,λht=>⟨⟨_,Y,aa.keep (C.keep.get _ (by omega)) (C.keep.get _ (by omega)),A.trans C,by have:=C.keep.size;omega,λi2 h1 h2 hm=>?_⟩,?_⟩⟩;grind;rcases Uj.1 hm with e|hm;grind [FO];grind;show leftN N h.size z<leftN g h.size z;rw[leftN.keep (C.keep.get h.size (by omega)) (C.keep.get z (by omega))];exact V
theorem DN:zo Tp 84=Ta:=by kernel_rfl
set_option maxHeartbeats 1000000 in
theorem Gd:∀(n:Nat) (a b:Tr),bR a<=n->Sm a->Sm b->Zy zn a=Ta->Zy zn b=Ta->∀{R:Bool->Prop},R (eh a b)->PC Tp gl 84 [Arg.mk .tree a,Arg.mk .tree b] [.bool] R:=by
 intro n;induction n with
 |zero=>intro a _ h;have:=Zf a;omega
 |succ n ih=>
  intro a b hn J I oa O R hR h M vs hM ag z
  match vs,z with
  |[u1,u2],⟨A,s,_⟩=>
  have A:RdV M .tree a u1:=A;have s:RdV M .tree b u2:=s;obtain⟨sk,si,rfl,rk,ri⟩:=qq A;obtain⟨tk,E,rfl,S,t⟩:=qq s;obtain⟨li,_,_⟩:=rowLen ri;obtain⟨aj,_,_⟩:=rowLen t;apply PX.of;apply HM a.kind a.text sk si b.kind b.text tk E;intro h1 h2;have k1:Keep h.size h h1:=Keep.push _ _ (Uc _);have k2:Keep h1.size h1 h2:=Keep.push _ _ (Uc _);have b1:Blk h1 h.size (xu a.kind a.text sk si).toArray:=Blk.new _ _ _;have b2:Blk h2 h1.size (xu b.kind b.text tk E).toArray:=Blk.new _ _ _;have z1:h1.size=h.size+1:=Ur _;have z2:h2.size=h1.size+1:=Ur _;clear_value h1 h2;have c:=b1.ofKeep k2;have kk:Keep h.size h h2:=k1.trans k2 (by omega);have D:Later h M h2 M:=Later.same ag kk;intro K5 U;have l:zn a=Ta:=lD oa;have m:zn b=Ta:=lD O;have f:∀x:Bool,(x=Ta->eh a b=Tc)->(x=Tc->a.kind=b.kind/\a.text=b.text/\a.items.length=b.items.length)->K5 x h2:=by
   intro x am N;refine U x h2 ⟨λi=>⟨M,_,D,Yk.2 (rdBool _),?_⟩,λi=>?_⟩;grind;obtain⟨e1,e2,e3⟩:=N i;refine⟨a.kind,c.cellAdd (by rfl),λh6=>?_,λh6=>?_⟩;have k:¬a.kind=6:=by simpa using h6
   have u:eh a b=((a.items.zip b.items).all λp=>eh p.1 p.2):=by rw[Uy,Sj k e1 e2 e3];rw[lB]
   rw[u]at hR;refine⟨si,c.cellAdd (by rfl),E,b2.cellAdd (by rfl),?_⟩;refine(TS (gl:=gl) DN (q:=eh) (xs:=a.items) (ys:=b.items) (λx i y G=>ih x y (by have:=qi i;omega) (J.item i) (I.item G) (Ye oa i) (Ye O G) rfl) hM D.ag ri t).go λw af Z r L e B=>?_;have B:r=_:=B;subst B;refine⟨_,dt e,Z,_,D.trans L,Yk.2 (rdBool _),?_⟩;grind;have k:a.kind=6:=by simpa using h6
   have u:eh a b=((a.keys.zip a.items).all λp=>eW b.keys b.items eh p.1 p.2):=by rw[Uy,P5 l m k e1 e2 e3];rw[lB]
   rw[u]at hR;obtain⟨na,la⟩:=Y1 l k;obtain⟨nb,lb⟩:=Y1 m (by omega);refine⟨a.kind,a.text,sk,si,c.ld (cs:=xu a.kind a.text sk si),b.kind,b.text,tk,E,b2.ld (cs:=xu b.kind b.text tk E),?_⟩;refine qG na la J.items D.ag (zr rk ri) λai m1 ua C ak aa ra w1=>⟨Td m1,rfl,C.get h1.size (by omega),?_⟩;have o:=D.ag.keep C;refine qG nb lb I.items o (zr S t) λY m2 ub F ah V rb w2=>⟨Td m2,rfl,?_⟩;have H:Later h M Y M:=(D.trans (Later.same D.ag C)).trans (Later.same o F);refine(KG (gl:=gl) DN (q:=eh) na la lb aa V ⟨J.items,I.items⟩ (λx i y G=>ih x y (by have:=qi i;omega) (J.item i) (I.item G) (Ye oa i) (Ye O G) rfl) hM H.ag (w1.keep (F.get _ w1.lt)) w2 ra rb).go λw ae P r L e B=>?_;have B:r=_:=B;subst B;refine⟨_,dt e,P,_,H.trans L,Yk.2 (rdBool _),?_⟩;grind
  refine⟨a.kind,c.cellAdd (by rfl),b.kind,b2.cellAdd (by rfl),λhk=>f _ (λ_=>?_) (λQ=>?_),λhk=>?_⟩;grind [tS,tW];grind;have ab:a.kind=b.kind:=by simpa using hk
  refine⟨a.text,c.cellAdd (by rfl),b.text,b2.cellAdd (by rfl),λht=>f _ (λ_=>?_) (λQ=>?_),λht=>⟨si,c.cellAdd (by rfl),E,b2.cellAdd (by rfl),f _ (λQ=>?_) (λQ=>?_)⟩⟩;grind [tS,tW];grind;grind [tS,tW];grind [ie]
theorem Mb(i:GL gl){a b:Tr}(e:Sm a)(f:Sm b){R:Bool->Prop}(h:R (Zg a&&(Zg b&&eh a b))):PC Tp gl 46 [Arg.mk .tree a,Arg.mk .tree b] [.bool] R:=by
 apply IZ;simp only[wn];refine tU i e ⟨λr=>r=Zg b,λ_=>tU i f rfl,λr k=>⟨λx=>x=eh a b,λc=>?_,λx l=>?_⟩⟩;cases h1:Zg a with
 |false=>rw[h1]at c;cases c
 |true=>rw[h1,zG]at c;have h2:=k h1;rw[c]at h2;exact Gd _ a b (Uc _) e f (AU h1) (AU h2.symm) rfl
 grind
end
section
open Go.RowKit
variable {gl:Fr} {R:Bool -> Prop}
theorem SX{a b:List Bt}(o:a.length<=1000000)(f:∀r,(r=Ta↔a=b)->R r):PC Tp gl 110 [Arg.mk (.row .str) a,Arg.mk (.row .str) b] [.bool] R:=by
 apply Qi;refine⟨λl=>f _ ⟨λh=>(by cases h),λh=>by grind⟩,λl=>?_⟩;have l:(a.length:Int)=b.length:=by simpa using l
 have e:a.length=b.length:=by omega
 refine⟨λi=>∃k:Nat,i=k/\k<=a.length/\∀i (h1:i<a.length) (h2:i<b.length),i<k->a[i]=b[i],λi=>a.length-i.toNat,⟨0,rfl,UH _,λi _ _ h=>by omega⟩,?_⟩;rintro i ⟨k,rfl,p,m⟩;refine⟨λc=>?_,λc=>?_⟩;have c:k<a.length:=by have:=d8 c;omega
 rw[qn c (by omega)];refine⟨a[k],⟨by omega,by simp⟩,b[k],⟨by omega,by simp⟩,λn=>f _ ⟨λh=>(by cases h),λh=>?_⟩,λn=>⟨⟨k+1,rfl,c,λi h1 h2 q=>?_⟩,by grind⟩⟩;simp_all;grind [ie];have c:k=a.length:=by have:=eQ c;omega
 exact f _ ⟨λ_=>l7 e (Nat.le_of_eq c.symm) m,λ_=>rfl⟩
theorem Ki{a b:List Int}(o:a.length<=1000000)(f:∀r,(r=Ta↔a=b)->R r):PC Tp gl 111 [Arg.mk (.row p3) a,Arg.mk (.row p3) b] [.bool] R:=by
 apply Xn;refine⟨λl=>f _ ⟨λh=>(by cases h),λh=>by grind⟩,λl=>?_⟩;have l:(a.length:Int)=b.length:=by simpa using l
 have e:a.length=b.length:=by omega
 refine⟨λi=>∃k:Nat,i=k/\k<=a.length/\∀i (h1:i<a.length) (h2:i<b.length),i<k->a[i]=b[i],λi=>a.length-i.toNat,⟨0,rfl,UH _,λi _ _ h=>by omega⟩,?_⟩;rintro i ⟨k,rfl,p,m⟩;refine⟨λc=>?_,λc=>?_⟩;have c:k<a.length:=by have:=d8 c;omega
 rw[qn c (by omega)];refine⟨a[k],⟨by omega,by simp⟩,b[k],⟨by omega,by simp⟩,λn=>f _ ⟨λh=>(by cases h),λh=>?_⟩,λn=>⟨⟨k+1,rfl,c,λi h1 h2 q=>?_⟩,by grind⟩⟩;simp_all;grind;have c:k=a.length:=by have:=eQ c;omega
 exact f _ ⟨λ_=>l7 e (Nat.le_of_eq c.symm) m,λ_=>rfl⟩
theorem SY{a b:List Bt×List Int}(h1:a.1.length<=1000000)(h2:a.2.length<=1000000)(f:∀r,(r=Ta↔a=b)->R r):PC Tp gl 62 [Arg.mk (.pair (.row .str) (.row p3)) a,Arg.mk (.pair (.row .str) (.row p3)) b] [.bool] R:=by apply IX;refine SX h1 λr e=>⟨λc=>(c=Ta↔a.2=b.2),λ_=>Ki h2 λr e=>e,λc h=>f _ ?_⟩;grind
theorem EQ(v:Tr):(Wa v).1.1.length<=512/\(Wa v).1.2.length<=512:=by unfold Wa;split;split;simp;rename_i h;have:=jz (zf v) 0;unfold dV;simp_all;simp
theorem OZ{v:Tr}{t:List Bt×List Int}(h:Wa v=(t,0)):gd (zf v) t:=by unfold Wa at h;split at h;rename_i c;split at h;simp_all;rename_i b;have:=congrArg Prod.fst h;grind [A8];simp_all
theorem Lu{w:Tr}{t:List Bt×List Int}(h:gd w t):Wa w=(t,0):=by obtain⟨h1,h2,b,rfl⟩:=h;unfold Wa;simp_all
set_option maxRecDepth 100000 in
set_option maxHeartbeats 4000000 in
theorem N3(hg:GL gl)(hb:Brn gl){t:List Bt×List Int}(hs:∀s∈t.1,s.size<=65536){R:Tr×Bool->Prop}(hT:∀w,gd w t->R (w,Ta))(hF:(∀w,¬gd w t)->R (dR,Tc)):PC Tp gl 19 [Arg.mk (.pair (.row .str) (.row p3)) t] [.tree,.bool] R:=by
 intro h M vs hM ag ha
 match vs,ha with
 |[u],⟨hu,_⟩=>
  obtain⟨s1,s2,rfl,r1,r2⟩:=pj (show RdV M (.pair (.row .str) (.row p3)) t u from hu);apply PX.of;obtain⟨l1,_,_⟩:=rowLen r1;obtain⟨l2,_,_⟩:=rowLen r2;apply Ma s1 s2;intro g1;obtain⟨k1,z1,B1⟩:=jf (g:=g1) rfl;clear_value g1;intro g2;obtain⟨k2,z2,R2⟩:=jf (g:=g2) rfl;clear_value g2;have B2:=B1.ofKeep k2;have L2:Later h M g2 M:=Later.same ag (k1.trans k2 (by omega));have done:∀(g:zb) (M':Fr) (x:Tr) (b:Bool) (xk xi:Sl),Later g2 M g M'->RdV M' .tree x (.agg #[.int .i64 x.kind,.string x.text,aK xk,aK xi])->R (x,b) ->
    XRunU Tp (Ub 25 (.pointer (Td ⟨g1.size,0,Te⟩)) (.agg #[.int .i64 x.kind,.string x.text,aK xk,aK xi])) g λg'=>∃(y1:Int) (y2:Bt) (y3 y4:Sl),zd g' ⟨g1.size,0,Te⟩ 0 [.int .i64 y1,.string y2,aK y3,aK y4]/\∃M2 q,Later h M g' M2/\Zp M2 [.tree,.bool] q (.tuple #[.agg #[.int .i64 y1,.string y2,aK y3,aK y4],.bool b])/\R q:=by
   intro g M' x b xk xi L rx hr;have nR:M' g1.size=Te:=by rw[L.old _ (by omega)];exact ag.none (by omega)
   exact yq (R2.keep (L.keep.get _ (by omega))) λg' f z B=>⟨_,_,xk,xi,B.ld (cs:=[_,_,aK xk,aK xi]),M',(x,b),Later.stay (L2.trans L) (by omega) nR f z,lu rx,hr⟩
  have bad:∀(g:zb) (M':Fr),Later g2 M g M'->(∀w,¬gd w t)->XRunU Tp (Ub 25 (.pointer (Td ⟨g1.size,0,Te⟩)) (.agg #[.int .i64 0,.string ⟨#[]⟩,.slice Te 0 0,.slice Te 0 0])) g λg'=>∃(y1:Int) (y2:Bt) (y3 y4:Sl),zd g' ⟨g1.size,0,Te⟩ 0 [.int .i64 y1,.string y2,aK y3,aK y4]/\∃M2 q,Later h M g' M2/\Zp M2 [.tree,.bool] q (.tuple #[.agg #[.int .i64 y1,.string y2,aK y3,aK y4],.bool Tc])/\R q:=λg M' L hn=>done g M' dR Tc ⟨Te,0,0⟩ ⟨Te,0,0⟩ L om (hF hn);refine⟨s1,s2,B2.ld (cs:=[aK s1,aK s2]),?_⟩;refine(sX (gl:=gl) (t:=t) (R:=λr=>r=if jk t=Ta then(eJ t.2,Ta)else([],Tc)) rfl).go (vs:=[.agg #[aK s1,aK s2]]) hM L2.ag (zq (a:=Arg.mk (.pair (.row .str) (.row p3)) t) (Yj r1 r2) zy) λw l A r O D hr=>?_;subst hr;obtain⟨sp,rfl,rp⟩:=Kq D;have z6:=O.keep.size;have B6:=B2.keep (O.keep.get h.size (by omega));refine⟨sp,_,rfl,s2,λ_=>B6.cellAdd (o:=0) (k:=1) rfl,?_⟩;by_cases I:¬(jk t=Ta/\0<t.2.length);have ae:(bif (!(if jk t=Ta then(eJ t.2,Ta)else([],Tc)).2)then Ta else(((sp.len:Nat):Int)==0))=Ta:=by
   have hl:=(rowLen rp).1;cases hr:jk t with
   |false=>rfl
   |true=>rw[hr]at hl;simp only[if_true,Yi]at hl;grind
  rw[ae];refine⟨⟨0,0,Te⟩,λV=>(by cases V),0,λV=>(by cases V),λ_=>?_,λV=>(by cases V)⟩;exact bad l A O λw U=>I ⟨(Z0 U hs).1,(Z0 U hs).2.1⟩;obtain⟨hr,bE⟩:=Classical.not_not.1 I;obtain⟨q1,q2,q3⟩:=uV hr;have H:t.2.length-1<t.2.length:=by omega
  rw[zA hr]at rp ⊢;have hl:=(rowLen rp).1;rw[Yi]at hl;have a1:hZ (((sp.len:Nat):Int)-1)=((t.2.length-1:Nat):Int):=by rw[wrap64 (by omega) (by omega)];omega
  have aT:(bif (!(eJ t.2,Ta).2)then Ta else(((sp.len:Nat):Int)==0))=Tc:=by show(((sp.len:Nat):Int)==0)=Tc;rw[beq_eq_false_iff_ne];omega
  rw[aT,a1];obtain⟨b2,o2,e3,e4⟩:=gO O.ag (r2.mono O.le) (k:=t.2.length-1) H;have V:t.2[t.2.length-1]=aR t.2 (t.2.length-1):=by unfold aR;rw[U0,Ul H];rfl
  rw[V]at e4;refine⟨⟨b2,o2,Te⟩,λ_=>⟨e3,by omega,by omega⟩,aR t.2 (t.2.length-1),λ_=>by rw[qh,Ue];exact e4,λC=>?_,λC=>?_⟩;refine bad l A O λw U=>?_;have:=(Z0 U hs).2.2.1;grind;have aU:aR t.2 (t.2.length-1)=0:=by simpa using C
  refine⟨s1,s2,B6.ld (cs:=[aK s1,aK s2]),?_⟩;rw[hl];refine wU (E:=FP) rfl (by omega) (by omega) ⟨⟨Td ⟨l.size,0,Te⟩,t.2.length,t.2.length⟩,rfl,(Keep.push l _ (Uc _)).get h.size (by omega),?_⟩;have ax:Keep l.size l (l.push (.cells (Vh t.2.length (VV Te 0 0)).toArray 29)):=Keep.push _ _ (Uc _);have aY:(l.push (.cells (Vh t.2.length (VV Te 0 0)).toArray 29)).size=l.size+1:=Ur _;have aJ:Blk (l.push (.cells (Vh t.2.length (VV Te 0 0)).toArray 29)) l.size (Vh t.2.length (VV Te 0 0)).toArray:=Blk.new _ _ _;generalize (l.push (.cells (Vh t.2.length (VV Te 0 0)).toArray 29))=g20 at ax aY aJ ⊢;intro aj;obtain⟨aG,bJ,bA⟩:=jf (g:=aj) rfl;clear_value aj;have bC:Later l A aj A:=Later.same O.ag (ax.trans aG (by omega));have nk:A l.size=Te:=O.ag.none (Uc _);have nr:A g20.size=Te:=O.ag.none (by omega);refine⟨λi g=>∃(m:Nat) (ss:List Sl) (bf:Nat->List Nat),i=(m:Int)/\m<=t.2.length/\KdS (g20.size+1) l A l.size g20.size s1 s2 ⟨Td ⟨l.size,0,Te⟩,t.2.length,t.2.length⟩ g A (dM t.2 m) ss bf,λi _=>t.2.length-i.toNat,⟨0,Vh t.2.length ⟨Te,0,0⟩,λ_=>[],rfl,UH _,⟨bC,?_,bA,by rw[mT,VI],λi hi hi2=>?_,λi j _ _ _ c C=>(by cases C),Uc _,by omega,Nat.lt_succ_self _,by omega,nk,nr⟩⟩,?_⟩;have:(Vh t.2.length (⟨Te,0,0⟩:Sl)).map aK=Vh t.2.length (VV Te 0 0):=by rw[List.map_replicate];rfl
  rw[this];exact aJ.ofKeep aG;grind [I7,ORow.nil];rintro i g ⟨m,ss,bf,rfl,hm,S⟩;have kl:=mT t.2 m;refine⟨λC=>?_,λC=>?_⟩;have N:m<t.2.length:=by have:=d8 C;omega
  obtain⟨b3,o3,e5,e6⟩:=gO S.L.ag (rp.mono S.L.le) (k:=m) (by rw[Yi];exact N);have aO:(eJ t.2)[m]'(by grind)=dl t.2 t.2.length m:=by have:=uB (L:=t.2) N;rw[Ul (by grind)]at this;exact UO this
  rw[aO]at e6;have aA:=qn N (by omega);refine⟨⟨b3,o3,Te⟩,⟨e5,by omega,by omega⟩,dl t.2 t.2.length m,by rw[qh,Ue];exact e6,λhp=>?_,λhp=>?_⟩;have hp:=zC hp;obtain⟨u,hu,aL⟩:∃u:Nat,dl t.2 t.2.length m=(u:Int)/\u<t.2.length:=by rcases j9 t.2 t.2.length m with⟨e,_⟩|⟨p,e,p1,p2,_⟩;omega;grind
  have an:u<(dM t.2 m).length:=by rw[kl];exact aL
  have aE:u<ss.length:=by rw[S.ln,kl];exact aL
  have ai:zc g ((⟨l.size,0,Te⟩:Addr).add (u*1))=Td (aK ss[u]):=by rw[qh];exact S.kbk.cell (by simp[aE])
  rw[hu];refine⟨⟨g20.size,0,Te⟩,rfl,_,S.rbk.cellAdd (o:=0) (k:=2) rfl,⟨g20.size,0,Te⟩,rfl,_,S.rbk.cellAdd (o:=0) (k:=2) rfl,⟨l.size,0,Te⟩,⟨rfl,by omega,by grind⟩,ss[u],by rw[Ue];exact ai,?_⟩;intro Y;obtain⟨aC,bI,be⟩:=jf (g:=Y) rfl;have bq:KdS (g20.size+1) l A l.size g20.size s1 s2 ⟨Td ⟨l.size,0,Te⟩,t.2.length,t.2.length⟩ Y A (dM t.2 m) ss bf:=S.push _;clear_value Y;have bH:=S.lg;have er:Y[g20.size]?=g[g20.size]?:=aC.get _ (by omega);refine⟨by rw[qh];exact aC.get l.size (by omega),er,er,?_⟩;have bP:=Fi (L:=t.2) (m:=m) _ (Up an);refine XRun.mono (bq.add an aE (by omega) be (Q:=λg'=>(∃(m2:Nat) (ss:List Sl) (bf:Nat->List Nat),hZ ((m:Int)+1)=(m2:Int)/\m2<=t.2.length/\KdS (g20.size+1) l A l.size g20.size s1 s2 ⟨Td ⟨l.size,0,Te⟩,t.2.length,t.2.length⟩ g' A (dM t.2 m2) ss bf)/\t.2.length-(hZ ((m:Int)+1)).toNat<t.2.length-((m:Nat):Int).toNat) λg' s' bg S'=>⟨⟨m+1,_,bg,aA,N,by rw[OP hu an];exact S'⟩,by omega⟩) ?_;rintro v g37 ⟨z,rfl,fr,aP⟩;exact⟨z,rfl,⟨l.size,0,Te⟩,⟨rfl,by omega,by grind⟩,fr.trans er,by rw[Ue];exact aP⟩;have hp:=zD hp;rw[aA];exact⟨⟨m+1,ss,bf,rfl,N,by rw[ND (by omega)];exact S⟩,by grind⟩
  ·have aM:m=t.2.length:=by have:=eQ C;omega
   subst aM;obtain⟨M7,L7,bO,bB,aF⟩:=S.fin (by rw[kl];omega) λx V=>by have:=Fi x V;omega
   rw[kl,PE]at aF;have ap:Later g2 M g M7:=O.trans L7;have ST:RdrS M7 g20.size t.1 t.2 s1 s2 ⟨Td ⟨l.size,0,Te⟩,t.2.length,t.2.length⟩:=⟨bB,r1.mono ap.le,aF⟩;refine(sw hg hb (rb:=g20.size) (Ls:=t.1) (L:=t.2) q1 q2 q3 t.2.length (t.2.length-1) H H g M7 (hM.trans ap.le) L7.ag ST).go λw a7 aZ r af D G=>?_;obtain⟨ay,_⟩:=(lc (Ls:=t.1) q3 q2 t.2.length (t.2.length-1) H).1;rw[<-G]at ay;obtain⟨yk,yi,rfl,au⟩:=j3 D;refine⟨_,_,yk,yi,_,rfl,?_⟩;intro bG;refine xe af.ag λaV ah bF aI=>?_;refine⟨_,_,yk,yi,aI.ld (cs:=[_,_,aK yk,aK yi]),?_⟩;have aa:Later g2 M aV aZ:=ap.trans (af.trans ah);refine(uM hg hb ay (R:=λq=>q=Wa r.1) rfl).go (vs:=[.agg #[.int .i64 r.1.kind,.string r.1.text,aK yk,aK yi]]) (hM.trans aa.le) ah.ag (zq (a:=Arg.mk .tree _) au zy) λw aN J fr y ak aB=>?_;obtain⟨f1,f2,rfl,bz,bm⟩:=E5 ak;refine⟨f1,f2,_,rfl,?_⟩;intro az;obtain⟨bn,bL,aQ⟩:=jf (g:=az) rfl;clear_value az;refine hH aQ λP bD bj a8=>?_;have F:Later aN J P J:=Later.stay (Later.same y.ag bn) (Uc _) (y.ag.none (Uc _)) bD bj;have n:Later g2 M P J:=aa.trans (y.trans F);have bN:=af.keep.size;have bQ:=y.keep.size;have Bt:Blk P h.size #[aK s1,aK s2]:=B2.keep (n.keep.get _ (by omega));have ba:=EQ r.1;rw[<-aB]at ba;have ab:=SY (gl:=gl) (a:=fr.1) (b:=t) (by omega) (by omega) (R:=λq=>(q=Ta↔fr.1=t)) λq hq=>hq;refine⟨f1,f2,λ_=>a8.ld (cs:=[aK f1,aK f2]),s1,s2,λ_=>Bt.ld (cs:=[aK s1,aK s2]),λv g'=>∃M',Later P J g' M'/\∃b,v=.bool b/\(b=Ta↔fr.1=t),λ_=>?_,λ_=>⟨decide (fr.1=t),J,Later.refl F.ag,_,rfl,decide_eq_true_iff⟩,λ_ v g' hv=>?_,?_⟩;refine ab.go (vs:=[.agg #[aK f1,aK f2],.agg #[aK s1,aK s2]]) (hM.trans n.le) F.ag (zq (a:=Arg.mk (.pair (.row .str) (.row p3)) _) (Yj bz bm) (zq (a:=Arg.mk (.pair (.row .str) (.row p3)) _) (Yj (r1.mono n.le) (r2.mono n.le)) zy)) λw bM aS q br ar hq=>?_;exact⟨q,dt ar,aS,br,q,by rfl,hq⟩;grind;rintro b g66 ⟨aH,am,b',e,bu⟩;cases e;have Z:=n.trans am;refine⟨λC=>?_,λC=>?_⟩;refine bad g66 aH Z λw U=>?_;obtain⟨_,_,_,p1,_⟩:=Z0 U hs;rw[p1]at G;subst G;rw[Lu U]at aB;grind
   ·have a6:Blk g66 a7.size #[.int .i64 r.1.kind,.string r.1.text,aK yk,aK yi]:=(aI.keep ((y.trans F).keep.get _ (by omega))).keep (am.keep.get _ (by omega));refine⟨_,_,yk,yi,a6.ld (cs:=[_,_,aK yk,aK yi]),?_⟩;rw[lq,lq]at C;obtain⟨⟨c1,c2⟩,c3⟩:=C;have c1:r.2=Ta:=by simpa using c1
    have c2:fr.2=0:=by simpa using c2
    have c3:b=Ta:=by simpa using c3
    have c4:=bu.1 c3;have U:gd (zf r.1) t:=OZ (by grind);obtain⟨_,_,_,p1,_⟩:=Z0 U hs;have bS:r.1=zf r.1:=by rw[p1]at G;exact congrArg Prod.fst G
    refine done g66 aH r.1 Ta yk yi Z (au.mono (ah.le.trans (y.le.trans (F.le.trans am.le)))) ?_;grind
end
section
open Go.Shelf Go.RowKit
def Ms:Go.Shelf.Ren:=⟨fun|189=>64|125=>114|257=>113|128=>177|129=>178|294=>168|295=>169|296=>170|297=>171|298=>172|299=>173|216=>174|300=>175|301=>176|328=>235|329=>236|330=>237|331=>238|332=>239|215=>240|343=>294|n=>n,fun|28=>29|3=>3|46=>123|0=>0|51=>176|53=>178|4=>4|183=>168|182=>167|131=>173|5=>5|9=>9|218=>245|222=>249|228=>299|229=>300|n=>n,fun|n=>n⟩
theorem D4:Go.Proofs.Lays.n189 Tp Ms:=by constructor <;> intros <;> kernel_rfl
open Go.Sort Go.RowKit in
theorem Ou(blk off cap:Nat)(c:List Int)(w:World)(h:Holds (UT .i64) w blk off c.toArray)(b:blk<w.heap.size)(f:c.length<4611686018427387904):
  Calls Tp 64 #[.slice (Td ⟨blk,off,Te⟩) c.length cap] w λe w'=>
   e=.returned (.tuple #[])/\∃n os,w'=grow (putRow (UT .i64) (Sort.ahead w n) blk off (c.mergeSort λx y=>decide (x<=y)).toArray) os:=Any.slices_Sort_int D4 blk off cap c w h b f
open Go.RowKit Go.Sort in
theorem X0(p:Option Addr)(cap:Nat)(w:World): Calls Tp 64 #[.slice p 0 cap] w λe w'=>e=.returned (.tuple #[])/\w'=w:=Any.slices_Sort_int_none D4 p cap w
end
section
open Go.RowKit Go.Sort Go.Shelf
variable {h:zb} {s:Sl}
theorem NM{x:Int}{K:Value->zb->Prop}:vJ Tp 29 1 (.int .i64 x) h K=K (.slice (Td ⟨h.size,0,Te⟩) 1 1) (h.push (.cells #[.int .i64 x] 3)):=by kernel_rfl
theorem mapII:MapTI Tp 79 3 3:=⟨by kernel_rfl,by kernel_rfl⟩
theorem sU{base:Nat}{xs:List Int}(H:Owns h base 3 1 s (xs.map (UT .i64))):s.len=xs.length:=by have:=H.length;grind
theorem Pw{base:Nat}{xs:List Int}(H:Owns h base 3 1 s (xs.map (UT .i64)))(q:xs.length<=1000000):
  XC Tp 64 #[.slice s.a s.len s.cap] h λv h'=>v=.tuple #[]/\Owns h' base 3 1 s ((xs.mergeSort λx y=>decide (x<=y)).map (UT .i64))/\h.size<=h'.size/\∀i,i<h.size->(∀p,s.a=Td p->i≠p.block)->h'[i]?=h[i]?:=by
 refine XC.of_below λB d=>?_;have t:s.len=xs.length:=sU H;rcases H.2 with⟨m,h0⟩|⟨g,cap,k,m,l,C,G,F,A,I⟩;have E:xs=[]:=UK (by omega);subst E;rw[h0];refine(X0 s.a s.cap (mk B d h)).mono ?_;rintro e w' ⟨rfl,rfl⟩;exact⟨_,rfl,rfl,rfl,rfl,rfl,by rw[List.mergeSort_nil];exact H,Uc _,λ_ _ _=>rfl⟩;simp only[UW]at m;obtain⟨u,_,rfl⟩:=m;have c:(mk B d h).heap[g]?=Td (.cells k 3 (0,0)):=C;have o:g<(mk B d h).heap.size:=(Ut.1 c).1;have D:Holds (UT .i64) (mk B d h) g 0 xs.toArray:=holds_of_blockI c (by simp_all);have z:=Ou g 0 s.cap xs (mk B d h) D o (by omega);rw[<-t]at z;rw[u];refine z.mono ?_;rintro e w' ⟨rfl,n,os,rfl⟩;have b:=grownBy_sortedI (w:=mk B d h) (g:=g) (n:=n) (os:=os) (xs.mergeSort λx y=>decide (x<=y)).toArray;refine⟨_,rfl,b.os,b.tape,b.output,rfl,?_,b.size,λi hi f=>b.block i hi λe=>f _ rfl (by simpa using e)⟩;have r:=ownsRow_sortedI (w:=mk B d h) (base:=base) (n:=n) (os:=os) (ss:=xs) (ts:=xs.mergeSort λx y=>decide (x<=y)) (by simp) l c (by omega) F (by simpa using A);rw[<-t]at r;show World.ownsRow _ base _ 1 (.slice s.a s.len s.cap) s.len _;rw[u];exact r
theorem Owns.frzI{h g:zb}{M M':Fr}(L:Later h M g M'){ks:List Int}{base:Nat}(o:Owns g base 3 1 s (ks.map (UT .i64)))(B:h.size<=base)(D:ks.length<=1000000):
  ∃m,Later h M g m/\Rd m (.row p3) ks [aK s]:=by
 have p:=sU o;rcases o.2 with⟨k,h0⟩|⟨b,cap,f,k,n,r,A,C,z,u⟩;have t:ks=[]:=UK (by omega);subst t;simp only[UW]at k;refine⟨M',L,⟨_,rfl,s.a,s.cap,?_,⟨by simp,by simp⟩,.inl rfl⟩⟩;show aK s=_;unfold aK;rw[h0];rfl;simp only[UW]at k;obtain⟨w,_,y⟩:=k;have x:Blk g b f:=⟨_,r⟩;refine⟨MxL M' g [b],Later.own L (λc y=>by grind),⟨_,rfl,s.a,s.cap,?_,⟨by omega,by omega⟩,.inr ⟨b,0,f,w,MxL.at (by simp) x,λi hi=>?_⟩⟩⟩;show aK s=_;unfold aK;rw[p];show cut f (0+i*1) 1=[.int .i64 ks[i]];refine Xe rfl λq E=>?_
 have l:q=0:=by omega
 subst l;have e:(f.toList.take (s.len*1))[i]?=(ks.map (UT .i64))[i]?:=by rw[u]
 grind
theorem PY{L:List Int}{xs:List Nat}(h:xs.Perm (gQ L)):((xs.map λi:Nat=>(i:Int)).mergeSort λx y=>decide (x<=y))=(gQ L).map λi:Nat=>(i:Int):=by refine List.Perm.eq_of_pairwise (le:=λa b:Int=>decide (a<=b)=Ta) (λa b _ _ h1 h2=>?_) (List.pairwise_mergeSort (λa b c h1 h2=>?_) (λa b=>?_) _) (List.pairwise_map.2 ((yM L).imp λh=>zE (by omega))) ((XD _ _).trans (h.map _));grind;grind;grind
set_option maxRecDepth 100000 in
set_option maxHeartbeats 2000000 in
theorem Lb{gl:Fr}{t:List Bt×List Int}{R:List Int->Prop}(hR:R (if jk t=Ta then(gQ t.2).map (λi:Nat=>(i:Int))else [])):PC Tp gl 28 [Arg.mk (.pair (.row .str) (.row p3)) t] [.row p3] R:=by
 intro h M vs hM ag ha
 match vs,ha with
 |[u],⟨hu,_⟩=>
  obtain⟨s1,s2,rfl,r1,r2⟩:=pj (show RdV M (.pair (.row .str) (.row p3)) t u from hu);apply PX.of;obtain⟨l2,_,_⟩:=rowLen r2;apply OI s1 s2;intro h1;have L1:Later h M h1 M:=Later.push ag _;obtain⟨_,z1,B1⟩:=jf (g:=h1) rfl;clear_value h1;refine⟨s1,s2,B1.ld (cs:=[aK s1,aK s2]),?_⟩;refine(FW (gl:=gl) (t:=t) (R:=λr=>r=jk t) rfl).go (vs:=[.agg #[aK s1,aK s2]]) hM L1.ag (zq (a:=Arg.mk (.pair (.row .str) (.row p3)) t) (Yj r1 r2) zy) λw f O r P V hr=>?_;subst hr;have D:=L1.trans P;have z5:=P.keep.size;refine⟨_,dt V,λl=>?_,λl=>?_⟩;have l:jk t=Tc:=by simpa using l
  rw[l]at hR;exact⟨O,[],D,Yk.2 ((c7 rfl).2 (Xg (T:=.int .i64))),hR⟩;have l:jk t=Ta:=by simpa using l
  rw[l,zA rfl]at hR;obtain⟨q1,q2,q3⟩:=uV l;obtain⟨L,hL⟩:∃L,L=t.2:=⟨_,rfl⟩;rw[<-hL]at hR q2 q3 r2 l2;intro G;have k7:Keep f.size f G:=Keep.push _ _ (Uc _);have z7:G.size=f.size+1:=Ur _;have W7:MapW G f.size []:=MapW.new _;clear_value G;have B7:Blk G h.size #[aK s1,aK s2]:=(B1.keep (P.keep.get _ (by omega))).ofKeep k7;refine⟨s2,B7.cellAdd (o:=0) (k:=1) rfl,λi g=>∃m:Nat,i=(m:Int)/\m<=L.length/\g.size=G.size/\(∀j,j≠f.size->g[j]?=G[j]?)/\MapW g f.size (fW ((fm L m).map (iq L))),λi _=>L.length-i.toNat,⟨0,rfl,UH _,rfl,λ_ _=>rfl,W7⟩,?_⟩;rintro i g ⟨m,rfl,hm,zg,fg,W⟩;have kg:Keep f.size f g:=⟨by omega,λj z=>by rw[fg j (by omega)];exact k7.get j z⟩;have Lg:Later f O g O:=Later.same P.ag kg;refine⟨λC=>?_,λC=>?_⟩;have y:m<L.length:=by have:=d8 C;omega
  obtain⟨b,o,e1,e2⟩:=gO Lg.ag (r2.mono D.le) (k:=m) y;have S:L[m]=aR L m:=by unfold aR;rw[U0,Ul y];rfl
  rw[S]at e2;refine⟨⟨b,o,Te⟩,⟨e1,by omega,by omega⟩,aR L m,by rw[qh,Ue];exact e2,?_⟩;refine FS mapII W (aR L m) (.int .i64 (m:Int)) λg' W' z' f'=>⟨⟨m+1,by rw[qn y (by omega)],y,by omega,λj z=>(f' j z).trans (fg j z),?_⟩,by grind [qn]⟩;rw[ES]at W';exact W';have aa:m=L.length:=by have:=eQ C;omega
  subst aa;obtain⟨Z,s⟩:=tT L L.length;have B:((fW ((fm L L.length).map (iq L))).map (·.1))=((fm L L.length).map (aR L)).map (UT .i64):=by unfold fW;rw[U3,U3,U3];rfl
  have ae:((fW ((fm L L.length).map (iq L))).map (·.1)).Nodup:=by rw[B];exact YC.map _ (λa b af e=>af (by injection e)) Z
  refine rm mapII.map W λab ap ai Q=>⟨Td ⟨g.size,0,Te⟩,rfl,?_⟩;have aj:Keep f.size f ab:=kg.trans ai (by omega);refine⟨λout A=>∃xs:List Nat,xs.Nodup/\(∀x∈xs,x∈fm L L.length)/\MapIt A g.size f.size (fW ((fm L L.length).map (iq L))) (xs.reverse.map λi=>UT .i64 (aR L i))/\Owns A (g.size+1) 3 1 out ((xs.map λi:Nat=>(i:Int)).map (UT .i64))/\g.size+1<=A.size/\Keep f.size f A,λ_ A=>leftN A g.size f.size,⟨[],XV,λx l=>(by cases l),Q,Owns.nil _ _ _ _,by omega,aj⟩,?_⟩;rintro out A ⟨xs,Y,F,it,o,ar,K2⟩;have an:xs.length<=L.length:=by have:=tF (xs:=xs) (ys:=U8 L.length) Y λx l=>UY.2 ((s x).1 (F x l)).1;rwa[XP]at this
  refine rj it ae (by omega) (λN=>.inl ⟨rfl,(λC=>(by cases C)),λ_=>?_⟩) λk v H hk q ak U z3 f3 qB=>.inr ⟨k,v,rfl,λ_=>uK U ⟨k,v,rfl,?_⟩,λC=>(by cases C)⟩;have c:xs.Perm (gQ L):=by refine((List.perm_ext_iff_of_nodup Y (wD Z)).2 λp=>⟨F p,λc=>?_⟩).trans (O9 L);have ah:=N (.int .i64 (aR L p),.int .i64 (p:Int)) (by unfold fW;rw[U3];exact US.2 ⟨p,c,rfl⟩);obtain⟨x,l,e⟩:=US.1 ah;injection e with _ e;have l:=List.mem_reverse.1 l;obtain⟨a1,a2⟩:=(s x).1 (F x l);obtain⟨b1,b2⟩:=(s p).1 c;rcases Nat.lt_trichotomy x p with h|h|h;grind;grind;simp_all
  refine XC.mono (Pw o (by grind)) ?_;rintro v g4 ⟨rfl,o4,z4,f4⟩;rw[PY c]at o4;have Lf:Later f O g4 O:=Later.same P.ag ⟨by omega,λj z=>by rw[f4 j (by omega) λp c=>by have:=o.base_le p c;omega];exact K2.get j z⟩;obtain⟨M6,L6,rd⟩:=Owns.frzI Lf o4 (by omega) (by rw[Um,c.symm.length_eq];omega);exact⟨rfl,M6,_,D.trans L6,Yk.2 ((c7 rfl).2 rd),hR⟩;obtain⟨i,hi,rfl,rfl⟩:∃i,i∈fm L L.length/\k=.int .i64 (aR L i)/\v=.int .i64 (i:Int):=by unfold fW at H;rw[U3]at H;obtain⟨i,hi,e⟩:=US.1 H;injection e with e1 e2;exact⟨i,hi,e1.symm,e2.symm⟩
  have am:i∉xs:=λhm=>hk (US.2 ⟨i,List.mem_reverse.2 hm,rfl⟩);rw[NM];have E:Keep q.size q (q.push (.cells #[.int .i64 (i:Int)] 3)):=Keep.push _ _ (Uc _);have z8:(q.push (.cells #[.int .i64 (i:Int)] 3)).size=q.size+1:=Ur _;have V8:Blk (q.push (.cells #[.int .i64 (i:Int)] 3)) q.size #[.int .i64 (i:Int)]:=Blk.new _ _ _;generalize (q.push (.cells #[.int .i64 (i:Int)] 3))=h8 at E z8 V8 ⊢;have o3:Owns q (g.size+1) 3 1 out ((xs.map λi:Nat=>(i:Int)).map (UT .i64)):=o.keep λp c=>f3 _ (by have:=o.base_le p c;omega);have I:=o3.keepN E;have hl:=sU o;rw[Um]at hl;refine Jj (kz:ElemT _ _ _ _ 1 8) I (src:=⟨Td ⟨q.size,0,Te⟩,1,1⟩) (news:=[.int .i64 (i:Int)]) (n:=h8.size) ?_ rfl (by simp[Value.oneCell']) (by grind) (by grind) (by omega) λs' h4 p1 p2 J p4 p5=>⟨s',rfl,⟨xs++[i],?_,?_,?_,?_,by omega,?_⟩,?_⟩;refine .inr ⟨q.size,0,rfl,by omega,λi v S=>?_⟩
  match i,S with
  |0,S=>cases S;exact V8.cell rfl
  grind;grind;rw[List.reverse_append];refine ak.keep ?_ ?_;rw[J _ (by omega) λp c=>by have:=I.base_le p c;omega];exact E.get _ (by omega);rw[J _ (by omega) λp c=>by have:=I.base_le p c;omega];exact E.get _ (by omega);rw[U7,U7];exact p2;refine⟨by omega,λj z=>?_⟩;rw[J j (by omega) λp c=>by have:=I.base_le p c;omega,E.get j (by omega),f3 j (by omega)];exact K2.get j z;show leftN h4 g.size f.size<leftN A g.size f.size;rw[leftN.keep (h:=q) ?_ ?_];exact qB;rw[J _ (by omega) λp c=>by have:=I.base_le p c;omega];exact E.get _ (by omega);rw[J _ (by omega) λp c=>by have:=I.base_le p c;omega];exact E.get _ (by omega)
end
section
open Go.RowKit
variable {h:zb} {M gl:Fr} {b:Nat}
theorem yF{f:FuncId}{args:Array Value}{g:Bool}(i:g=Ta){b:Sl->zb->Prop}(E:XC Tp f args h λv h'=>∃s,v=aK s/\b s h'):
  ∃J:Value->zb->Prop,(g=Ta->XC Tp f args h λv h'=>∃s:Sl,v=aK s/\J (aK s) h')/\(g=Tc->∃s:Sl,J (aK s) h)/\(g=Ta->∀v h',J v h'->∃s:Sl,v=aK s)/\∀s:Sl,∀h',J (aK s) h'->b s h':=by
 refine⟨λv h'=>∃s,v=aK s/\b s h',λ_=>XC.mono E λv h' ⟨s,e,H⟩=>⟨s,e,s,rfl,H⟩,λk=>(by simp_all),λ_ v h' ⟨s,e,_⟩=>⟨s,e⟩,λs h' ⟨c,e,H⟩=>?_⟩;have:s=c:=by unfold aK at e;injection e with e1 e2 e3;cases s;cases c;simp_all
 grind
theorem JB(k:M b=Te){f:Tr}{w1:List Value}(h1:Rd M .tree f w1)(h:w1.length=4):Rd (Mx M b w1.toArray) (.row .tree) [f] [aK ⟨Td ⟨b,0,Te⟩,1,1⟩]:=by
 have le:Fr.le M (Mx M b w1.toArray):=λc cs e=>by unfold Mx;grind
 refine⟨_,rfl,_,_,rfl,by simp,.inr ⟨b,0,_,rfl,by unfold Mx;rw[zA rfl],λi hi=>?_⟩⟩;have hi:i<1:=hi;obtain rfl:i=0:=by omega
 have:cut w1.toArray (0+0*sz .tree) (sz .tree)=w1:=by show List.take 4 (List.drop 0 w1)=w1;rw[VD,<-h,Uz]
 rw[this];exact Rd.mono le h1
theorem sy(xs:List Int)(e:xs.length<=1000):Rd (Mx M b (xs.map (UT .i64)).toArray) (.row p3) xs [aK ⟨Td ⟨b,0,Te⟩,xs.length,xs.length⟩]:=by refine⟨_,rfl,_,_,rfl,⟨by omega,Uc _⟩,.inr ⟨b,0,_,rfl,by unfold Mx;rw[zA rfl],λi hi=>?_⟩⟩;show cut (xs.map (UT .i64)).toArray (0+i*1) 1=[.int .i64 xs[i]];refine Xe rfl λq c=>?_;simp_all
theorem Md(xs:List Bt)(e:xs.length<=1000):Rd (Mx M b (xs.map UJ).toArray) (.row .str) xs [aK ⟨Td ⟨b,0,Te⟩,xs.length,xs.length⟩]:=by refine⟨_,rfl,_,_,rfl,⟨by omega,Uc _⟩,.inr ⟨b,0,_,rfl,by unfold Mx;rw[zA rfl],λi hi=>?_⟩⟩;show cut (xs.map UJ).toArray (0+i*1) 1=[.string xs[i]];refine Xe rfl λq c=>?_;simp_all
def sm1:Tr:=.mk 3 (bl [49]) [] []
def sm2:Tr:=.mk 3 (bl [50]) [] []
def smR:Tr:=.mk 5 ⟨#[]⟩ [] [sm2]
def smV:Tr:=.mk 6 ⟨#[]⟩ [⟨#[98]⟩,⟨#[97]⟩] [sm1,smR]
def gS:Tr:=.mk 6 ⟨#[]⟩ [⟨#[97]⟩,⟨#[98]⟩] [smR,sm1]
def di:List Bt×List Int:=([⟨#[50]⟩,⟨#[91]⟩,⟨#[107,34,97,34]⟩,⟨#[49]⟩,⟨#[107,34,98,34]⟩,⟨#[123]⟩],[0,0,0,3,3,0])
theorem GM:yo [⟨#[98]⟩,⟨#[97]⟩]=[⟨#[97]⟩,⟨#[98]⟩]:=by
 rw[Zk (List.Perm.swap (⟨#[97]⟩:Bt) ⟨#[98]⟩ [])];unfold yo;rw[List.mergeSort_of_pairwise];kernel_rfl;refine Vn.2 ⟨λy b=>?_,Vn.2 ⟨λy b=>(by cases b),YT⟩⟩;have:y=[98]:=by simpa[lb]using b
 subst this;show decide (lb ⟨#[97]⟩<=[98])=Ta;kernel_rfl
theorem oY:zz smV=Ta:=by kernel_rfl
theorem mO:zf smV=gS:=by rw[yg];show(if(6:Int)=6 then Tr.mk 6 ⟨#[]⟩ (yo [⟨#[98]⟩,⟨#[97]⟩]) ((yo [⟨#[98]⟩,⟨#[97]⟩]).map λq=>dq (smV.keys.zip (smV.items.map zf)) q)else _)=_;rw[zA rfl,GM];kernel_rfl
theorem mC:gd gS di:=by
 have h:=A8 oY (by rw[mO];exact zC (by kernel_rfl));rw[mO]at h;have e:dV (Qh gS 0)=di:=by kernel_rfl
 simp_all
theorem NB:Wa smV=(di,0):=by have h:=mC;obtain⟨_,_,c,b⟩:=h;unfold Wa;rw[zA oY,mO,za (by omega),<-b]
theorem rJ:∀s∈di.1,s.size<=65536:=by intro s b;simp only[di,Uj,XY,or_false]at b;rcases b with rfl|rfl|rfl|rfl|rfl|rfl <;> exact zC (by kernel_rfl)
theorem GO{w:Tr}(h:gd w di):w=gS:=by have h1:=(Z0 h rJ).2.2.2.1;have h2:=(Z0 mC rJ).2.2.2.1;simp_all
theorem LN(v:Tr)(h:decide (bR v<=100)=Ta)(h2:dw 1048576 v):Sm v:=⟨by grind,h2⟩
theorem uf:Sm smV:=LN _ (by kernel_rfl) (by simp only[smV,sm1,smR,sm2,dw,dS,and_true];refine⟨⟨zC (by kernel_rfl),zC (by kernel_rfl),λk b=>?_⟩,⟨zC (by kernel_rfl),zC (by kernel_rfl),λk b=>(by cases b)⟩,⟨zC (by kernel_rfl),zC (by kernel_rfl),λk b=>(by cases b)⟩,⟨zC (by kernel_rfl),zC (by kernel_rfl),λk b=>(by cases b)⟩⟩;simp only[Uj,XY,or_false]at b;rcases b with rfl|rfl <;> exact zC (by kernel_rfl))
theorem Gy:Sm gS:=by have:=sn uf;rw[sC oY,mO]at this;exact this
theorem PU:bl (ql (zm (Lib.itoa 1)).1)=bl [49]:=by kernel_rfl
theorem Ni:bl (ql (zm (Lib.itoa 2)).1)=bl [50]:=by kernel_rfl
structure C15 (gl:Fr) (bv bt bw bx:Nat) (vk vi t1 t2 w1 w2 xk xi:Sl) (h:zb) (M:Fr):Prop where
 hM:Fr.le gl M
 ag:AgM M h
 V:Blk h bv #[.int .i64 6,.string ⟨#[]⟩,aK vk,aK vi]
 rV:RdV M .tree smV (.agg #[.int .i64 6,.string ⟨#[]⟩,aK vk,aK vi])
 T:Blk h bt #[aK t1,aK t2]
 rT1:Rd M (.row .str) di.1 [aK t1]
 rT2:Rd M (.row p3) di.2 [aK t2]
 W:Blk h bw #[aK w1,aK w2]
 rW1:Rd M (.row .str) di.1 [aK w1]
 rW2:Rd M (.row p3) di.2 [aK w2]
 X:Blk h bx #[.int .i64 6,.string ⟨#[]⟩,aK xk,aK xi]
 rX:RdV M .tree gS (.agg #[.int .i64 6,.string ⟨#[]⟩,aK xk,aK xi])
theorem C15.later{bv bt bw e:Nat}{b k i f w1 l xk xi:Sl}(c:C15 gl bv bt bw e b k i f w1 l xk xi h M){h':zb}{M':Fr}(L:Later h M h' M'):C15 gl bv bt bw e b k i f w1 l xk xi h' M':= ⟨c.hM.trans L.le,L.ag,c.V.keep (L.keep.get _ c.V.lt),c.rV.mono L.le,c.T.keep (L.keep.get _ c.T.lt),c.rT1.mono L.le,c.rT2.mono L.le,c.W.keep (L.keep.get _ c.W.lt),c.rW1.mono L.le,c.rW2.mono L.le,c.X.keep (L.keep.get _ c.X.lt),c.rX.mono L.le⟩
theorem DY{r:List Int}{w:Value}(h:Zp M [.row p3] r w):∃s:Sl,w=aK s/\Rd M (.row p3) r [aK s]:=lH (Yk.1 h)
set_option maxRecDepth 100000 in
set_option maxHeartbeats 4000000 in
theorem Iw(hg:GL gl)(hb:Brn gl):PC Tp gl 11 [] [.bool] (λr=>r=Ta):=by
 intro h M vs hM ag ha
 match vs,ha with
 |[],_=>
 apply PX.of;apply LI;intro h1;have L1:Later h M h1 (Mx M h.size #[.string ⟨#[98]⟩,.string ⟨#[97]⟩]):=Later.frz ag _ _;have rK:Rd (Mx M h.size #[.string ⟨#[98]⟩,.string ⟨#[97]⟩]) (.row .str) [⟨#[98]⟩,⟨#[97]⟩] [aK ⟨Td ⟨h.size,0,Te⟩,2,2⟩]:=IQ;clear_value h1;generalize Mx M h.size #[.string ⟨#[98]⟩,.string ⟨#[97]⟩]=M1 at L1 rK;refine(yW hg (n:=1) (by decide) (by decide) (R:=λr=>r=sm1) (by rw[PU];rfl)).go (hM.trans L1.le) L1.ag (zq (a:=Arg.mk p3 1) (Zw _ _) zy) λw h3 M3 r L3 e f=>?_;subst f;have r1:=Yk.1 e;obtain⟨ak,ai,rfl,_,_⟩:=qq r1;refine⟨_,_,ak,ai,rfl,?_⟩;refine(yW hg (n:=2) (by decide) (by decide) (R:=λr=>r=sm2) (by rw[Ni];rfl)).go (hM.trans (L1.le.trans L3.le)) L3.ag (zq (a:=Arg.mk p3 2) (Zw _ _) zy) λw h9 M9 r L9 e f=>?_;subst f;have r2:=Yk.1 e;obtain⟨bk,bi,rfl,_,_⟩:=qq r2;refine⟨_,_,bk,bi,rfl,?_⟩;intro aC;have N:Later h9 M9 aC (Mx M9 h9.size #[.int .i64 sm2.kind,.string sm2.text,aK bk,aK bi]):=Later.frz L9.ag _ _;have aN:Rd (Mx M9 h9.size #[.int .i64 sm2.kind,.string sm2.text,aK bk,aK bi]) (.row .tree) [sm2] [aK ⟨Td ⟨h9.size,0,Te⟩,1,1⟩]:=JB (w1:=[_,_,_,_]) (L9.ag.none (Uc _)) (uk r2) rfl;clear_value aC;generalize Mx M9 h9.size #[.int .i64 sm2.kind,.string sm2.text,aK bk,aK bi]=M14 at N aN;have af:=L1.trans (L3.trans (L9.trans N));refine(Oh (gl:=gl) (l:=[sm2]) (R:=λr=>r=smR) rfl).go (hM.trans af.le) N.ag (zq (a:=Arg.mk (.row .tree) _) ((c7 rfl).2 aN) zy) λw z L r I e f=>?_;subst f;have r3:=Yk.1 e;obtain⟨ck,ci,rfl,_,_⟩:=qq r3;refine⟨_,_,ck,ci,rfl,?_⟩;intro aI;have aZ:RdV L .tree sm1 (fq sm1.kind sm1.text ak ai):=r1.mono (L9.le.trans (N.le.trans I.le));have U:Later z L aI (Mx L z.size ([.int .i64 sm1.kind,.string sm1.text,aK ak,aK ai]++[.int .i64 smR.kind,.string smR.text,aK ck,aK ci]).toArray):=Later.frz I.ag _ _;have rI:Rd (Mx L z.size ([.int .i64 sm1.kind,.string sm1.text,aK ak,aK ai]++[.int .i64 smR.kind,.string smR.text,aK ck,aK ci]).toArray) (.row .tree) [sm1,smR] [aK ⟨Td ⟨z.size,0,Te⟩,2,2⟩]:=QE (I.ag.none (Uc _)) (uk aZ) (uk r3) rfl rfl;clear_value aI;generalize Mx L z.size ([.int .i64 sm1.kind,.string sm1.text,aK ak,aK ai]++[.int .i64 smR.kind,.string smR.text,aK ck,aK ci]).toArray=M21 at U rI;have am:=af.trans (I.trans U);have bm:=rK.mono (L3.le.trans (L9.le.trans (N.le.trans (I.le.trans U.le))));refine(Lr (gl:=gl) (ks:=[⟨#[98]⟩,⟨#[97]⟩]) (l:=[sm1,smR]) (R:=λr=>r=smV) rfl).go (hM.trans am.le) U.ag (zq (a:=Arg.mk (.row .str) _) ((c7 rfl).2 bm) (zq (a:=Arg.mk (.row .tree) _) ((c7 rfl).2 rI) zy)) λw a1 aT r aL e f=>?_;subst f;have rV:=Yk.1 e;obtain⟨vk,vi,rfl,_,_⟩:=qq rV;refine⟨_,_,vk,vi,rfl,?_⟩;intro bC;refine xe aL.ag λbe ap bB aP=>?_;refine⟨_,_,vk,vi,aP.ld (cs:=[_,_,aK vk,aK vi]),?_⟩;have ab:=am.trans (aL.trans ap);refine(uM hg hb uf (R:=λr=>r=(di,0)) NB).go (hM.trans ab.le) ap.ag (zq (a:=Arg.mk .tree smV) rV zy) λw x y r D e f=>?_;subst f;obtain⟨B,F,rfl,rT1,rT2⟩:=E5 e;refine⟨B,F,_,rfl,?_⟩;intro Y;have aY:Keep x.size x Y:=Keep.push _ _ (Uc _);have bM:Y.size=x.size+1:=Ur _;have bj:Blk Y x.size #[.slice Te 0 0,.slice Te 0 0]:=Blk.new _ _ _;clear_value Y;refine hH bj λo a7 bn aV=>?_;have u:Later x y o y:=Later.stay (Later.same D.ag aY) (Uc _) (D.ag.none (Uc _)) a7 bn;intro m;have az:Later o y m (Mx y o.size (di.1.map UJ).toArray):=Later.frz u.ag _ _;have rW1:Rd (Mx y o.size (di.1.map UJ).toArray) (.row .str) di.1 [aK ⟨Td ⟨o.size,0,Te⟩,6,6⟩]:=Md di.1 (zC (by kernel_rfl));have bA:m.size=o.size+1:=Ur _;clear_value m;generalize Mx y o.size (di.1.map UJ).toArray=M41 at az rW1;intro p;have E:Later m M41 p (Mx M41 m.size (di.2.map (UT .i64)).toArray):=Later.frz az.ag _ _;have rW2:Rd (Mx M41 m.size (di.2.map (UT .i64)).toArray) (.row p3) di.2 [aK ⟨Td ⟨m.size,0,Te⟩,6,6⟩]:=sy di.2 (zC (by kernel_rfl));have bF:p.size=m.size+1:=Ur _;clear_value p;generalize Mx M41 m.size (di.2.map (UT .i64)).toArray=M42 at E rW2;intro O;have ba:Keep p.size p O:=Keep.push _ _ (Uc _);have bL:O.size=p.size+1:=Ur _;have bg:Blk O p.size #[.slice Te 0 0,.slice Te 0 0]:=Blk.new _ _ _;clear_value O;refine hH (s1:=⟨Td ⟨o.size,0,Te⟩,6,6⟩) (s2:=⟨Td ⟨m.size,0,Te⟩,6,6⟩) bg λP aU bq a8=>?_;have Z:Later p M42 P M42:=Later.stay (Later.same E.ag ba) (Uc _) (E.ag.none (Uc _)) aU bq;have i:Later o y P M42:=az.trans (E.trans Z);have aM:Blk P x.size #[aK B,aK F]:=aV.keep (i.keep.get _ (by omega));refine⟨B,F,aM.ld (cs:=[aK B,aK F]),?_⟩;have aj:=ab.trans (D.trans (u.trans i));refine(N3 hg hb (t:=di) rJ (R:=λr=>r=(gS,Ta)) (λw hw=>by rw[GO hw]) (λhn=>absurd mC (hn _))).go (hM.trans aj.le) Z.ag (zq (a:=Arg.mk (.pair (.row .str) (.row p3)) di) (Yj (rT1.mono (u.le.trans i.le)) (rT2.mono (u.le.trans i.le))) zy) λw a6 an r S e f=>?_;subst f;obtain⟨xk,xi,rfl,rX⟩:=j3 e;refine⟨_,_,xk,xi,_,rfl,?_⟩;intro bH;refine xe S.ag λax Q bJ aS=>?_;have aa:=aj.trans (S.trans Q);have J:Later be aT ax an:=D.trans (u.trans (i.trans (S.trans Q)));have k:Later P M42 ax an:=S.trans Q;have bN:=D.keep.size;have c:C15 gl a1.size x.size p.size a6.size vk vi B F ⟨Td ⟨o.size,0,Te⟩,6,6⟩ ⟨Td ⟨m.size,0,Te⟩,6,6⟩ xk xi ax an:= ⟨hM.trans aa.le,Q.ag,aP.keep (J.keep.get _ (by omega)),rV.mono (ap.le.trans J.le),aM.keep (k.keep.get _ (by omega)),rT1.mono (u.le.trans (i.le.trans k.le)),rT2.mono (u.le.trans (i.le.trans k.le)),a8.keep (k.keep.get _ (by omega)),rW1.mono (E.le.trans (Z.le.trans k.le)),rW2.mono (Z.le.trans k.le),aS,rX⟩;refine⟨B,F,λ_=>c.T.ld (cs:=[aK B,aK F]),_,_,λ_=>c.W.ld (cs:=[aK _,aK _]),?_⟩;refine nN rfl ?_;refine(Al (gl:=gl) (a:=di) (b:=di) (zC (by kernel_rfl)) (zC (by kernel_rfl)) (R:=λr=>r=Ta) λr f=>f.2 rfl).go c.hM c.ag (zq (a:=Arg.mk (.pair (.row .str) (.row p3)) di) (Yj c.rT1 c.rT2) (zq (a:=Arg.mk (.pair (.row .str) (.row p3)) di) (Yj c.rW1 c.rW2) zy)) λw bI bG r aQ e f=>⟨r,dt e,?_⟩;have f:r=Ta:=f;subst f;have c:=c.later aQ;have aJ:=aa.trans aQ;refine⟨_,_,vk,vi,λ_=>c.V.ld (cs:=[_,_,aK vk,aK vi]),_,_,xk,xi,λ_=>c.X.ld (cs:=[_,_,aK xk,aK xi]),?_⟩;refine nN rfl ?_;refine(Mb (gl:=gl) hg uf Gy (R:=λr=>r=Ta) (by have e1:Zg smV=Ta:=J7 oY;have e2:Zg gS=Ta:=J7 mC.1;rw[e1,e2,lB.2 (by rw[mO,mC.2.1])];rfl)).go c.hM c.ag (zq (a:=Arg.mk .tree smV) c.rV (zq (a:=Arg.mk .tree gS) c.rX zy)) λw bE bD r aF e f=>⟨r,dt e,?_⟩;have f:r=Ta:=f;subst f;have c:=c.later aF;have aE:=aJ.trans aF;refine⟨B,F,λ_=>c.T.ld (cs:=[aK B,aK F]),?_⟩;refine yF rfl ?_;refine(Lb (gl:=gl) (t:=di) (R:=λr=>r=[4,5]) (by kernel_rfl)).go c.hM c.ag (zq (a:=Arg.mk (.pair (.row .str) (.row p3)) di) (Yj c.rT1 c.rT2) zy) λw G aB r au e f=>?_;subst f;obtain⟨sr,rfl,rR⟩:=DY e;refine⟨sr,rfl,?_⟩;have c:=c.later au;have aG:=aE.trans au;have C:Later G aB (G.push (.cells ([4,5].map (UT .i64)).toArray 3)) (Mx aB G.size ([4,5].map (UT .i64)).toArray):=Later.frz au.ag _ _;refine Da (s:=⟨Td ⟨G.size,0,Te⟩,2,2⟩) (h1:=G.push (.cells ([4,5].map (UT .i64)).toArray 3)) rfl ?_;have c:=c.later C;have ay:=aG.trans C;refine nN rfl ?_;refine(BJ (gl:=gl) (a:=[4,5]) (b:=[4,5]) (by simp) (R:=λr=>r=Ta) λr f=>f.2 rfl).go c.hM c.ag (zq (a:=Arg.mk (.row p3) [4,5]) ((c7 rfl).2 (rR.mono C.le)) (zq (a:=Arg.mk (.row p3) [4,5]) ((c7 rfl).2 (sy [4,5] (by simp))) zy)) λw br bz r ae e f=>⟨r,dt e,?_⟩;have f:r=Ta:=f;subst f;have c:=c.later ae;have aA:=ay.trans ae;refine⟨B,F,λ_=>c.T.ld (cs:=[aK B,aK F]),?_⟩;refine yF rfl ?_;refine(MN (gl:=gl) (t:=di) (R:=λr=>r=[5]) (by kernel_rfl)).go c.hM c.ag (zq (a:=Arg.mk (.pair (.row .str) (.row p3)) di) (Yj c.rT1 c.rT2) zy) λw q ah r H e f=>?_;subst f;obtain⟨sq,rfl,rQ⟩:=DY e;refine⟨sq,rfl,?_⟩;have c:=c.later H;have ar:=aA.trans H;have A:Later q ah (q.push (.cells ([5].map (UT .i64)).toArray 3)) (Mx ah q.size ([5].map (UT .i64)).toArray):=Later.frz H.ag _ _;refine Da (s:=⟨Td ⟨q.size,0,Te⟩,1,1⟩) (h1:=q.push (.cells ([5].map (UT .i64)).toArray 3)) rfl ?_;have c:=c.later A;refine nN rfl ?_;refine(BJ (gl:=gl) (a:=[5]) (b:=[5]) (by simp) (R:=λr=>r=Ta) λr f=>f.2 rfl).go c.hM c.ag (zq (a:=Arg.mk (.row p3) [5]) ((c7 rfl).2 (rQ.mono A.le)) (zq (a:=Arg.mk (.row p3) [5]) ((c7 rfl).2 (sy [5] (by simp))) zy)) λw bu aH r aO e f=>⟨r,dt e,?_⟩;have f:r=Ta:=f;subst f;exact⟨aH,Ta,ar.trans (A.trans aO),Yk.2 (rdBool _),rfl⟩
end
section
theorem Mz(b:Int)(c:Bt)(d:Sl)(e:Sl)(h:zb)(R:Value->zb->Prop) (H:let f:=h.push (.cells #[iV b,.string c,aK d,aK e] 25);let g:=f.push (.cells #[.slice Te 0 0,.slice Te 0 0] 31);∃i j k l,zd g ⟨h.size,0,Te⟩ 0 (tL i j k l)/\XC Tp 57 #[tA i j k l] g (λm n=>∃o,m=.bool o/\((!o)=Ta->XRunU Tp (Ub 31 (.pointer (Td ⟨f.size,0,Te⟩)) (.agg #[.slice Te 0 0,.slice Te 0 0])) n (λp=>∃q r,zd p ⟨f.size,0,Te⟩ 0 [aK q,aK r]/\R (.tuple #[.agg #[aK q,aK r],iV 1]) p))/\((!o)=Tc->∃s t u v,zd n ⟨h.size,0,Te⟩ 0 (tL s t u v)/\XC Tp 59 #[tA s t u v] n (λw x=>∃y z A B,w=tA y z A B/\XC Tp 58 #[.agg #[.slice Te 0 0,.slice Te 0 0],tA y z A B] x (λC D=>∃E F,C=.agg #[aK E,aK F]/\let G:=D.push (.cells #[.slice Te 0 0,.slice Te 0 0] 31);XRunU Tp (Ub 31 (.pointer (Td ⟨D.size,0,Te⟩)) (.agg #[aK E,aK F])) G (λI=>∃J,zc I (Ua ⟨D.size,0,Te⟩ 0)=Td (aK J)/\(decide ((J.len:Int)>512)=Ta->XRunU Tp (Ub 31 (.pointer (Td ⟨f.size,0,Te⟩)) (.agg #[.slice Te 0 0,.slice Te 0 0])) I (λL=>∃M N,zd L ⟨f.size,0,Te⟩ 0 [aK M,aK N]/\R (.tuple #[.agg #[aK M,aK N],iV 6]) L))/\(decide ((J.len:Int)>512)=Tc->∃O P,zd I ⟨D.size,0,Te⟩ 0 [aK O,aK P]/\XRunU Tp (Ub 31 (.pointer (Td ⟨f.size,0,Te⟩)) (.agg #[aK O,aK P])) I (λQ=>∃S T,zd Q ⟨f.size,0,Te⟩ 0 [aK S,aK T]/\R (.tuple #[.agg #[aK S,aK T],iV 0]) Q)))))))):
  XC Tp 15 #[.agg #[.int .i64 b,.string c,.slice d.a d.len d.cap,.slice e.a e.len e.cap]] h R:=
 XF ⟨[],[],[]⟩ [.cell 2 31,.tmp 3] 21 Tryz.func15 H
end
section
open Go.RowKit
section
variable {gl:Fr} {v:Tr} {h2 g:zb} {s:Sl} {K:Value -> zb -> Prop} {lv:Nat}
theorem zQ(f:GL gl)(c:Sm v){R:Bool->Prop}(h:R (zz v)):PC Tp gl 57 [Arg.mk .tree v] [.bool] R:=by
 apply LU;rw[wn];refine v8 v c.sz ⟨λr=>r=(c6 v:Int),λ_=>vx v c.sz rfl,λr k=>⟨λb=>b=Zy (λx=>decide (x.kind≠7)&&zn x) v,λ_=>ui f Tc v c (E9 (λx=>by grind) v),λb i=>?_⟩⟩;have e:(bif decide ((bR v:Int)<=4096)then decide (r<=32)else Tc)=wm v:=by
  unfold wm;cases hc:decide ((bR v:Int)<=4096)with
  |false=>grind
  |true=>grind
 rw[e]at i ⊢;unfold zz at h;grind
def jA:Bt:=⟨#[48,49,50,51,52,53,54,55,56,57,97,98,99,100,101,102]⟩
theorem Km:(U8 32).all (λk=>(k==8||k==9||k==10||k==12||k==13)||(decide (iL (eR (UL k))=[92,117,48,48,ze jA (T9 .u8 ((k:Int).tdiv 16)).toNat,ze jA ((k:Int).tmod 16).toNat]) && (decide (0<=T9 .u8 ((k:Int).tdiv 16))&&decide (T9 .u8 ((k:Int).tdiv 16)<16)&&decide (0<=(k:Int).tmod 16)&&decide ((k:Int).tmod 16<16))))=Ta:=by kernel_rfl
theorem Nq{c:UInt8}(h:c.toNat<32)(k:c.toNat≠8)(i:c.toNat≠9)(b:c.toNat≠10)(f:c.toNat≠12)(e:c.toNat≠13):
  iL (eR c)=[92,117,48,48,ze jA (T9 .u8 ((c.toNat:Int).tdiv 16)).toNat,ze jA ((c.toNat:Int).tmod 16).toNat]/\0<=T9 .u8 ((c.toNat:Int).tdiv 16)/\T9 .u8 ((c.toNat:Int).tdiv 16)<16/\0<=(c.toNat:Int).tmod 16/\(c.toNat:Int).tmod 16<16:=by
 have:=Us.1 Km c.toNat (UY.2 h);simp_all
theorem xF(l:Bs):(iL l).length=l.length:=by unfold iL;simp
structure QB (h2 g:zb) (s:Sl) (xs:List Int):Prop where
 k:Keep h2.size h2 g
 o:Owns g h2.size 5 1 s (xs.map (UT .u8))
theorem QB.len{xs:List Int}(Q:QB h2 g s xs):s.len=xs.length:=by have:=Q.o.1;rw[Um,Vz]at this;exact this.symm
theorem QB.next{h2 g g':zb}{s b:Sl}{xs X:List Int}(Q:QB h2 g s xs)(o:Owns g' h2.size 5 1 b (xs.map (UT .u8)++X.map (UT .u8)))(f:∀i,i<g.size->(∀p,s.a=Td p->i≠p.block)->g'[i]?=g[i]?)(z:g.size<=g'.size):QB h2 g' b (xs++X):= ⟨⟨by have:=Q.k.size;omega,λi hi=>(f i (by have:=Q.k.size;omega) λp c=>by have:=Q.o.base_le p c;omega).trans (Q.k.get i hi)⟩,by rw[U7];exact o⟩
theorem QB.lit{xs:List Int}(Q:QB h2 g s xs)(X:List Int)(A:xs.length+X.length<=140737488355328)(l:∀b g',QB h2 g' b (xs++X)->K (aK b) g'):
  XRun Tp (Ug #[87,87] 87 #[aK s,.slice (Td ⟨g.size,0,Te⟩) X.length X.length]) (g.push (.cells (X.map (UT .u8)).toArray 5)) K:=by
 have e:=Q.len;obtain⟨c,w,b1⟩:=jf (h:=g) (cs:=(X.map (UT .u8)).toArray) (T:=5) rfl;have f:QB h2 (g.push (.cells (X.map (UT .u8)).toArray 5)) s xs:=⟨Q.k.trans c Q.k.size,Q.o.keepN c⟩;refine Jj elemU8 f.o (src:=⟨Td ⟨g.size,0,Te⟩,X.length,X.length⟩) (news:=X.map (UT .u8)) (n:=(g.push (.cells (X.map (UT .u8)).toArray 5)).size) (.inr ⟨g.size,0,rfl,by omega,λi v r=>?_⟩) (by simp) (λu q=>?_) (by simp only;omega) (by simp only;omega) (by have:=Q.k.size;omega) λb g' y t m p z=>l b g' (f.next t m p);exact b1.cell (by rw[UI];simpa using r);obtain⟨x,_,rfl⟩:=US.1 q;rfl
theorem QB.str{xs:List Int}(Q:QB h2 g s xs)(X:Bs)(p:xs.length+X.length<=140737488355328)(h:∀c g',QB h2 g' c (xs++iL X)->K (aK c) g'):
  XRun Tp (Ug #[87,9] 87 #[aK s,.string (bl X)]) g K:=by
 have e:=Q.len;have b:=zh X;refine Jr elemU8 Q.o (x:=.string (bl X)) (m:=(bl X).size) (news:=(iL X).map (UT .u8)) (λB d=>?_) (by rw[b];omega) (by rw[b];omega) Q.k.size λc g' q l i f r=>h c g' (Q.next l i f);have:=Src.ofString (P:=Tp) (w:=Go.X.mk B d g) oN (bl X);have n:byteCells (bl X)=(iL X).map (UT .u8):=by unfold byteCells iL;have:(bl X).data.toList=X:=ym X;rw[this,U3];rfl
 rw[n]at this;exact this
set_option maxHeartbeats 1000000 in
theorem CV{t:Bs}(hl:t.length<=1000000000){R:Bt×Int->Prop}(h:R (bl (dv t).1,(dv t).2)):PC Tp gl 131 [Arg.mk .str (bl t)] [.str,.int .i64] R:=by
 intro h0 M vs hM ag ha
 match vs,ha with
 |[u],⟨hu,_⟩=>
 cases ju (s:=bl t) hu;apply PX.of;apply Gu (bl t);refine(Cg (gl:=gl) (l:=t) (by omega) (R:=λr=>r.2=xd t) λk=>rfl).go (vs:=[.string (bl t)]) hM ag (zq (a:=Arg.mk .str _) (rdStr _) zy) λw h2 M2 r L2 G L=>?_;have L:r.2=xd t:=L;obtain⟨us,⟨x1,aa,rfl,q1,x2,rfl,U⟩,rfl⟩:=G;cases qz q1;have U:x2=.bool r.2:=by have:=(c7 rfl).1 U;simpa[Rd]using this
 subst U;unfold dv at h;have done:∀{g:zb} (s:Bt) (e:Int),Keep h2.size h2 g->R (s,e)->∃M' r,Later h0 M g M'/\Zp M' [.str,.int .i64] r (.tuple #[.string s,.int .i64 e])/\R r:=λs e k hR=>⟨M2,(s,e),L2.trans (Later.same L2.ag k),vD s e,hR⟩;refine⟨_,_,rfl,λx=>?_,λx=>?_⟩
 ·have x:xd t=Tc:=by rw[<-L];simpa using x
  rw[x]at h;exact done _ _ (Keep.refl _ _) h
 have x:xd t=Ta:=by rw[<-L];simpa using x
 rw[x,zA rfl]at h;intro y;have I0:QB h2 y ⟨Td ⟨h2.size,0,Te⟩,1,1⟩ (iL (34::Yp (t.take 0))):=⟨Keep.push _ _ (Uc _),⟨rfl,.inr ⟨h2.size,1,#[.int .u8 34],rfl,Uc _,yx _ _,Uc _,by unfold maxLen;omega,rfl,rfl⟩⟩⟩;clear_value y;refine⟨λout i g=>∃k:Nat,i=k/\k<=t.length/\QB h2 g out (iL (34::Yp (t.take k))),λ_ i _=>t.length-i.toNat,⟨0,rfl,UH _,I0⟩,?_⟩;rintro out i g ⟨k,rfl,hk,Q⟩;rw[zh];have ab:(Yp (t.take k)).length<=6*t.length:=by have:=qD (t.take k);rw[UQ]at this;omega
 have O:(iL (34::Yp (t.take k))).length<=6*t.length+1:=by rw[xF,Uk];omega
 refine⟨λP=>?_,λP=>?_⟩
 ·have p:k<t.length:=by have:=d8 P;omega
  have hb:ze (bl t) ((k:Nat):Int).toNat=((t[k]:UInt8).toNat:Int):=by rw[Ue,qc,Ul p];rfl
  rw[hb,qn p (by omega)];generalize V:t[k]=c;have A:Yp (t.take (k+1))=Yp (t.take k)++eR c:=by rw[Uh p,qL,V];congr 1;unfold Yp;simp
  have fin:∀{X:List Int} {m:Sl} {g':zb},X=iL (eR c)->QB h2 g' m (iL (34::Yp (t.take k))++X)->(∃k2:Nat,((k+1:Nat):Int)=k2/\k2<=t.length/\QB h2 g' m (iL (34::Yp (t.take k2))))/\t.length-((k+1:Nat):Int).toNat<t.length-((k:Nat):Int).toNat:=by rintro X m g' rfl f;refine⟨⟨k+1,rfl,p,?_⟩,by omega⟩;rw[A];rw[<-EY]at f;exact f
  have B:∀n:Nat,n<256->(((c.toNat:Int)==(n:Int))=Ta↔c=UL n):=λn Z=>by rw[beq_iff_eq];constructor;intro e;apply XL.1;simp;omega;simp_all;omega
  have ne:∀n:Nat,n<256->((c.toNat:Int)==(n:Int))=Tc->c≠UL n:=λn Z e h=>by simp_all
  refine⟨⟨by omega,by omega⟩,λh1=>?_,λh1=>⟨λh2=>?_,λh2=>⟨λI=>?_,λI=>⟨λJ=>?_,λJ=>⟨λy=>?_,λy=>⟨λN=>?_,λN=>⟨λE=>?_,λE=>?_⟩⟩⟩⟩⟩⟩⟩;have:c=34\/c=92:=by rcases A1.1 h1 with h|h;exact .inl ((B 34 (by omega)).1 h);exact .inr ((B 92 (by omega)).1 h)
  refine Q.lit [92,(c.toNat:Int)] (by simp only[Uk,UG];omega) λm g' f=>⟨m,rfl,fin ?_ f⟩;unfold eR;rw[zA this];rfl;all_goals obtain⟨C,D⟩:=lq.1 h1
  all_goals have C:=ne 34 (by omega) C
  all_goals have D:=ne 92 (by omega) D
  all_goals have nn:¬(c=34\/c=92):=by rintro(e|e);exact C e;exact D e
  have e:=(B 8 (by omega)).1 h2;exact Q.str [92,98] (by simp only[Uk,UG];omega) λm g' f=>⟨m,rfl,fin (by rw[e];rfl) f⟩;have e:=(B 12 (by omega)).1 I;exact Q.str [92,102] (by simp only[Uk,UG];omega) λm g' f=>⟨m,rfl,fin (by rw[e];rfl) f⟩;have e:=(B 10 (by omega)).1 J;exact Q.str [92,110] (by simp only[Uk,UG];omega) λm g' f=>⟨m,rfl,fin (by rw[e];rfl) f⟩;have e:=(B 13 (by omega)).1 y;exact Q.str [92,114] (by simp only[Uk,UG];omega) λm g' f=>⟨m,rfl,fin (by rw[e];rfl) f⟩;have e:=(B 9 (by omega)).1 N;exact Q.str [92,116] (by simp only[Uk,UG];omega) λm g' f=>⟨m,rfl,fin (by rw[e];rfl) f⟩;have E:c.toNat<32:=by have:=zC E;omega
  have H:∀n:Nat,n<256->((c.toNat:Int)==(n:Int))=Tc->c.toNat≠n:=λn Z e h=>by simp_all
  obtain⟨e,b1,b2,b3,b4⟩:=Nq E (H 8 (by omega) h2) (H 9 (by omega) N) (H 10 (by omega) J) (H 12 (by omega) I) (H 13 (by omega) y);refine⟨rfl,by decide,rfl,by decide,?_⟩;intro Y;have F:Y g:=Q.lit [92,117,48,48,ze jA (T9 .u8 ((c.toNat:Int).tdiv 16)).toNat,ze jA ((c.toNat:Int).tmod 16).toNat] (by simp only[Uk,UG];omega) λm g' f=>⟨m,rfl,fin e.symm f⟩;exact⟨⟨⟨b1,b2⟩,⟨b3,b4⟩,F⟩,⟨b3,b4⟩,⟨b1,b2⟩,F⟩;have E:¬c.toNat<32:=by have:=zD E;omega
  refine Q.lit [(c.toNat:Int)] (by simp only[Uk,UG];omega) λm g' f=>⟨m,rfl,fin ?_ f⟩;unfold eR;rw[za nn,za (show¬c=8 from ne 8 (by omega) h2),za (show¬c=12 from ne 12 (by omega) I),za (show¬c=10 from ne 10 (by omega) J),za (show¬c=13 from ne 13 (by omega) y),za (show¬c=9 from ne 9 (by omega) N),za E];rfl
 ·have S:k=t.length:=by have:=eQ P;omega
  subst S;rw[Uz]at Q O;refine Q.lit [34] (by simp only[Uk,UG];omega) λm g' f=>⟨m,rfl,?_⟩;have e:iL (34::Yp t)++([34]:List Int)=iL (34::Yp t++[34]):=by rw[EY];rfl
  rw[e]at f;have q:=f.len;rw[xF]at q;rcases f.o.arr with F|⟨b,o,ea,_,z⟩;rw[List.map_eq_nil_iff]at F;simp[iL]at F
  ·obtain⟨sa,sl,sc⟩:=m;cases ea;have q:sl=(34::Yp t++[34]).length:=q;subst q;refine wG (l:=34::Yp t++[34]) (λj hj=>z j _ ?_) ⟨_,rfl,done _ _ f.k h⟩;rw[U2];unfold iL;rw[U2,Ul hj];rfl
theorem RQ{ps:List Bs}{n:Nat}(h:n<ps.length)(lv:Nat):(we Tc 0 lv (ps.take n)).length+ps[n].length+(if n=0 then 0 else 1)<=(we Tc 0 lv ps).length:=by have h1:=nD Tc 0 lv (ps:=ps) (n:=n+1) h;rw[oA Tc 0 lv h,Uf,Uf,Uf]at h1;grind
def xp(v:Tr)(lv:Nat):List Bs:=if v.kind=6 then List.zipWith (du Tc) v.keys (v.items.map λx=>jy Tc 0 x (lv+1))else v.items.map λx=>jy Tc 0 x (lv+1)
theorem Jv(h:v.kind=6->v.keys.length=v.items.length):(xp v lv).length=v.items.length:=by unfold xp;grind
theorem Me(h:v.kind=5\/v.kind=6):jy Tc 0 v lv=(if v.kind=6 then 123 else 91)::we Tc 0 (lv+1) (xp v lv)++[if v.kind=6 then 125 else 93]:=by
 have b:∀ps,J5 Tc 0 lv ps=we Tc 0 (lv+1) ps:=λps=>by unfold J5 jd;split <;> simp
 rw[xo];unfold xp;grind
set_option maxHeartbeats 2000000 in
theorem BQ{gl:Fr}:∀(n:Nat) (v:Tr) (lv:Nat),bR v<=n->n<=5000->Sm v->Zy cX v=Ta->lv+c6 v<=90->∀{R:Bt->Prop},R (bl (jy Tc 0 v lv))->PC Tp gl 132 [Arg.mk .tree v,Arg.mk p3 (-1),Arg.mk p3 (lv:Int)] [.str] R
 |0,v,_,h,_,_,_,_,_,_=>by have:=Zf v;omega
 |n+1,v,lv,hz,hn,hsm,hok,hd,R,hR=>by
  have o:=lD hok;have ae:=sI (ln:=Tc) (N:=0) (by omega) (bR v) v lv (Uc _) hsm hd;have m:(jy Tc 0 v lv).length<=200000000000:=by have:bR v*20000000<=5001*20000000:=UC _ (by omega);omega
  apply Kt;refine⟨λh1=>?_,λh1=>?_⟩;have h1:v.kind=1:=by simpa using h1
  rw[xo,zA h1]at hR;exact hR;have h1:¬v.kind=1:=by simpa using h1
  intro K2 U;suffices h23:K2 (v.kind==2||v.kind==3)by grind
  refine U _ ⟨λh2=>?_,λh2=>⟨λA=>?_,λA=>?_⟩⟩;have h2:v.kind=2\/v.kind=3:=by simpa using h2
  rw[xo,za h1,za (by omega),za (by omega),za (by omega),Zx]at hR;exact hR;have A:v.kind=4:=by simpa using A
  rw[xo,za h1,zA A]at hR;have x:=CV (gl:=gl) (t:=lb v.text) (by have:=hsm.text;omega) (R:=λr=>R r.1) hR;rw[Zx]at x;exact x;have A:¬v.kind=4:=by simpa using A
  have h2:¬(v.kind=2\/v.kind=3):=by simpa using h2
  have Y:v.kind=5\/v.kind=6:=by rcases me o with⟨k,_⟩|⟨k,_⟩|⟨k,_⟩|⟨k,_⟩|⟨k,_⟩|⟨k,_⟩ <;> omega
  have B:v.kind=6->v.keys.length=v.items.length:=λc=>by unfold cX at o;rw[Ui]at o;exact(Y1 o.2 c).2
  have O:=Jv (lv:=lv) B;have Z:=Me (lv:=lv) Y;rw[Z]at hR m;obtain⟨z,f⟩:∃z:UInt8,z=(if v.kind=6 then 123 else 91):=⟨_,rfl⟩;obtain⟨M,p⟩:∃M:UInt8,M=(if v.kind=6 then 125 else 93):=⟨_,rfl⟩;rw[<-f,<-p]at hR m;rw[Uf,Uk,VH]at m;intro K6 S;suffices main:K6 (bl [z]) (bl [M])by
   refine⟨λc=>?_,λc=>?_⟩;have c:v.kind=6:=by simpa using c
   rw[zA c]at f p;rw[f,p]at main;exact main;have c:¬v.kind=6:=by simpa using c
   rw[za c]at f p;rw[f,p]at main;exact main
  refine S _ _ ⟨λh0=>?_,λh0=>?_⟩;have h0:v.items.length=0:=by simpa using h0
  refine⟨W6 (by simp),?_⟩;have:xp v lv=[]:=UK (by omega);rw[this]at hR;rw[qb];exact hR;refine⟨λs i=>∃k:Nat,i=k/\k<=v.items.length/\s=bl (z::we Tc 0 (lv+1) ((xp v lv).take k)),λ_ i=>v.items.length-i.toNat,⟨0,rfl,UH _,rfl⟩,?_⟩;rintro s i ⟨k,rfl,hk,rfl⟩;have ai:=nD Tc 0 (lv+1) (ps:=xp v lv) (n:=k) (by omega);refine⟨λhc=>?_,λhc=>?_⟩;have u:k<v.items.length:=by have:=d8 hc;omega
  have J:k<(xp v lv).length:=by omega
  have C:=RQ J (lv+1);have aa:=oA Tc 0 (lv+1) J;have w:=Up u;have aj:=qi w;have ah:=oZ w;rw[qn u (by have:=hsm.items;omega)];have P:hZ ((lv:Int)+1)=((lv+1:Nat):Int):=by rw[cK (by omega)];omega
  rw[P];obtain⟨pre,b⟩:∃pre:Bs,pre=z::we Tc 0 (lv+1) ((xp v lv).take k)++(if k=0 then []else [44]):=⟨_,rfl⟩;have ab:pre.length=1+(we Tc 0 (lv+1) ((xp v lv).take k)).length+(if k=0 then 0 else 1):=by rw[b];by_cases h0:k=0;rw[zA h0,zA h0,UM,Uk];omega;rw[za h0,za h0,Uf,Uk,VH];omega
  intro Q D;suffices hmain:Q (bl pre)by
   refine⟨λhi=>?_,λhi=>?_⟩;have hi:¬k=0:=by have:=zC hi;omega
   rw[za hi]at b;refine⟨W6 (by simp;omega),?_⟩;have e:bl (z::we Tc 0 (lv+1) ((xp v lv).take k))++(⟨#[44]⟩:Bt)=bl pre:=by rw[b];exact qb _ _
   rw[e];exact hmain;have hi:k=0:=by have:=zD hi;omega
   rw[zA hi,UM]at b;rw[<-b];exact hmain
  refine D _ λak E=>?_;refine⟨λh=>(by cases h),λ_=>E _ λy G=>?_⟩;have l:∀q:Bs,(xp v lv)[k]=q++jy Tc 0 v.items[k] (lv+1)->y (bl (pre++q)):=λq x=>G _ ⟨v.items[k],⟨by omega,Y6 u⟩,by rw[wn];refine BQ n v.items[k] (lv+1) (by omega) (by omega) (hsm.item w) (Ye hok w) (by omega) ?_;rw[x,Uf]at C;refine⟨W6 (by simp;omega),⟨k+1,rfl,u,?_⟩,by simp;omega⟩;rw[qb,aa,x,b];congr 1;simp[jd]⟩;refine⟨λc=>?_,λc=>?_⟩;have c:v.kind=6:=by simpa using c
  have H:k<v.keys.length:=by have:=B c;omega
  have x:(xp v lv)[k]=((dv (lb v.keys[k])).1++[58])++jy Tc 0 v.items[k] (lv+1):=by unfold xp du;simp[c]
  have L:=l _ x;have I:=CV (gl:=gl) (t:=lb v.keys[k]) (by have:=hsm.key (Up H);omega) (R:=λr=>zw ((bl pre).size+r.1.size)/\zw ((bl pre++r.1).size+(⟨#[58]⟩:Bt).size)/\(Tc=Ta->zw (((bl pre++r.1)++(⟨#[58]⟩:Bt)).size+(⟨#[32]⟩:Bt).size)/\y (((bl pre++r.1)++(⟨#[58]⟩:Bt))++(⟨#[32]⟩:Bt)))/\(Tc=Tc->y ((bl pre++r.1)++(⟨#[58]⟩:Bt)))) (by
   rw[x,Uf,Uf]at C;refine⟨W6 (by omega),?_,λh=>(by cases h),λ_=>?_⟩;show zw ((bl pre++bl (dv (lb v.keys[k])).1).size+(bl [58]).size);rw[qb];exact W6 (by simp;omega);have:(bl pre++bl (dv (lb v.keys[k])).1)++(⟨#[58]⟩:Bt)=bl (pre++((dv (lb v.keys[k])).1++[58])):=by show(bl pre++bl (dv (lb v.keys[k])).1)++bl [58]=_;rw[qb,qb,UB]
   rw[this];exact L)
  rw[Zx]at I;exact⟨v.keys[k],⟨by omega,iM H⟩,I⟩;have c:¬v.kind=6:=by simpa using c
  have L:=l [] (by unfold xp;simp[c]);rw[UM]at L;exact L;have V:k=v.items.length:=by have:=eQ hc;omega
  rw[V,<-O,Uz];intro af F;refine⟨λh=>(by cases h),λ_=>F _ ⟨W6 (by simp;omega),?_⟩⟩;rw[qb];exact hR
theorem x6(f:GL gl)(c:Sm v){R:Bt×Int->Prop}(b:R (Y7 v)):PC Tp gl 73 [Arg.mk .tree v] [.str,.int .i64] R:=by
 apply GP;simp only[wn];refine zQ f c ?_;unfold Y7 at b;cases hr:zz v with
 |false=>rw[hr]at b;exact⟨λ_=>b,λh=>(by cases h)⟩
 |true=>rw[hr]at b;obtain⟨k,l,e,i⟩:=Yh hr;exact⟨λh=>(by cases h),λ_=>BQ (bR v) v 0 (Uc _) (by omega) c e (by omega) b⟩
end
section
variable {M M':Fr} {lo b:Nat} {h g' g:zb} {s1 s2:Sl} {b1 b2:List Nat} {K:zb -> Prop} {v:Tr}
theorem EW{r:Bt×Int}{w:Value}(h:Zp M [.str,.int .i64] r w):w=.tuple #[.string r.1,.int .i64 r.2]:=by
 obtain⟨vs,⟨e,rest,rfl,f,i,rfl,c⟩,rfl⟩:=h;have b:e=.string r.1:=by simpa[Rd]using (c7 rfl).1 f
 rw[b,qz c];rfl
structure PrS (lo:Nat) (h:zb) (M:Fr) (S:List (Bt×Int)) (s1 s2:Sl) (b1 b2:List Nat):Prop where
 r1:ORow lo h M .str (S.map (·.1)) s1 b1
 r2:ORow lo h M (.int .i64) (S.map (·.2)) s2 b2
 dj:∀c∈b1,c∉b2
theorem TbS.pr{S:List (Bt×Int)}(B:TbS lo h M b S s1 s2 b1 b2):PrS lo h M S s1 s2 b1 b2:=⟨B.r1,B.r2,B.dj⟩
theorem PrS.call{h h':zb}{S:List (Bt×Int)}(B:PrS lo h M S s1 s2 b1 b2)(L:Later h M h' M'):PrS lo h' M' S s1 s2 b1 b2:=⟨B.r1.call L,B.r2.call L,B.dj⟩
section
variable {lo : Nat} {h g : zb} {M : Fr} {b : Nat} {sl sf : Sl} {b0 : List Nat} {X : List Bt} {s1 : Sl} {c1 : List Nat} {Y : List Int} {s2 : Sl} {c2 : List Nat}
theorem AdM.turn(D:AdM lo h M b sl sf b0 g X s1 c1 Y s2 c2){k l:Sl}(B:Blk g' b #[aK k,aK l])(z:g'.size=g.size)(f:∀j,j≠b->g'[j]?=g[j]?):AdM lo h M b k l b0 g' X s1 c1 Y s2 c2:=by have o:=D.gr;exact⟨B,D.r1.frame (λc i=>f c λe=>D.n1 (e ▸ i)) (Fr.le.refl _) (λc i=>(D.r1.own c i).2.2),D.r2.frame (λc i=>f c λe=>D.n2 (e ▸ i)) (Fr.le.refl _) (λc i=>(D.r2.own c i).2.2),D.dj,D.n1,D.n2,by omega,D.bh,λj m h0 n=>(f j h0).trans (D.fr j m h0 n),D.w1,D.w2,λc cs e=>by rw[f c λh=>by grind [nM]];exact D.ag c cs e,D.nM,D.lb⟩
theorem AdM.st0(D:AdM lo h M b sl sf b0 g X s1 c1 Y s2 c2)(c:∀g',AdM lo h M b s1 sf b0 g' X s1 c1 Y s2 c2->K g'):
  XRunU Tp (Ub 22 (.pointer (Td (Ua ⟨b,0,Te⟩ 0))) (aK s1)) g K:=by
 rw[add0];exact qo mq mQ D.box (by simp) rfl λf e k i=>c f (D.turn e k i)
theorem AdM.st1(D:AdM lo h M b sl sf b0 g X s1 c1 Y s2 c2)(c:∀g',AdM lo h M b sl s2 b0 g' X s1 c1 Y s2 c2->K g'):
  XRunU Tp (Ub 29 (.pointer (Td (Ua ⟨b,0,Te⟩ 1))) (aK s2)) g K:=by
 rw[zj];exact qo rY qY D.box (by simp) rfl λf e k i=>c f (D.turn e k i)
theorem AdM.out(D:AdM lo h M b s1 s2 b0 g X s1 c1 Y s2 c2){S:List (Bt×Int)}(e:X=S.map (·.1))(i:Y=S.map (·.2)):TbS lo g M b S s1 s2 c1 c2/\Grw h M b b0 g M (c1++c2):=by subst e;subst i;refine⟨⟨D.box,D.r1,D.r2,D.dj,D.n1,D.n2,D.nM,D.lb⟩,D.gr,Fr.le.refl _,λ_ _=>rfl,D.ag,D.fr,λc f=>?_⟩;rcases Uv.1 f with h|h;exact D.w1 c h;exact D.w2 c h
end
theorem TbS.more{S:List (Bt×Int)}(B:TbS lo h M b S s1 s2 b1 b2)(ag:AgM M h)(m:lo<=h.size)(I:S.length<=1000000){lab:Bt}{n:Int}
  (J:∀h' F E c1 c2,TbS lo h' M b (S++[(lab,n)]) F E c1 c2->Grw h M b (b1++b2) h' M (c1++c2)->K h'):
  let c:=VJ h (.cells #[.string lab] 9)
  XRun Tp (Ug #[22,22] 22 #[aK s1,.slice (Td ⟨h.size,0,Te⟩) 1 1]) c λv l=>∃x:Sl,v=aK x/\XRunU Tp (Ub 22 (.pointer (Td (Ua ⟨b,0,Te⟩ 0))) (aK x)) l λf=>∃y:Sl,zc f (Ua ⟨b,0,Te⟩ 1)=Td (aK y) /\
   let e:=VJ f (.cells #[.int .i64 n] 3)
   XRun Tp (Ug #[29,29] 29 #[aK y,.slice (Td ⟨f.size,0,Te⟩) 1 1]) e λv i=>∃z:Sl,v=aK z/\XRunU Tp (Ub 29 (.pointer (Td (Ua ⟨b,0,Te⟩ 1))) (aK z)) i K:=by
 intro c;have D:=AdM.start B ag;have w:AdM lo h M b s1 s2 (b1++b2) c _ _ _ _ _ _:=D.push _;have A:Blk c h.size #[.string lab]:=Blk.new _ _ _;clear_value c;refine w.lab m (by simp_all) A λx l c1 s _ _=>⟨x,rfl,?_⟩;refine s.st0 λf p=>⟨s2,p.box.cellAdd (o:=0) (k:=1) rfl,?_⟩;intro e;have q:AdM lo h M b x s2 (b1++b2) e _ _ _ _ _ _:=p.push _;have t:Blk e f.size #[.int .i64 n]:=Blk.new _ _ _;clear_value e;refine q.lef m (by simp_all) t λz i c2 r _ _=>⟨z,rfl,?_⟩;refine r.st1 λC u=>?_;obtain⟨H,G⟩:=u.out (S:=S++[(lab,n)]) (by simp) (by simp);grind
theorem TbS.swap{S p:List (Bt×Int)}{s1 s2 n m:Sl}{b1 b2 c1 c2:List Nat}(B:TbS lo h M b S s1 s2 b1 b2)(G:Grw h M h.size (b1++b2) g M' (c1++c2))(P:PrS lo g M' p n m c1 c2) (t:∀g',TbS lo g' M' b p n m c1 c2->Grw h M b (b1++b2) g' M' (c1++c2)->g'.size=g.size->(∀j,j≠b->g'[j]?=g[j]?)->K g'):
  XRunU Tp (Ub 31 (.pointer (Td ⟨b,0,Te⟩)) (.agg #[aK n,aK m])) g K:=by
 have o:=B.box.lt;have k:b∉b1++b2:=λw=>by rcases Uv.1 w with h|h;exact B.n1 h;exact B.n2 h
 have l:∀c∈c1++c2,c≠b:=λc i e=>by subst e;rcases G.nw c i with h|h;exact k h;omega
 have r:M' b=Te:=by rw[G.old b o];exact B.nM
 have s:Blk g b #[aK s1,aK s2]:=B.box.keep (G.fr b o (by omega) k);refine hH s λg' f z q=>t g' ⟨q,P.r1.frame (λc i=>f c (l c (Un _ i))) (Fr.le.refl _) (λc i=>(P.r1.own c i).2.2),P.r2.frame (λc i=>f c (l c (Uw _ i))) (Fr.le.refl _) (λc i=>(P.r2.own c i).2.2),P.dj,λh=>l b (Un _ h) rfl,λh=>l b (Uw _ h) rfl,r,B.lb⟩ ⟨by have:=G.grow;omega,G.le,G.old,λc cs e=>?_,λj x h0 u=>(f j h0).trans (G.fr j x (by omega) u),G.nw⟩ z f;rw[f c λh=>by simp_all];exact G.ag c cs e
theorem Grw.stay{b r:Nat}{bs bs':List Nat}(G:Grw h M b bs g M' bs')(l:h.size<=r)(m:M' r=Te)(f:∀j,j≠r->g'[j]?=g[j]?)(z:g'.size=g.size):Grw h M b bs g' M' bs':= ⟨by rw[z];exact G.grow,G.le,G.old,λc cs e=>by rw[f c λh=>by simp_all];exact G.ag c cs e,λj k h0 i=>(f j (by omega)).trans (G.fr j k h0 i),G.nw⟩
theorem qV(d:Nat):∀(l:List Tr) (k:Nat),cY d (l.take k)<=cY d l
 |[],k=>by simp
 |x::l,0=>by rw[WU,cY];omega
 |x::l,k+1=>by rw[V7,cY,cY];have:=qV d l k;omega
def dT(v:Tr)(m n:Nat):List (Bt×Int):=if v.kind=6 then Ja (v.items.take m) v.keys n else c9 (v.items.take m) n
theorem RX(v:Tr)(n:Nat):dT v 0 n=[]:=by unfold dT;rw[WU];split;rw[Ja];rw[c9]
theorem Oc(h:v.kind=5\/v.kind=6\/v.items=[])(n:Nat):Qh v n=dT v v.items.length n++[(dI v,(n:Int))]:=by rw[ly];unfold dT;rw[Uz];rcases h with h|h|h;simp_all;simp_all;rw[h];congr 1;split;rfl;split;rfl;rw[c9]
theorem TE{m:Nat}(b:m<v.items.length)(c:v.kind=5\/v.kind=6)(n:Nat):(dT v m n).length+wy v.items[m]+1<=wy v:=by have e:=oF v;unfold dT;rcases c with h|h;rw[za (by omega),zA h]at e;rw[za (by omega),kU];have h1:=qV 0 v.items (m+1);have h2:=kU (v.items.take (m+1)) 0;rw[s4 b,Uf,kU,jz]at h2;omega;rw[zA h]at e;rw[zA h,rN];have h1:=qV 1 v.items (m+1);grind [BY,Uh]
set_option maxRecDepth 100000 in
set_option maxHeartbeats 4000000 in
theorem Cz{gl:Fr}(hg:GL gl){lo:Nat}:∀(n:Nat) (v:Tr),n<=4096->bR v<=n->Zy cX v=Ta->Sm v->∀(h:zb) (M:Fr) (S:List (Bt×Int)) (s1 s2:Sl) (b1 b2:List Nat) (u:Value),AgM M h->Fr.le gl M->PrS lo h M S s1 s2 b1 b2->lo<=h.size->S.length+wy v<=100000->RdV M .tree v u ->
  XC Tp 58 #[.agg #[aK s1,aK s2],u] h λr h'=>∃y O M' c1 c2,r=.agg #[aK y,aK O]/\Grw h M h.size (b1++b2) h' M' (c1++c2)/\PrS lo h' M' (S++Qh v S.length) y O c1 c2
 |0,v,_,hz,_,_=>by have:=Zf v;omega
 |n+1,v,hn,hz,hok,hsm=>by
  intro h M S s1 s2 b1 b2 u ag hM P aC hS hu;obtain⟨sk,si,rfl,rk,ri⟩:=qq hu;obtain⟨li,_,_⟩:=rowLen ri;obtain⟨lk,_,_⟩:=rowLen rk;have o:=lD hok;have bu:v.items.length<=4096:=by have:=ww v.items;rw[q9]at hz;omega
  have bA:=Y2 v;have D:v.kind=5\/v.kind=6\/v.items=[]:=by rcases me o with⟨_,_,_,i⟩|⟨_,_,_,i⟩|⟨_,_,_,i⟩|⟨_,_,_,i⟩|⟨k,_⟩|⟨k,_⟩;grind;grind;grind;grind;exact .inl k;omega
  have own:∀c∈b1++b2,c<h.size:=λc f=>by rcases Uv.1 f with h|h;exact(P.r1.own c h).2.1;exact(P.r2.own c h).2.1
  apply IE s1 s2 v.kind v.text sk si;intro h1;obtain⟨k1,z1,B1⟩:=jf (g:=h1) rfl;clear_value h1;intro h2;obtain⟨k2,z2,T2⟩:=jf (g:=h2) rfl;clear_value h2;intro N;obtain⟨k3,z3,R3⟩:=jf (g:=N) rfl;clear_value N;have F:Later h M N M:=Later.same ag (k1.trans (k2.trans k3 (by omega)) (by omega));have nb:M h.size=Te:=ag.none (Uc _);have nr:M h2.size=Te:=ag.none (by omega);have B3:TbS lo N M h.size S s1 s2 b1 b2:=⟨(B1.ofKeep k2).ofKeep k3,(P.call F).r1,(P.call F).r2,P.dj,λI=>by have:=own _ (Un _ I);omega,λI=>by have:=own _ (Uw _ I);omega,nb,aC⟩;have T3:Blk N h1.size #[.int .i64 v.kind,.string v.text,aK sk,aK si]:=T2.ofKeep k3;have an:=P.r1.len;rw[Um]at an;refine⟨s1,B3.box.cellAdd (o:=0) (k:=0) rfl,?_⟩;intro K7 aN;have h7:∀q:Bt,(v.kind=5\/v.kind=6->q=dI v)->K7 q N:=λq hl=>aN q N λaM ak=>by
   have ae:∀(lab:Bt) (H:zb) (M0:Fr),Later N M H M0->lab=dI v->aM lab H:=λlab H M0 E ar=>ak lab H (by
    subst ar;have z0:=E.keep.size;have B0:=B3.call E;have T0:Blk H h1.size #[.int .i64 v.kind,.string v.text,aK sk,aK si]:=T3.keep (E.keep.get _ (by omega));have R0:Blk H h2.size #[.slice Te 0 0,.slice Te 0 0]:=R3.keep (E.keep.get _ (by omega));have bC:Fr.le gl M0:=hM.trans (F.le.trans E.le);have ay:∀{g:zb} {t:Fr} {cs:List Nat},Grw H M0 h.size (b1++b2) g t cs->Blk g h1.size #[.int .i64 v.kind,.string v.text,aK sk,aK si]:=λ {g t cs} G=>T0.keep (G.fr h1.size (by omega) (by omega) λI=>by have:=own _ I;omega);have aL:∀{g:zb} {t:Fr} {cs:List Nat},Grw H M0 h.size (b1++b2) g t cs->Blk g h2.size #[.slice Te 0 0,.slice Te 0 0]:=λ {g t cs} G=>R0.keep (G.fr h2.size (by omega) (by omega) λI=>by have:=own _ I;omega);refine⟨λi g=>∃(m:Nat) (t:Fr) (y O:Sl) (c1 c2:List Nat),i=(m:Int)/\m<=v.items.length/\Grw H M0 h.size (b1++b2) g t (c1++c2)/\TbS lo g t h.size (S++dT v m S.length) y O c1 c2,λi _=>v.items.length-i.toNat,⟨0,M0,s1,s2,b1,b2,rfl,UH _,Grw.refl E.ag,by rw[RX,UM];exact B0⟩,?_⟩;rintro i g ⟨m,t,y,O,c1,c2,rfl,I,G,B⟩;have gz:=G.grow;have Tg:=ay G;have ah:=B.r1.len;rw[Um,Uf]at ah;refine⟨si,Tg.cellAdd (o:=0) (k:=3) rfl,λf=>?_,λf=>?_⟩;have b:m<v.items.length:=by have:=d8 f;omega
    have aA:v.kind=5\/v.kind=6:=by rcases D with h|h|h;exact .inl h;exact .inr h;rw[h]at b;exact absurd b (WJ _)
    have aY:=TE b aA S.length;have ab:=Up b;have br:=qi ab;have am:=F.le.trans (E.le.trans G.le);obtain⟨a,ck,ci,ea,aU,q1,q2⟩:=Jt G.ag (ri.mono am) b;refine⟨y,B.box.cellAdd (o:=0) (k:=0) rfl,y,O,B.box.ld (cs:=[aK y,aK O]),si,Tg.cellAdd (o:=0) (k:=3) rfl,a,⟨ea,by omega,by omega⟩,v.items[m].kind,v.items[m].text,ck,ci,by rw[Ue];exact aU,?_⟩;refine XC.mono (Cz hg n v.items[m] (by omega) (by omega) (Ye hok ab) (hsm.item ab) g t (S++dT v m S.length) y O c1 c2 _ G.ag (hM.trans am) B.pr (by omega) (by simp;omega) (zr q1 q2)) ?_;rintro r h26 ⟨d1,d2,M2,e1,e2,rfl,G2,P2⟩;refine⟨d1,d2,rfl,?_⟩;refine B.swap G2 P2 λba ap az bj a8=>?_;have z:=G.trans az;have ax:=ay z;have bF:=z.grow;have hw:=qn b (by omega);refine⟨v.kind,ax.cellAdd (o:=0) (k:=0) rfl,λl=>?_,λl=>?_⟩;have l:v.kind=6:=by simpa using l
    have bq:v.keys.length=v.items.length:=by unfold cX at o;rw[Ui]at o;exact(Y1 o.2 l).2
    have aV:∀k∈v.keys,xd (lb k)=Ta:=by unfold cX zn qw at o;simp[l]at o;exact o.1.1.1
    have A:m<v.keys.length:=by omega
    have aa:=F.le.trans (E.le.trans z.le);obtain⟨a2,aP,x,aT,aE⟩:=fG z.ag (rk.mono aa) A (i:=(m:Int)) rfl (L:=sk.len) rfl (Q:=λx=>x=v.keys[m]) rfl;subst aE;refine⟨sk,ax.cellAdd (o:=0) (k:=2) rfl,a2,aP,v.keys[m],aT,?_⟩;have au:=aV _ (Up A);have aS:Sm (.mk 4 v.keys[m] [] []):=⟨by rw[q9];simp[xn],by rw[dw];refine⟨⟨?_,UH _,λk hk=>by cases hk⟩,trivial⟩;have:=hsm.key (Up A);rw[gn]at this;exact this⟩;refine(show PC Tp gl 105 [Arg.mk .str v.keys[m]] [.tree] (λr=>r=.mk 4 v.keys[m] [] [])from by apply Ir;rfl).go (hM.trans aa) z.ag (zq (a:=Arg.mk .str _) (rdStr _) zy) λw bE bz r V p J=>?_;subst J;have J:=Yk.1 p;obtain⟨xk,xi,rfl,_,_⟩:=qq J;refine⟨_,_,xk,xi,rfl,?_⟩;refine(x6 hg aS (R:=λr=>r=Y7 (.mk 4 v.keys[m] [] [])) rfl).go (hM.trans (aa.trans V.le)) V.ag (zq (a:=Arg.mk .tree _) J zy) λw be aZ r aH p J=>?_;subst J;rw[EW p];refine⟨_,_,rfl,?_⟩;have C:=V.trans aH;have ai:=ap.call C;have Z:=z.call C;have a7:=Z.grow;refine⟨d1,ai.box.cellAdd (o:=0) (k:=0) rfl,?_,?_⟩;have h1:=hsm.key (Up A);unfold Y7;rw[zA (rv au),xo];show zw ((bl [107]).size+(bl (dv (lb v.keys[m])).1).size);have:=nm (lb v.keys[m]);exact W6 (by simp;omega);rw[EX au];refine ai.more Z.ag (by omega) (by rw[Uf,Uf,jz];omega) (n:=((y.len:Nat):Int)) λbB x1 U y1 y2 a6 aO=>⟨⟨m+1,aZ,x1,U,y1,y2,hw,b,Z.trans aO,?_⟩,by simp;omega⟩;have e:S++dT v (m+1) S.length=((S++dT v m S.length)++Qh v.items[m] (S++dT v m S.length).length)++[(eS v.keys[m],((y.len:Nat):Int))]:=by unfold dT;rw[zA l,zA l,DX b A,ah];unfold dT;rw[zA l,Uf,UB,UB]
    rw[e];exact a6;have l:¬v.kind=6:=by simpa using l
    refine⟨⟨m+1,M2,d1,d2,e1,e2,hw,b,z,?_⟩,by simp;omega⟩;have e:S++dT v (m+1) S.length=(S++dT v m S.length)++Qh v.items[m] (S++dT v m S.length).length:=by unfold dT;rw[za l,za l,s4 b,Uf,UB]
    rw[e];exact ap;have aB:m=v.items.length:=by have:=eQ f;omega
    subst aB;have aj:=Oc D S.length;have aY:(dT v v.items.length S.length).length+1=wy v:=by have:=jz v S.length;rw[aj,Uf,VH]at this;exact this
    refine⟨y,B.box.cellAdd (o:=0) (k:=0) rfl,?_⟩;refine B.more G.ag (by omega) (by simp;omega) (n:=((s1.len:Nat):Int)) λbm x1 U y1 y2 s aJ=>?_;have z:=G.trans aJ;have aF:=aL z;refine⟨x1,U,s.box.ld (cs:=[aK x1,aK U]),?_⟩;refine hH aF λbD Y aQ a1=>⟨x1,U,a1.ld (cs:=[aK x1,aK U]),x1,U,t,y1,y2,rfl,?_,?_⟩;have aI:t h2.size=Te:=by rw[z.old _ (by omega),E.old _ (by omega)];exact nr
    exact(Grw.ofCall (F.trans E) z own).stay (by omega) aI Y aQ;have af:∀c∈y1++y2,c≠h2.size:=λc f e=>by rcases z.nw c f with h|h;have:=own c h;omega;omega
    have e:S++Qh v S.length=(S++dT v v.items.length S.length)++[(dI v,((s1.len:Nat):Int))]:=by rw[aj,an,UB]
    rw[e];exact⟨s.r1.frame (λc f=>Y c (af c (Un _ f))) (Fr.le.refl _) (λc f=>(s.r1.own c f).2.2),s.r2.frame (λc f=>Y c (af c (Uw _ f))) (Fr.le.refl _) (λc f=>(s.r2.own c f).2.2),s.dj⟩)
   refine⟨v.kind,T3.cellAdd (o:=0) (k:=0) rfl,v.kind,λ_=>T3.cellAdd (o:=0) (k:=0) rfl,λf=>?_,λf=>?_⟩;obtain⟨e5,e6⟩:=kH.1 f;have e5:v.kind≠5:=by simpa using e5
   have e6:v.kind≠6:=by simpa using e6
   refine⟨v.kind,v.text,sk,si,T3.ld (cs:=[_,_,aK sk,aK si]),?_⟩;refine(x6 hg hsm (R:=λr=>r=Y7 v) rfl).go (hM.trans F.le) F.ag (zq (a:=Arg.mk .tree v) hu zy) λw bg bn r aG p J=>?_;subst J;rw[EW p];exact⟨_,_,rfl,ae _ _ _ aG (Cj o e5 e6)⟩;refine ae _ _ _ (Later.refl F.ag) (hl ?_);rcases tm.1 f with h|h;exact .inl (by simpa using h);exact .inr (by simpa using h)
  refine⟨v.kind,T3.cellAdd (o:=0) (k:=0) rfl,λl=>h7 _ λ_=>?_,λl=>h7 _ λh=>?_⟩;have l:v.kind=6:=by simpa using l
  unfold dI;rw[za (by omega),zA l];have l:¬v.kind=6:=by simpa using l
  unfold dI;simp;omega
end
end
section
theorem Kw(b:Int)(c:Bt)(d:Sl)(e:Sl)(h:zb)(R:Value->zb->Prop) (H:let f:=h.push (.cells #[iV b,.string c,aK d,aK e] 25);let g:=f.push (.cells tC 25);∃i,zc g (Ua ⟨h.size,0,Te⟩ 0)=Td (iV i)/\∃j,zc g (Ua ⟨h.size,0,Te⟩ 1)=Td (.string j)/\let k:=g.push (.cells tC 25);XRunU Tp (Ub 25 (.pointer (Td ⟨g.size,0,Te⟩)) (.agg #[iV i,.string j,.slice Te 0 0,.slice Te 0 0])) k (λl=>let m:=l.push (.cells #[] 9);∃n,zc m (Ua ⟨h.size,0,Te⟩ 2)=Td (aK n)/\XRun Tp (Ug #[22,22] 22 #[.slice (Td ⟨l.size,0,Te⟩) 0 0,aK n]) m (λo p=>∃q,o=aK q/\∃(r:Sl->zb->Prop) (s:Sl->zb->Nat),r q p/\∀t:Sl,∀u:zb,r t u->(∃w,zc u (Ua ⟨h.size,0,Te⟩ 0)=Td (iV w)/\((bif (w==6)then(decide ((t.len:Int)>0))else Tc)=Ta->∃(x:Int->Int->zb->Prop) (y:Int->Int->zb->Nat),x 0 1 u/\∀z A:Int,∀B:zb,x z A B->((decide (A<t.len)=Ta->∃C,(t.a=Td C/\0<=A/\A<t.len)/\∃D,zc B (C.add (A.toNat*1))=Td (.string D)/\∃E,(t.a=Td E/\0<=z/\z<t.len)/\∃F,zc B (E.add (z.toNat*1))=Td (.string F)/\((Op.bytesLess D.toList F.toList)=Ta->(x A (hZ (A+1)) B/\y A (hZ (A+1)) B<y z A B))/\((Op.bytesLess D.toList F.toList)=Tc->(x z (hZ (A+1)) B/\y z (hZ (A+1)) B<y z A B)))/\(decide (A<t.len)=Tc->∃G,zc B (Ua ⟨g.size,0,Te⟩ 2)=Td (aK G)/\∃I,(t.a=Td I/\0<=z/\z<t.len)/\∃J,zc B (I.add (z.toNat*1))=Td (.string J)/\let L:=B.push (.cells #[.string J] 9);g7 L B (Ua ⟨g.size,0,Te⟩ 2)/\XRun Tp (Ug #[22,22] 22 #[aK G,.slice (Td ⟨B.size,0,Te⟩) 1 1]) L (λM N=>∃O,M=aK O/\XRunU Tp (Ub 22 (.pointer (Td (Ua ⟨g.size,0,Te⟩ 2))) (aK O)) N (λP=>∃Q,zc P (Ua ⟨g.size,0,Te⟩ 3)=Td (aK Q)/\∃S,zc P (Ua ⟨h.size,0,Te⟩ 3)=Td (aK S)/\∃T U V W,zd P ⟨h.size,0,Te⟩ 0 (tL T U V W)/\∃X,(t.a=Td X/\0<=z/\z<t.len)/\∃Y,zc P (X.add (z.toNat*1))=Td (.string Y)/\XC Tp 164 #[tA T U V W,.string Y] P (λZ aa=>∃ab,Z=iV ab/\∃ac,(S.a=Td ac/\0<=ab/\ab<S.len)/\g7 aa P (Ua ⟨h.size,0,Te⟩ 3)/\g7 aa P (Ua ⟨g.size,0,Te⟩ 3)/\∃ad ae af ag,zd aa (ac.add (ab.toNat*4)) 0 (tL ad ae af ag)/\g7 aa P (Ua ⟨g.size,0,Te⟩ 3)/\XC Tp 107 #[tA ad ae af ag] aa (λah ai=>∃aj ak al am,ah=tA aj ak al am/\g7 ai P (Ua ⟨g.size,0,Te⟩ 3)/\let an:=ai.push (.cells #[iV aj,.string ak,aK al,aK am] 25);g7 an P (Ua ⟨g.size,0,Te⟩ 3)/\XRun Tp (Ug #[23,23] 23 #[aK Q,.slice (Td ⟨ai.size,0,Te⟩) 1 1]) an (λao ap=>∃aq,ao=aK aq/\XRunU Tp (Ub 23 (.pointer (Td (Ua ⟨g.size,0,Te⟩ 3))) (aK aq)) ap (λar=>((Td (iV z):Option Value)=Te\/∃v,(Td (iV z):Option Value)=Td v)/\(0<=(0:Int)/\(0:Int)<=z/\z<=z/\z<=t.cap)/\((Te:Option Value)=Te\/∃v,(Te:Option Value)=Td v)/\(0<=(hZ (z+1))/\(hZ (z+1))<=(t.len:Int)/\(t.len:Int)<=(t.cap:Int)/\(t.cap:Int)<=(t.cap:Int))/\XRun Tp (Ug #[22,22] 22 #[.slice (de t.a 1 ((0:Int).toNat) z.toNat) (z.toNat-(0:Int).toNat) (z.toNat-(0:Int).toNat),.slice (de t.a 1 ((hZ (z+1)).toNat) ((t.cap:Int).toNat)) ((t.len:Int).toNat-(hZ (z+1)).toNat) ((t.cap:Int).toNat-(hZ (z+1)).toNat)]) ar (λau av=>∃aw,au=aK aw/\(r aw av/\s aw av<s t u)))))))))))/\((bif (w==6)then(decide ((t.len:Int)>0))else Tc)=Tc->∃(ax:Int->zb->Prop) (ay:Int->zb->Nat),ax 0 u/\∀az:Int,∀aA:zb,ax az aA->(∃aB,zc aA (Ua ⟨h.size,0,Te⟩ 3)=Td (aK aB)/\∃aC,(decide (az<aB.len)=Ta->zc aA (Ua ⟨h.size,0,Te⟩ 0)=Td (iV aC))/\((bif (decide (az<aB.len))then(aC != 6)else Tc)=Ta->∃aD,zc aA (Ua ⟨g.size,0,Te⟩ 3)=Td (aK aD)/\∃aE,zc aA (Ua ⟨h.size,0,Te⟩ 3)=Td (aK aE)/\∃aF,(aE.a=Td aF/\0<=az/\az<aE.len)/\∃aG aH aI aJ,zd aA (aF.add (az.toNat*4)) 0 (tL aG aH aI aJ)/\XC Tp 107 #[tA aG aH aI aJ] aA (λaL aM=>∃aN aO aP aQ,aL=tA aN aO aP aQ/\g7 aM aA (Ua ⟨g.size,0,Te⟩ 3)/\let aS:=aM.push (.cells #[iV aN,.string aO,aK aP,aK aQ] 25);g7 aS aA (Ua ⟨g.size,0,Te⟩ 3)/\XRun Tp (Ug #[23,23] 23 #[aK aD,.slice (Td ⟨aM.size,0,Te⟩) 1 1]) aS (λaT aU=>∃aV,aT=aK aV/\XRunU Tp (Ub 23 (.pointer (Td (Ua ⟨g.size,0,Te⟩ 3))) (aK aV)) aU (λaW=>(ax (hZ (az+1)) aW/\ay (hZ (az+1)) aW<ay az aA)))))/\((bif (decide (az<aB.len))then(aC != 6)else Tc)=Tc->∃aX aY aZ a0,zd aA ⟨g.size,0,Te⟩ 0 (tL aX aY aZ a0)/\XRunU Tp (Ub 25 (.pointer (Td ⟨f.size,0,Te⟩)) (tA aX aY aZ a0)) aA (λa1=>∃a2 a3 a4 a5,zd a1 ⟨f.size,0,Te⟩ 0 (tL a2 a3 a4 a5)/\R (tA a2 a3 a4 a5) a1)))))))):
  XC Tp 107 #[.agg #[.int .i64 b,.string c,.slice d.a d.len d.cap,.slice e.a e.len e.cap]] h R:=
 XF ⟨[(10,8000),(11,8000),(12,8000),(16,8000)],[(3,[(4,.one (.sl))]),(6,[(5,.one (.int .i64)),(6,.one (.int .i64))]),(14,[(7,.one (.int .i64))])],[]⟩ [.cell 2 25] 99 Tryz.func107 H
end
section
open Go.Lib
variable {L:List Bt} {m:Nat}
theorem OU{α:Type}(L:List α)(m:Nat):L.take m++L.drop (m+1)=L.eraseIdx m:=(List.eraseIdx_eq_take_drop_succ L m).symm
theorem RH(l:m<L.length)(h:∀x∈L,lb L[m]<=lb x):yo L=L[m]::yo (L.eraseIdx m):=by
 have k:L.Perm (L[m]::L.eraseIdx m):=by
  have e:L=L.take m++L[m]::L.drop (m+1):=by rw[<-UZ l,Vw]
  rw[<-OU];exact(List.Perm.of_eq e).trans List.perm_middle
 have tr:∀a b c:List UInt8,decide (a<=b)=Ta->decide (b<=c)=Ta->decide (a<=c)=Ta:=λa b c h1 h2=>by simp only[zB]at *;exact List.le_trans h1 h2
 have f:∀a b:List UInt8,(decide (a<=b)||decide (b<=a))=Ta:=λa b=>by simp only[Vq,zB];exact List.le_total a b
 have e:((L[m]::L.eraseIdx m).map lb).mergeSort (λx y=>decide (x<=y))=lb L[m]::((L.eraseIdx m).map lb).mergeSort (λx y=>decide (x<=y)):=by refine List.Perm.eq_of_pairwise (le:=λa b=>decide (a<=b)=Ta) (λa b _ _ h1 h2=>?_) (List.pairwise_mergeSort tr f _) (Vn.2 ⟨λa i=>?_,List.pairwise_mergeSort tr f _⟩) ?_;simp only[zB]at h1 h2;exact List.le_antisymm h1 h2;rw[(XD _ _).mem_iff,US]at i;obtain⟨x,n,rfl⟩:=i;exact zE (h x (List.mem_of_mem_eraseIdx n));rw[Uq];exact(XD _ _).trans (List.Perm.cons _ (XD _ _).symm)
 rw[Zk k];unfold yo;rw[e,Uq,Zx]
theorem Ps{m k:Nat}(i:m<L.length)(l:k<L.length)(h:∀j (b:j<L.length),j<k->lb L[m]<=lb L[j]):
  (Op.bytesLess L[k].toList L[m].toList=Ta->∀j (b:j<L.length),j<k+1->lb L[k]<=lb L[j])/\(Op.bytesLess L[k].toList L[m].toList=Tc->∀j (b:j<L.length),j<k+1->lb L[m]<=lb L[j]):=by
 have e:Op.bytesLess L[k].toList L[m].toList=decide (lb L[k]<lb L[m]):=by rw[Go.Proofs.bytesLess_eq,Z8,Z8]
 rw[e];constructor;intro h1 j b f;have h1:=zC h1;have h2:lb L[k]<=lb L[m]:=List.le_of_lt h1;rcases U1 j k with c|c;exact List.le_trans h2 (h j b c);have:j=k:=by omega
 subst this;exact List.le_refl _;intro h1 j b f;have h1:=zD h1;rcases U1 j k with c|c;exact h j b c;have:j=k:=by omega
 subst this;exact List.not_lt.1 h1
end
section
open Go.Sort Go.Lib
variable {v:Tr} {i k n:Nat} {gl M:Fr} {t:Ty} {h g:zb} {src s:Sl} {K:Value -> zb -> Prop}
theorem AF(a b:Bt):(a.toList==b.toList)=decide (a=b):=by rw[Uy];simp only[ByteArray.toList_eq,beq_iff_eq,zB];constructor;intro h;cases a;simp_all;grind
theorem Ll(h:zn v=Ta)(b:v.kind=6):v.keys.length=v.items.length:=by unfold zn at h;simp_all
theorem Rs{α:Type}{l:List α}(h:l.Nodup){i j:Nat}(hi:i<l.length)(c:j<l.length)(e:l[i]=l[j]):i=j:=by
 induction l generalizing i j with
 |nil=>simp at hi
 |cons a l b=>grind
theorem DT(h:zn v=Ta)(b:v.kind=6):v.keys.Nodup/\v.keys.length=v.items.length:=by refine⟨?_,Ll h b⟩;unfold zn at h;simp[b]at h;have:=h.1.1;unfold qw at this;simp_all
theorem zP{keys:List Bt}{x:Bt}(b:k<keys.length):idxFromS (keys.drop k) x k=if keys[k]=x then(k:Int)else idxFromS (keys.drop (k+1)) x (k+1):=by rw[UZ b,idxFromS]
theorem Kv{key:Bt}(m:v.keys.length<=1000000000){R:Int->Prop}(h:R (idxOfS v.keys key)):PC Tp gl 164 [Arg.mk .tree v,Arg.mk .str key] [.int .i64] R:=by
 apply KX;refine⟨λi=>∃k:Nat,i=k/\k<=v.keys.length/\idxOfS v.keys key=idxFromS (v.keys.drop k) key k,λi=>v.keys.length-i.toNat,⟨0,rfl,UH _,by rw[VD];rfl⟩,?_⟩;rintro i ⟨k,rfl,l,e⟩;refine⟨λf=>?_,λf=>?_⟩;have b:k<v.keys.length:=by simp at f;omega
 refine⟨v.keys[k],⟨by omega,by simp⟩,λc=>?_,λc=>?_⟩;simp_all[AF,zP];rw[AF]at c;rw[zP b,za (by simpa using c)]at e;grind [qn,Ue];have b:k=v.keys.length:=by simp at f;omega
 subst b;rw[List.drop_length,idxFromS]at e;grind
theorem Sa{l:List Bt}(h:l.Nodup)(hi:i<l.length):idxOfS l l[i]=(i:Int):=by rcases yJ l[i] l 0 with⟨_,h2⟩|⟨k,h1,h2,b⟩;simp_all;unfold idxOfS;grind [Ul,Rs,UO]
theorem PT{P:Program}{t e:TypeId}{z:Value}{sz bytes:Nat}(T:ElemT P t e z sz bytes){ty:TypeId}{p:Addr}{n N:Nat}{olds:List Value}(E:olds.length=n*sz)(k:∀j v,olds[j]?=Td v->zc h (p.add j)=Td v){news:List Value}(I:fD N h src.a news)(F:news.length=src.len*sz)(f:(n+src.len)*bytes<=140737488355328)(A:n+src.len<=4611686018427387904) (h0:src.len=0->K (.slice (Td p) n n) h) (C:∀(c:Nat) (h':zb) (l:Array Value),0<src.len->n+src.len<=c->Blk h' h.size l->l.toList.take (olds++news).length=olds++news->Keep h.size h h'->K (.slice (Td ⟨h.size,0,Te⟩) (n+src.len) c) h'):
  XRun P (Ug #[t,t] ty #[.slice (Td p) n n,.slice src.a src.len src.cap]) h K:=by
 intro B d;obtain⟨i,hi,D,r,s⟩:=T.info;have y:=T.slice;subst r s;by_cases x:src.len=0;refine⟨_,d,h,?_,h0 x⟩;rw[x];generalize src.a=q;cases q <;> simp[Ug,run_underlying y,sizeOf,typeInfo,hi,Builtin.lenOf,VY,loadCells,loadCellsFrom,storeCells];rcases I with m|⟨b,o,m,M,L⟩;subst m;have:=Nat.mul_pos (Nat.pos_of_ne_zero x) T.pos;grind;rw[m];have G:=run_append_grow (P:=P) (ty:=ty) (w:=mk B d h) t e i z y hi D p n n olds E (λj v J=>k j v J) ⟨b,o,Te⟩ src.len src.cap news F (λj u H=>by rw[zj];exact L j u H) (by omega) (by omega) (growslice_fits (by omega) f);refine⟨_,_,_,G,C _ _ (olds.toArray++news.toArray++Builtin.zeroCells z.cells (grownCap (mk B d h) (n+src.len) n e-(n+src.len))) (by omega) (grownCap_ge _ _ _ _) (Blk.new h _ e) ?_ (Keep.push _ _ (Uc _))⟩;grind
theorem MM(ag:AgM M h){ks:List Bt}(H:Rd M (.row .str) ks [aK s]):fD h.size h s.a (ks.map UJ):=by
 obtain⟨w,e,a,c,q,u,m⟩:=H;simp only[Vu,and_true]at e;subst e;simp only[aK,UW]at q;obtain⟨h1,_,_⟩:=q;rcases m with rfl|⟨b,o,cs,n,l,p⟩;exact .inl rfl;refine .inr ⟨b,o,by rw[h1,n],ag.lt l,λi v f=>?_⟩;rw[U2]at f;cases hk:ks[i]? with
 |none=>simp_all
 |some k=>
  rw[hk]at f;simp only[XK,Ud]at f;subst f;obtain⟨hi,e⟩:=UE.1 hk;have:=p i hi;rw[e]at this;have r:cut cs (o+i) 1=[.string k]:=by have t:cut cs (o+i*sz .str) (sz .str)=[.string k]:=this;simpa[sz]using t
  exact jt ag l r
theorem se(ag:AgM M g){p:Addr}{olds news:List Bt}(h0:Rd M (.row .str) olds [aK ⟨Td p,n,n⟩])(u:Rd M (.row .str) news [aK src])(G:olds.length+news.length<=2000000) (s:∀(r:Sl) (g':zb) (t:Fr),Later g M g' t->Rd t (.row .str) (olds++news) [aK r]->K (aK r) g'):
  XRun Tp (Ug #[22,22] 22 #[.slice (Td p) n n,aK src]) g K:=by
 have z:n=olds.length:=(rowLen h0).1;obtain⟨D,_,_⟩:=rowLen u;refine PT vq (olds:=olds.map UJ) (news:=news.map UJ) (N:=g.size) (by simp[sz,z]) (λj v m=>?_) (MM ag u) (by simp[sz,D]) (by omega) (by omega) (λH=>?_) λc g' f h1 E B w k=>?_;rw[U2]at m;cases e:olds[j]? with
 |none=>simp_all
 |some x=>rw[e]at m;obtain⟨h,rfl⟩:=UE.1 e;cases m;obtain⟨b,o,cs,A,y,C⟩:=Go.X.rowAt h0 h;cases A;rw[zj];have:=jt ag y (v:=.string olds[j]) (o:=o+j*sz .str) C;simpa[sz]using this
 have:news=[]:=UK (by omega);subst this;exact s ⟨Td p,n,n⟩ g M (Later.refl ag) (by simp_all);refine s ⟨Td ⟨g.size,0,Te⟩,n+src.len,c⟩ g' (MxL M g' [g.size]) (Later.own (Later.same ag k) λc E=>by grind) ⟨_,rfl,Td ⟨g.size,0,Te⟩,c,?_,⟨by grind,by simp_all⟩,.inr ⟨g.size,0,f,rfl,MxL.at (by simp) B,λi hi=>?_⟩⟩;show VV _ _ _=VV _ _ _;simp_all;show cut f (0+i*1) 1=[.string (olds++news)[i]];refine Xe rfl λq F=>?_;have l:q=0:=by omega
 subst l;have e:(f.toList.take (olds.map UJ++news.map UJ).length)[i]?=(olds.map UJ++news.map UJ)[i]?:=by rw[w]
 grind
theorem EJ{xs:List (El t)}(h:Rd M (.row t) xs [aK s]):xs=[]\/∃b o cs,s.a=Td ⟨b,o,Te⟩/\M b=Td cs/\∀i (hi:i<xs.length),Rd M t xs[i] (cut cs (o+i*sz t) (sz t)):=by obtain⟨w,e,a,c,q,k,f⟩:=h;simp only[Vu,and_true]at e;subst e;simp only[aK,UW]at q;simp_all
theorem IK{xs:List (El t)}(h:Rd M (.row t) xs [aK s])(c:k<=xs.length):Rd M (.row t) (xs.take k) [aK ⟨s.a,k,k⟩]:=by
 obtain⟨h1,h2,e⟩:=rowLen h;have b:(xs.take k).length=k:=by rw[UQ];omega
 refine⟨_,rfl,s.a,k,?_,⟨by omega,by omega⟩,?_⟩;show VV _ _ _=VV _ _ _;rw[b];grind [EJ]
theorem KM{xs:List (El t)}(h:Rd M (.row t) xs [aK s])(q:k<=xs.length):Rd M (.row t) (xs.drop k) [aK ⟨de s.a (sz t) k s.cap,s.len-k,s.cap-k⟩]:=by
 obtain⟨h1,h2,p⟩:=rowLen h;have c:(xs.drop k).length=s.len-k:=by rw[UD];omega
 refine⟨_,rfl,de s.a (sz t) k s.cap,s.cap-k,?_,⟨by omega,by omega⟩,?_⟩;show VV _ _ _=VV _ _ _;rw[c];by_cases l:xs.drop k=[];grind;have n:=U5.2 l;rcases EJ h with e|⟨b,o,cs,f,m,r⟩;simp_all;refine .inr ⟨b,o+k*sz t,cs,?_,m,λi hi=>?_⟩;unfold de;rw[za (by omega),f,XK,qh];grind
theorem nC{M b:Fr}{r o:Nat}{k:Int}{s:Bt}{sk si:Sl}(R:Blk g r #[.int .i64 0,.string ⟨#[]⟩,.slice Te 0 0,.slice Te 0 0])(O:Blk g o #[.int .i64 k,.string s,aK sk,aK si])(L:Later h M g b)(x:h.size<=r)(u:b r=Te){w:Tr}(rd:RdV b .tree w (.agg #[.int .i64 k,.string s,aK sk,aK si])){Q:Tr->Prop}(y:Q w):
  ∃(p:Int) (i:Bt) (l e:Sl),zd g ⟨o,0,Te⟩ 0 [.int .i64 p,.string i,aK l,aK e]/\XRunU Tp (Ub 25 (.pointer (Td ⟨r,0,Te⟩)) (.agg #[.int .i64 p,.string i,aK l,aK e])) g λc=>
   ∃(f:Int) (t:Bt) (n m:Sl),zd c ⟨r,0,Te⟩ 0 [.int .i64 f,.string t,aK n,aK m]/\∃b q,Later h M c b/\Zp b [.tree] q (.agg #[.int .i64 f,.string t,aK n,aK m])/\Q q:=
 ⟨k,s,sk,si,O.ld (cs:=[_,_,aK sk,aK si]),yq R λB z z2 A=>⟨k,s,sk,si,A.ld (cs:=[_,_,aK sk,aK si]),b,w,Later.stay L x u z z2,Yk.2 rd,y⟩⟩
theorem Em(h:zn v=Ta)(b:v.kind=5\/v.kind=6):v.text=⟨#[]⟩:=by unfold zn at h;rcases b with k|k;simp[k]at h;exact ByteArray.ext h.1;simp[k]at h;exact ByteArray.ext h.2
theorem wL(h:zn v=Ta)(b:v.kind≠6):v.keys=[]/\(v.kind≠5->v.items=[]):=by unfold zn at h;grind
set_option maxRecDepth 100000 in
set_option maxHeartbeats 20000000 in
theorem Ez:∀(n:Nat) (v:Tr),n<=1000000->bR v<=n->Zy zn v=Ta->∀(h:zb) (M:Fr) (u:Value),AgM M h->RdV M .tree v u->PX Tp 107 #[u] h M [.tree] (λq=>q=zf v)
 |0,v,_,hz,_=>by have:=Zf v;omega
 |n+1,v,hn,hz,hok=>by
  intro h M u ag hu;obtain⟨sk,si,rfl,rk,ri⟩:=qq hu;have s:=hok;rw[yp,Ui]at s;have J:=s.1;have ca:v.items.length<=1000000:=by have:=ww v.items;rw[q9]at hz;omega
  have ih:∀(i:Nat) (hi:i<v.items.length) (h:zb) (M:Fr) (u:Value),AgM M h->RdV M .tree v.items[i] u->PX Tp 107 #[u] h M [.tree] (λq=>q=zf v.items[i]):=λi hi=>by
   have H:=Up hi;have hs:=qi H;have aV:Zy zn v.items[i]=Ta:=by rw[yz,Us]at s;exact s.2 _ H
   exact Ez n v.items[i] (by omega) (by omega) aV
  obtain⟨li,_,_⟩:=rowLen ri;obtain⟨lk,_,_⟩:=rowLen rk;have bO:v.keys.length<=1000000:=by by_cases h6:v.kind=6;have:=(DT J h6).2;omega;rw[(wL J h6).1];simp
  apply PX.of;apply Kw v.kind v.text sk si;intro h1;obtain⟨k1,z1,B1⟩:=jf (g:=h1) rfl;clear_value h1;intro h2;obtain⟨k2,z2,R2⟩:=jf (g:=h2) rfl;clear_value h2;have B2:=B1.ofKeep k2;refine⟨v.kind,B2.cellAdd (o:=0) (k:=0) rfl,v.text,B2.cellAdd (o:=0) (k:=1) rfl,?_⟩;intro h5;obtain⟨k5,z5,O5⟩:=jf (g:=h5) rfl;clear_value h5;refine yq (sk:=⟨Te,0,0⟩) (si:=⟨Te,0,0⟩) O5 λh6 f6 z6 O6=>?_;have k6:Keep h2.size h2 h6:=⟨by omega,λj hj=>by rw[f6 j (by omega)];exact k5.get j hj⟩;have bA:Keep h.size h h6:=(k1.trans k2 (by omega)).trans k6 (by omega);intro h7;obtain⟨k7,z7,_⟩:=jf (g:=h7) rfl;clear_value h7;have L7:Later h M h7 M:=Later.same ag (bA.trans k7 (by omega));have B7:=(B2.ofKeep k6).ofKeep k7;have R7:=(R2.ofKeep k6).ofKeep k7;have O7:=O6.ofKeep k7;refine⟨sk,B7.cellAdd (o:=0) (k:=2) rfl,?_⟩;refine se L7.ag (olds:=[]) (news:=v.keys) (n:=0) (p:=⟨h6.size,0,Te⟩) ⟨_,rfl,_,_,rfl,⟨by simp,by simp⟩,.inl rfl⟩ rk (by simp;omega) λaL b M2 F aQ=>?_;rw[UX]at aQ;refine⟨aL,rfl,?_⟩;have bP:=F.keep.size;have LL:=L7.trans F;have Y:=B7.keep (F.keep.get _ (by omega));have aH:=R7.keep (F.keep.get _ (by omega));have ba:=O7.keep (F.keep.get _ (by omega));have nO:M2 h2.size=Te:=by rw[F.old _ (by omega)];exact ag.none (by omega)
  have nR:M2 h1.size=Te:=by rw[F.old _ (by omega)];exact ag.none (by omega)
  have V0:v.text=⟨#[]⟩->VbM b.size h M h2.size v.kind ⟨Te,0,0⟩ ⟨Te,0,0⟩ b M2 [] [] ⟨Te,0,0⟩ ⟨Te,0,0⟩ [] []:=λet=>⟨LL,by simp_all,ORow.nil,ORow.nil,λc t=>(by cases t),by omega,by omega,Uc _,nO⟩;by_cases B:v.kind=6;have et:=Em J (.inr B);obtain⟨bL,b8⟩:=DT J B;have hS:zf v=.mk v.kind v.text (yo v.keys) ((yo v.keys).map λq=>dq (v.keys.zip (v.items.map zf)) q):=by rw[yg,zA B]
  refine⟨λleft g=>∃(L D:List Bt) (M':Fr) (zk G:Sl) (bk bi:List Nat),Rd M' (.row .str) L [aK left]/\VbM b.size h M h2.size v.kind zk G g M' D (D.map λq=>dq (v.keys.zip (v.items.map zf)) q) zk G bk bi/\yo v.keys=D++yo L/\(∀q∈L,q∈v.keys)/\M' h1.size=Te/\(∀j,j<b.size->j≠h2.size->g[j]?=b[j]?),λleft _=>left.len,⟨v.keys,[],M2,⟨Te,0,0⟩,⟨Te,0,0⟩,[],[],aQ,V0 et,rfl,λq hq=>hq,nR,λ_ _ _=>rfl⟩,?_⟩;rintro left g ⟨L,D,M',zk,G,bk,bi,rL,V,eD,aT,ae,fg⟩;have I:=V.L.ag;have bn:=V.lg;obtain⟨lL,_,_⟩:=rowLen rL;have b7:D.length+L.length=v.keys.length:=by have:=congrArg VA eD;rw[vt,Uf,vt]at this;omega
  have Bg:=Y.keep (fg h.size (by omega) (by omega));have Rg:=aH.keep (fg h1.size (by omega) (by omega));refine⟨v.kind,Bg.cellAdd (o:=0) (k:=0) rfl,λt=>?_,λt=>?_⟩;have ar:0<L.length:=by have:=zC (kH.1 t).2;omega
  refine⟨λm i g'=>∃(e ii:Nat),m=(e:Int)/\i=(ii:Int)/\g'=g/\ii<=L.length/\∃H:e<L.length,∀j (hj:j<L.length),j<ii->lb L[e]<=lb L[j],λ_ i _=>L.length-i.toNat,⟨0,1,rfl,rfl,rfl,ar,ar,λj hj bV=>by simp_all⟩,?_⟩;rintro m i g' ⟨e,ii,rfl,rfl,rfl,b9,f,aN⟩;refine⟨λaB=>?_,λaB=>?_⟩;have hi:ii<L.length:=by have:=d8 aB;omega
  obtain⟨a,ha,x,hx,ex⟩:=fG I rL hi (i:=(ii:Int)) rfl (L:=left.len) rfl (Q:=λx=>x=L[ii]) rfl;obtain⟨a',bM,y,hy,ey⟩:=fG I rL f (i:=(e:Int)) rfl (L:=left.len) rfl (Q:=λx=>x=L[e]) rfl;subst ex;subst ey;obtain⟨s1,s2⟩:=Ps f hi aN;have hw:=qn hi (by omega);exact⟨a,ha,_,hx,a',bM,_,hy,λhl=>⟨⟨ii,ii+1,rfl,hw,rfl,hi,hi,s1 hl⟩,by simp;omega⟩,λhl=>⟨⟨e,ii+1,rfl,hw,rfl,hi,f,s2 hl⟩,by simp;omega⟩⟩;have be:ii=L.length:=by have:=eQ aB;omega
  subst be;have es:=RH f λx hx=>by obtain⟨j,hj,rfl⟩:=V1.1 hx;grind
  have hq:=aT _ (Up f);obtain⟨am,bG,x,bm,ex⟩:=fG I rL f (i:=(e:Int)) rfl (L:=left.len) rfl (Q:=λx=>x=L[e]) rfl;subst ex;refine⟨zk,V.box.cellAdd (o:=0) (k:=2) rfl,am,bG,_,bm,?_⟩;have aA:=V.box.lt;intro az;obtain⟨k29,bZ,bz⟩:=jf (g:=az) rfl;have aP:VbM b.size h M h2.size v.kind zk G az M' D (D.map λq=>dq (v.keys.zip (v.items.map zf)) q) zk G bk bi:=V.push _;clear_value az;refine⟨by rw[zj];exact k29.get _ aA,?_⟩;refine aP.key (by omega) bz λaj cb aU aY b6 bD=>⟨aj,rfl,?_⟩;refine aY.st2 λaS ab bS bJ=>?_;have ap:∀j,j<b.size->j≠h2.size->aS[j]?=g'[j]?:=λj hj h0=>by rw[bJ j h0,bD j (by omega) λH=>by have:=(aP.keys.own j H).1;omega];exact k29.get j (by omega)
  have aI:=Bg.keep (ap h.size (by omega) (by omega));have bu:=Rg.keep (ap h1.size (by omega) (by omega));have an:=ab.L.ag;obtain⟨bF,bE,x,a6,ex⟩:=fG an rL f (i:=(e:Int)) rfl (L:=left.len) rfl (Q:=λx=>x=L[e]) rfl;subst ex;refine⟨G,ab.box.cellAdd (o:=0) (k:=3) rfl,si,aI.cellAdd (o:=0) (k:=3) rfl,v.kind,v.text,sk,si,aI.ld (cs:=[_,_,aK sk,aK si]),bF,bE,_,a6,?_⟩;have U:=ab.L.le;refine(Kv (gl:=M') (v:=v) (key:=L[e]) (by omega) (R:=λr=>r=Lib.idxOfS v.keys L[e]) rfl).go (Fr.le.refl _) an (zq (a:=Arg.mk .tree v) (zr (rk.mono U) (ri.mono U)) (zq (a:=Arg.mk .str L[e]) (rdStr _) zy)) λw bT cc r N z hr=>?_;rw[nG z,hr];obtain⟨j,j1,j2,e1,e2,_⟩:=oc L[e] v.keys (v.items.map zf) (by grind) hq;rw[Um]at j2;have ej:Lib.idxOfS v.keys L[e]=(j:Int):=by rw[<-e1];exact Sa bL j1
  rw[ej];have bY:=N.keep.size;obtain⟨a1,ck,ci,ea,ax,t1,t2⟩:=Jt N.ag (ri.mono (U.trans N.le)) j2;have O:=ab.box.lt;have Z:=N.keep;refine⟨(j:Int),rfl,a1,⟨ea,by omega,by omega⟩,by rw[zj];exact Z.get _ aI.lt,by rw[zj];exact Z.get _ O,v.items[j].kind,v.items[j].text,ck,ci,by rw[Ue];exact ax,by rw[zj];exact Z.get _ O,?_⟩;refine(ih j j2 _ _ _ N.ag (zr t1 t2)).go λw a8 af q C z aG=>?_;subst aG;obtain⟨xk,xi,rfl,y1,y2⟩:=qq (Yk.1 z);have l:=N.trans C;have A:=l.keep.get _ O;have bH:=l.keep.size;refine⟨_,_,xk,xi,rfl,by rw[zj];exact A,?_⟩;intro E;obtain⟨P,bj,ay⟩:=jf (g:=E) rfl;have aa:VbM b.size h M h2.size v.kind aj G E af (D++[L[e]]) (D.map λq=>dq (v.keys.zip (v.items.map zf)) q) aj G aU bi:=(ab.call l).push _;clear_value E;refine⟨by rw[zj];exact(P.get h2.size (by omega)).trans A,?_⟩;refine aa.item (by grind) ay (zr y1 y2) λS br aF aC aZ aE=>⟨S,rfl,?_⟩;refine aC.st3 λaM ai bg aJ=>?_;have aO:∀j,j<b.size->j≠h2.size->aM[j]?=g'[j]?:=λj hj h0=>by
   have bN:g'.size<=aS.size:=by omega
   rw[aJ j h0,aE j (by omega) λH=>by have:=(aa.items.own j H).1;omega,P.get j (by omega),l.keep.get j (by omega)];grind
  have hw:=qn f (by omega);rw[hw];refine⟨.inr ⟨_,rfl⟩,⟨by omega,by omega,by omega,by omega⟩,.inl rfl,⟨by omega,by omega,by omega,by omega⟩,?_⟩;simp only[Ue,Int.toNat_zero,Nat.sub_zero,Dl];have ak:Fr.le M' af:=l.le;obtain⟨pb,po,bQ,ep,_⟩:=Go.X.rowAt rL f;have rT:=IK (rL.mono ak) (k:=e) (by omega);have rD:=KM (rL.mono ak) (k:=e+1) f;rw[ep]at rT;rw[ep];rw[ep]at rD;have QQ:=λK=>se (K:=K) ai.L.ag rT rD (by rw[List.length_take,List.length_drop];omega);refine QQ _ λbI bU bC au bB=>⟨bI,rfl,⟨L.eraseIdx e,D++[L[e]],bC,aj,S,aU,aF,?_,?_,?_,?_,?_,?_⟩,?_⟩;grind;have:=ai.call au;grind;grind;grind;rw[au.old _ (by omega),l.old _ bu.lt];exact ae;intro j hj h0;rw[au.keep.get j (by omega),aO j hj h0];grind;have:=(rowLen bB).1;grind;have hL:L=[]:=by rcases tm.1 t with h|h;simp_all;simp_all
  subst hL;rw[show yo []=[]from List.Perm.eq_nil (yw []),UM]at eD;refine⟨λi g'=>i=0/\g'=g,λ_ _=>0,⟨rfl,rfl⟩,?_⟩;rintro i g' ⟨rfl,rfl⟩;refine⟨si,Bg.cellAdd (o:=0) (k:=3) rfl,v.kind,λ_=>Bg.cellAdd (o:=0) (k:=0) rfl,λt=>?_,λt=>?_⟩;have:=(kH.1 t).2;simp[B]at this;have bq:D.length<=1000000:=by omega
  obtain⟨Lf,rf⟩:=V.fin ⟨bq,by simp_all⟩;refine nC Rg V.box Lf (by omega) ?_ rf ?_;unfold MxL;rw[za λH=>?_];exact ae;rcases Uv.1 H with h|h;have:=(V.keys.own _ h).1;omega;have:=(V.items.own _ h).1;omega;grind;refine⟨λleft g=>left=aL/\g=b,λ_ _=>0,⟨rfl,rfl⟩,?_⟩;rintro left g ⟨rfl,rfl⟩;refine⟨v.kind,Y.cellAdd (o:=0) (k:=0) rfl,λt=>?_,λ_=>?_⟩;have:=(kH.1 t).1;simp[B]at this;have hS:zf v=.mk v.kind v.text [] (v.items.map zf):=by rw[yg,za B]
  by_cases h5:v.kind=5;have et:=Em J (.inl h5);refine⟨λi g'=>∃(m:Nat) (M':Fr) (G:Sl) (bi:List Nat),i=(m:Int)/\m<=v.items.length/\VbM g.size h M h2.size v.kind ⟨Te,0,0⟩ G g' M' [] ((v.items.take m).map zf) ⟨Te,0,0⟩ G [] bi/\M' h1.size=Te/\(∀j,j<g.size->j≠h2.size->g'[j]?=g[j]?),λi _=>v.items.length-i.toNat,⟨0,M2,⟨Te,0,0⟩,[],rfl,UH _,V0 et,nR,λ_ _ _=>rfl⟩,?_⟩;rintro i g' ⟨m,M',G,bi,rfl,H,V,ae,fg⟩;have bn:=V.lg;have I:=V.L.ag;have Bg:=Y.keep (fg h.size (by omega) (by omega));have Rg:=aH.keep (fg h1.size (by omega) (by omega));refine⟨si,Bg.cellAdd (o:=0) (k:=3) rfl,v.kind,λ_=>Bg.cellAdd (o:=0) (k:=0) rfl,λt=>?_,λt=>?_⟩;have ah:m<v.items.length:=by have:=d8 (kH.1 t).1;omega
  obtain⟨a,ck,ci,ea,ax,t1,t2⟩:=Jt I (ri.mono V.L.le) ah;have aA:=V.box.lt;refine⟨G,V.box.cellAdd (o:=0) (k:=3) rfl,si,Bg.cellAdd (o:=0) (k:=3) rfl,a,⟨ea,by omega,by omega⟩,v.items[m].kind,v.items[m].text,ck,ci,by rw[Ue];exact ax,?_⟩;refine(ih m ah _ _ _ I (zr t1 t2)).go λw a8 af q C z aG=>?_;subst aG;obtain⟨xk,xi,rfl,y1,y2⟩:=qq (Yk.1 z);have A:=C.keep.get _ aA;have bH:=C.keep.size;refine⟨_,_,xk,xi,rfl,by rw[zj];exact A,?_⟩;intro E;obtain⟨P,bj,ay⟩:=jf (g:=E) rfl;have aa:VbM g.size h M h2.size v.kind ⟨Te,0,0⟩ G E af [] ((v.items.take m).map zf) ⟨Te,0,0⟩ G [] bi:=(V.call C).push _;clear_value E;refine⟨by rw[zj];exact(P.get h2.size (by omega)).trans A,?_⟩;refine aa.item (by grind) ay (zr y1 y2) λS br aF aC aZ aE=>⟨S,rfl,?_⟩;have hw:=qn ah (by omega);refine aC.st3 λaM ai bg aJ=>⟨⟨m+1,af,S,aF,hw,ah,?_,?_,λj hj h0=>?_⟩,by grind⟩;rw[Uh ah,U7];exact ai;rw[C.old _ Rg.lt];exact ae;rw[aJ j h0,aE j (by omega) λH=>by have:=(aa.items.own j H).1;omega,P.get j (by omega),C.keep.get j (by omega)];grind;have a7:m=v.items.length:=by rcases tm.1 t with h|h;grind;simp[h5]at h
  subst a7;rw[Uz]at V;obtain⟨Lf,rf⟩:=V.fin ⟨UH _,by simp_all⟩;refine nC Rg V.box Lf (by omega) ?_ rf ?_;unfold MxL;rw[za λH=>?_];exact ae;rcases Uv.1 H with h|h;cases h;have:=(V.items.own _ h).1;omega;rw[hS,et];have e0:=(wL J B).2 h5;refine⟨λi g'=>i=0/\g'=g,λ_ _=>0,⟨rfl,rfl⟩,?_⟩;rintro i g' ⟨rfl,rfl⟩;refine⟨si,Y.cellAdd (o:=0) (k:=3) rfl,v.kind,λ_=>Y.cellAdd (o:=0) (k:=0) rfl,λt=>?_,λt=>?_⟩;have:=d8 (kH.1 t).1;rw[li,e0]at this;exact absurd this (by decide);exact nC aH ba LL (by omega) nR (w:=.mk v.kind v.text [] []) (zr (v:=.mk v.kind v.text [] []) Xg Xg) (by grind)
theorem Hg(k:GL gl)(m:Sm v){R:Tr->Prop}(e:R (ja v)):PC Tp gl 59 [Arg.mk .tree v] [.tree] R:=by
 apply QU;simp only[wn];refine G7 k m ⟨λf=>?_,λf=>?_⟩;have:Zg v=Tc:=by simpa using f
 unfold ja at e;simp_all;have i:Zg v=Ta:=by simpa using f
 unfold ja at e;rw[zA i]at e;have c:=i;unfold Zg wm at c;simp only[Ui,zB]at c;intro h M vs n ag l
 match vs,l with
 |[u],⟨hu,_⟩=>exact PX.of ((Ez (bR v) v (by omega) (Uc _) c.2 h M u ag hu).go λw h' M' q L b o=>⟨M',q,L,b,by grind⟩)
end
section
open Go.RowKit
theorem DG:∀(n:Nat) (v:Tr),bR v<=n->wy v+1<=2*bR v
 |0,v,h=>by have:=Zf v;omega
 |n+1,v,h=>by
  have e:∀l:List Tr,(∀x∈l,bR x<=n)->cY 0 l<=2*xn l/\cY 1 l<=2*xn l:=by
   intro l;induction l with
   |nil=>intro _;simp[cY]
   |cons x l i=>intro c;have a:=DG n x (c x (by simp));have b:=i λy f=>c y (by simp[f]);rw[cY,cY,xn];omega
  have hi:=e v.items λx c=>by have:=qi c;omega
  rw[oF,q9];split;omega;split <;> omega
theorem Grw.later{h h':zb}{M M':Fr}{bs':List Nat}(G:Grw h M h.size [] h' M' bs'):Later h M h' M':=⟨⟨G.grow,λj b=>G.fr j b (by omega) (by simp)⟩,G.le,G.old,G.ag⟩
set_option maxRecDepth 100000 in
set_option maxHeartbeats 1000000 in
theorem Pd{gl:Fr}(hg:GL gl){v:Tr}(hv:Sm v){R:(List Bt×List Int)×Int->Prop}(y:R (Wa v)):PC Tp gl 15 [Arg.mk .tree v] [.pair (.row .str) (.row p3),.int .i64] R:=by
 intro h M vs hM ag ha
 match vs,ha with
 |[u],⟨V,_⟩=>
  have V:RdV M .tree v u:=V;have I:=V;obtain⟨sk,si,rfl,rk,ri⟩:=qq V;apply PX.of;apply Mz v.kind v.text sk si;intro h1;obtain⟨k1,z1,B1⟩:=jf (g:=h1) rfl;clear_value h1;intro h2;obtain⟨k2,z2,R2⟩:=jf (g:=h2) rfl;clear_value h2;have B2:=B1.ofKeep k2;have ab:Keep h.size h h2:=k1.trans k2 (by omega);have L2:Later h M h2 M:=Later.same ag ab;have done:∀(g:zb) (M':Fr) (t:List Bt×List Int) (e:Int) (s1 s2:Sl),Later h2 M g M'->Rd M' (.row .str) t.1 [aK s1]->Rd M' (.row p3) t.2 [aK s2]->R (t,e) ->
    XRunU Tp (Ub 31 (.pointer (Td ⟨h1.size,0,Te⟩)) (.agg #[aK s1,aK s2])) g λg'=>∃D E:Sl,zd g' ⟨h1.size,0,Te⟩ 0 [aK D,aK E]/\∃M2 q,Later h M g' M2/\Zp M2 [.pair (.row .str) (.row p3),.int .i64] q (.tuple #[.agg #[aK D,aK E],.int .i64 e])/\R q:=by
   intro g M' t e s1 s2 L D E S;have nR:M' h1.size=Te:=by rw[L.old _ (by omega)];exact ag.none (by omega)
   refine hH (R2.keep (L.keep.get _ (by omega))) λg' f z B=>⟨s1,s2,B.ld (cs:=[aK s1,aK s2]),M',(t,e),Later.stay (L2.trans L) (by omega) nR f z,⟨[_,_],⟨_,_,rfl,Yj D E,_,rfl,Zw _ _⟩,rfl⟩,S⟩
  refine⟨v.kind,v.text,sk,si,B2.ld (cs:=[_,_,aK sk,aK si]),?_⟩;refine(zQ hg hv (R:=λr=>r=zz v) rfl).go (vs:=[.agg #[.int .i64 v.kind,.string v.text,aK sk,aK si]]) hM L2.ag (zq I zy) λw h8 M8 r A m S=>?_;subst S;refine⟨_,dt m,λn=>?_,λn=>?_⟩
  ·have n:zz v=Tc:=by simpa using n
   unfold Wa at y;rw[za (by rw[n];simp)]at y;exact done h8 M8 ([],[]) 1 ⟨Te,0,0⟩ ⟨Te,0,0⟩ A Xg Xg y
  have n:zz v=Ta:=by simpa using n
  unfold Wa at y;rw[zA n]at y;refine⟨v.kind,v.text,sk,si,(B2.keep (A.keep.get _ (by omega))).ld (cs:=[_,_,aK sk,aK si]),?_⟩;refine(Hg hg hv (R:=λr=>r=ja v) rfl).go (vs:=[.agg #[.int .i64 v.kind,.string v.text,aK sk,aK si]]) (hM.trans A.le) A.ag (zq (I.mono A.le) zy) λw x Q r p m S=>?_;subst S;have H:=Yk.1 m;obtain⟨xk,xi,rfl,y1,y2⟩:=qq H;refine⟨_,_,xk,xi,rfl,?_⟩;have hs:=sC n;have af:zz (ja v)=Ta:=by rw[zM];exact n
  obtain⟨q1,q2,q3,q4⟩:=Yh af;have ak:=DG _ (ja v) (Uc _);have z8:=A.keep.size;have ai:=p.keep.size;refine XC.mono (Cz hg (lo:=x.size) (bR (ja v)) (ja v) q1 (Uc _) q3 (sn hv) x Q [] ⟨Te,0,0⟩ ⟨Te,0,0⟩ [] [] _ p.ag (hM.trans (A.le.trans p.le)) ⟨ORow.nil,ORow.nil,λc b=>by cases b⟩ (Uc _) (by simp only[UG];omega) H) ?_;rintro w h24 ⟨J,Y,l,c1,c2,rfl,G,P⟩;rw[UX,UG,hs]at P;have G:Grw x Q x.size [] h24 l (c1++c2):=G;have C:Later h2 M h24 l:=(A.trans p).trans G.later;have ah:=G.grow;refine⟨J,Y,rfl,?_⟩;intro F;obtain⟨U,aj,aa⟩:=jf (g:=F) rfl;clear_value F;refine hH aa λi N ae O=>?_;have s:Later h2 M i l:=Later.stay (C.trans (Later.same C.ag U)) (by omega) (C.ag.none (Uc _)) N ae;have fr:∀c,c<h24.size->i[c]?=h24[c]?:=λc b=>by rw[N c (by omega)];exact U.get c b
  have D:=P.r1.frame (h':=i) (M':=l) (λc b=>fr c (P.r1.own c b).2.1) (Fr.le.refl _) λc b=>(P.r1.own c b).2.2;have E:=P.r2.frame (h':=i) (M':=l) (λc b=>fr c (P.r2.own c b).2.1) (Fr.le.refl _) λc b=>(P.r2.own c b).2.2;have Z:=P.r1.len;rw[Um,jz]at Z;have am:=jz (zf v) 0;refine⟨J,O.cellAdd (o:=0) (k:=0) rfl,λb=>?_,λb=>?_⟩
  ·have b:=zC b;rw[zA (by omega)]at y;exact done i l ([],[]) 6 ⟨Te,0,0⟩ ⟨Te,0,0⟩ s Xg Xg y
  ·have b:=zD b;rw[za (by omega)]at y;refine⟨J,Y,O.ld (cs:=[aK J,aK Y]),?_⟩;have own:∀c∈c1++c2,h2.size<=c:=λc b=>by rcases Uv.1 b with h|h;have:=(D.own c h).1;omega;have:=(E.own c h).1;omega
   exact done i _ (dV (Qh (zf v) 0)) 0 J Y (Later.own s own) (D.rd s.ag (λc b=>Un _ b) (by rw[Um];omega)) (E.rd s.ag (λc b=>Uw _ b) (by rw[Um];omega)) y
end
section
open Go.RowKit
set_option maxRecDepth 100000 in
set_option maxHeartbeats 2000000 in
section
theorem DW{gl:Fr}(v:Tr)(hv:Sm v)(ht:bR v<=1000000){R:Tr->Prop}(hR:R v):PC Tp gl 13 [Arg.mk .tree v] [.tree] R:=by
 have ap:=q9 v;have az:=hv.keys;have aC:v.items.length<=1000000:=by have:=ww v.items;omega
 intro h M vs hM ag ha
 match vs,ha with
 |[u],⟨hu,_⟩=>
  obtain⟨sk,si,rfl,rk,ri⟩:=qq (show RdV M .tree v u from hu);have li:=(rowLen ri).1;apply PX.of;apply KV v.kind v.text sk si;intro h1;obtain⟨k1,z1,B1⟩:=jf (g:=h1) rfl;clear_value h1;intro h2;obtain⟨k2,z2,R2⟩:=jf (g:=h2) rfl;clear_value h2;have B2:=B1.ofKeep k2;have Y:Later h M h2 M:=Later.same ag (k1.trans k2 (by omega));intro K5 ak;have tail:∀(bo:Nat) (g:zb) (b:Fr) (s:Sl),Later h2 M g b->Rd b (.row .str) v.keys [aK s]->Blk g bo #[.int .i64 0,.string ⟨#[]⟩,.slice Te 0 0,.slice Te 0 0]->h2.size<=bo->b bo=Te->XRunU Tp (Ub 25 (.pointer (Td ⟨bo,0,Te⟩)) (.agg #[.int .i64 v.kind,.string v.text,aK s,.slice Te 0 0])) g (λg'=>K5 ⟨bo,0,Te⟩ g'):=by
   intro bo g b s L rs O x nO;refine yq (si:=⟨Te,0,0⟩) O λg1 f1 zg O1=>?_;have L1:Later h2 M g1 b:=Later.stay L x nO f1 zg;apply ak;refine⟨λi g=>∃(m:Nat) (M':Fr) (zi:Sl) (bi:List Nat),i=(m:Int)/\m<=v.items.length/\Later h2 M g M'/\g1.size<=g.size/\ORow g1.size g M' .tree (v.items.take m) zi bi/\Blk g bo #[.int .i64 v.kind,.string v.text,aK s,aK zi]/\M' bo=Te/\Fr.le b M',λi _=>v.items.length-i.toNat,⟨0,b,⟨Te,0,0⟩,[],rfl,UH _,L1,Uc _,ORow.nil,O1,nO,Fr.le.refl _⟩,?_⟩;rintro i g' ⟨m,M',zi,bi,rfl,D,t,aA,Q,H,am,V⟩;have Bg:=B2.keep (t.keep.get h.size (by omega));have Rg:=R2.keep (t.keep.get h1.size (by omega));have au:=O1.lt;refine⟨si,Bg.cellAdd (o:=0) (k:=3) rfl,λz=>?_,λz=>?_⟩;have A:m<v.items.length:=by have:=d8 z;omega
   obtain⟨a,ck,ci,ea,ai,t1,t2⟩:=Jt t.ag (ri.mono t.le) A;refine⟨zi,H.cellAdd (o:=0) (k:=3) rfl,si,Bg.cellAdd (o:=0) (k:=3) rfl,a,⟨ea,by omega,by omega⟩,v.items[m].kind,v.items[m].text,ck,ci,by rw[Ue];exact ai,?_⟩;have P:=Up A;have ay:=qi P;refine(DW (gl:=gl) v.items[m] (hv.item P) (by omega) (R:=λq=>q=v.items[m]) rfl).go (vs:=[_]) (hM.trans t.le) t.ag (zq (a:=Arg.mk .tree v.items[m]) (zr t1 t2) zy) λw h5 M5 q J S hq=>?_;subst hq;obtain⟨xk,xi,rfl,y1,y2⟩:=qq (Yk.1 S);have z5:=J.keep.size;have e5:=J.keep.get bo H.lt;refine⟨_,_,xk,xi,rfl,by rw[zj];exact e5,?_⟩;intro h6;obtain⟨k6,z6,S6⟩:=jf (g:=h6) rfl;have I:Later g' M' h6 M5:=J.trans (Later.push J.ag _);clear_value h6;have n5:M5 bo=Te:=by rw[J.old bo H.lt];exact am
   have Z:=Q.call I;have N:=H.keep (I.keep.get bo H.lt);have B:=t.trans I;refine⟨by rw[zj];exact(k6.get bo (by omega)).trans e5,?_⟩;refine ORow.app nl (by omega) I.ag Z (by omega) (vs:=[.int .i64 v.items[m].kind,.string v.items[m].text,aK xk,aK xi]) S6 (xP (zr y1 y2)) (by rw[UQ];omega) λs7 h7 aa r7 z7 w7 f7=>⟨s7,rfl,?_⟩;have nb:bo∉bi:=λD=>by have:=(Z.own bo D).1;omega
   have aj:=N.keep (f7 bo N.lt nb);have L7:Later h2 M h7 M5:=⟨⟨by have:=B.keep.size;omega,λj hj=>(f7 j (by omega) λD=>by have:=(Z.own j D).1;have:=L1.keep.size;omega).trans (B.keep.get j hj)⟩,B.le,B.old,λc cs e=>by rw[f7 c (B.ag.lt e) λD=>by have:=(Z.own c D).2.2;rw[this]at e;cases e];exact B.ag c cs e⟩;rw[zj];refine qo nz pn aj (by show 3<4;omega) rfl λh8 O8 z8 f8=>?_;have hw:=qn A (by omega);refine⟨⟨m+1,M5,s7,aa,hw,A,Later.stay L7 x n5 f8 z8,by omega,?_,O8,n5,V.trans I.le⟩,by simp only[hw,Ue];omega⟩;rw[Uh A];exact r7.frame (λc z=>f8 c (by have:=(r7.own c z).1;omega)) (Fr.le.refl _) (λc z=>(r7.own c z).2.2);have af:m=v.items.length:=by have:=eQ z;omega
   subst af;rw[Uz]at Q;have Lf:Later h M g' (MxL M' g' bi):=Y.trans (Later.own t λc z=>by have:=(Q.own c z).1;have:=L1.keep.size;omega);have nR:M' h1.size=Te:=by rw[t.old _ (by omega)];exact ag.none (by omega)
   refine nC Rg H Lf (by omega) ?_ (zr (v:=v) ((rs.mono V).mono (gv t.ag _)) (Q.rd t.ag (λc z=>z) (by omega))) hR;unfold MxL;rw[za λD=>by have:=(Q.own _ D).1;have:=L1.keep.size;omega];exact nR
  have app:∀(p:Addr) (g:zb),Later h2 M g M->∀{K:Value->zb->Prop},(∀(s':Sl) (g':zb) (b:Fr),Later g M g' b->Rd b (.row .str) v.keys [aK s']->K (aK s') g')->XRun Tp (Ug #[22,22] 22 #[.slice (Td p) 0 0,aK sk]) g K:=λp g L K hK=>
   se L.ag (olds:=[]) (news:=v.keys) (n:=0) (p:=p) ⟨_,rfl,_,_,rfl,⟨by simp,by simp⟩,.inl rfl⟩ (rk.mono L.le) (by simp;omega) λs g' b Y r=>hK s g' b Y r
  have l:∀{g:zb} {b:Fr} (j:Nat),Later h2 M g b->j<h2.size->g[j]?=h2[j]?:=λj L hj=>L.keep.get j hj;have P0:Later h2 M h2 M:=Later.refl Y.ag;refine⟨v.kind,B2.cellAdd (o:=0) (k:=0) rfl,v.text,B2.cellAdd (o:=0) (k:=1) rfl,sk,B2.cellAdd (o:=0) (k:=2) rfl,?_⟩;have f:h.size<h2.size:=by omega
  have box:∀{g:zb} {b:Fr},Later h2 M g b->Blk (g.push (.cells #[.int .i64 0,.string ⟨#[]⟩,.slice Te 0 0,.slice Te 0 0] 25)) g.size #[.int .i64 0,.string ⟨#[]⟩,.slice Te 0 0,.slice Te 0 0]/\Later h2 M (g.push (.cells #[.int .i64 0,.string ⟨#[]⟩,.slice Te 0 0,.slice Te 0 0] 25)) b/\b g.size=Te/\h2.size<=g.size:=λ {g b} L=>⟨Blk.new _ _ _,L.trans (Later.push L.ag _),L.ag.none (Uc _),L.keep.size⟩;have row:∀{g:zb} {b:Fr},Later h2 M g b->Later h2 M (g.push (.cells #[] 9)) b:=λ {g b} L=>L.trans (Later.push L.ag _);intro ab ar ae;have E:∀{bo:Nat} {g:zb} {b:Fr} {s:Sl},Later h2 M g b->Rd b (.row .str) v.keys [aK s]->Blk g bo #[.int .i64 0,.string ⟨#[]⟩,.slice Te 0 0,.slice Te 0 0]->h2.size<=bo->b bo=Te->ab ⟨bo,0,Te⟩ s g:=λL rs O x nO=>tail _ _ _ _ L rs O x nO;have U:∀{bo:Nat} {g:zb} (p:Addr),Later h2 M g M->Blk g bo #[.int .i64 0,.string ⟨#[]⟩,.slice Te 0 0,.slice Te 0 0]->h2.size<=bo->ae ⟨bo,0,Te⟩ ⟨Td p,0,0⟩ g:=λ {bo g} p L O x=>app p g L λs g' b t r=>by have B:=L.trans t;have hl:=O.lt;exact⟨s,rfl,l _ B f,l _ B f,E B r (O.keep (t.keep.get bo hl)) x (by rw[t.old bo hl];exact Y.ag.none x)⟩
  refine⟨?_,?_⟩;intro F;have y:Later h2 M F M:=row P0;have an:F.size=h2.size+1:=Ur _;refine⟨l _ y f,l _ y f,l _ y f,app _ F y λs ax b t r=>?_,?_⟩;have G:=y.trans t;obtain⟨b1,b2,b3,b4⟩:=box G;exact⟨s,rfl,l _ G f,l _ G f,E b2 r b1 b4 b3,l _ b2 f,l _ b2 f,E b2 r b1 b4 b3⟩;obtain⟨b1,b2,b3,b4⟩:=box y;exact⟨l _ b2 f,l _ b2 f,l _ b2 f,U _ b2 b1 b4⟩;intro aB;obtain⟨b1,b2,b3,b4⟩:=box P0;refine⟨l _ b2 f,l _ b2 f,l _ b2 f,?_⟩;intro ah;have C:Later h2 M ah M:=row b2;exact⟨l _ C f,l _ C f,l _ C f,U _ C (b1.ofKeep (Keep.push _ _ (Uc _))) b4⟩
termination_by bR v
end
end
section
open Go.RowKit
theorem Ix{gl:Fr}(f:GL gl)(n:Brn gl){v:Tr}{R:Bool->Prop}(o:R Ta):PC Tp gl 3 [Arg.mk .tree v] [.bool] R:=by
 apply Xm;simp only[wn];refine(Iw f n).mono λr c=>?_;have c:r=Ta:=c;subst c;refine Mn (by decide) λb e=>⟨λ_=>o,λu=>?_⟩;have m:b=Ta:=by simpa using u
 obtain⟨x,k⟩:=e m;have w:=EQ v;have s:(Wa v).1.1.length<=1000000:=by omega
 have t:(Wa v).1.2.length<=1000000:=by omega
 refine DW v k (by have:=uW v;omega) (uM f n k (Pd f k ⟨λr=>r=Ta,λ_=>Al (a:=((Wa v).1.1,(Wa v).1.2)) s t λr h=>h.2 rfl,λq l=>?_⟩));have l:q=Ta:=l rfl;subst l;refine⟨λr=>r=Ta,λ_=>Fq _ _ λr h=>h.2 rfl,λp i=>?_⟩;have i:p=Ta:=i (by simp);subst i;simpa using o
end
end Go.X
