/- A part of the proof: nothing is stated here for its own sake. -/
import Derived.Test.YtjohlemfgcmaoaaGreatDoorPuF
open _root_.Array renaming size_push->Aj
open _root_.Bool renaming and_eq_true->Ao,eq_iff_iff->AM
open _root_.Int renaming le_refl->Dz,toNat_natCast->Ag
open _root_.Go.IntKind renaming wrap->Aa
open _root_.List.Pairwise renaming nil->DG
open _root_.List renaming drop_zero->BQ,filter_cons->BP,length_append->Ah,length_cons->Aq,length_map->Ap,mem_append->Aw,mem_cons->Ai,mem_cons_of_mem->Ae,mem_cons_self->Am,mem_map->AJ,mem_singleton->AY,not_mem_nil->CU,pairwise_cons->Be,range_succ->CK,take_length->A5
open _root_.Nat renaming le_refl->Ab,le_trans->BX,lt_or_ge->AX,lt_trichotomy->Di,zero_add->AL,zero_le->AW
open _root_.Prod renaming fst->D3
open _root_.Go.Value renaming int->Bn,string->A3
set_option linter.unusedVariables false
set_option maxRecDepth 100000
namespace Go.X
end Go.X
namespace Go.Proofs
end Go.Proofs
open Go Go.X Go.Proofs
open _root_.Bool renaming true->Ta,false->Tc
open _root_.Option renaming some->Td,none->Te
section
namespace Go.X
open Go Go.X Go.Proofs Go.RowKit
section
variable {h:zb} {M gl:Fr} {b:Nat}
theorem qaa{f:FuncId}{args:Array Value}{g:Bool}(i:g=Ta){Kt:Sl->zb->Prop}(E:XC Tp f args h λv h'=>∃s,v=slV s/\Kt s h'):
  ∃J:Value->zb->Prop,(g=Ta->XC Tp f args h λv h'=>∃s:Sl,v=slV s/\J (slV s) h')/\(g=Tc->∃s:Sl,J (slV s) h)/\(g=Ta->∀v h',J v h'->∃s:Sl,v=slV s)/\∀s:Sl,∀h',J (slV s) h'->Kt s h':=by
 refine⟨λv h'=>∃s,v=slV s/\Kt s h',λ_=>XC.mono E λv h' ⟨s,e,H⟩=>⟨s,e,s,rfl,H⟩,λb=>(by rw[i]at b;cases b),λ_ v h' ⟨s,e,_⟩=>⟨s,e⟩,λs h' ⟨c,e,H⟩=>?_⟩;have:s=c:=by unfold slV at e;injection e with e1 e2 e3;cases s;cases c;simp_all
 subst this;exact H
theorem qmz(k:M b=Te){h:Tr}{w1:List Value}(h1:Rd M .tree h w1)(l:w1.length=4):Rd (Mx M b w1.toArray) (.row .tree) [h] [slV ⟨Td ⟨b,0,Te⟩,1,1⟩]:=by
 have le:Fr.le M (Mx M b w1.toArray):=λc cs e=>by unfold Mx;by_cases f:c=b;subst f;rw[k]at e;cases e;rw[if_neg f];exact e
 refine⟨_,rfl,_,_,rfl,by simp,.inr ⟨b,0,_,rfl,by unfold Mx;rw[if_pos rfl],λi hi=>?_⟩⟩;have hi:i<1:=hi;obtain rfl:i=0:=by omega
 have:cut w1.toArray (0+0*sz .tree) (sz .tree)=w1:=by show List.take 4 (List.drop 0 w1)=w1;rw[BQ,<-l,A5]
 rw[this];exact Rd.mono le h1
theorem qm0(xs:List Int)(e:xs.length<=1000):Rd (Mx M b (xs.map (Bn .i64)).toArray) (.row (.int .i64)) xs [slV ⟨Td ⟨b,0,Te⟩,xs.length,xs.length⟩]:=by
 refine⟨_,rfl,_,_,rfl,⟨by omega,Ab _⟩,.inr ⟨b,0,_,rfl,by unfold Mx;rw[if_pos rfl],λi hi=>?_⟩⟩;show cut (xs.map (Bn .i64)).toArray (0+i*1) 1=[.int .i64 xs[i]];refine zaw rfl λq f=>?_;have c:q=0:=by omega
 subst c;have hi:i<xs.length:=hi;simp[hi]
theorem qn3(xs:List Bt)(e:xs.length<=1000):Rd (Mx M b (xs.map A3).toArray) (.row .str) xs [slV ⟨Td ⟨b,0,Te⟩,xs.length,xs.length⟩]:=by
 refine⟨_,rfl,_,_,rfl,⟨by omega,Ab _⟩,.inr ⟨b,0,_,rfl,by unfold Mx;rw[if_pos rfl],λi hi=>?_⟩⟩;show cut (xs.map A3).toArray (0+i*1) 1=[.string xs[i]];refine zaw rfl λq f=>?_;have c:q=0:=by omega
 subst c;have hi:i<xs.length:=hi;simp[hi]
def sm1:Tr:=.mk 3 (bl [49]) [] []
def sm2:Tr:=.mk 3 (bl [50]) [] []
def smR:Tr:=.mk 5 ⟨#[]⟩ [] [sm2]
def smV:Tr:=.mk 6 ⟨#[]⟩ [⟨#[98]⟩,⟨#[97]⟩] [sm1,smR]
def smS:Tr:=.mk 6 ⟨#[]⟩ [⟨#[97]⟩,⟨#[98]⟩] [smR,sm1]
def zdf:List Bt×List Int:=([⟨#[50]⟩,⟨#[91]⟩,⟨#[107,34,97,34]⟩,⟨#[49]⟩,⟨#[107,34,98,34]⟩,⟨#[123]⟩],[0,0,0,3,3,0])
theorem qhe:jr [⟨#[98]⟩,⟨#[97]⟩]=[⟨#[97]⟩,⟨#[98]⟩]:=by
 rw[Qm (List.Perm.swap (⟨#[97]⟩:Bt) ⟨#[98]⟩ [])];unfold jr;rw[List.mergeSort_of_pairwise];kernel_rfl;refine Be.2 ⟨λy b=>?_,Be.2 ⟨λy b=>(by cases b),DG⟩⟩;have:y=[98]:=by simpa[lb]using b
 subst this;show decide (lb ⟨#[97]⟩<=[98])=Ta;kernel_rfl
theorem zio:zy smV=Ta:=by kernel_rfl
theorem za4:ze smV=smS:=by rw[y9];show(if(6:Int)=6 then Tr.mk 6 ⟨#[]⟩ (jr [⟨#[98]⟩,⟨#[97]⟩]) ((jr [⟨#[98]⟩,⟨#[97]⟩]).map λq=>zg8 (smV.keys.zip (smV.items.map ze)) q)else _)=_;rw[if_pos rfl,qhe];kernel_rfl
theorem zld:J0 smS zdf:=by
 have h:=z9s zio (by rw[za4];exact of_decide_eq_true (by kernel_rfl));rw[za4]at h;have e:unz (Zj smS 0)=zdf:=by kernel_rfl
 rw[e]at h;exact h
theorem qhf:j5 smV=(zdf,0):=by have h:=zld;obtain⟨_,_,c,b⟩:=h;unfold j5;rw[if_pos zio,za4,if_neg (by omega),<-b]
theorem zqv:∀s∈zdf.1,s.size<=65536:=by intro s b;simp only[zdf,Ai,CU,or_false]at b;rcases b with rfl|rfl|rfl|rfl|rfl|rfl <;> exact of_decide_eq_true (by kernel_rfl)
theorem qke{w:Tr}(h:J0 w zdf):w=smS:=by have h1:=(jy h zqv).2.2.2.1;have b:=(jy zld zqv).2.2.2.1;rw[h1]at b;exact congrArg D3 b
theorem qm1(v:Tr)(h:decide (tsz v<=100)=Ta)(b:txB 1048576 v):Sm v:=⟨by have:=of_decide_eq_true h;omega,b⟩
theorem qab:Sm smV:=qm1 _ (by kernel_rfl) (by simp only[smV,sm1,smR,sm2,txB,zo7,and_true];refine⟨⟨of_decide_eq_true (by kernel_rfl),of_decide_eq_true (by kernel_rfl),λk b=>?_⟩,⟨of_decide_eq_true (by kernel_rfl),of_decide_eq_true (by kernel_rfl),λk b=>(by cases b)⟩,⟨of_decide_eq_true (by kernel_rfl),of_decide_eq_true (by kernel_rfl),λk b=>(by cases b)⟩,⟨of_decide_eq_true (by kernel_rfl),of_decide_eq_true (by kernel_rfl),λk b=>(by cases b)⟩⟩;simp only[Ai,CU,or_false]at b;rcases b with rfl|rfl <;> exact of_decide_eq_true (by kernel_rfl))
theorem qkf:Sm smS:=by have:=zkw qab;rw[zgi zio,za4]at this;exact this
theorem qm2:bl (qm (zj (Lib.itoa 1)).1)=bl [49]:=by kernel_rfl
theorem qm3:bl (qm (zj (Lib.itoa 2)).1)=bl [50]:=by kernel_rfl
structure C15 (gl:Fr) (bv bt bw bx:Nat) (vk vi t1 t2 w1 w2 xk xi:Sl) (h:zb) (M:Fr):Prop where
 hM:Fr.le gl M
 ag:AgM M h
 V:Blk h bv #[.int .i64 6,.string ⟨#[]⟩,slV vk,slV vi]
 rV:RdV M .tree smV (.agg #[.int .i64 6,.string ⟨#[]⟩,slV vk,slV vi])
 T:Blk h bt #[slV t1,slV t2]
 rT1:Rd M (.row .str) zdf.1 [slV t1]
 rT2:Rd M (.row (.int .i64)) zdf.2 [slV t2]
 W:Blk h bw #[slV w1,slV w2]
 rW1:Rd M (.row .str) zdf.1 [slV w1]
 rW2:Rd M (.row (.int .i64)) zdf.2 [slV w2]
 X:Blk h bx #[.int .i64 6,.string ⟨#[]⟩,slV xk,slV xi]
 rX:RdV M .tree smS (.agg #[.int .i64 6,.string ⟨#[]⟩,slV xk,slV xi])
theorem C15.later{bv bt bw i:Nat}{f b e l w1 k xk xi:Sl}(c:C15 gl bv bt bw i f b e l w1 k xk xi h M){h':zb}{M':Fr}(L:Later h M h' M'):C15 gl bv bt bw i f b e l w1 k xk xi h' M':= ⟨c.hM.trans L.le,L.ag,c.V.keep (L.keep.get _ c.V.lt),c.rV.mono L.le,c.T.keep (L.keep.get _ c.T.lt),c.rT1.mono L.le,c.rT2.mono L.le,c.W.keep (L.keep.get _ c.W.lt),c.rW1.mono L.le,c.rW2.mono L.le,c.X.keep (L.keep.get _ c.X.lt),c.rX.mono L.le⟩
theorem qkg{r:List Int}{w:Value}(h:Y3 M [.row (.int .i64)] r w):∃s:Sl,w=slV s/\Rd M (.row (.int .i64)) r [slV s]:=z4m (Xl.1 h)
set_option maxRecDepth 100000 in
set_option maxHeartbeats 4000000 in
theorem znx(hg:GL gl)(hb:Brn gl):PC Tp gl 38 [] [.bool] (λr=>r=Ta):=by
 intro h M vs hM ag ha
 match vs,ha with
 |[],_=>
 apply PX.of;apply zdc;intro h1;have L1:Later h M h1 (Mx M h.size #[.string ⟨#[98]⟩,.string ⟨#[97]⟩]):=Later.frz ag _ _;have rK:Rd (Mx M h.size #[.string ⟨#[98]⟩,.string ⟨#[97]⟩]) (.row .str) [⟨#[98]⟩,⟨#[97]⟩] [slV ⟨Td ⟨h.size,0,Te⟩,2,2⟩]:=qmu;clear_value h1;generalize Mx M h.size #[.string ⟨#[98]⟩,.string ⟨#[97]⟩]=M1 at L1 rK;refine(qdm hg (n:=1) (by decide) (by decide) (R:=λr=>r=sm1) (by rw[qm2];rfl)).go (hM.trans L1.le) L1.ag (qb (a:=Arg.mk (.int .i64) 1) (Jn _ _) qq) λw h3 M3 r L3 e f=>?_;subst f;have r1:=Xl.1 e;obtain⟨ak,ai,rfl,_,_⟩:=yz r1;refine⟨_,_,ak,ai,rfl,?_⟩;refine(qdm hg (n:=2) (by decide) (by decide) (R:=λr=>r=sm2) (by rw[qm3];rfl)).go (hM.trans (L1.le.trans L3.le)) L3.ag (qb (a:=Arg.mk (.int .i64) 2) (Jn _ _) qq) λw h9 M9 r L9 e f=>?_;subst f;have r2:=Xl.1 e;obtain⟨bk,bi,rfl,_,_⟩:=yz r2;refine⟨_,_,bk,bi,rfl,?_⟩;intro aP;have H:Later h9 M9 aP (Mx M9 h9.size #[.int .i64 sm2.kind,.string sm2.text,slV bk,slV bi]):=Later.frz L9.ag _ _;have aF:Rd (Mx M9 h9.size #[.int .i64 sm2.kind,.string sm2.text,slV bk,slV bi]) (.row .tree) [sm2] [slV ⟨Td ⟨h9.size,0,Te⟩,1,1⟩]:=qmz (w1:=[_,_,_,_]) (L9.ag.none (Ab _)) (zwk r2) rfl;clear_value aP;generalize Mx M9 h9.size #[.int .i64 sm2.kind,.string sm2.text,slV bk,slV bi]=M14 at H aF;have ab:=L1.trans (L3.trans (L9.trans H));refine(qiz (gl:=gl) (l:=[sm2]) (R:=λr=>r=smR) rfl).go (hM.trans ab.le) H.ag (qb (a:=Arg.mk (.row .tree) _) ((zfs rfl).2 aF) qq) λw J I r N e f=>?_;subst f;have r3:=Xl.1 e;obtain⟨ck,ci,rfl,_,_⟩:=yz r3;refine⟨_,_,ck,ci,rfl,?_⟩;intro aE;have a8:RdV I .tree sm1 (trV sm1.kind sm1.text ak ai):=r1.mono (L9.le.trans (H.le.trans N.le));have Q:Later J I aE (Mx I J.size ([.int .i64 sm1.kind,.string sm1.text,slV ak,slV ai]++[.int .i64 smR.kind,.string smR.text,slV ck,slV ci]).toArray):=Later.frz N.ag _ _;have rI:Rd (Mx I J.size ([.int .i64 sm1.kind,.string sm1.text,slV ak,slV ai]++[.int .i64 smR.kind,.string smR.text,slV ck,slV ci]).toArray) (.row .tree) [sm1,smR] [slV ⟨Td ⟨J.size,0,Te⟩,2,2⟩]:=qmt (N.ag.none (Ab _)) (zwk a8) (zwk r3) rfl rfl;clear_value aE;generalize Mx I J.size ([.int .i64 sm1.kind,.string sm1.text,slV ak,slV ai]++[.int .i64 smR.kind,.string smR.text,slV ck,slV ci]).toArray=M21 at Q rI;have aa:=ab.trans (N.trans Q);have be:=rK.mono (L3.le.trans (L9.le.trans (H.le.trans (N.le.trans Q.le))));refine(qi0 (gl:=gl) (ks:=[⟨#[98]⟩,⟨#[97]⟩]) (l:=[sm1,smR]) (R:=λr=>r=smV) rfl).go (hM.trans aa.le) Q.ag (qb (a:=Arg.mk (.row .str) _) ((zfs rfl).2 be) (qb (a:=Arg.mk (.row .tree) _) ((zfs rfl).2 rI) qq)) λw aU aV r aH e f=>?_;subst f;have rV:=Xl.1 e;obtain⟨vk,vi,rfl,_,_⟩:=yz rV;refine⟨_,_,vk,vi,rfl,?_⟩;intro bM;refine Zb aH.ag λbg az bI aM=>?_;refine⟨_,_,vk,vi,aM.ld (cs:=[_,_,slV vk,slV vi]),?_⟩;have aj:=aa.trans (aH.trans az);refine(zqo hg hb qab (R:=λr=>r=(zdf,0)) qhf).go (hM.trans aj.le) az.ag (qb (a:=Arg.mk .tree smV) rV qq) λw y u r C e f=>?_;subst f;obtain⟨A,L,rfl,rT1,rT2⟩:=qed e;refine⟨A,L,_,rfl,?_⟩;intro Y;have bn:Keep y.size y Y:=Keep.push _ _ (Ab _);have bL:Y.size=y.size+1:=Aj _;have aT:Blk Y y.size #[.slice Te 0 0,.slice Te 0 0]:=Blk.new _ _ _;clear_value Y;refine zqn aT λo bm a7 aY=>?_;have x:Later y u o u:=Later.stay (Later.same C.ag bn) (Ab _) (C.ag.none (Ab _)) bm a7;intro m;have ay:Later o u m (Mx u o.size (zdf.1.map A3).toArray):=Later.frz x.ag _ _;have rW1:Rd (Mx u o.size (zdf.1.map A3).toArray) (.row .str) zdf.1 [slV ⟨Td ⟨o.size,0,Te⟩,6,6⟩]:=qn3 zdf.1 (of_decide_eq_true (by kernel_rfl));have bD:m.size=o.size+1:=Aj _;clear_value m;generalize Mx u o.size (zdf.1.map A3).toArray=M41 at ay rW1;intro p;have E:Later m M41 p (Mx M41 m.size (zdf.2.map (Bn .i64)).toArray):=Later.frz ay.ag _ _;have rW2:Rd (Mx M41 m.size (zdf.2.map (Bn .i64)).toArray) (.row (.int .i64)) zdf.2 [slV ⟨Td ⟨m.size,0,Te⟩,6,6⟩]:=qm0 zdf.2 (of_decide_eq_true (by kernel_rfl));have bC:p.size=m.size+1:=Aj _;clear_value p;generalize Mx M41 m.size (zdf.2.map (Bn .i64)).toArray=M42 at E rW2;intro O;have a6:Keep p.size p O:=Keep.push _ _ (Ab _);have bG:O.size=p.size+1:=Aj _;have bj:Blk O p.size #[.slice Te 0 0,.slice Te 0 0]:=Blk.new _ _ _;clear_value O;refine zqn (s1:=⟨Td ⟨o.size,0,Te⟩,6,6⟩) (s2:=⟨Td ⟨m.size,0,Te⟩,6,6⟩) bj λS aS ba bq=>?_;have U:Later p M42 S M42:=Later.stay (Later.same E.ag a6) (Ab _) (E.ag.none (Ab _)) aS ba;have i:Later o u S M42:=ay.trans (E.trans U);have aG:Blk S y.size #[slV A,slV L]:=aY.keep (i.keep.get _ (by omega));refine⟨A,L,aG.ld (cs:=[slV A,slV L]),?_⟩;have ah:=aj.trans (C.trans (x.trans i));refine(znw hg hb (t:=zdf) zqv (R:=λr=>r=(smS,Ta)) (λw hw=>by rw[qke hw]) (λhn=>absurd zld (hn _))).go (hM.trans ah.le) U.ag (qb (a:=Arg.mk (.pair (.row .str) (.row (.int .i64))) zdf) (Y8 (rT1.mono (x.le.trans i.le)) (rT2.mono (x.le.trans i.le))) qq) λw aZ aA r P e f=>?_;subst f;obtain⟨xk,xi,rfl,rX⟩:=z1t e;refine⟨_,_,xk,xi,_,rfl,?_⟩;intro bF;refine Zb P.ag λan Z bA a1=>?_;have am:=ah.trans (P.trans Z);have G:Later bg aV an aA:=C.trans (x.trans (i.trans (P.trans Z)));have k:Later S M42 an aA:=P.trans Z;have bN:=C.keep.size;have c:C15 gl aU.size y.size p.size aZ.size vk vi A L ⟨Td ⟨o.size,0,Te⟩,6,6⟩ ⟨Td ⟨m.size,0,Te⟩,6,6⟩ xk xi an aA:= ⟨hM.trans am.le,Z.ag,aM.keep (G.keep.get _ (by omega)),rV.mono (az.le.trans G.le),aG.keep (k.keep.get _ (by omega)),rT1.mono (x.le.trans (i.le.trans k.le)),rT2.mono (x.le.trans (i.le.trans k.le)),bq.keep (k.keep.get _ (by omega)),rW1.mono (E.le.trans (U.le.trans k.le)),rW2.mono (U.le.trans k.le),a1,rX⟩;refine⟨A,L,λ_=>c.T.ld (cs:=[slV A,slV L]),_,_,λ_=>c.W.ld (cs:=[slV _,slV _]),?_⟩;refine zyu rfl ?_;refine(zuh (gl:=gl) (a:=zdf) (b:=zdf) (of_decide_eq_true (by kernel_rfl)) (of_decide_eq_true (by kernel_rfl)) (R:=λr=>r=Ta) λr f=>f.2 rfl).go c.hM c.ag (qb (a:=Arg.mk (.pair (.row .str) (.row (.int .i64))) zdf) (Y8 c.rT1 c.rT2) (qb (a:=Arg.mk (.pair (.row .str) (.row (.int .i64))) zdf) (Y8 c.rW1 c.rW2) qq)) λw bJ bH r aO e f=>⟨r,zib e,?_⟩;have f:r=Ta:=f;subst f;have c:=c.later aO;have aN:=am.trans aO;refine⟨_,_,vk,vi,λ_=>c.V.ld (cs:=[_,_,slV vk,slV vi]),_,_,xk,xi,λ_=>c.X.ld (cs:=[_,_,slV xk,slV xi]),?_⟩;refine zyu rfl ?_;refine(zwx (gl:=gl) hg qab qkf (R:=λr=>r=Ta) (by have e1:Zf smV=Ta:=jw zio;have e2:Zf smS=Ta:=jw zld.1;rw[e1,e2,zde.2 (by rw[za4,zld.2.1])];rfl)).go c.hM c.ag (qb (a:=Arg.mk .tree smV) c.rV (qb (a:=Arg.mk .tree smS) c.rX qq)) λw bB bE r aC e f=>⟨r,zib e,?_⟩;have f:r=Ta:=f;subst f;have c:=c.later aC;have aL:=aN.trans aC;refine⟨A,L,λ_=>c.T.ld (cs:=[slV A,slV L]),?_⟩;refine qaa rfl ?_;refine(zlc (gl:=gl) (t:=zdf) (R:=λr=>r=[4,5]) (by kernel_rfl)).go c.hM c.ag (qb (a:=Arg.mk (.pair (.row .str) (.row (.int .i64))) zdf) (Y8 c.rT1 c.rT2) qq) λw z aQ r ar e f=>?_;subst f;obtain⟨sr,rfl,rR⟩:=qkg e;refine⟨sr,rfl,?_⟩;have c:=c.later ar;have aI:=aL.trans ar;have F:Later z aQ (z.push (.cells ([4,5].map (Bn .i64)).toArray 3)) (Mx aQ z.size ([4,5].map (Bn .i64)).toArray):=Later.frz ar.ag _ _;refine qj1 (s:=⟨Td ⟨z.size,0,Te⟩,2,2⟩) (h1:=z.push (.cells ([4,5].map (Bn .i64)).toArray 3)) rfl ?_;have c:=c.later F;have ap:=aI.trans F;refine zyu rfl ?_;refine(z9i (gl:=gl) (a:=[4,5]) (b:=[4,5]) (by simp) (R:=λr=>r=Ta) λr f=>f.2 rfl).go c.hM c.ag (qb (a:=Arg.mk (.row (.int .i64)) [4,5]) ((zfs rfl).2 (rR.mono F.le)) (qb (a:=Arg.mk (.row (.int .i64)) [4,5]) ((zfs rfl).2 (qm0 [4,5] (by simp))) qq)) λw bz br r ae e f=>⟨r,zib e,?_⟩;have f:r=Ta:=f;subst f;have c:=c.later ae;have au:=ap.trans ae;refine⟨A,L,λ_=>c.T.ld (cs:=[slV A,slV L]),?_⟩;refine qaa rfl ?_;refine(zzd (gl:=gl) (t:=zdf) (R:=λr=>r=[5]) (by kernel_rfl)).go c.hM c.ag (qb (a:=Arg.mk (.pair (.row .str) (.row (.int .i64))) zdf) (Y8 c.rT1 c.rT2) qq) λw q af r B e f=>?_;subst f;obtain⟨sq,rfl,rQ⟩:=qkg e;refine⟨sq,rfl,?_⟩;have c:=c.later B;have ax:=au.trans B;have D:Later q af (q.push (.cells ([5].map (Bn .i64)).toArray 3)) (Mx af q.size ([5].map (Bn .i64)).toArray):=Later.frz B.ag _ _;refine qj1 (s:=⟨Td ⟨q.size,0,Te⟩,1,1⟩) (h1:=q.push (.cells ([5].map (Bn .i64)).toArray 3)) rfl ?_;have c:=c.later D;refine zyu rfl ?_;refine(z9i (gl:=gl) (a:=[5]) (b:=[5]) (by simp) (R:=λr=>r=Ta) λr f=>f.2 rfl).go c.hM c.ag (qb (a:=Arg.mk (.row (.int .i64)) [5]) ((zfs rfl).2 (rQ.mono D.le)) (qb (a:=Arg.mk (.row (.int .i64)) [5]) ((zfs rfl).2 (qm0 [5] (by simp))) qq)) λw bu aB r aJ e f=>⟨r,zib e,?_⟩;have f:r=Ta:=f;subst f;exact⟨aB,Ta,ax.trans (D.trans aJ),Xl.2 (rdBool _),rfl⟩
end
end Go.X
end
section
namespace Go.X
open Go Go.Lib
section
variable {w:Tr}
theorem qac(h:txS w):(zqb w).size<=65536:=by have c:=((z5v w).1 h).1.1;unfold zqb;split;rw[zf];simp;split;rw[zf];simp;rename_i f e;rw[zf,Yc];have b:=zeu (lb w.text);rw[zbz]at b;split;simp;split;omega;rw[zbz];omega
theorem qad{k:Bt}(h:k.size<=1024):(zuq k).size<=65536:=by unfold zuq;have b:=zeu (lb k);rw[zbz]at b;rw[zf,Aq];omega
mutual
theorem zgl:∀(w:Tr) (b:Nat),txS w->(w.keys.length=w.items.length\/w.kind≠6)->Qt okV w=Ta->∀p∈Zj w b,p.1.size<=65536
 |.mk k s ks xs,b,h,e,ok,p,c=>by have f:=h;rw[txS]at f;rw[Zj,Aw,AY]at c;rcases c with c|rfl;rw[Qt,Ao]at ok;by_cases i:k=6;rw[if_pos i]at c;refine znz xs ks b f.2 (λq m=>f.1.2 q m) ?_ ok.2 p c;rcases e with e|e;exact e;exact absurd i e;rw[if_neg i]at c;by_cases l:k=5;rw[if_pos l]at c;exact zny xs b f.2 ok.2 p c;rw[if_neg l]at c;cases c;exact qac h
theorem zny:∀(l:List Tr) (b:Nat),z1y l->Xq okV l=Ta->∀p∈za0 l b,p.1.size<=65536
 |[],_,_,_,p,c=>by rw[za0]at c;cases c
 |x::l,b,h,ok,p,c=>by rw[z1y]at h;rw[Xq,Ao]at ok;rw[za0,Aw]at c;have o:=Ya ok.1;rcases c with c|c;refine zgl x b h.1 ?_ ok.1 p c;by_cases e:x.kind=6;unfold okV at o;rw[Ao]at o;exact .inl (Qo o.2 e).2;exact .inr e;exact zny l _ h.2 ok.2 p c
theorem znz:∀(l:List Tr) (ks:List Bt) (b:Nat),z1y l->(∀q∈ks,q.size<=1024)->ks.length=l.length->Xq okV l=Ta->∀p∈Y0 l ks b,p.1.size<=65536
 |[],_,_,_,_,_,_,p,c=>by rw[Y0]at c;cases c
 |x::l,[],b,h,hk,hl,ok,p,c=>by simp at hl
 |x::l,k::ks,b,h,hk,hl,ok,p,c=>by rw[z1y]at h;rw[Xq,Ao]at ok;rw[Y0,Aw,Ai]at c;have o:=Ya ok.1;rcases c with c|rfl|c;refine zgl x b h.1 ?_ ok.1 p c;by_cases e:x.kind=6;unfold okV at o;rw[Ao]at o;exact .inl (Qo o.2 e).2;exact .inr e;exact qad (hk k Am);exact znz l ks _ h.2 (λq f=>hk q (Ae _ f)) (by simpa using hl) ok.2 p c
end
theorem zn0:∀(n:Nat) (v:Tr),tsz v<=n->Qt zn v=Ta->txS v->txS (ze v)
 |0,v,h,_,_=>by have:=Q6 v;omega
 |n+1,v,hz,hok,h=>by have S:=zt0 (Ya hok);rw[z5v]at h ⊢;refine⟨⟨by rw[S.t];exact h.1.1,λk c=>h.1.2 k (S.kp.mem_iff.1 c)⟩,zie.2 λx e=>?_⟩;obtain⟨y,b,rfl⟩:=AJ.1 (S.ip.mem_iff.1 e);exact zn0 n y (by have:=yj b;omega) (Jw hok b) (zie.1 h.2 y b)
theorem zun{v:Tr}(c:zy v=Ta)(h:txS v):∀s∈(unz (Zj (ze v) 0)).1,s.size<=65536:=by
 intro s i;obtain⟨p,f,rfl⟩:=AJ.1 i;have b:zy (ze v)=Ta:=by rw[zaz (jw c)];exact c
 have ok:=(zla b).1;have o:=Ya ok;refine zgl (ze v) 0 (zn0 _ v (Ab _) (zla c).2 h) ?_ ok p f;by_cases e:(ze v).kind=6;unfold okV at o;rw[Ao]at o;exact .inl (Qo o.2 e).2;exact .inr e
theorem zzl{w w':Tr}{t:List Bt×List Int}(h:J0 w t)(h':J0 w' t)(b:∀s∈t.1,s.size<=65536):w=w':=by have h1:=(jy h b).2.2.2.1;rw[(jy h' b).2.2.2.1]at h1;exact(congrArg D3 h1).symm
theorem qae{t:List Bt×List Int}(h:J0 w t):Yl t.2 t.2.length=[t.2.length-1]/\0<t.2.length:=by
 obtain⟨h1,q,r,rfl⟩:=h;have k:=Za w 0;have f:=Y1 w;have l:(unz (Zj w 0)).2.length=ji w:=by unfold unz;rw[Ap,k]
 obtain⟨m,o,c,n⟩:=Xi (z9j (X:=Zj w 0));rw[AL]at c;rw[l];refine⟨zgh (zk1 _ _) (by simp) λi=>?_,f⟩;rw[zil,AY];constructor;rintro⟨a,b⟩;rcases qz (unz (Zj w 0)).2 (ji w) i with⟨_,e⟩|⟨p,e,_⟩;by_cases hi:i<ji w-1;have:=e (ji w-1) hi (by omega);rw[c]at this;omega;omega;omega;rintro rfl;refine⟨by omega,?_⟩;have:=zk0 (unz (Zj w 0)).2 (ji w-1);rwa[show ji w-1+1=ji w by omega]at this
end
end Go.X
end
section
namespace Go.X
open Go Go.X Go.Proofs Go.RowKit
section
variable {gl:Fr} {R:Bool -> Prop} {v:Tr}
theorem zn1(L:List Int)(n:Nat):(zk5 L (n+1)).length=(zk5 L n).length+(if lfN L n=(n:Int)then 1 else 0):=by unfold zk5;rw[CK,List.filter_append,Ah];congr 1;by_cases h:lfN L n=(n:Int);rw[if_pos h,BP,if_pos (decide_eq_true h)];rfl;rw[if_neg h,BP,if_neg (by rw[decide_eq_true_eq];exact h)];rfl
theorem qc2(L:List Int)(n:Nat):(zk5 L n).length<=n:=by unfold zk5;exact BX (List.length_filter_le _ _) (by simp)
set_option maxHeartbeats 1000000 in
theorem zwy(Z:GL gl)(hb:Brn gl){t:List Bt×List Int}(P:R Ta):PC Tp gl 11 [Arg.mk (.pair (.row .str) (.row (.int .i64))) t] [.bool] R:=by
 apply Xz;refine(znx Z hb).mono λr B=>?_;have B:r=Ta:=B;subst B;refine qct (t:=t) (most:=300) (by decide) λb Y=>⟨λr=>r=yb t,λ_=>zgj (t:=t) rfl,λL w=>⟨λ_=>P,λz=>?_⟩⟩;obtain⟨c1,c2⟩:=qhl.1 z;have G:b=Ta:=by simpa using c1
 subst G;have w:=w rfl;have u:yb t=Ta:=by rw[<-w];simpa using c2
 obtain⟨q1,q2,A⟩:=za3 u;refine znt (t:=t) ?_;rw[if_pos u];refine⟨λh=>?_,λ_=>?_⟩;rw[wj,q1]at h;simp at h;have F:=wj t.2;have q:∀{i:Nat},i<t.2.length->(0:Int)<=(i:Int)/\(zbv t.2)[((i:Nat):Int).toNat]?=Td (Y9 t.2 t.2.length i):=λ {i} hi=>⟨by omega,by rw[Ag];exact zim hi⟩;refine⟨λl n=>∃m:Nat,n=m/\m<=t.2.length/\l=((zk5 t.2 m).length:Int),λ_ n=>t.2.length-n.toNat,⟨0,rfl,AW _,rfl⟩,?_⟩;rintro l n ⟨m,rfl,hm,rfl⟩;rw[F];refine⟨λz=>?_,λz=>?_⟩;have c:m<t.2.length:=by have:=ltT z;omega
 obtain⟨o1,o2,_⟩:=jj.1 (Zc.1 A m c);obtain⟨a0,y⟩:∃a:Nat,lfN t.2 m=(a:Int):=⟨(lfN t.2 m).toNat,by omega⟩;refine⟨lfN t.2 m,qj7 c,lfN t.2 m,qj7 c,λa i=>∃x k:Nat,a=x/\i=k/\x<=k/\k<=m/\lfN t.2 m<=(x:Int)/\(lfN t.2 m=(x:Int)\/(0<x/\Y9 t.2 t.2.length (x-1)=(m:Int)))/\∀j,x<=j->j<k->Y9 t.2 t.2.length j≠(m:Int),λ_ i=>m-i.toNat,⟨a0,a0,y,y,Ab _,by omega,by omega,.inl y,λj h1 h2=>by omega⟩,?_⟩;rintro a i ⟨x,k,rfl,rfl,h1,h2,H,w,D⟩;refine⟨λo=>?_,λo=>?_⟩;have o:k<m:=by have:=ltT o;omega
 rw[jc o (by omega)];refine⟨Y9 t.2 t.2.length k,q (by omega),λf=>?_,λf=>?_⟩;have f:Y9 t.2 t.2.length k≠(m:Int):=by simpa using f
 refine⟨⟨x,k+1,rfl,rfl,by omega,by omega,H,w,λj M V=>?_⟩,by simp only[Ag];omega⟩;by_cases e:j=k;subst e;exact f;exact D j M (by omega);have f:Y9 t.2 t.2.length k=(m:Int):=by simpa using f
 obtain⟨r,J,N,C,L,r5⟩:=zzb A c H (by omega) w;have I:r=k:=by rcases Di r k with h|h|h;exact absurd C (D r J h);exact h;exact absurd f (r5 k h1 h)
 subst I;refine⟨lfN t.2 r,qj7 (by omega),λh=>?_,λ_=>?_⟩;rw[L]at h;simp at h;exact⟨⟨r+1,r+1,rfl,rfl,Ab _,by omega,by omega,.inr ⟨by omega,f⟩,λj M V=>by omega⟩,by simp only[Ag];omega⟩;have o:k=m:=by have:=ltF o;omega
 subst o;have U:x=k:=by rcases AX x k with h|h;obtain⟨r,J,N,C,_⟩:=zzb A c H h w;exact absurd C (D r J N);omega
 subst U;refine⟨Y9 t.2 t.2.length x,λ_=>q c,Y9 t.2 t.2.length x,λ_=>q c,λh=>?_,λ_=>⟨lfN t.2 x,qj7 c,λh=>?_,λh=>?_⟩⟩;exfalso;rcases qmw.1 h with h|h;simp at h;obtain⟨Q,O⟩:=qk3.1 h;have Q:=of_decide_eq_true Q;have O:=of_decide_eq_true O;rcases qz t.2 t.2.length x with⟨e,_⟩|⟨p,e,p1,_⟩;omega;omega;have h:lfN t.2 x=(x:Int):=by simpa using h
 have aa:=qc2 t.2 x;rw[jc c (by omega),w64 (by omega)];refine⟨⟨x+1,rfl,c,?_⟩,by simp only[Ag];omega⟩;rw[zn1,if_pos h];omega;have h:¬lfN t.2 x=(x:Int):=by simpa using h
 rw[jc c (by omega)];refine⟨⟨x+1,rfl,c,?_⟩,by simp only[Ag];omega⟩;rw[zn1,if_neg h];omega;have E:m=t.2.length:=by have:=ltF z;omega
 subst E;refine⟨λr=>r=(z1o t.2).map (λi:Nat=>(i:Int)),λ_=>zlc (t:=t) (by rw[if_pos u]),λS s=>?_⟩;have s:=s rfl;subst s;refine(congrArg R (Eq.symm ?_)).mp P;rw[Ap,qcs A,beq_self_eq_true];rfl
theorem qaf{m:Int}(i:0<=m/\m<=1000)(h:∀b,(b=Ta->tks v<=m/\txS v/\Sm v)->R b):PC Tp gl 32 [Arg.mk .tree v,Arg.mk (.int .i64) m] [.bool] R:=by
 apply zft;rw[zam];refine qdl v m 0 i (by omega) λr h1 k f=>⟨λb=>b=Ta->txS v,λ_=>zx8 v λb c=>c,λb c=>h _ λe=>?_⟩;cases hr:decide (r>=0)with
 |false=>rw[hr]at e;cases e
 |true=>
  rw[hr,cond_true]at e;have h0:0<=r:=by simp at hr;omega
  have:=f h0;exact⟨by omega,c hr e,Sm.few (by omega) (c hr e)⟩
theorem zle{t:List Bt×List Int}(h:j5 v=(t,0)):zy v=Ta/\t=unz (Zj (ze v) 0):=by unfold j5 at h;split at h;rename_i b;split at h;have:=congrArg Prod.snd h;exact absurd this (show¬(6:Int)=0 by decide);exact⟨b,(congrArg D3 h).symm⟩;have:=congrArg Prod.snd h;exact absurd this (show¬(1:Int)=0 by decide)
set_option maxHeartbeats 1000000 in
theorem zuo(o:GL gl)(z:Brn gl){v w:Tr}(H:R Ta):PC Tp gl 10 [Arg.mk .tree v,Arg.mk .tree w] [.bool] R:=by
 apply Xf;simp only[zam];refine(znx o z).mono λr u=>?_;have u:r=Ta:=u;subst u;refine qaf (by decide) λb N=>⟨λb3=>b3=Ta->txS w/\Sm w,λ_=>qaf (by decide) λb3 h3 h=>(h3 h).2,λb4 Z=>⟨λ_=>H,λC=>?_⟩⟩;have B:b=Ta/\b4=Ta:=by cases b <;> cases b4 <;> simp at C ⊢
 obtain⟨rfl,rfl⟩:=B;obtain⟨_,P,sv⟩:=N rfl;obtain⟨tw,O⟩:=Z rfl rfl;refine zqo o z sv (zqo o z O ?_);intro V J;have i:V:=J (by
  refine⟨λ_=>H,λC=>?_⟩;obtain⟨M,D⟩:=qhl.1 C;have M:(j5 v).2=0:=by simpa using M
  have D:(j5 w).2=0:=by simpa using D
  have q:j5 v=((j5 v).1,0):=Prod.ext rfl M;have U:j5 w=((j5 w).1,0):=Prod.ext rfl D;obtain⟨p,A⟩:=zle q;obtain⟨Y,u2⟩:=zle U;have l1:=zul v;refine⟨λr=>(r=Ta↔(j5 v).1=(j5 w).1),λ_=>zuh (a:=(j5 v).1) (b:=(j5 w).1) (by omega) (by omega) λr u=>u,λy m=>⟨λr=>r=znv v w,λ_=>zwx o sv O (by rw[jw p,jw Y];rfl),λaa k=>?_⟩⟩;have m:y=Ta↔(j5 v).1=(j5 w).1:=m rfl;have k:=k rfl;subst k;have:y=znv v w:=by rw[AM,m,zde];constructor;intro e;have f:=ze2 q;have S:=ze2 U;rw[<-e]at S;exact zzl f S (by rw[A];exact zun p P);intro e;rw[A,u2,e]
  refine(congrArg R (Eq.symm ?_)).mp H;rw[this];simp)
 refine⟨λI=>?_,λ_=>i⟩;have I:(j5 v).2=0:=by simpa using I
 have q:j5 v=((j5 v).1,0):=Prod.ext rfl I;obtain⟨p,A⟩:=zle q;have f:=ze2 q;have L:∀s∈(j5 v).1.1,s.size<=65536:=by rw[A];exact zun p P
 obtain⟨n,Q,_,_,_⟩:=jy f L;obtain⟨q1,q2,q3⟩:=za3 n;obtain⟨l,_⟩:=qae f;refine zzd (t:=(j5 v).1) ?_;rw[if_pos n,l];refine znw o z (t:=(j5 v).1) L (λx hx=>?_) (λhn=>absurd f (hn _));have G:x=ze v:=zzl hx f L;subst G;refine zgj (t:=(j5 v).1) ?_;rw[n];have F:Aa .i64 (((j5 v).1.1.length:Int)-1)=(((j5 v).1.2.length-1:Nat):Int):=by rw[w64 (by omega)];omega
 refine⟨(((j5 v).1.2.length-1:Nat):Int),λ_=>⟨Dz _,rfl⟩,λr=>r=Ta,λ_=>zwx o (by
   have:=zkw sv;rw[zgi p]at this;exact this) sv (by
   show(Zf (ze v)&&(Zf v&&znv (ze v) v))=Ta;rw[jw f.1,jw p,zde.2 f.2.1];rfl),λE c=>?_⟩
 rw[F]at c ⊢;have c:E=Ta:=c (by simp);subst c;refine⟨λh=>?_,λ_=>i⟩;simp at h
end
end Go.X
end
