/- A part of the proof: nothing is stated here for its own sake. -/
import Derived.Test.YtjohlemfgcmaoaaGreatDoorPrF
open _root_.Array renaming size_push->Aj
open _root_.Int renaming toNat_natCast->Ai
open _root_.Go.IntKind renaming wrap->Aa
open _root_.List.Pairwise renaming nil->Ed
open _root_.List renaming cons_append->AD,drop_zero->BZ,getElem_mem->AE,length_map->Ao,mem_cons->Ah,nil_append->A5,not_mem_nil->Dg,pairwise_cons->Be,take_append_drop->Cb,take_length->A3
open _root_.Nat renaming add_assoc->CP,le_refl->Ab,zero_add->AI,zero_le->AX
open _root_.Go.Value renaming int->Bm,string->AZ
set_option linter.unusedVariables false
set_option maxRecDepth 100000
namespace Go.X
end Go.X
namespace Go.Proofs
end Go.Proofs
open Go Go.X Go.Proofs
open _root_.Bool renaming true->Ta,false->Tc
open _root_.Option renaming some->Td,none->Te
section
namespace Go.X
open Go Go.X Go.Proofs Go.RowKit
section
variable {h:zb} {M gl:Fr} {b:Nat}
theorem z9c{f:FuncId}{args:Array Value}{g:Bool}(i:g=Ta){Kt:Sl->zb->Prop}(E:XC Tp f args h λv h'=>∃s,v=slV s/\Kt s h'):
  ∃J:Value->zb->Prop,(g=Ta->XC Tp f args h λv h'=>∃s:Sl,v=slV s/\J (slV s) h')/\(g=Tc->∃s:Sl,J (slV s) h)/\(g=Ta->∀v h',J v h'->∃s:Sl,v=slV s)/\∀s:Sl,∀h',J (slV s) h'->Kt s h':=by
 refine⟨λv h'=>∃s,v=slV s/\Kt s h',λ_=>XC.mono E λv h' ⟨s,e,H⟩=>⟨s,e,s,rfl,H⟩,λc=>(by rw[i]at c;cases c),λ_ v h' ⟨s,e,_⟩=>⟨s,e⟩,λs h' ⟨b,e,H⟩=>?_⟩;have:s=b:=by unfold slV at e;injection e with e1 e2 e3;cases s;cases b;simp_all
 subst this;exact H
theorem ql3(l:M b=Te){h:Tr}{w1:List Value}(h1:Rd M .tree h w1)(k:w1.length=4):Rd (Mx M b w1.toArray) (.row .tree) [h] [slV ⟨Td ⟨b,0,Te⟩,1,1⟩]:=by
 have le:Fr.le M (Mx M b w1.toArray):=λc cs e=>by unfold Mx;by_cases f:c=b;subst f;rw[l]at e;cases e;rw[if_neg f];exact e
 refine⟨_,rfl,_,_,rfl,by simp,.inr ⟨b,0,_,rfl,by unfold Mx;rw[if_pos rfl],λi hi=>?_⟩⟩;have hi:i<1:=hi;obtain rfl:i=0:=by omega
 have:cut w1.toArray (0+0*sz .tree) (sz .tree)=w1:=by show List.take 4 (List.drop 0 w1)=w1;rw[BZ,<-k,A3]
 rw[this];exact Rd.mono le h1
theorem ql4(xs:List Int)(f:xs.length<=1000):Rd (Mx M b (xs.map (Bm .i64)).toArray) (.row (.int .i64)) xs [slV ⟨Td ⟨b,0,Te⟩,xs.length,xs.length⟩]:=by
 refine⟨_,rfl,_,_,rfl,⟨by omega,Ab _⟩,.inr ⟨b,0,_,rfl,by unfold Mx;rw[if_pos rfl],λi hi=>?_⟩⟩;show cut (xs.map (Bm .i64)).toArray (0+i*1) 1=[.int .i64 xs[i]];refine zan rfl λq e=>?_;have c:q=0:=by omega
 subst c;have hi:i<xs.length:=hi;simp[hi]
theorem qm9(xs:List Bt)(f:xs.length<=1000):Rd (Mx M b (xs.map AZ).toArray) (.row .str) xs [slV ⟨Td ⟨b,0,Te⟩,xs.length,xs.length⟩]:=by
 refine⟨_,rfl,_,_,rfl,⟨by omega,Ab _⟩,.inr ⟨b,0,_,rfl,by unfold Mx;rw[if_pos rfl],λi hi=>?_⟩⟩;show cut (xs.map AZ).toArray (0+i*1) 1=[.string xs[i]];refine zan rfl λq e=>?_;have c:q=0:=by omega
 subst c;have hi:i<xs.length:=hi;simp[hi]
def sm1:Tr:=.mk 3 (bl [49]) [] []
def sm2:Tr:=.mk 3 (bl [50]) [] []
def smR:Tr:=.mk 5 ⟨#[]⟩ [] [sm2]
def smV:Tr:=.mk 6 ⟨#[]⟩ [⟨#[98]⟩,⟨#[97]⟩] [sm1,smR]
def smS:Tr:=.mk 6 ⟨#[]⟩ [⟨#[97]⟩,⟨#[98]⟩] [smR,sm1]
def zc9:List Bt×List Int:=([⟨#[50]⟩,⟨#[91]⟩,⟨#[107,34,97,34]⟩,⟨#[49]⟩,⟨#[107,34,98,34]⟩,⟨#[123]⟩],[0,0,0,3,3,0])
theorem qgk:jm [⟨#[98]⟩,⟨#[97]⟩]=[⟨#[97]⟩,⟨#[98]⟩]:=by
 rw[Qk (List.Perm.swap (⟨#[97]⟩:Bt) ⟨#[98]⟩ [])];unfold jm;rw[List.mergeSort_of_pairwise];kernel_rfl;refine Be.2 ⟨λy b=>?_,Be.2 ⟨λy b=>(by cases b),Ed⟩⟩;have:y=[98]:=by simpa[lb]using b
 subst this;show decide (lb ⟨#[97]⟩<=[98])=Ta;kernel_rfl
theorem zh0:qa smV=Ta:=by kernel_rfl
theorem zav:ze smV=smS:=by rw[y8];show(if(6:Int)=6 then Tr.mk 6 ⟨#[]⟩ (jm [⟨#[98]⟩,⟨#[97]⟩]) ((jm [⟨#[98]⟩,⟨#[97]⟩]).map λq=>zgu (smV.keys.zip (smV.items.map ze)) q)else _)=_;rw[if_pos rfl,qgk];kernel_rfl
theorem zkj:zbv smS zc9:=by
 have h:=z8l zh0 (by rw[zav];exact of_decide_eq_true (by kernel_rfl));rw[zav]at h;have e:unz (Qc smS 0)=zc9:=by kernel_rfl
 rw[e]at h;exact h
theorem qgl:ze0 smV=(zc9,0):=by have h:=zkj;obtain⟨_,_,c,b⟩:=h;unfold ze0;rw[if_pos zh0,zav,if_neg (by omega),<-b]
theorem zps:∀s∈zc9.1,s.size<=65536:=by intro s b;simp only[zc9,Ah,Dg,or_false]at b;rcases b with rfl|rfl|rfl|rfl|rfl|rfl <;> exact of_decide_eq_true (by kernel_rfl)
theorem qjj{w:Tr}(h:zbv w zc9):w=smS:=by have h1:=(Zp h zps).2.2.2.1;have b:=(Zp zkj zps).2.2.2.1;rw[h1]at b;exact congrArg Prod.fst b
theorem ql5(v:Tr)(h:decide (tsz v<=100)=Ta)(b:txB 1048576 v):Sm v:=⟨by have:=of_decide_eq_true h;omega,b⟩
theorem z9d:Sm smV:=ql5 _ (by kernel_rfl) (by simp only[smV,sm1,smR,sm2,txB,zn6,and_true];refine⟨⟨of_decide_eq_true (by kernel_rfl),of_decide_eq_true (by kernel_rfl),λk b=>?_⟩,⟨of_decide_eq_true (by kernel_rfl),of_decide_eq_true (by kernel_rfl),λk b=>(by cases b)⟩,⟨of_decide_eq_true (by kernel_rfl),of_decide_eq_true (by kernel_rfl),λk b=>(by cases b)⟩,⟨of_decide_eq_true (by kernel_rfl),of_decide_eq_true (by kernel_rfl),λk b=>(by cases b)⟩⟩;simp only[Ah,Dg,or_false]at b;rcases b with rfl|rfl <;> exact of_decide_eq_true (by kernel_rfl))
theorem qjk:Sm smS:=by have:=zs0 z9d;rw[zmx zh0,zav]at this;exact this
theorem ql6:bl (qm (zj (Lib.itoa 1)).1)=bl [49]:=by kernel_rfl
theorem ql7:bl (qm (zj (Lib.itoa 2)).1)=bl [50]:=by kernel_rfl
structure C15 (gl:Fr) (bv bt bw bx:Nat) (vk vi t1 t2 w1 w2 xk xi:Sl) (h:zb) (M:Fr):Prop where
 hM:Fr.le gl M
 ag:AgM M h
 V:Blk h bv #[.int .i64 6,.string ⟨#[]⟩,slV vk,slV vi]
 rV:RdV M .tree smV (.agg #[.int .i64 6,.string ⟨#[]⟩,slV vk,slV vi])
 T:Blk h bt #[slV t1,slV t2]
 rT1:Rd M (.row .str) zc9.1 [slV t1]
 rT2:Rd M (.row (.int .i64)) zc9.2 [slV t2]
 W:Blk h bw #[slV w1,slV w2]
 rW1:Rd M (.row .str) zc9.1 [slV w1]
 rW2:Rd M (.row (.int .i64)) zc9.2 [slV w2]
 X:Blk h bx #[.int .i64 6,.string ⟨#[]⟩,slV xk,slV xi]
 rX:RdV M .tree smS (.agg #[.int .i64 6,.string ⟨#[]⟩,slV xk,slV xi])
theorem C15.later{bv bt bw k:Nat}{b e l i w1 f xk xi:Sl}(c:C15 gl bv bt bw k b e l i w1 f xk xi h M){h':zb}{M':Fr}(L:Later h M h' M'):C15 gl bv bt bw k b e l i w1 f xk xi h' M':= ⟨c.hM.trans L.le,L.ag,c.V.keep (L.keep.get _ c.V.lt),c.rV.mono L.le,c.T.keep (L.keep.get _ c.T.lt),c.rT1.mono L.le,c.rT2.mono L.le,c.W.keep (L.keep.get _ c.W.lt),c.rW1.mono L.le,c.rW2.mono L.le,c.X.keep (L.keep.get _ c.X.lt),c.rX.mono L.le⟩
theorem qjl{r:List Int}{w:Value}(h:Yv M [.row (.int .i64)] r w):∃s:Sl,w=slV s/\Rd M (.row (.int .i64)) r [slV s]:=z3l (Xe.1 h)
set_option maxRecDepth 100000 in
set_option maxHeartbeats 4000000 in
theorem z05(hg:GL gl)(hb:Brn gl):PC Tp gl 38 [] [.bool] (λr=>r=Ta):=by
 intro h M vs hM ag ha
 match vs,ha with
 |[],_=>
 apply PX.of;apply zc5;intro h1;have L1:Later h M h1 (Mx M h.size #[.string ⟨#[98]⟩,.string ⟨#[97]⟩]):=Later.frz ag _ _;have rK:Rd (Mx M h.size #[.string ⟨#[98]⟩,.string ⟨#[97]⟩]) (.row .str) [⟨#[98]⟩,⟨#[97]⟩] [slV ⟨Td ⟨h.size,0,Te⟩,2,2⟩]:=qlz;clear_value h1;generalize Mx M h.size #[.string ⟨#[98]⟩,.string ⟨#[97]⟩]=M1 at L1 rK;refine(qcs hg (n:=1) (by decide) (by decide) (R:=λr=>r=sm1) (by rw[ql6];rfl)).go (hM.trans L1.le) L1.ag (qc (a:=Arg.mk (.int .i64) 1) (Jf _ _) qt) λw h3 M3 r L3 e f=>?_;subst f;have r1:=Xe.1 e;obtain⟨ak,ai,rfl,_,_⟩:=yz r1;refine⟨_,_,ak,ai,rfl,?_⟩;refine(qcs hg (n:=2) (by decide) (by decide) (R:=λr=>r=sm2) (by rw[ql7];rfl)).go (hM.trans (L1.le.trans L3.le)) L3.ag (qc (a:=Arg.mk (.int .i64) 2) (Jf _ _) qt) λw h9 M9 r L9 e f=>?_;subst f;have r2:=Xe.1 e;obtain⟨bk,bi,rfl,_,_⟩:=yz r2;refine⟨_,_,bk,bi,rfl,?_⟩;intro aB;have F:Later h9 M9 aB (Mx M9 h9.size #[.int .i64 sm2.kind,.string sm2.text,slV bk,slV bi]):=Later.frz L9.ag _ _;have aE:Rd (Mx M9 h9.size #[.int .i64 sm2.kind,.string sm2.text,slV bk,slV bi]) (.row .tree) [sm2] [slV ⟨Td ⟨h9.size,0,Te⟩,1,1⟩]:=ql3 (w1:=[_,_,_,_]) (L9.ag.none (Ab _)) (zvl r2) rfl;clear_value aB;generalize Mx M9 h9.size #[.int .i64 sm2.kind,.string sm2.text,slV bk,slV bi]=M14 at F aE;have am:=L1.trans (L3.trans (L9.trans F));refine(qh5 (gl:=gl) (l:=[sm2]) (R:=λr=>r=smR) rfl).go (hM.trans am.le) F.ag (qc (a:=Arg.mk (.row .tree) _) ((zfw rfl).2 aE) qt) λw A z r N e f=>?_;subst f;have r3:=Xe.1 e;obtain⟨ck,ci,rfl,_,_⟩:=yz r3;refine⟨_,_,ck,ci,rfl,?_⟩;intro aM;have aT:RdV z .tree sm1 (trV sm1.kind sm1.text ak ai):=r1.mono (L9.le.trans (F.le.trans N.le));have Q:Later A z aM (Mx z A.size ([.int .i64 sm1.kind,.string sm1.text,slV ak,slV ai]++[.int .i64 smR.kind,.string smR.text,slV ck,slV ci]).toArray):=Later.frz N.ag _ _;have rI:Rd (Mx z A.size ([.int .i64 sm1.kind,.string sm1.text,slV ak,slV ai]++[.int .i64 smR.kind,.string smR.text,slV ck,slV ci]).toArray) (.row .tree) [sm1,smR] [slV ⟨Td ⟨A.size,0,Te⟩,2,2⟩]:=qly (N.ag.none (Ab _)) (zvl aT) (zvl r3) rfl rfl;clear_value aM;generalize Mx z A.size ([.int .i64 sm1.kind,.string sm1.text,slV ak,slV ai]++[.int .i64 smR.kind,.string smR.text,slV ck,slV ci]).toArray=M21 at Q rI;have aj:=am.trans (N.trans Q);have aV:=rK.mono (L3.le.trans (L9.le.trans (F.le.trans (N.le.trans Q.le))));refine(qh6 (gl:=gl) (ks:=[⟨#[98]⟩,⟨#[97]⟩]) (l:=[sm1,smR]) (R:=λr=>r=smV) rfl).go (hM.trans aj.le) Q.ag (qc (a:=Arg.mk (.row .str) _) ((zfw rfl).2 aV) (qc (a:=Arg.mk (.row .tree) _) ((zfw rfl).2 rI) qt)) λw aS bm r aC e f=>?_;subst f;have rV:=Xe.1 e;obtain⟨vk,vi,rfl,_,_⟩:=yz rV;refine⟨_,_,vk,vi,rfl,?_⟩;intro bI;refine xz aC.ag λa7 aA bD aI=>?_;refine⟨_,_,vk,vi,aI.ld (cs:=[_,_,slV vk,slV vi]),?_⟩;have af:=aj.trans (aC.trans aA);refine(zvv hg hb z9d (R:=λr=>r=(zc9,0)) qgl).go (hM.trans af.le) aA.ag (qc (a:=Arg.mk .tree smV) rV qt) λw y x r I e f=>?_;subst f;obtain⟨D,G,rfl,rT1,rT2⟩:=qdi e;refine⟨D,G,_,rfl,?_⟩;intro S;have ba:Keep y.size y S:=Keep.push _ _ (Ab _);have bF:S.size=y.size+1:=Aj _;have a6:Blk S y.size #[.slice Te 0 0,.slice Te 0 0]:=Blk.new _ _ _;clear_value S;refine zpk a6 λo bn aZ bj=>?_;have u:Later y x o x:=Later.stay (Later.same I.ag ba) (Ab _) (I.ag.none (Ab _)) bn aZ;intro m;have ax:Later o x m (Mx x o.size (zc9.1.map AZ).toArray):=Later.frz u.ag _ _;have rW1:Rd (Mx x o.size (zc9.1.map AZ).toArray) (.row .str) zc9.1 [slV ⟨Td ⟨o.size,0,Te⟩,6,6⟩]:=qm9 zc9.1 (of_decide_eq_true (by kernel_rfl));have bE:m.size=o.size+1:=Aj _;clear_value m;generalize Mx x o.size (zc9.1.map AZ).toArray=M41 at ax rW1;intro p;have C:Later m M41 p (Mx M41 m.size (zc9.2.map (Bm .i64)).toArray):=Later.frz ax.ag _ _;have rW2:Rd (Mx M41 m.size (zc9.2.map (Bm .i64)).toArray) (.row (.int .i64)) zc9.2 [slV ⟨Td ⟨m.size,0,Te⟩,6,6⟩]:=ql4 zc9.2 (of_decide_eq_true (by kernel_rfl));have bG:p.size=m.size+1:=Aj _;clear_value p;generalize Mx M41 m.size (zc9.2.map (Bm .i64)).toArray=M42 at C rW2;intro O;have bq:Keep p.size p O:=Keep.push _ _ (Ab _);have bB:O.size=p.size+1:=Aj _;have be:Blk O p.size #[.slice Te 0 0,.slice Te 0 0]:=Blk.new _ _ _;clear_value O;refine zpk (s1:=⟨Td ⟨o.size,0,Te⟩,6,6⟩) (s2:=⟨Td ⟨m.size,0,Te⟩,6,6⟩) be λP aU aY bg=>?_;have U:Later p M42 P M42:=Later.stay (Later.same C.ag bq) (Ab _) (C.ag.none (Ab _)) aU aY;have i:Later o x P M42:=ax.trans (C.trans U);have aJ:Blk P y.size #[slV D,slV G]:=bj.keep (i.keep.get _ (by omega));refine⟨D,G,aJ.ld (cs:=[slV D,slV G]),?_⟩;have ae:=af.trans (I.trans (u.trans i));refine(z03 hg hb (t:=zc9) zps (R:=λr=>r=(smS,Ta)) (λw hw=>by rw[qjj hw]) (λhn=>absurd zkj (hn _))).go (hM.trans ae.le) U.ag (qc (a:=Arg.mk (.pair (.row .str) (.row (.int .i64))) zc9) (Y1 (rT1.mono (u.le.trans i.le)) (rT2.mono (u.le.trans i.le))) qt) λw a1 az r Y e f=>?_;subst f;obtain⟨xk,xi,rfl,rX⟩:=z00 e;refine⟨_,_,xk,xi,_,rfl,?_⟩;intro bA;refine xz Y.ag λar Z bN a8=>?_;have aa:=ae.trans (Y.trans Z);have J:Later a7 bm ar az:=I.trans (u.trans (i.trans (Y.trans Z)));have k:Later P M42 ar az:=Y.trans Z;have bH:=I.keep.size;have c:C15 gl aS.size y.size p.size a1.size vk vi D G ⟨Td ⟨o.size,0,Te⟩,6,6⟩ ⟨Td ⟨m.size,0,Te⟩,6,6⟩ xk xi ar az:= ⟨hM.trans aa.le,Z.ag,aI.keep (J.keep.get _ (by omega)),rV.mono (aA.le.trans J.le),aJ.keep (k.keep.get _ (by omega)),rT1.mono (u.le.trans (i.le.trans k.le)),rT2.mono (u.le.trans (i.le.trans k.le)),bg.keep (k.keep.get _ (by omega)),rW1.mono (C.le.trans (U.le.trans k.le)),rW2.mono (U.le.trans k.le),a8,rX⟩;refine⟨D,G,λ_=>c.T.ld (cs:=[slV D,slV G]),_,_,λ_=>c.W.ld (cs:=[slV _,slV _]),?_⟩;refine zxy rfl ?_;refine(z8c (gl:=gl) (a:=zc9) (b:=zc9) (of_decide_eq_true (by kernel_rfl)) (of_decide_eq_true (by kernel_rfl)) (R:=λr=>r=Ta) λr f=>f.2 rfl).go c.hM c.ag (qc (a:=Arg.mk (.pair (.row .str) (.row (.int .i64))) zc9) (Y1 c.rT1 c.rT2) (qc (a:=Arg.mk (.pair (.row .str) (.row (.int .i64))) zc9) (Y1 c.rW1 c.rW2) qt)) λw bJ bM r aF e f=>⟨r,zhq e,?_⟩;have f:r=Ta:=f;subst f;have c:=c.later aF;have aO:=aa.trans aF;refine⟨_,_,vk,vi,λ_=>c.V.ld (cs:=[_,_,slV vk,slV vi]),_,_,xk,xi,λ_=>c.X.ld (cs:=[_,_,slV xk,slV xi]),?_⟩;refine zxy rfl ?_;refine(qgj (gl:=gl) hg z9d qjk (R:=λr=>r=Ta) (by have e1:Zx smV=Ta:=Jr zh0;have e2:Zx smS=Ta:=Jr zkj.1;rw[e1,e2,zki.2 (by rw[zav,zkj.2.1])];rfl)).go c.hM c.ag (qc (a:=Arg.mk .tree smV) c.rV (qc (a:=Arg.mk .tree smS) c.rX qt)) λw bL bC r aH e f=>⟨r,zhq e,?_⟩;have f:r=Ta:=f;subst f;have c:=c.later aH;have aN:=aO.trans aH;refine⟨D,G,λ_=>c.T.ld (cs:=[slV D,slV G]),?_⟩;refine z9c rfl ?_;refine(zv1 (gl:=gl) (t:=zc9) (R:=λr=>r=[4,5]) (by kernel_rfl)).go c.hM c.ag (qc (a:=Arg.mk (.pair (.row .str) (.row (.int .i64))) zc9) (Y1 c.rT1 c.rT2) qt) λw E aG r ay e f=>?_;subst f;obtain⟨sr,rfl,rR⟩:=qjl e;refine⟨sr,rfl,?_⟩;have c:=c.later ay;have aQ:=aN.trans ay;have B:Later E aG (E.push (.cells ([4,5].map (Bm .i64)).toArray 3)) (Mx aG E.size ([4,5].map (Bm .i64)).toArray):=Later.frz ay.ag _ _;refine qi7 (s:=⟨Td ⟨E.size,0,Te⟩,2,2⟩) (h1:=E.push (.cells ([4,5].map (Bm .i64)).toArray 3)) rfl ?_;have c:=c.later B;have an:=aQ.trans B;refine zxy rfl ?_;refine(z8b (gl:=gl) (a:=[4,5]) (b:=[4,5]) (by simp) (R:=λr=>r=Ta) λr f=>f.2 rfl).go c.hM c.ag (qc (a:=Arg.mk (.row (.int .i64)) [4,5]) ((zfw rfl).2 (rR.mono B.le)) (qc (a:=Arg.mk (.row (.int .i64)) [4,5]) ((zfw rfl).2 (ql4 [4,5] (by simp))) qt)) λw br bu r ab e f=>⟨r,zhq e,?_⟩;have f:r=Ta:=f;subst f;have c:=c.later ab;have au:=an.trans ab;refine⟨D,G,λ_=>c.T.ld (cs:=[slV D,slV G]),?_⟩;refine z9c rfl ?_;refine(qby (gl:=gl) (t:=zc9) (R:=λr=>r=[5]) (by kernel_rfl)).go c.hM c.ag (qc (a:=Arg.mk (.pair (.row .str) (.row (.int .i64))) zc9) (Y1 c.rT1 c.rT2) qt) λw q ah r H e f=>?_;subst f;obtain⟨sq,rfl,rQ⟩:=qjl e;refine⟨sq,rfl,?_⟩;have c:=c.later H;have ap:=au.trans H;have L:Later q ah (q.push (.cells ([5].map (Bm .i64)).toArray 3)) (Mx ah q.size ([5].map (Bm .i64)).toArray):=Later.frz H.ag _ _;refine qi7 (s:=⟨Td ⟨q.size,0,Te⟩,1,1⟩) (h1:=q.push (.cells ([5].map (Bm .i64)).toArray 3)) rfl ?_;have c:=c.later L;refine zxy rfl ?_;refine(z8b (gl:=gl) (a:=[5]) (b:=[5]) (by simp) (R:=λr=>r=Ta) λr f=>f.2 rfl).go c.hM c.ag (qc (a:=Arg.mk (.row (.int .i64)) [5]) ((zfw rfl).2 (rQ.mono L.le)) (qc (a:=Arg.mk (.row (.int .i64)) [5]) ((zfw rfl).2 (ql4 [5] (by simp))) qt)) λw bz aL r aP e f=>⟨r,zhq e,?_⟩;have f:r=Ta:=f;subst f;exact⟨aL,Ta,ap.trans (L.trans aP),Xe.2 (rdBool _),rfl⟩
end
end Go.X
end
section
namespace Go.X
open Go Go.Lib
section
mutual
theorem zv2:∀v:Tr,tks v=tsz v+ztn v
 |.mk k s ks xs=>by rw[tks,tsz,ztn,zyq xs];omega
theorem zyq:∀l:List Tr,zht l=w9 l+xd l
 |[]=>by rw[zht,w9,xd]
 |x::l=>by rw[zht,w9,xd,zv2 x,zyq l];omega
end
end
end Go.X
end
section
namespace Go.X
open Go Go.X Go.Proofs Go.RowKit
section
theorem zm0{gl:Fr}(v:Tr)(u:tks v<=1000000000){R:Int->Prop}(h:R (ztn v:Int)):PC Tp gl 57 [Arg.mk .tree v] [.int .i64] R:=by
 apply zat;have l:=Qd v.items;have q:=qco v;have m:=yh v;have p:=zv2 v;have e:=z8n v;refine⟨λn i=>∃k:Nat,i=k/\k<=v.items.length/\n=((v.keys.length+xd (v.items.take k):Nat):Int),λ_ i=>v.items.length-i.toNat,⟨0,rfl,AX _,by simp[xd]⟩,?_⟩;rintro n i ⟨k,rfl,s,rfl⟩;refine⟨λf=>?_,λf=>?_⟩;have c:k<v.items.length:=by have:=ltT f;omega
 refine⟨v.items[k],⟨by omega,zjm c⟩,?_⟩;rw[Xg];have o:v.items[k]∈v.items:=AE c;have h1:=zxa o;have t:=z02 c;have w:xd (v.items.take (k+1))<=xd v.items:=by
  have app:∀(a b:List Tr),xd (a++b)=xd a+xd b:=by
   intro a b;induction a with
   |nil=>rw[xd,A5,AI]
   |cons x a r=>rw[AD,xd,xd,r,CP]
  have:=app (v.items.take (k+1)) (v.items.drop (k+1));rw[Cb]at this;omega
 refine zm0 (v.items[k]) (by omega) ?_;rw[ju c (by omega),w64 (by omega)];exact⟨⟨k+1,rfl,c,by omega⟩,by simp only[Ai];omega⟩;have c:k=v.items.length:=by have:=ltF f;omega
 subst c;rw[A3,<-e];exact h
termination_by tsz v
decreasing_by exact yd (AE (by assumption))
theorem zpt{gl:Fr}(k:GL gl)(p:Brn gl){v:Tr}{R:Bool->Prop}(f:R Ta):PC Tp gl 12 [Arg.mk .tree v] [.bool] R:=by
 apply Jt;simp only[Xg];refine(z05 k p).mono λr c=>?_;have c:r=Ta:=c;subst c;refine qh4 (by decide) λb l=>⟨λ_=>f,λi=>?_⟩;have m:b=Ta:=by simpa using i
 obtain⟨y,o⟩:=l m;have u:=zv2 v;refine zvv k p o (zuw v (by omega) (zm0 v (by omega) ?_));have t:Aa .i64 ((tsz v:Int)+(ztn v:Int))=((tsz v+ztn v:Nat):Int):=by rw[w64 (by omega)];omega
 rw[t];unfold ze0;by_cases c:qa v=Ta;have s:=zmz _ v (Ab _) (ztj c).1;rw[if_pos c];by_cases i:512<jg (ze v);rw[if_pos i];refine⟨λ_=>⟨λr=>r=Ta,λ_=>zet k o c,λn e=>?_⟩,λh=>(by cases h)⟩;have e:n=Ta:=e rfl;subst e;refine(congrArg R (Eq.symm ?_)).mp f;have:decide (((tsz v+ztn v:Nat):Int)>512)=Ta:=decide_eq_true (by omega);rw[this];rfl;rw[if_neg i];have x:=xy (ze v) 0;have w:(unz (Qc (ze v) 0)).1.length=tsz v+ztn v:=by unfold unz;rw[Ao];omega
 have q:(unz (Qc (ze v) 0)).2.length=tsz v+ztn v:=by unfold unz;rw[Ao];omega
 refine⟨λh=>(by cases h),λ_=>?_⟩;dsimp only;rw[w,q];refine(congrArg R (Eq.symm ?_)).mp f;have:decide (((tsz v+ztn v:Nat):Int)<=512)=Ta:=decide_eq_true (by omega);rw[this,beq_self_eq_true];rfl;rw[if_neg c];refine⟨λ_=>⟨λr=>r=Tc,λ_=>zet k o (by simpa using c),λn e=>?_⟩,λh=>(by cases h)⟩;have e:n=Tc:=e rfl;subst e;exact f
end
end Go.X
end
