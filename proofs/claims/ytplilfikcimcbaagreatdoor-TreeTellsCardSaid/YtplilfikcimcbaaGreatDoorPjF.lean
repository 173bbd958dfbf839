/- A part of the proof: nothing is stated here for its own sake. -/
import Derived.Test.YtplilfikcimcbaaGreatDoorPjE
open _root_.Go.Addr renaming add->YH
open _root_.Array renaming push->zbq,size_push->YW
open _root_.Bool renaming and_eq_true->YR,eq_iff_iff->ZI
open _root_.Go.Builtin renaming append_->YN,firstCells->zb7
open _root_.Go.Instr renaming storeAt->YI
open _root_.Int renaming toNat_natCast->YL
open _root_.List renaming all_eq_true->ZB,all_map->zc4,append_assoc->ZL,append_nil->ZY,drop_eq_getElem_cons->ZG,drop_zero->zbi,getD_eq_getElem?_getD->zaf,getElem?_eq_getElem->YS,getElem?_eq_some_iff->ZN,getElem?_map->zav,getElem_mem->YY,getElem_of_mem->zbm,length_append->YM,length_drop->ZE,length_map->YO,length_nil->ZW,length_pos_iff->zaj,length_take->ZV,map_append->zaa,map_cons->ZC,mem_append->ZF,mem_append_left->YV,mem_append_right->ZH,mem_cons->YT,mem_iff_getElem->zbt,mem_map->zab,mem_range->zaz,mergeSort_perm->zcw,nil_append->zal,pairwise_cons->za4,range->zac,range_succ->zbv,take_length->ZX,take_of_length_le->za0,take_succ_eq_append_getElem->YP,take_zero->zco
open _root_.List.cons renaming injEq->za7
open _root_.Nat renaming le_refl->YJ,not_lt_zero->zcd,zero_le->ZQ
open _root_.Option renaming map_some->zc5
open _root_.Option.some renaming inj->ZZ,injEq->YK
open _root_.UInt8 renaming toNat_inj->zcc
open _root_.Go.Value renaming int->zad,slice->zb2,string->ZS
open _root_.Go.Value.slice renaming injEq->zai
open _root_.Decidable renaming decide->hV
open _root_.Go.X.Arg renaming mk->qr
open _root_.Go.X.Bk renaming push->rg
open _root_.Go.X.wr renaming same->up
open _root_.Go.X.Blk renaming new->v0
open _root_.List renaming length->DB
set_option linter.all false
set_option maxRecDepth 1000000
set_option maxHeartbeats 20000000
open Go.Proofs.Tryz
namespace Go.X
end Go.X
namespace Go.Proofs
end Go.Proofs
open Go Go.X Go.Proofs
open _root_.Bool renaming true->Ta,false->Tc
open _root_.Option renaming some->Td,none->Te
namespace Go.X
section
open Go.RowKit
variable {M M':Fr} {lo b:Nat} {h g' g:zb} {s1 s2:Sl} {b1 b2:List Nat} {K:zb -> Prop} {v:Tr}
theorem uJ{r:Bt×Int}{w:Value}(h:x7 M [.str,.int .i64] r w):w=.tuple #[aa6 r.1,ab0 r.2]:=by
 obtain⟨vs,⟨e,rest,rfl,f,i,rfl,c⟩,rfl⟩:=h;have b:e=.string r.1:=by simpa[Rd]using (eC rfl).1 f
 rw[b,qn c];rfl
structure PrS (lo:Nat) (h:zb) (M:Fr) (S:List (Bt×Int)) (s1 s2:Sl) (b1 b2:List Nat):Prop where
 r1:Fd lo h M .str (S.map (·.1)) s1 b1
 r2:Fd lo h M (.int .i64) (S.map (·.2)) s2 b2
 dj:∀c∈b1,c∉b2
theorem TbS.pr{S:List (Bt×Int)}(B:TbS lo h M b S s1 s2 b1 b2):PrS lo h M S s1 s2 b1 b2:=⟨B.r1,B.r2,B.dj⟩
theorem PrS.call{h h':zb}{S:List (Bt×Int)}(B:PrS lo h M S s1 s2 b1 b2)(L:wr h M h' M'):PrS lo h' M' S s1 s2 b1 b2:=⟨B.r1.call L,B.r2.call L,B.dj⟩
section
variable {lo : Nat} {h g : zb} {M : Fr} {b : Nat} {sl sf : Sl} {b0 : List Nat} {X : List Bt} {s1 : Sl} {c1 : List Nat} {Y : List Int} {s2 : Sl} {c2 : List Nat}
theorem AdM.turn(D:AdM lo h M b sl sf b0 g X s1 c1 Y s2 c2){k l:Sl}(B:Blk g' b #[aK k,aK l])(z:g'.size=g.size)(f:∀j,j≠b->g'[j]?=g[j]?):AdM lo h M b k l b0 g' X s1 c1 Y s2 c2:=by have o:=D.gr;exact⟨B,D.r1.frame (λc i=>f c λe=>D.n1 (e ▸ i)) (Fr.le.refl _) (λc i=>(D.r1.own c i).2.2),D.r2.frame (λc i=>f c λe=>D.n2 (e ▸ i)) (Fr.le.refl _) (λc i=>(D.r2.own c i).2.2),D.dj,D.n1,D.n2,ω,D.bh,λj m h0 n=>(f j h0).trans (D.fr j m h0 n),D.w1,D.w2,λc cs e=>by rw[f c λh=>by grind [nM]];exact D.ag c cs e,D.nM,D.lb⟩
theorem AdM.st0(D:AdM lo h M b sl sf b0 g X s1 c1 Y s2 c2)(c:∀g',AdM lo h M b s1 sf b0 g' X s1 c1 Y s2 c2->K g'):wf Tp (YI 22 (.pointer (Td (YH ⟨b,0,Te⟩ 0))) (aK s1)) g K:=by rw[PA];exact qj m3 pv D.box ξ rfl λf e k i=>c f (D.turn e k i)
theorem AdM.st1(D:AdM lo h M b sl sf b0 g X s1 c1 Y s2 c2)(c:∀g',AdM lo h M b sl s2 b0 g' X s1 c1 Y s2 c2->K g'):wf Tp (YI 29 (.pointer (Td (YH ⟨b,0,Te⟩ 1))) (aK s2)) g K:=by rw[zl];exact qj uF tQ D.box ξ rfl λf e k i=>c f (D.turn e k i)
theorem AdM.out(D:AdM lo h M b s1 s2 b0 g X s1 c1 Y s2 c2){S:List (Bt×Int)}(e:X=S.map (·.1))(i:Y=S.map (·.2)):TbS lo g M b S s1 s2 c1 c2/\Grw h M b b0 g M (c1++c2):=by subst e;subst i;refine⟨⟨D.box,D.r1,D.r2,D.dj,D.n1,D.n2,D.nM,D.lb⟩,D.gr,Fr.le.refl _,λ_ _=>rfl,D.ag,D.fr,λc f=>?_⟩;obtain h|h:=ZF.1 f;exact D.w1 c h;exact D.w2 c h
end
theorem TbS.more{S:List (Bt×Int)}(B:TbS lo h M b S s1 s2 b1 b2)(ag:AgM M h)(m:lo<=h.size)(I:S.length<=1000000){lab:Bt}{n:Int}(J:∀h' F E c1 c2,TbS lo h' M b (S++[(lab,n)]) F E c1 c2->Grw h M b (b1++b2) h' M (c1++c2)->K h'):let c:=zbq h (.cells #[aa6 lab] 9)
 CA Tp (YN #[22,22] 22 #[aK s1,.slice (Td (aa8 h)) 1 1]) c λv l=>∃x:Sl,v=aK x/\wf Tp (YI 22 (.pointer (Td (YH ⟨b,0,Te⟩ 0))) (aK x)) l λf=>∃y:Sl,zd f (YH ⟨b,0,Te⟩ 1)=Td (aK y) /\
  let e:=zbq f (.cells #[ab0 n] 3)
  CA Tp (YN #[29,29] 29 #[aK y,.slice (Td (aa8 f)) 1 1]) e λv i=>∃z:Sl,v=aK z/\wf Tp (YI 29 (.pointer (Td (YH ⟨b,0,Te⟩ 1))) (aK z)) i K:=by
 intro c;have D:=AdM.start B ag;have w:AdM lo h M b s1 s2 (b1++b2) c _ _ _ _ _ _:=D.push _;have A:Blk c h.size #[aa6 lab]:=v0 _ _ _;clear_value c;refine w.lab m θ A λx l c1 s _ _=>⟨x,rfl,?_⟩;refine s.st0 λf p=>⟨s2,p.box.aa2 (o:=0) (k:=1) rfl,?_⟩;intro e;have q:AdM lo h M b x s2 (b1++b2) e _ _ _ _ _ _:=p.push _;have t:Blk e f.size #[ab0 n]:=v0 _ _ _;clear_value e;refine q.lef m θ t λz i c2 r _ _=>⟨z,rfl,?_⟩;refine r.st1 λC u=>?_;have⟨H,G⟩:=u.out (S:=S++[(lab,n)]) ξ ξ;grind
theorem TbS.swap{S p:List (Bt×Int)}{s1 s2 n m:Sl}{b1 b2 c1 c2:ab1}(B:TbS lo h M b S s1 s2 b1 b2)(G:Grw h M h.size (b1++b2) g M' (c1++c2))(P:PrS lo g M' p n m c1 c2) (t:∀g',TbS lo g' M' b p n m c1 c2->Grw h M b (b1++b2) g' M' (c1++c2)->g'.size=g.size->(∀j,j≠b->g'[j]?=g[j]?)->K g'):wf Tp (YI 31 (aa7 ⟨b,0,Te⟩) (.agg #[aK n,aK m])) g K:=by
 have o:=B.box.lt;have k:b∉b1++b2:=λw=>by obtain h|h:=ZF.1 w;exact B.n1 h;exact B.n2 h
 have l:∀c∈c1++c2,c≠b:=λc i e=>by subst e;obtain h|h:=G.nw c i;exact k h;omega
 have r:M' b=Te:=by rw[G.old b o];exact B.nM
 have s:Blk g b #[aK s1,aK s2]:=B.box.aa1 (G.fr b o ω k);refine X9 s λg' f z q=>t g' ⟨q,P.r1.frame (λc i=>f c (l c (YV _ i))) (Fr.le.refl _) (λc i=>(P.r1.own c i).2.2),P.r2.frame (λc i=>f c (l c (ZH _ i))) (Fr.le.refl _) (λc i=>(P.r2.own c i).2.2),P.dj,λh=>l b (YV _ h) rfl,λh=>l b (ZH _ h) rfl,r,B.lb⟩ ⟨χ G.grow,G.le,G.old,λc cs e=>?_,λj x h0 u=>(f j h0).trans (G.fr j x ω u),G.nw⟩ z f;rw[f c λh=>θ];exact G.ag c cs e
theorem Grw.stay{b r:Nat}{bs bs':ab1}(G:Grw h M b bs g M' bs')(l:h.size<=r)(m:M' r=Te)(f:∀j,j≠r->g'[j]?=g[j]?)(z:g'.size=g.size):Grw h M b bs g' M' bs':= ⟨by rw[z];exact G.grow,G.le,G.old,λc cs e=>by rw[f c λh=>θ];exact G.ag c cs e,λj k h0 i=>(f j ω).trans (G.fr j k h0 i),G.nw⟩
def tp(d:Nat):∀(l:List Tr) (k:Nat),eE d (l.take k)<=eE d l
 |[],k=>ξ
 |x::l,0=>by rw[zco,eE];omega
 |x::l,k+1=>by rw[List.take_succ_cons,eE,eE];have:=tp d l k;omega
def fO(v:Tr)(m n:Nat):List (Bt×Int):=if v.Wf=6 then J8 (v.WT.take m) v.XK n else eH (v.WT.take m) n
theorem NB(v:Tr)(n:Nat):fO v 0 n=[]:=by unfold fO;rw[zco];split;rw[J8];rw[eH]
def SZ(h:v.Wf=5\/v.Wf=6\/v.WT=[])(n:Nat):Qy v n=fO v v.WT.length n++[(fy v,(n:Int))]:=by rw[oJ];unfold fO;rw[ZX];obtain h|h|h:=h;simp_all;simp_all;rw[h];congr 1;split;rfl;split;rfl;rw[eH]
def UP{m:Nat}(b:m<v.WT.length)(c:v.Wf=5\/v.Wf=6)(n:Nat):(fO v m n).length+xd v.WT[m]+1<=xd v:=by have e:=se v;unfold fO;obtain h|h:=c;rw[za ω,zi h]at e;rw[za ω,nT];have h1:=tp 0 v.WT (m+1);have h2:=nT (v.WT.take (m+1)) 0;rw[yP b,YM,nT,wa]at h2;omega;rw[zi h]at e;rw[zi h,wO];have h1:=tp 1 v.WT (m+1);grind [FK,YP]
def Eh{gl:Fr}(hg:GL gl){lo:Nat}:∀(n:Nat) (v:Tr),n<=4096->cK v<=n->Qc dR v=Ta->Sm v->∀(h:zb) (M:Fr) (S:List (Bt×Int)) (s1 s2:Sl) (b1 b2:ab1) (u:Value),AgM M h->Fr.le gl M->PrS lo h M S s1 s2 b1 b2->lo<=h.size->DB S+xd v<=100000->RdV M .tree v u ->aa4 58 #[.agg #[aK s1,aK s2],u] h λr h'=>∃y O M' c1 c2,r=.agg #[aK y,aK O]/\Grw h M h.size (b1++b2) h' M' (c1++c2)/\PrS lo h' M' (S++Qy v (DB S)) y O c1 c2
 |0,v,_,hz,_,_=>χ (Zn v)
 |n+1,v,hn,hz,hok,hsm=>by
  intro h M S s1 s2 b1 b2 u ag hM P aC hS hu;obtain⟨sk,si,rfl,rk,ri⟩:=yg hu;have⟨li,_,_⟩:=Bx ri;have⟨lk,_,_⟩:=Bx rk;have o:=m7 hok;have bu:v.WT.length<=4096:=by have:=xq v.WT;rw[yo]at hz;omega
  have bA:=Jt v;have D:v.Wf=5\/v.Wf=6\/v.WT=[]:=by obtain⟨_,_,_,i⟩|⟨_,_,_,i⟩|⟨_,_,_,i⟩|⟨_,_,_,i⟩|⟨k,_⟩|⟨k,_⟩:=nS o;grind;grind;grind;grind;exact .inl k;omega
  have own:∀c∈b1++b2,c<h.size:=λc f=>by obtain h|h:=ZF.1 f;exact(P.r1.own c h).2.1;exact(P.r2.own c h).2.1
  apply Ru s1 s2 v.Wf v.aa0 sk si;intro h1;have⟨k1,z1,B1⟩:=yp (g:=h1) rfl;clear_value h1;intro h2;have⟨k2,z2,T2⟩:=yp (g:=h2) rfl;clear_value h2;intro N;have⟨k3,z3,R3⟩:=yp (g:=N) rfl;clear_value N;have F:wr h M N M:=up ag (k1.trans (k2.trans k3 ω) ω);have nb:M h.size=Te:=ag.none (YJ _);have nr:M h2.size=Te:=ag.none ω;have B3:TbS lo N M h.size S s1 s2 b1 b2:=⟨(B1.aa3 k2).aa3 k3,(P.call F).r1,(P.call F).r2,P.dj,λI=>χ (own _ (YV _ I)),λI=>χ (own _ (ZH _ I)),nb,aC⟩;have T3:Blk N h1.size #[ab0 v.Wf,aa6 v.aa0,aK sk,aK si]:=T2.aa3 k3;have an:=P.r1.len;rw[YO]at an;refine⟨s1,B3.box.aa2 (o:=0) (k:=0) rfl,?_⟩;intro K7 aN;have h7:∀q:Bt,(v.Wf=5\/v.Wf=6->q=fy v)->K7 q N:=λq hl=>aN q N λaM ak=>by
   have ae:∀(lab:Bt) (H:zb) (M0:Fr),wr N M H M0->lab=fy v->aM lab H:=λlab H M0 E ar=>ak lab H (by
    subst ar;have z0:=E.aa1.size;have B0:=B3.call E;have T0:Blk H h1.size #[ab0 v.Wf,aa6 v.aa0,aK sk,aK si]:=T3.aa1 (E.aa1.get _ ω);have R0:Blk H h2.size #[.slice Te 0 0,.slice Te 0 0]:=R3.aa1 (E.aa1.get _ ω);have bC:Fr.le gl M0:=hM.trans (F.le.trans E.le);have ay:∀{g:zb} {t:Fr} {cs:ab1},Grw H M0 h.size (b1++b2) g t cs->Blk g h1.size #[ab0 v.Wf,aa6 v.aa0,aK sk,aK si]:=λ {g t cs} G=>T0.aa1 (G.fr h1.size ω ω λI=>χ (own _ I));have aL:∀{g:zb} {t:Fr} {cs:ab1},Grw H M0 h.size (b1++b2) g t cs->Blk g h2.size #[.slice Te 0 0,.slice Te 0 0]:=λ {g t cs} G=>R0.aa1 (G.fr h2.size ω ω λI=>χ (own _ I));refine⟨λi g=>∃(m:Nat) (t:Fr) (y O:Sl) (c1 c2:ab1),i=(m:Int)/\m<=v.WT.length/\Grw H M0 h.size (b1++b2) g t (c1++c2)/\TbS lo g t h.size (S++fO v m (DB S)) y O c1 c2,λi _=>v.WT.length-i.toNat,⟨0,M0,s1,s2,b1,b2,rfl,ZQ _,Grw.refl E.ag,by rw[NB,ZY];exact B0⟩,?_⟩;rintro i g ⟨m,t,y,O,c1,c2,rfl,I,G,B⟩;have gz:=G.grow;have Tg:=ay G;have ah:=B.r1.len;rw[YO,YM]at ah;refine⟨si,Tg.aa2 (o:=0) (k:=3) rfl,λf=>?_,λf=>?_⟩;have b:m<v.WT.length:=χ (fo f)
    have aA:v.Wf=5\/v.Wf=6:=by obtain h|h|h:=D;exact .inl h;exact .inr h;rw[h]at b;exact absurd b (zcd _)
    have aY:=UP b aA (DB S);have ab:=YY b;have br:=yc ab;have am:=F.le.trans (E.le.trans G.le);have⟨a,ck,ci,ea,aU,q1,q2⟩:=ie G.ag (ri.mono am) b;refine⟨y,B.box.aa2 (o:=0) (k:=0) rfl,y,O,B.box.ld (cs:=[aK y,aK O]),si,Tg.aa2 (o:=0) (k:=3) rfl,a,⟨ea,ω,ω⟩,v.WT[m].Wf,v.WT[m].aa0,ck,ci,by rw[YL];exact aU,?_⟩;refine XC.mono (Eh hg n v.WT[m] ω ω (Y2 hok ab) (hsm.item ab) g t (S++fO v m (DB S)) y O c1 c2 _ G.ag (hM.trans am) B.pr ω φ (qe q1 q2)) ?_;rintro r d ⟨d1,d2,M2,e1,e2,rfl,G2,P2⟩;refine⟨d1,d2,rfl,?_⟩;refine B.swap G2 P2 λba ap az bj a8=>?_;have z:=G.trans az;have ax:=ay z;have bF:=z.grow;have hw:=qo b ω;refine⟨v.Wf,ax.aa2 (o:=0) (k:=0) rfl,λl=>?_,λl=>?_⟩;have l:v.Wf=6:=ψ l
    have bq:v.XK.length=v.WT.length:=by unfold dR at o;rw[YR]at o;exact(Js o.2 l).2
    have aV:∀k∈v.XK,xn (lb k)=Ta:=by unfold dR zq yh at o;simp[l]at o;exact o.1.1.1
    have A:m<v.XK.length:=ω
    have aa:=F.le.trans (E.le.trans z.le);have⟨a2,aP,x,aT,aE⟩:=gS z.ag (rk.mono aa) A (i:=(m:Int)) rfl (L:=sk.len) rfl (Q:=λx=>x=v.XK[m]) rfl;subst aE;refine⟨sk,ax.aa2 (o:=0) (k:=2) rfl,a2,aP,v.XK[m],aT,?_⟩;have au:=aV _ (YY A);have aS:Sm (.mk 4 v.XK[m] [] []):=⟨by rw[yo];simp[Ze],by rw[fi];refine⟨⟨?_,ZQ _,λk hk=>ε hk⟩,trivial⟩;have:=hsm.key (YY A);rw[iU]at this;exact this⟩;refine(show aa5 gl 105 [qr .str v.XK[m]] [.tree] (λr=>r=.mk 4 v.XK[m] [] [])from by apply Oq;rfl).go (hM.trans aa) z.ag (zn (a:=qr .str _) (DH _) zw) λw bE bz r V p J=>?_;subst J;have J:=Yu.1 p;obtain⟨xk,xi,rfl,_,_⟩:=yg J;refine⟨_,_,xk,xi,rfl,?_⟩;refine(Al hg aS (R:=λr=>r=Qx (.mk 4 v.XK[m] [] [])) rfl).go (hM.trans (aa.trans V.le)) V.ag (zn (a:=qr .tree _) J zw) λw be aZ r aH p J=>?_;subst J;rw[uJ p];refine⟨_,_,rfl,?_⟩;have C:=V.trans aH;have ai:=ap.call C;have Z:=z.call C;have a7:=Z.grow;refine⟨d1,ai.box.aa2 (o:=0) (k:=0) rfl,?_,?_⟩;have h1:=hsm.key (YY A);unfold Qx;rw[zi (tW au),xx];show qb ((bl [107]).size+(bl (eY (lb v.XK[m])).1).size);have:=qJ (lb v.XK[m]);exact Xr φ;rw[Bj au];refine ai.more Z.ag ω (by rw[YM,YM,wa];omega) (n:=((y.len:Nat):Int)) λbB x1 U y1 y2 a6 aO=>⟨⟨m+1,aZ,x1,U,y1,y2,hw,b,Z.trans aO,?_⟩,φ⟩;have e:S++fO v (m+1) (DB S)=((S++fO v m (DB S))++Qy v.WT[m] (S++fO v m (DB S)).length)++[(gE v.XK[m],((y.len:Nat):Int))]:=by unfold fO;rw[zi l,zi l,AX b A,ah];unfold fO;rw[zi l,YM,ZL,ZL]
    rw[e];exact a6;have l:¬v.Wf=6:=ψ l
    refine⟨⟨m+1,M2,d1,d2,e1,e2,hw,b,z,?_⟩,φ⟩;have e:S++fO v (m+1) (DB S)=(S++fO v m (DB S))++Qy v.WT[m] (S++fO v m (DB S)).length:=by unfold fO;rw[za l,za l,yP b,YM,ZL]
    rw[e];exact ap;have aB:m=v.WT.length:=χ (fL f)
    subst aB;have aj:=SZ D (DB S);have aY:(fO v v.WT.length (DB S)).length+1=xd v:=by have:=wa v (DB S);rw[aj,YM,List.length_singleton]at this;exact this
    refine⟨y,B.box.aa2 (o:=0) (k:=0) rfl,?_⟩;refine B.more G.ag ω φ (n:=((s1.len:Nat):Int)) λbm x1 U y1 y2 s aJ=>?_;have z:=G.trans aJ;have aF:=aL z;refine⟨x1,U,s.box.ld (cs:=[aK x1,aK U]),?_⟩;refine X9 aF λbD Y aQ a1=>⟨x1,U,a1.ld (cs:=[aK x1,aK U]),x1,U,t,y1,y2,rfl,?_,?_⟩;have aI:t h2.size=Te:=by rw[z.old _ ω,E.old _ ω];exact nr
    exact(Grw.ofCall (F.trans E) z own).stay ω aI Y aQ;have af:∀c∈y1++y2,c≠h2.size:=λc f e=>by obtain h|h:=z.nw c f;have:=own c h;omega;omega
    have e:S++Qy v (DB S)=(S++fO v v.WT.length (DB S))++[(fy v,((s1.len:Nat):Int))]:=by rw[aj,an,ZL]
    rw[e];exact⟨s.r1.frame (λc f=>Y c (af c (YV _ f))) (Fr.le.refl _) (λc f=>(s.r1.own c f).2.2),s.r2.frame (λc f=>Y c (af c (ZH _ f))) (Fr.le.refl _) (λc f=>(s.r2.own c f).2.2),s.dj⟩)
   refine⟨v.Wf,T3.aa2 (o:=0) (k:=0) rfl,v.Wf,λ_=>T3.aa2 (o:=0) (k:=0) rfl,λf=>?_,λf=>?_⟩;have⟨e5,e6⟩:=hX.1 f;have e5:v.Wf≠5:=ψ e5
   have e6:v.Wf≠6:=ψ e6
   refine⟨v.Wf,v.aa0,sk,si,T3.ld (cs:=[_,_,aK sk,aK si]),?_⟩;refine(Al hg hsm (R:=λr=>r=Qx v) rfl).go (hM.trans F.le) F.ag (zn (a:=qr .tree v) hu zw) λw bg bn r aG p J=>?_;subst J;rw[uJ p];exact⟨_,_,rfl,ae _ _ _ aG (GM o e5 e6)⟩;refine ae _ _ _ (wr.refl F.ag) (hl ?_);obtain h|h:=kP.1 f;exact .inl (ψ h);exact .inr (ψ h)
  refine⟨v.Wf,T3.aa2 (o:=0) (k:=0) rfl,λl=>h7 _ λ_=>?_,λl=>h7 _ λh=>?_⟩;have l:v.Wf=6:=ψ l
  unfold fy;rw[za ω,zi l];have l:¬v.Wf=6:=ψ l
  unfold fy;simp;omega
end
section
def No(b:Int)(c:Bt)(d:Sl)(e:Sl)(h:zb)(R:vvv) (H:let f:=h.push (.cells #[iV b,aa6 c,aK d,aK e] 25);let g:=f.push (.cells tC 25);∃i,zd g (YH (aa8 h) 0)=Td (iV i)/\∃j,zd g (YH (aa8 h) 1)=Td (aa6 j)/\let k:=g.push (.cells tC 25);wf Tp (YI 25 (aa7 (aa8 g)) (.agg #[iV i,aa6 j,.slice Te 0 0,.slice Te 0 0])) k (λl=>let m:=l.push (.cells #[] 9);∃n,zd m (YH (aa8 h) 2)=Td (aK n)/\CA Tp (YN #[22,22] 22 #[.slice (Td (aa8 l)) 0 0,aK n]) m (λo p=>∃q,o=aK q/\∃(r:Sl->zb->Prop) (s:Sl->zb->Nat),r q p/\∀t:Sl,∀u:zb,r t u->(∃w,zd u (YH (aa8 h) 0)=Td (iV w)/\((cond (w==6) (hV ((t.len:Int)>0)) Tc)=Ta->∃(x:Int->Int->zb->Prop) (y:Int->Int->zb->Nat),x 0 1 u/\∀z A:Int,∀B:zb,x z A B->((hV (A<t.len)=Ta->∃C,(t.a=Td C/\0<=A/\A<t.len)/\∃D,zd B (C.add (A.toNat*1))=Td (aa6 D)/\∃E,(t.a=Td E/\0<=z/\z<t.len)/\∃F,zd B (E.add (z.toNat*1))=Td (aa6 F)/\((Op.bytesLess D.toList F.toList)=Ta->(x A (p3 (A+1)) B/\y A (p3 (A+1)) B<y z A B))/\((Op.bytesLess D.toList F.toList)=Tc->(x z (p3 (A+1)) B/\y z (p3 (A+1)) B<y z A B)))/\(hV (A<t.len)=Tc->∃G,zd B (YH (aa8 g) 2)=Td (aK G)/\∃I,(t.a=Td I/\0<=z/\z<t.len)/\∃J,zd B (I.add (z.toNat*1))=Td (aa6 J)/\let L:=B.push (.cells #[aa6 J] 9);g6 L B (YH (aa8 g) 2)/\CA Tp (YN #[22,22] 22 #[aK G,.slice (Td (aa8 B)) 1 1]) L (λM N=>∃O,M=aK O/\wf Tp (YI 22 (.pointer (Td (YH (aa8 g) 2))) (aK O)) N (λP=>∃Q,zd P (YH (aa8 g) 3)=Td (aK Q)/\∃S,zd P (YH (aa8 h) 3)=Td (aK S)/\∃T U V W,zc P (aa8 h) 0 (tL T U V W)/\∃X,(t.a=Td X/\0<=z/\z<t.len)/\∃Y,zd P (X.add (z.toNat*1))=Td (aa6 Y)/\aa4 164 #[tA T U V W,aa6 Y] P (λZ aa=>∃ab,Z=iV ab/\∃ac,(S.a=Td ac/\0<=ab/\ab<S.len)/\g6 aa P (YH (aa8 h) 3)/\g6 aa P (YH (aa8 g) 3)/\∃ad ae af ag,zc aa (ac.add (ab.toNat*4)) 0 (tL ad ae af ag)/\g6 aa P (YH (aa8 g) 3)/\aa4 107 #[tA ad ae af ag] aa (λah ai=>∃aj ak al am,ah=tA aj ak al am/\g6 ai P (YH (aa8 g) 3)/\let an:=ai.push (.cells #[iV aj,aa6 ak,aK al,aK am] 25);g6 an P (YH (aa8 g) 3)/\CA Tp (YN #[23,23] 23 #[aK Q,.slice (Td (aa8 ai)) 1 1]) an (λao ap=>∃aq,ao=aK aq/\wf Tp (YI 23 (.pointer (Td (YH (aa8 g) 3))) (aK aq)) ap (λar=>((Td (iV z):ab8)=Te\/∃v,(Td (iV z):ab8)=Td v)/\(0<=(0:Int)/\(0:Int)<=z/\z<=z/\z<=t.cap)/\((Te:ab8)=Te\/∃v,(Te:ab8)=Td v)/\(0<=(p3 (z+1))/\(p3 (z+1))<=(t.len:Int)/\(t.len:Int)<=(t.cap:Int)/\(t.cap:Int)<=(t.cap:Int))/\CA Tp (YN #[22,22] 22 #[.slice (eL t.a 1 ((0:Int).toNat) z.toNat) (z.toNat-(0:Int).toNat) (z.toNat-(0:Int).toNat),.slice (eL t.a 1 ((p3 (z+1)).toNat) ((t.cap:Int).toNat)) ((t.len:Int).toNat-(p3 (z+1)).toNat) ((t.cap:Int).toNat-(p3 (z+1)).toNat)]) ar (λau av=>∃aw,au=aK aw/\(r aw av/\s aw av<s t u)))))))))))/\((cond (w==6) (hV ((t.len:Int)>0)) Tc)=Tc->∃(ax:ab7) (ay:ab9),ax 0 u/\∀az:Int,∀aA:zb,ax az aA->(∃aB,zd aA (YH (aa8 h) 3)=Td (aK aB)/\∃aC,(hV (az<aB.len)=Ta->zd aA (YH (aa8 h) 0)=Td (iV aC))/\((cond (hV (az<aB.len)) (aC != 6) Tc)=Ta->∃aD,zd aA (YH (aa8 g) 3)=Td (aK aD)/\∃aE,zd aA (YH (aa8 h) 3)=Td (aK aE)/\∃aF,(aE.a=Td aF/\0<=az/\az<aE.len)/\∃aG aH aI aJ,zc aA (aF.add (az.toNat*4)) 0 (tL aG aH aI aJ)/\aa4 107 #[tA aG aH aI aJ] aA (λaL aM=>∃aN aO aP aQ,aL=tA aN aO aP aQ/\g6 aM aA (YH (aa8 g) 3)/\let aS:=aM.push (.cells #[iV aN,aa6 aO,aK aP,aK aQ] 25);g6 aS aA (YH (aa8 g) 3)/\CA Tp (YN #[23,23] 23 #[aK aD,.slice (Td (aa8 aM)) 1 1]) aS (λaT aU=>∃aV,aT=aK aV/\wf Tp (YI 23 (.pointer (Td (YH (aa8 g) 3))) (aK aV)) aU (λaW=>(ax (p3 (az+1)) aW/\ay (p3 (az+1)) aW<ay az aA)))))/\((cond (hV (az<aB.len)) (aC != 6) Tc)=Tc->∃aX aY aZ a0,zc aA (aa8 g) 0 (tL aX aY aZ a0)/\wf Tp (YI 25 (aa7 (aa8 f)) (tA aX aY aZ a0)) aA (λa1=>∃a2 a3 a4 a5,zc a1 (aa8 f) 0 (tL a2 a3 a4 a5)/\R (tA a2 a3 a4 a5) a1)))))))):aa4 107 #[.agg #[ab0 b,aa6 c,.slice d.a d.len d.cap,.slice e.a e.len e.cap]] h R:=XF ⟨[(10,8000),(11,8000),(12,8000),(16,8000)],[(3,[(4,.one (.sl))]),(6,[(5,.one (.int .i64)),(6,.one (.int .i64))]),(14,[(7,.one (.int .i64))])],[]⟩ [.cell 2 25] 99 func107 H
end
section
open Go.Lib
variable {L:List Bt} {m:Nat}
theorem C0{α:Type}(L:List α)(m:Nat):L.take m++L.drop (m+1)=L.eraseIdx m:=(List.eraseIdx_eq_take_drop_succ L m).symm
def NV(k:m<DB L)(h:∀x∈L,lb L[m]<=lb x):y9 L=L[m]::y9 (L.eraseIdx m):=by
 have i:L.Perm (L[m]::L.eraseIdx m):=by
  have e:L=L.take m++L[m]::L.drop (m+1):=by rw[<-ZG k,List.take_append_drop]
  rw[<-C0];exact(List.Perm.of_eq e).trans List.perm_middle
 have tr:∀a b c:List UInt8,hV (a<=b)=Ta->decide (b<=c)=Ta->decide (a<=c)=Ta:=λa b c h1 h2=>η
 have f:∀a b:List UInt8,(hV (a<=b)||decide (b<=a))=Ta:=λa b=>η
 have e:((L[m]::L.eraseIdx m).map lb).mergeSort (λx y=>decide (x<=y))=lb L[m]::((L.eraseIdx m).map lb).mergeSort (λx y=>decide (x<=y)):=by refine List.Perm.eq_of_pairwise (le:=λa b=>decide (a<=b)=Ta) (λa b _ _ h1 h2=>?_) (List.pairwise_mergeSort tr f _) (za4.2 ⟨λa l=>?_,List.pairwise_mergeSort tr f _⟩) ?_;grind;rw[(zcw _ _).mem_iff,zab]at l;grind;rw[ZC];exact(zcw _ _).trans (List.Perm.cons _ (zcw _ _).symm)
 rw[Zw i];unfold y9;simp_all
def Sj{m k:Nat}(c:m<DB L)(f:k<DB L)(h:∀j (b:j<DB L),j<k->lb L[m]<=lb L[j]):(Op.bytesLess L[k].toList L[m].toList=Ta->∀j (b:j<DB L),j<k+1->lb L[k]<=lb L[j])/\(Op.bytesLess L[k].toList L[m].toList=Tc->∀j (b:j<DB L),j<k+1->lb L[m]<=lb L[j]):=by
 have e:Op.bytesLess L[k].toList L[m].toList=hV (lb L[k]<lb L[m]):=by rw[Go.Proofs.bytesLess_eq,Qp,Qp]
 grind
end
section
open Go.Sort Go.Lib
variable {v:Tr} {i k n:Nat} {gl M:Fr} {t:Ty} {h g:zb} {src s:Sl} {K:Value -> zb -> Prop}
theorem GC(a b:Bt):(a.toList==b.toList)=hV (a=b):=by rw[ZI];simp only[ByteArray.toList_eq,beq_iff_eq,zA];constructor;intro h;cases a;simp_all;grind
def OC(h:zq v=Ta)(b:v.Wf=6):v.XK.length=v.WT.length:=by unfold zq at h;simp_all
theorem Ml{α:Type}{l:List α}(h:l.Nodup){i j:Nat}(hi:i<DB l)(c:j<DB l)(e:l[i]=l[j]):i=j:=by
 induction l generalizing i j with
 |nil=>simp at hi
 |cons a l b=>grind
def EQ(h:zq v=Ta)(b:v.Wf=6):v.XK.Nodup/\v.XK.length=v.WT.length:=by refine⟨?_,OC h b⟩;unfold zq at h;simp[b]at h;have:=h.1.1;unfold yh at this;simp_all
theorem EV{XK:List Bt}{x:Bt}(b:k<DB XK):idxFromS (XK.drop k) x k=ite (XK[k]=x) (k:Int) (idxFromS (XK.drop (k+1)) x (k+1)):=by rw[ZG b,idxFromS]
def Kp{key:Bt}(m:v.XK.length<=1000000000){R:ac6}(h:R (idxOfS v.XK key)):aa5 gl 164 [qr .tree v,qr .str key] [.int .i64] R:=by
 apply Kk;refine⟨λi=>∃k:Nat,i=k/\k<=v.XK.length/\idxOfS v.XK key=idxFromS (v.XK.drop k) key k,λi=>v.XK.length-i.toNat,⟨0,rfl,ZQ _,by rw[zbi];rfl⟩,?_⟩;rintro i ⟨k,rfl,l,e⟩;refine⟨λf=>?_,λf=>?_⟩;have b:k<v.XK.length:=by simp at f;omega
 refine⟨v.XK[k],⟨ω,ξ⟩,λc=>?_,λc=>?_⟩;simp_all[GC,EV];rw[GC]at c;rw[EV b,za (ψ c)]at e;grind [qo,YL];have b:k=v.XK.length:=by simp at f;omega
 subst b;rw[List.drop_length,idxFromS]at e;grind
def Ou{l:List Bt}(h:l.Nodup)(hi:i<DB l):idxOfS l l[i]=(i:Int):=by obtain⟨_,h2⟩|⟨k,h1,h2,b⟩:=By l[i] l 0;simp_all;unfold idxOfS;grind [YS,Ml,ZZ]
def QR{P:Program}{t e:TypeId}{z:Value}{sz bytes:Nat}(T:GS P t e z sz bytes){ty:TypeId}{p:Addr}{n N:Nat}{olds:ab2}(E:olds.length=n*sz)(k:∀j v,olds[j]?=Td v->zd h (p.add j)=Td v){news:ab2}(I:ik N h src.a news)(F:news.length=src.len*sz)(f:(n+src.len)*bytes<=140737488355328)(A:n+src.len<=4611686018427387904) (h0:src.len=0->K (.slice (Td p) n n) h) (C:∀(c:Nat) (h':zb) (l:ab3),0<src.len->n+src.len<=c->Blk h' h.size l->l.toList.take (olds++news).length=olds++news->Bk h.size h h'->K (.slice (Td (aa8 h)) (n+src.len) c) h'):CA P (YN #[t,t] ty #[.slice (Td p) n n,.slice src.a src.len src.cap]) h K:=by intro B d;have⟨i,hi,D,r,s⟩:=T.info;have y:=T.slice;subst r s;by_cases x:src.len=0;refine⟨_,d,h,?_,h0 x⟩;rw[x];generalize src.a=q;cases q <;> simp[YN,run_underlying y,sizeOf,typeInfo,hi,Builtin.lenOf,zb7,loadCells,loadCellsFrom,storeCells];obtain m|⟨b,o,m,M,L⟩:=I;subst m;have:=Nat.mul_pos (Nat.pos_of_ne_zero x) T.pos;grind;rw[m];have G:=run_append_grow (P:=P) (ty:=ty) (w:=mk B d h) t e i z y hi D p n n olds E (λj v J=>k j v J) ⟨b,o,Te⟩ src.len src.cap news F (λj u H=>by rw[zl];exact L j u H) ω ω (growslice_fits ω f);refine⟨_,_,_,G,C _ _ (olds.toArray++news.toArray++Builtin.zeroCells z.cells (grownCap (mk B d h) (n+src.len) n e-(n+src.len))) ω (grownCap_ge _ _ _ _) (v0 h _ e) ?_ (rg _ _ (YJ _))⟩;grind
def Ng(ag:AgM M h){ks:List Bt}(H:Rd M (.row .str) ks [aK s]):ik h.size h s.a (ks.map ZS):=by
 have⟨w,e,a,c,q,u,m⟩:=H;simp only[za7,and_true]at e;subst e;simp only[aK,zai]at q;have⟨h1,_,_⟩:=q;obtain rfl|⟨b,o,cs,n,l,p⟩:=m;exact .inl rfl;refine .inr ⟨b,o,by rw[h1,n],ag.lt l,λi v f=>?_⟩;rw[zav]at f;cases hk:ks[i]? with
 |none=>simp_all
 |some k=>
  rw[hk]at f;simp only[zc5,YK]at f;subst f;have⟨hi,e⟩:=ZN.1 hk;have:=p i hi;rw[e]at this;have r:cut cs (o+i) 1=[aa6 k]:=by have t:cut cs (o+i*sz .str) (sz .str)=[aa6 k]:=this;simpa[sz]using t
  exact lD ag l r
def Ed(ag:AgM M g){p:Addr}{olds news:List Bt}(h0:Rd M (.row .str) olds [aK ⟨Td p,n,n⟩])(u:Rd M (.row .str) news [aK src])(G:olds.length+DB news<=2000000) (s:∀(r:Sl) (g':zb) (t:Fr),wr g M g' t->Rd t (.row .str) (olds++news) [aK r]->K (aK r) g'):CA Tp (YN #[22,22] 22 #[.slice (Td p) n n,aK src]) g K:=by
 have z:n=DB olds:=(Bx h0).1;have⟨D,_,_⟩:=Bx u;refine QR pU (olds:=olds.map ZS) (news:=news.map ZS) (N:=g.size) (by simp[sz,z]) (λj v m=>?_) (Ng ag u) (by simp[sz,D]) ω ω (λH=>?_) λc g' f h1 E B w k=>?_;rw[zav]at m;cases e:olds[j]? with
 |none=>simp_all
 |some x=>rw[e]at m;obtain⟨h,rfl⟩:=ZN.1 e;cases m;have⟨b,o,cs,A,y,C⟩:=Go.X.SM h0 h;cases A;rw[zl];have:=lD ag y (v:=.string olds[j]) (o:=o+j*sz .str) C;simpa[sz]using this
 have:news=[]:=List.eq_nil_of_length_eq_zero ω;subst this;exact s ⟨Td p,n,n⟩ g M (wr.refl ag) θ;refine s ⟨Td (aa8 g),n+src.len,c⟩ g' (MxL M g' [g.size]) (wr.own (up ag k) λc E=>η) ⟨_,rfl,Td (aa8 g),c,?_,⟨η,θ⟩,.inr ⟨g.size,0,f,rfl,MxL.at ξ B,λi hi=>?_⟩⟩;show zb2 _ _ _=zb2 _ _ _;simp_all;show cut f (0+i*1) 1=[aa6 (olds++news)[i]];refine X0 rfl λq F=>?_;have l:q=0:=ω
 subst l;have e:(f.toList.take (olds.map ZS++news.map ZS).length)[i]?=(olds.map ZS++news.map ZS)[i]?:=ϕ w
 grind
theorem Bq{xs:List (El t)}(h:Rd M (.row t) xs [aK s]):xs=[]\/∃b o cs,s.a=Td ⟨b,o,Te⟩/\M b=Td cs/\∀i (hi:i<DB xs),Rd M t xs[i] (cut cs (o+i*sz t) (sz t)):=by have⟨w,e,a,c,q,k,f⟩:=h;simp only[za7,and_true]at e;subst e;simp only[aK,zai]at q;simp_all
def JG{xs:List (El t)}(h:Rd M (.row t) xs [aK s])(c:k<=DB xs):Rd M (.row t) (xs.take k) [aK ⟨s.a,k,k⟩]:=by
 have⟨h1,h2,e⟩:=Bx h;have b:(xs.take k).length=k:=by rw[ZV];omega
 refine⟨_,rfl,s.a,k,?_,⟨ω,ω⟩,?_⟩;show zb2 _ _ _=zb2 _ _ _;rw[b];grind [Bq]
def MB{xs:List (El t)}(h:Rd M (.row t) xs [aK s])(q:k<=DB xs):Rd M (.row t) (xs.drop k) [aK ⟨eL s.a (sz t) k s.cap,s.len-k,s.cap-k⟩]:=by
 have⟨h1,h2,p⟩:=Bx h;have c:(xs.drop k).length=s.len-k:=by rw[ZE];omega
 refine⟨_,rfl,eL s.a (sz t) k s.cap,s.cap-k,?_,⟨ω,ω⟩,?_⟩;show zb2 _ _ _=zb2 _ _ _;rw[c];by_cases l:xs.drop k=[];grind;have n:=zaj.2 l;obtain e|⟨b,o,cs,f,m,r⟩:=Bq h;simp_all;refine .inr ⟨b,o+k*sz t,cs,?_,m,λi hi=>?_⟩;unfold eL;rw[za ω,f,zc5,zm];grind
def wL{M b:Fr}{r o:Nat}{k:Int}{s:Bt}{sk si:Sl}(R:Blk g r #[ab0 0,aa6 ⟨#[]⟩,.slice Te 0 0,.slice Te 0 0])(O:Blk g o #[ab0 k,aa6 s,aK sk,aK si])(L:wr h M g b)(x:h.size<=r)(u:b r=Te){w:Tr}(rd:RdV b .tree w (.agg #[ab0 k,aa6 s,aK sk,aK si])){Q:Tr->Prop}(y:Q w):∃(p:Int) (i:Bt) (l e:Sl),zc g ⟨o,0,Te⟩ 0 [ab0 p,aa6 i,aK l,aK e]/\wf Tp (YI 25 (aa7 ⟨r,0,Te⟩) (.agg #[ab0 p,aa6 i,aK l,aK e])) g λc=>∃(f:Int) (t:Bt) (n m:Sl),zc c ⟨r,0,Te⟩ 0 [ab0 f,aa6 t,aK n,aK m]/\∃b q,wr h M c b/\x7 b [.tree] q (.agg #[ab0 f,aa6 t,aK n,aK m])/\Q q:=
 ⟨k,s,sk,si,O.ld (cs:=[_,_,aK sk,aK si]),qt R λB z z2 A=>⟨k,s,sk,si,A.ld (cs:=[_,_,aK sk,aK si]),b,w,wr.stay L x u z z2,Yu.2 rd,y⟩⟩
def BM(h:zq v=Ta)(b:v.Wf=5\/v.Wf=6):v.aa0=⟨#[]⟩:=by unfold zq at h;obtain k|k:=b;simp[k]at h;exact ByteArray.ext h.1;simp[k]at h;exact ByteArray.ext h.2
theorem Hb(h:zq v=Ta)(b:v.Wf≠6):v.XK=[]/\(v.Wf≠5->v.WT=[]):=by unfold zq at h;grind
def Bm:∀(n:Nat) (v:Tr),n<=1000000->cK v<=n->Qc zq v=Ta->∀(h:zb) (M:Fr) (u:Value),AgM M h->RdV M .tree v u->PX Tp 107 #[u] h M [.tree] (λq=>q=zh v)
 |0,v,_,hz,_=>χ (Zn v)
 |n+1,v,hn,hz,hok=>by
  intro h M u ag hu;obtain⟨sk,si,rfl,rk,ri⟩:=yg hu;have s:=hok;rw[y8,YR]at s;have N:=s.1;have cb:v.WT.length<=1000000:=by have:=xq v.WT;rw[yo]at hz;omega
  have ih:∀(i:Nat) (hi:i<v.WT.length) (h:zb) (M:Fr) (u:Value),AgM M h->RdV M .tree v.WT[i] u->PX Tp 107 #[u] h M [.tree] (λq=>q=zh v.WT[i]):=λi hi=>by
   have I:=YY hi;have hs:=yc I;have a1:Qc zq v.WT[i]=Ta:=by rw[je,ZB]at s;exact s.2 _ I
   exact Bm n v.WT[i] ω ω a1
  have⟨li,_,_⟩:=Bx ri;have⟨lk,_,_⟩:=Bx rk;have bQ:v.XK.length<=1000000:=by by_cases h6:v.Wf=6;have:=(EQ N h6).2;omega;rw[(Hb N h6).1];simp
  apply PX.of;apply No v.Wf v.aa0 sk si;intro h1;have⟨k1,z1,B1⟩:=yp (g:=h1) rfl;clear_value h1;intro h2;have⟨k2,z2,R2⟩:=yp (g:=h2) rfl;clear_value h2;have B2:=B1.aa3 k2;refine⟨v.Wf,B2.aa2 (o:=0) (k:=0) rfl,v.aa0,B2.aa2 (o:=0) (k:=1) rfl,?_⟩;intro h5;have⟨k5,z5,O5⟩:=yp (g:=h5) rfl;clear_value h5;refine qt (sk:=⟨Te,0,0⟩) (si:=⟨Te,0,0⟩) O5 λh6 f6 z6 O6=>?_;have k6:Bk h2.size h2 h6:=⟨ω,λj H=>by rw[f6 j ω];exact k5.get j H⟩;have bC:Bk h.size h h6:=(k1.trans k2 ω).trans k6 ω;intro h7;have⟨k7,z7,_⟩:=yp (g:=h7) rfl;clear_value h7;have L7:wr h M h7 M:=up ag (bC.trans k7 ω);have B7:=(B2.aa3 k6).aa3 k7;have R7:=(R2.aa3 k6).aa3 k7;have O7:=O6.aa3 k7;refine⟨sk,B7.aa2 (o:=0) (k:=2) rfl,?_⟩;refine Ed L7.ag (olds:=[]) (news:=v.XK) (n:=0) (p:=(aa8 h6)) ⟨_,rfl,_,_,rfl,⟨ξ,ξ⟩,.inl rfl⟩ rk φ λaO b M2 F aU=>?_;rw[zal]at aU;refine⟨aO,rfl,?_⟩;have bS:=F.aa1.size;have LL:=L7.trans F;have aa:=B7.aa1 (F.aa1.get _ ω);have aL:=R7.aa1 (F.aa1.get _ ω);have bj:=O7.aa1 (F.aa1.get _ ω);have nO:M2 h2.size=Te:=by rw[F.old _ ω];exact ag.none ω
  have nR:M2 h1.size=Te:=by rw[F.old _ ω];exact ag.none ω
  have V0:v.aa0=⟨#[]⟩->VbM b.size h M h2.size v.Wf ⟨Te,0,0⟩ ⟨Te,0,0⟩ b M2 [] [] ⟨Te,0,0⟩ ⟨Te,0,0⟩ [] []:=λet=>⟨LL,θ,Fd.nil,Fd.nil,λc t=>(ε t),ω,ω,YJ _,nO⟩;by_cases B:v.Wf=6;have et:=BM N (.inr B);have⟨bN,bE⟩:=EQ N B;have hS:zh v=.mk v.Wf v.aa0 (y9 v.XK) ((y9 v.XK).map λq=>eW (v.XK.zip (v.WT.map zh)) q):=by rw[yw,zi B]
  refine⟨λleft g=>∃(L D:List Bt) (M':Fr) (zk G:Sl) (bk bi:ab1),Rd M' (.row .str) L [aK left]/\VbM b.size h M h2.size v.Wf zk G g M' D (D.map λq=>eW (v.XK.zip (v.WT.map zh)) q) zk G bk bi/\y9 v.XK=D++y9 L/\(∀q∈L,q∈v.XK)/\M' h1.size=Te/\(∀j,j<b.size->j≠h2.size->g[j]?=b[j]?),λleft _=>left.len,⟨v.XK,[],M2,⟨Te,0,0⟩,⟨Te,0,0⟩,[],[],aU,V0 et,rfl,λq hq=>hq,nR,λ_ _ _=>rfl⟩,?_⟩;rintro left g ⟨L,D,M',zk,G,bk,bi,rL,V,eD,ay,ah,fg⟩;have J:=V.L.ag;have bu:=V.lg;have⟨lL,_,_⟩:=Bx rL;have b9:D.length+DB L=v.XK.length:=by have:=congrArg List.length eD;rw[uX,YM,uX]at this;omega
  have Bg:=aa.aa1 (fg h.size ω ω);have Rg:=aL.aa1 (fg h1.size ω ω);refine⟨v.Wf,Bg.aa2 (o:=0) (k:=0) rfl,λt=>?_,λt=>?_⟩;have ax:0<DB L:=χ (zB (hX.1 t).2)
  refine⟨λm i g'=>∃(e ii:Nat),m=(e:Int)/\i=(ii:Int)/\g'=g/\ii<=DB L/\∃I:e<DB L,∀j (H:j<DB L),j<ii->lb L[e]<=lb L[j],λ_ i _=>DB L-i.toNat,⟨0,1,rfl,rfl,rfl,ax,ax,λj H bZ=>θ⟩,?_⟩;rintro m i g' ⟨e,ii,rfl,rfl,rfl,ca,f,au⟩;refine⟨λaF=>?_,λaF=>?_⟩;have hi:ii<DB L:=χ (fo aF)
  have⟨a,ha,x,hx,ex⟩:=gS J rL hi (i:=(ii:Int)) rfl (L:=left.len) rfl (Q:=λx=>x=L[ii]) rfl;have⟨a',bO,y,hy,ey⟩:=gS J rL f (i:=(e:Int)) rfl (L:=left.len) rfl (Q:=λx=>x=L[e]) rfl;subst ex;subst ey;have⟨s1,s2⟩:=Sj f hi au;have hw:=qo hi ω;exact⟨a,ha,_,hx,a',bO,_,hy,λhl=>⟨⟨ii,ii+1,rfl,hw,rfl,hi,hi,s1 hl⟩,φ⟩,λhl=>⟨⟨e,ii+1,rfl,hw,rfl,hi,f,s2 hl⟩,φ⟩⟩;have bm:ii=DB L:=χ (fL aF)
  subst bm;have es:=NV f λx hx=>by obtain⟨j,H,rfl⟩:=zbt.1 hx;exact au j H H
  have hq:=ay _ (YY f);have⟨am,bI,x,br,ex⟩:=gS J rL f (i:=(e:Int)) rfl (L:=left.len) rfl (Q:=λx=>x=L[e]) rfl;subst ex;refine⟨zk,V.box.aa2 (o:=0) (k:=2) rfl,am,bI,_,br,?_⟩;have aE:=V.box.lt;intro aC;have⟨k29,b7,bB⟩:=yp (g:=aC) rfl;have aS:VbM b.size h M h2.size v.Wf zk G aC M' D (D.map λq=>eW (v.XK.zip (v.WT.map zh)) q) zk G bk bi:=V.push _;clear_value aC;refine⟨by rw[zl];exact k29.get _ aE,?_⟩;refine aS.key ω bB λan cc aZ a6 b8 bF=>⟨an,rfl,?_⟩;refine a6.st2 λaV af bU bM=>?_;have P:∀j,j<b.size->j≠h2.size->aV[j]?=g'[j]?:=λj H h0=>by rw[bM j h0,bF j ω λI=>χ ((aS.XK.own j I).1)];exact k29.get j ω
  have aM:=Bg.aa1 (P h.size ω ω);have aT:=Rg.aa1 (P h1.size ω ω);have ar:=af.L.ag;have⟨bH,bG,x,ba,ex⟩:=gS ar rL f (i:=(e:Int)) rfl (L:=left.len) rfl (Q:=λx=>x=L[e]) rfl;subst ex;refine⟨G,af.box.aa2 (o:=0) (k:=3) rfl,si,aM.aa2 (o:=0) (k:=3) rfl,v.Wf,v.aa0,sk,si,aM.ld (cs:=[_,_,aK sk,aK si]),bH,bG,_,ba,?_⟩;have Z:=af.L.le;refine(Kp (gl:=M') (v:=v) (key:=L[e]) ω (R:=λr=>r=Lib.idxOfS v.XK L[e]) rfl).go (Fr.le.refl _) ar (zn (a:=qr .tree v) (qe (rk.mono Z) (ri.mono Z)) (zn (a:=qr .str L[e]) (DH _) zw)) λw bV cd r O z hr=>?_;rw[pe z,hr];have⟨j,j1,j2,e1,e2,_⟩:=qB L[e] v.XK (v.WT.map zh) (by rw[YO];exact bE) hq;rw[YO]at j2;have ej:Lib.idxOfS v.XK L[e]=(j:Int):=by rw[<-e1];exact Ou bN j1
  rw[ej];have b6:=O.aa1.size;have⟨a8,ck,ci,ea,aA,t1,t2⟩:=ie O.ag (ri.mono (Z.trans O.le)) j2;have S:=af.box.lt;have ab:=O.aa1;refine⟨(j:Int),rfl,a8,⟨ea,ω,ω⟩,by rw[zl];exact ab.get _ aM.lt,by rw[zl];exact ab.get _ S,v.WT[j].Wf,v.WT[j].aa0,ck,ci,by rw[YL];exact aA,by rw[zl];exact ab.get _ S,?_⟩;refine(ih j j2 _ _ _ O.ag (qe t1 t2)).go λw bg ai q C z aJ=>?_;subst aJ;obtain⟨xk,xi,rfl,y1,y2⟩:=yg (Yu.1 z);have l:=O.trans C;have A:=l.aa1.get _ S;have bJ:=l.aa1.size;refine⟨_,_,xk,xi,rfl,by rw[zl];exact A,?_⟩;intro E;have⟨U,bq,aB⟩:=yp (g:=E) rfl;have ae:VbM b.size h M h2.size v.Wf an G E ai (D++[L[e]]) (D.map λq=>eW (v.XK.zip (v.WT.map zh)) q) an G aZ bi:=(af.call l).push _;clear_value E;refine⟨by rw[zl];exact(U.get h2.size ω).trans A,?_⟩;refine ae.item (by rw[YO];omega) aB (qe y1 y2) λY bA aI aG a7 aH=>⟨Y,rfl,?_⟩;refine aG.st3 λaP ak bn aN=>?_;have aQ:∀j,j<b.size->j≠h2.size->aP[j]?=g'[j]?:=λj H h0=>by
   have bP:g'.size<=aV.size:=ω
   rw[aN j h0,aH j ω λI=>χ ((ae.WT.own j I).1),U.get j ω,l.aa1.get j ω];exact P j H h0
  have hw:=qo f ω;rw[hw];refine⟨.inr ⟨_,rfl⟩,⟨ω,ω,ω,ω⟩,.inl rfl,⟨ω,ω,ω,ω⟩,?_⟩;simp only[YL,Int.toNat_zero,Nat.sub_zero,HF];have ap:Fr.le M' ai:=l.le;have⟨pb,po,bT,ep,_⟩:=Go.X.SM rL f;have rT:=JG (rL.mono ap) (k:=e) ω;have rD:=MB (rL.mono ap) (k:=e+1) f;rw[ep]at rT;rw[ep];rw[ep]at rD;have app:=λK=>Ed (K:=K) ak.L.ag rT rD (by rw[ZV,ZE];omega);refine app _ λbL bY bD az aY=>⟨bL,rfl,⟨L.eraseIdx e,D++[L[e]],bD,an,Y,aZ,aI,?_,?_,?_,?_,?_,?_⟩,?_⟩;rw[<-C0];exact aY;have:=ak.call az;rw[zaa,ZC,List.map_nil,e2,List.getElem_map];exact this;rw[ZL,eD,es];rfl;exact λq hq=>ay q (List.mem_of_mem_eraseIdx hq);rw[az.old _ (χ aT.lt),l.old _ aT.lt];exact ah;intro j H h0;rw[az.aa1.get j ω,aQ j H h0];exact fg j H h0;have:=(Bx aY).1;rw[YM,ZV,ZE]at this;omega;have hL:L=[]:=by obtain h|h:=kP.1 t;simp_all;simp_all
  subst hL;rw[show y9 []=[]from List.Perm.eq_nil (jb []),ZY]at eD;refine⟨λi g'=>i=0/\g'=g,λ_ _=>0,⟨rfl,rfl⟩,?_⟩;rintro i g' ⟨rfl,rfl⟩;refine⟨si,Bg.aa2 (o:=0) (k:=3) rfl,v.Wf,λ_=>Bg.aa2 (o:=0) (k:=0) rfl,λt=>?_,λt=>?_⟩;have:=(hX.1 t).2;simp[B]at this;have bz:D.length<=1000000:=ω
  have⟨Lf,rf⟩:=V.fin ⟨bz,θ⟩;refine wL Rg V.box Lf ω ?_ rf ?_;unfold MxL;rw[za λI=>?_];exact ah;obtain h|h:=ZF.1 I;have:=(V.XK.own _ h).1;omega;have:=(V.WT.own _ h).1;omega;rw[hS,eD,et];refine⟨λleft g=>left=aO/\g=b,λ_ _=>0,⟨rfl,rfl⟩,?_⟩;rintro left g ⟨rfl,rfl⟩;refine⟨v.Wf,aa.aa2 (o:=0) (k:=0) rfl,λt=>?_,λ_=>?_⟩;have:=(hX.1 t).1;simp[B]at this;have hS:zh v=.mk v.Wf v.aa0 [] (v.WT.map zh):=by rw[yw,za B]
  by_cases h5:v.Wf=5;have et:=BM N (.inl h5);refine⟨λi g'=>∃(m:Nat) (M':Fr) (G:Sl) (bi:ab1),i=(m:Int)/\m<=v.WT.length/\VbM g.size h M h2.size v.Wf ⟨Te,0,0⟩ G g' M' [] ((v.WT.take m).map zh) ⟨Te,0,0⟩ G [] bi/\M' h1.size=Te/\(∀j,j<g.size->j≠h2.size->g'[j]?=g[j]?),λi _=>v.WT.length-i.toNat,⟨0,M2,⟨Te,0,0⟩,[],rfl,ZQ _,V0 et,nR,λ_ _ _=>rfl⟩,?_⟩;rintro i g' ⟨m,M',G,bi,rfl,I,V,ah,fg⟩;have bu:=V.lg;have J:=V.L.ag;have Bg:=aa.aa1 (fg h.size ω ω);have Rg:=aL.aa1 (fg h1.size ω ω);refine⟨si,Bg.aa2 (o:=0) (k:=3) rfl,v.Wf,λ_=>Bg.aa2 (o:=0) (k:=0) rfl,λt=>?_,λt=>?_⟩;have aj:m<v.WT.length:=χ (fo (hX.1 t).1)
  have⟨a,ck,ci,ea,aA,t1,t2⟩:=ie J (ri.mono V.L.le) aj;have aE:=V.box.lt;refine⟨G,V.box.aa2 (o:=0) (k:=3) rfl,si,Bg.aa2 (o:=0) (k:=3) rfl,a,⟨ea,ω,ω⟩,v.WT[m].Wf,v.WT[m].aa0,ck,ci,by rw[YL];exact aA,?_⟩;refine(ih m aj _ _ _ J (qe t1 t2)).go λw bg ai q C z aJ=>?_;subst aJ;obtain⟨xk,xi,rfl,y1,y2⟩:=yg (Yu.1 z);have A:=C.aa1.get _ aE;have bJ:=C.aa1.size;refine⟨_,_,xk,xi,rfl,by rw[zl];exact A,?_⟩;intro E;have⟨U,bq,aB⟩:=yp (g:=E) rfl;have ae:VbM g.size h M h2.size v.Wf ⟨Te,0,0⟩ G E ai [] ((v.WT.take m).map zh) ⟨Te,0,0⟩ G [] bi:=(V.call C).push _;clear_value E;refine⟨by rw[zl];exact(U.get h2.size ω).trans A,?_⟩;refine ae.item (by rw[YO,ZV];omega) aB (qe y1 y2) λY bA aI aG a7 aH=>⟨Y,rfl,?_⟩;have hw:=qo aj ω;refine aG.st3 λaP ak bn aN=>⟨⟨m+1,ai,Y,aI,hw,aj,?_,?_,λj H h0=>?_⟩,by rw[hw];simp only[YL];omega⟩;rw[YP aj,zaa];exact ak;rw[C.old _ Rg.lt];exact ah;rw[aN j h0,aH j ω λI=>χ ((ae.WT.own j I).1),U.get j ω,C.aa1.get j ω];exact fg j H h0;have be:m=v.WT.length:=by obtain h|h:=kP.1 t;have:=fL h;omega;simp[h5]at h
  subst be;rw[ZX]at V;have⟨Lf,rf⟩:=V.fin ⟨ZQ _,θ⟩;refine wL Rg V.box Lf ω ?_ rf ?_;unfold MxL;rw[za λI=>?_];exact ah;obtain h|h:=ZF.1 I;cases h;have:=(V.WT.own _ h).1;omega;rw[hS,et];have e0:=(Hb N B).2 h5;refine⟨λi g'=>i=0/\g'=g,λ_ _=>0,⟨rfl,rfl⟩,?_⟩;rintro i g' ⟨rfl,rfl⟩;refine⟨si,aa.aa2 (o:=0) (k:=3) rfl,v.Wf,λ_=>aa.aa2 (o:=0) (k:=0) rfl,λt=>?_,λt=>?_⟩;have:=fo (hX.1 t).1;rw[li,e0]at this;exact absurd this ζ;exact wL aL bj LL ω nR (w:=.mk v.Wf v.aa0 [] []) (qe (v:=.mk v.Wf v.aa0 [] []) J5 J5) (by rw[hS,e0];rfl)
def T9(k:GL gl)(n:Sm v){R:Tr->Prop}(c:R (jh v)):aa5 gl 59 [qr .tree v] [.tree] R:=by
 apply Vp;simp only[Zp];refine Ns k n ⟨λf=>?_,λf=>?_⟩;have:Zo v=Tc:=ψ f
 unfold jh at c;simp_all;have i:Zo v=Ta:=ψ f
 unfold jh at c;rw[zi i]at c;have e:=i;unfold Zo wy at e;simp only[YR,zA]at e;intro h M vs o ag m
 match vs,m with
 |[u],⟨hu,_⟩=>exact PX.of ((Bm (cK v) v ω (YJ _) e.2 h M u ag hu).go λw h' M' q L b l=>⟨M',q,L,b,ϖ l c⟩)
end
section
open Go.RowKit
section
def Gz:∀(n:Nat) (v:Tr),cK v<=n->xd v+1<=2*cK v
 |0,v,h=>χ (Zn v)
 |n+1,v,h=>by
  have e:∀l:List Tr,(∀x∈l,cK x<=n)->eE 0 l<=2*Ze l/\eE 1 l<=2*Ze l:=by
   intro l;induction l with
   |nil=>intro _;simp[eE]
   |cons x l i=>intro c;have a:=Gz n x (c x ξ);have b:=i λy f=>c y (ϑ f);rw[eE,eE,Ze];omega
  have hi:=e v.WT λx c=>χ (yc c)
  rw[se,yo];split;omega;split <;> omega
theorem Grw.later{h h':zb}{M M':Fr}{bs':ab1}(G:Grw h M h.size [] h' M' bs'):wr h M h' M':=⟨⟨G.grow,λj b=>G.fr j b ω ξ⟩,G.le,G.old,G.ag⟩
def JX{gl:Fr}(hg:GL gl){v:Tr}(hv:Sm v){R:(List Bt×List Int)×Int->Prop}(y:R (fX v)):aa5 gl 15 [qr .tree v] [.pair (.row .str) (.row q0),.int .i64] R:=by
 intro h M vs hM ag ha
 match vs,ha with
 |[u],⟨V,_⟩=>
  have V:RdV M .tree v u:=V;have I:=V;obtain⟨sk,si,rfl,rk,ri⟩:=yg V;apply PX.of;apply Vi v.Wf v.aa0 sk si;intro h1;have⟨k1,z1,B1⟩:=yp (g:=h1) rfl;clear_value h1;intro h2;have⟨k2,z2,R2⟩:=yp (g:=h2) rfl;clear_value h2;have B2:=B1.aa3 k2;have ab:Bk h.size h h2:=k1.trans k2 ω;have L2:wr h M h2 M:=up ag ab;have done:∀(g:zb) (M':Fr) (t:List Bt×List Int) (e:Int) (s1 s2:Sl),wr h2 M g M'->Rd M' (.row .str) t.1 [aK s1]->Rd M' (.row q0) t.2 [aK s2]->R (t,e) ->
   wf Tp (YI 31 (aa7 (aa8 h1)) (.agg #[aK s1,aK s2])) g λg'=>∃D E:Sl,zc g' (aa8 h1) 0 [aK D,aK E]/\∃M2 q,wr h M g' M2/\x7 M2 [.pair (.row .str) (.row q0),.int .i64] q (.tuple #[.agg #[aK D,aK E],ab0 e])/\R q:=by
   intro g M' t e s1 s2 L D E S;have nR:M' h1.size=Te:=by rw[L.old _ ω];exact ag.none ω
   refine X9 (R2.aa1 (L.aa1.get _ ω)) λg' f z B=>⟨s1,s2,B.ld (cs:=[aK s1,aK s2]),M',(t,e),wr.stay (L2.trans L) ω nR f z,⟨[_,_],⟨_,_,rfl,xg D E,_,rfl,Zj _ _⟩,rfl⟩,S⟩
  refine⟨v.Wf,v.aa0,sk,si,B2.ld (cs:=[_,_,aK sk,aK si]),?_⟩;refine(Gw hg hv (R:=λr=>r=qh v) rfl).go (vs:=[.agg #[ab0 v.Wf,aa6 v.aa0,aK sk,aK si]]) hM L2.ag (zn I zw) λw h8 M8 r A m S=>?_;subst S;refine⟨_,ez m,λn=>?_,λn=>?_⟩
  ·have n:qh v=Tc:=ψ n
   unfold fX at y;rw[za (υ n)]at y;exact done h8 M8 ([],[]) 1 ⟨Te,0,0⟩ ⟨Te,0,0⟩ A J5 J5 y
  have n:qh v=Ta:=ψ n
  unfold fX at y;rw[zi n]at y;refine⟨v.Wf,v.aa0,sk,si,(B2.aa1 (A.aa1.get _ ω)).ld (cs:=[_,_,aK sk,aK si]),?_⟩;refine(T9 hg hv (R:=λr=>r=jh v) rfl).go (vs:=[.agg #[ab0 v.Wf,aa6 v.aa0,aK sk,aK si]]) (hM.trans A.le) A.ag (zn (I.mono A.le) zw) λw x Q r p m S=>?_;subst S;have H:=Yu.1 m;obtain⟨xk,xi,rfl,y1,y2⟩:=yg H;refine⟨_,_,xk,xi,rfl,?_⟩;have hs:=vC n;have af:qh (jh v)=Ta:=by rw[BX];exact n
  have⟨q1,q2,q3,q4⟩:=Y5 af;have ak:=Gz _ (jh v) (YJ _);have z8:=A.aa1.size;have ai:=p.aa1.size;refine XC.mono (Eh hg (lo:=x.size) (cK (jh v)) (jh v) q1 (YJ _) q3 (Am hv) x Q [] ⟨Te,0,0⟩ ⟨Te,0,0⟩ [] [] _ p.ag (hM.trans (A.le.trans p.le)) ⟨Fd.nil,Fd.nil,λc b=>ε b⟩ (YJ _) (by simp only[ZW];omega) H) ?_;rintro w a ⟨J,Y,l,c1,c2,rfl,G,P⟩;rw[zal,ZW,hs]at P;have G:Grw x Q x.size [] a l (c1++c2):=G;have C:wr h2 M a l:=(A.trans p).trans G.later;have ah:=G.grow;refine⟨J,Y,rfl,?_⟩;intro F;have⟨U,aj,aa⟩:=yp (g:=F) rfl;clear_value F;refine X9 aa λi N ae O=>?_;have s:wr h2 M i l:=wr.stay (C.trans (up C.ag U)) ω (C.ag.none (YJ _)) N ae;have fr:∀c,c<a.size->i[c]?=a[c]?:=λc b=>by rw[N c ω];exact U.get c b
  have D:=P.r1.frame (h':=i) (M':=l) (λc b=>fr c (P.r1.own c b).2.1) (Fr.le.refl _) λc b=>(P.r1.own c b).2.2;have E:=P.r2.frame (h':=i) (M':=l) (λc b=>fr c (P.r2.own c b).2.1) (Fr.le.refl _) λc b=>(P.r2.own c b).2.2;have Z:=P.r1.len;rw[YO,wa]at Z;have am:=wa (zh v) 0;refine⟨J,O.aa2 (o:=0) (k:=0) rfl,λb=>?_,λb=>?_⟩
  ·have b:=zB b;rw[zi ω]at y;exact done i l ([],[]) 6 ⟨Te,0,0⟩ ⟨Te,0,0⟩ s J5 J5 y
  ·have b:=zC b;rw[za ω]at y;refine⟨J,Y,O.ld (cs:=[aK J,aK Y]),?_⟩;have own:∀c∈c1++c2,h2.size<=c:=λc b=>by obtain h|h:=ZF.1 b;have:=(D.own c h).1;omega;have:=(E.own c h).1;omega
   exact done i _ (fM (Qy (zh v) 0)) 0 J Y (wr.own s own) (D.rd s.ag (λc b=>YV _ b) (by rw[YO];omega)) (E.rd s.ag (λc b=>ZH _ b) (by rw[YO];omega)) y
end
section
variable {M:Fr} {h:zb} {s:Sl} {x:Int} {i:Nat}
def lC(ag:AgM M h){xs:ac7}(H:Rd M (.row q0) xs [aK s])(f:x=(i:Int))(hi:i<DB xs){Q:ac6}(e:Q (aR xs i)):∃a:Addr,(s.a=Td a/\0<=x/\x<((s.len:Nat):Int))/\∃v:Int,zd h (a.add (x.toNat*1))=Td (ab0 v)/\Q v:=by
 subst f;have⟨b,o,l,c⟩:=hP ag H (k:=i) hi;have m:xs[i]=aR xs i:=by unfold aR;rw[zaf,YS hi];rfl
 rw[m]at c;have⟨n,_,_⟩:=Bx H;exact⟨_,⟨l,ω,ω⟩,_,by rw[zm,YL];exact c,e⟩
def zN(ag:AgM M h){xs:List Bt}(H:Rd M (.row .str) xs [aK s])(e:x=(i:Int))(hi:i<DB xs){Q:Bt->Prop}(b:Q (wo xs i)):∃a:Addr,(s.a=Td a/\0<=x/\x<((s.len:Nat):Int))/\∃v:Bt,zd h (a.add (x.toNat*1))=Td (aa6 v)/\Q v:=by
 have c:xs[i]=wo xs i:=by unfold wo;rw[zaf,YS hi];rfl
 rw[<-c]at b;exact gS ag H hi e rfl b
end
section
variable {n m f:Nat} {Ls:List Bt} {g':zb}
def kT(L:List Int)(n m:Nat):List Nat:=(zac m).filter λi=>decide (Jf L L.length i=(n:Int))
theorem tM{L:ac7}(h:Jf L (DB L) m=(n:Int)):kT L n (m+1)=kT L n m++[m]:=by unfold kT;rw[zbv,List.filter_append];simp[h]
theorem vf{L:ac7}(h:Jf L (DB L) m≠(n:Int)):kT L n (m+1)=kT L n m:=by unfold kT;rw[zbv,List.filter_append];simp[h]
theorem IE{L:ac7}(b:fJ L (DB L)=Ta)(k:n<DB L):kT L n n=zz L n:=by
 have h:∀d,n+d<=DB L->kT L n (n+d)=kT L n n:=by
  intro d;induction d with
  |zero=>simp
  |succ d f=>intro c;rw[<-Nat.add_assoc,vf λe=>χ ((Y7 b (i:=n+d) ω e).1)];grind
 have:=h (DB L-n) ω;rw[show n+(DB L-n)=L.length by omega]at this;exact this.symm
def Ri{L:ac7}(b:fJ L (DB L)=Ta)(h:n<DB L)(c:(m:Int)<=aR L n)(f:m<=DB L):kT L n m=[]:=by unfold kT;rw[List.filter_eq_nil_iff];intro i hi;have hi:=zaz.1 hi;rw[zA];intro e;have:=(Y7 b (i:=i) ω e).2.2.1;omega
def Kx(L:ac7)(n m:Nat):(kT L n m).length<=m:=by unfold kT;grind
def fx(Ls:List Bt)(L:List Int)(rd:Nat->Tr×Bool)(k:Int)(j:Nat):Bt×Tr×Bool:=if k=6 then gh Ls L rd j else(⟨#[]⟩,rd j)
def gI(k:Int)(l:List (Bt×Tr×Bool)):List Bt:=if k=6 then l.map (·.1)else []
def kX(k:Int)(l:List (Bt×Tr×Bool)):Tr×Bool:=if l.all (·.2.2)=Ta then(.mk k ⟨#[]⟩ (gI k l) (l.map (·.2.1)),Ta)else(fj,Tc)
def Sk{L:ac7}(h:wo Ls n=bl [91]):cR Ls L (f+1) n=kX 5 ((zz L n).map (fx Ls L (cR Ls L f) 5)):=by rw[cR,zi h];unfold kX gI fx;simp[zc4,Function.comp_def]
def Tz{L:ac7}(h0:¬wo Ls n=bl [91])(h:wo Ls n=bl [123]):cR Ls L (f+1) n=kX 6 ((zz L n).map (fx Ls L (cR Ls L f) 6)):=by rw[cR,za h0,zi h];unfold kX gI fx;simp[zc4,Function.comp_def]
def IC{L:ac7}(h0:¬wo Ls n=bl [91])(h:¬wo Ls n=bl [123]):cR Ls L (f+1) n=((ym (wo Ls n)).1,(ym (wo Ls n)).2&&hV (aR L n=(n:Int))):=by rw[cR,za h0,za h]
structure W15 (h:zb) (M:Fr) (s1 s2:Sl) (r b:Nat) (k:Int) (z2 z3:Sl) (g:zb) (M':Fr) (ks:List Bt) (xs:List Tr) (sk si:Sl) (bk bi:List Nat):Prop where
 V:VbM (b+1) h M b k z2 z3 g M' ks xs sk si bk bi
 tb:Blk g h.size #[aK s1,aK s2]
 rb:Blk g r #[.int .i64 0,.string ⟨#[]⟩,.slice Te 0 0,.slice Te 0 0]
 nR:M' r=Te
 hr:r=h.size+1
 hb:b=h.size+2
section
variable {h : zb} {M : Fr} {s1 s2 : Sl} {r b : Nat} {k : Int} {z2 z3 : Sl} {g : zb} {M' : Fr} {ks : List Bt} {xs : List Tr} {sk si : Sl} {bk bi : List Nat}
theorem W15.call(W:W15 h M s1 s2 r b k z2 z3 g M' ks xs sk si bk bi){c:Fr}(L:wr g M' g' c):W15 h M s1 s2 r b k z2 z3 g' c ks xs sk si bk bi:= ⟨W.V.call L,W.tb.aa1 (L.aa1.get _ W.tb.lt),W.rb.aa1 (L.aa1.get _ W.rb.lt),by rw[L.old _ W.rb.lt];exact W.nR,W.hr,W.hb⟩
theorem W15.push(W:W15 h M s1 s2 r b k z2 z3 g M' ks xs sk si bk bi)(o:Obj):W15 h M s1 s2 r b k z2 z3 (g.push o) M' ks xs sk si bk bi:=W.call (wr.push W.V.L.ag o)
theorem W15.step(W:W15 h M s1 s2 r b k z2 z3 g M' ks xs sk si bk bi){o i:Sl}{l:List Bt}{e:List Tr}{c m:Sl}{n p:ab1}(V:VbM (b+1) h M b k o i g' M' l e c m n p)(f:∀j,j<b->g'[j]?=g[j]?):W15 h M s1 s2 r b k o i g' M' l e c m n p:= ⟨V,W.tb.aa1 (f _ (χ W.hb)),W.rb.aa1 (f _ (by grind [hb,hr])),W.nR,W.hr,W.hb⟩
theorem W15.done(W:W15 h M s1 s2 r b k sk si g M' ks xs sk si bk bi)(x:ks.length<=1000000/\DB xs<=1000000){q:Tr×Bool}(A:q=(.mk k ⟨#[]⟩ ks xs,Ta)):∃(u:Int) (p:Bt) (o l:Sl),zc g ⟨b,0,Te⟩ 0 [ab0 u,aa6 p,aK o,aK l]/\wf Tp (YI 25 (aa7 ⟨r,0,Te⟩) (.agg #[ab0 u,aa6 p,aK o,aK l])) g λi=>∃(n:Int) (w:Bt) (t s:Sl),zc i ⟨r,0,Te⟩ 0 [ab0 n,aa6 w,aK t,aK s]/\∃m r,wr h M i m/\x7 m [.tree,.bool] r (.tuple #[.agg #[ab0 n,aa6 w,aK t,aK s],aa9 Ta])/\r=q:=by subst A;have E:=W.hb;have D:=W.hr;have V:=W.V;refine⟨_,_,sk,si,V.box.ld (cs:=[_,_,aK sk,aK si]),?_⟩;refine qt W.rb λy f z C=>⟨_,_,sk,si,C.ld (cs:=[_,_,aK sk,aK si]),?_⟩;have B:VbM (b+1) h M b k sk si y M' ks xs sk si bk bi:=⟨wr.stay V.L ω W.nR f z,V.box.aa1 (f b ω),V.XK.frame (λc e=>f c (χ ((V.XK.own c e).1))) (Fr.le.refl _) (λc e=>(V.XK.own c e).2.2),V.WT.frame (λc e=>f c (χ ((V.WT.own c e).1))) (Fr.le.refl _) (λc e=>(V.WT.own c e).2.2),V.dj,V.hb,V.bl,by rw[z];exact V.lg,V.nB⟩;have⟨L,F⟩:=B.fin x;grind [jD]
theorem W15.bad(W:W15 h M s1 s2 r b k z2 z3 g M' ks xs sk si bk bi){q:Tr×Bool}(o:q=(fj,Tc)):wf Tp (YI 25 (aa7 ⟨r,0,Te⟩) (.agg #[ab0 0,aa6 ⟨#[]⟩,.slice Te 0 0,.slice Te 0 0])) g λc=>∃(f:Int) (m:Bt) (l i:Sl),zc c ⟨r,0,Te⟩ 0 [ab0 f,aa6 m,aK l,aK i]/\∃e r,wr h M c e/\x7 e [.tree,.bool] r (.tuple #[.agg #[ab0 f,aa6 m,aK l,aK i],aa9 Tc])/\r=q:=by subst o;have t:=W.hr;refine qt (k:=0) (s:=⟨#[]⟩) (sk:=⟨Te,0,0⟩) (si:=⟨Te,0,0⟩) W.rb λu n z2 p=>⟨_,_,_,_,p.ld (cs:=[ab0 0,aa6 ⟨#[]⟩,aK ⟨Te,0,0⟩,aK ⟨Te,0,0⟩]),M',_,wr.stay W.V.L ω W.nR n z2,jD mJ,rfl⟩
end
theorem CF{l:Bs}:(cond (hV ((((bl l).size:Nat):Int)<1)) Ta (ze (bl l) (0:Int).toNat != 107))=!hV (l.head?=Td 107):=by
 rw[zf,show(0:Int).toNat=0 from rfl];cases l with
 |nil=>rfl
 |cons c t=>
  rw[lq ξ];have e:(hV ((((c::t).length:Nat):Int)<1))=Tc:=by rw[decide_eq_false_iff_not,List.length_cons];omega
  rw[e,zG,ZI];simp only[List.getElem_cons_zero,List.head?_cons,YK,bne_iff_ne,Bool.not_eq_true',decide_eq_false_iff_not];constructor;rintro h rfl;exact h rfl;intro h e;exact h (zcc.1 η)
def Po{L:ac7}{i:Nat}(h:i<DB L):aR (Qg L) i=Jf L (DB L) i:=by unfold aR;rw[zaf,qH h];rfl
def F6{gl:Fr}(hg:GL gl){Ls:List Bt}{L:ac7}{s1 s2 sp:Sl}(hLs:Ls.length=DB L)(hL:L.length<=512)(hok:fJ L (DB L)=Ta):∀ (f n:Nat),n<f->n<DB L->∀ (h:zb) (M:Fr),Fr.le gl M->AgM M h->Rd M (.row .str) Ls [aK s1]->Rd M (.row q0) L [aK s2]->Rd M (.row q0) (Qg L) [aK sp] ->PX Tp 63 #[.agg #[aK s1,aK s2],aK sp,ab0 (n:Int)] h M [.tree,.bool] (λr=>r=cR Ls L f n)
 | 0,n,h,_=>absurd h (zcd n)
 | f + 1, n, hf, hn => by
  intro h M hM ag r1 r2 r3;have ih : ∀ j,j<n->∀ (h:zb) (M:Fr),Fr.le gl M->AgM M h->Rd M (.row .str) Ls [aK s1]->Rd M (.row q0) L [aK s2]->Rd M (.row q0) (Qg L) [aK sp]->PX Tp 63 #[.agg #[aK s1,aK s2],aK sp,ab0 (j:Int)] h M [.tree,.bool] (λr=>r=cR Ls L f j):=λj hj=>F6 hg hLs hL hok f j ω ω;have hpl:=xo L;obtain ⟨hl0,hl1,_⟩:=jo.1 (Qj.1 hok n hn);apply PX.of;apply JZ s1 s2 sp (n:Int);intro h1;have k1:Bk h.size h h1:=rg _ _ (YJ _);have z1:h1.size=h.size+1:=YW _;have B1:Blk h1 h.size #[aK s1,aK s2]:=v0 _ _ _;clear_value h1;intro h2;have k2:Bk h1.size h1 h2:=rg _ _ (YJ _);have z2:h2.size=h1.size+1:=YW _;have R2:Blk h2 h1.size #[ab0 0,aa6 ⟨#[]⟩,.slice Te 0 0,.slice Te 0 0]:=v0 _ _ _;clear_value h2;intro h3;have k3:Bk h2.size h2 h3:=rg _ _ (YJ _);have z3:h3.size=h2.size+1:=YW _;have V3:Blk h3 h2.size #[ab0 0,aa6 ⟨#[]⟩,.slice Te 0 0,.slice Te 0 0]:=v0 _ _ _;clear_value h3;refine qt (k:=0) (s:=⟨#[]⟩) (sk:=⟨Te,0,0⟩) (si:=⟨Te,0,0⟩) V3 λh4 f4 z4 V4=>?_;have n4:M h2.size=Te:=ag.none ω;have L3:wr h M h3 M:=up ag ((k1.trans k2 ω).trans k3 ω);have L4:wr h M h4 M:=wr.stay L3 ω n4 f4 z4;have T4:Blk h4 h.size #[aK s1,aK s2]:=((B1.aa3 k2).aa3 k3).aa1 (f4 _ ω);have R4:Blk h4 h1.size #[ab0 0,aa6 ⟨#[]⟩,.slice Te 0 0,.slice Te 0 0]:=(R2.aa3 k3).aa1 (f4 _ ω);have nR4:M h1.size=Te:=ag.none ω;intro K6 hK6;have Z : ∀ (k:Int) (g0:zb),(k=5\/k=6)->cR Ls L (f+1) n=kX k ((zz L n).map (fx Ls L (cR Ls L f) k))->W15 h M s1 s2 h1.size h2.size k ⟨Te,0,0⟩ ⟨Te,0,0⟩ g0 M [] [] ⟨Te,0,0⟩ ⟨Te,0,0⟩ [] []->K6 g0:=by
   intro k g0 hk hr W;apply hK6;obtain ⟨a,ha,x,hx,rfl⟩:=lC W.V.L.ag (r2.mono W.V.L.le) (x:=(n:Int)) (i:=n) rfl hn (Q:=λv=>v=aR L n) rfl;obtain ⟨l0,e0⟩ : ∃ l0:Nat,aR L n=(l0:Int):=⟨(aR L n).toNat,ω⟩;refine ⟨s2,W.tb.aa2 (o:=0) (k:=1) rfl,a,ha,aR L n,hx,?_⟩;have Y:kT L n l0=[]:=Ri hok hn ω ω;refine ⟨λi g=>∃ (m:Nat) (M':Fr) (sk si:Sl) (bk bi:ab1),i=(m:Int)/\m<=n/\(∀ j∈kT L n m,(fx Ls L (cR Ls L f) k j).2.2=Ta)/\W15 h M s1 s2 h1.size h2.size k sk si g M' (gI k ((kT L n m).map (fx Ls L (cR Ls L f) k))) (((kT L n m).map (fx Ls L (cR Ls L f) k)).map (·.2.1)) sk si bk bi,λi _=>n - i.toNat,⟨l0,M,⟨Te,0,0⟩,⟨Te,0,0⟩,[],[],e0,ω,by rw [Y];simp,by rw [Y];unfold gI;simpa using W⟩,?_⟩;rintro i g ⟨m,M',sk,si,bk,bi,rfl,hm,hall,W⟩;have hkl:=Kx L n m;refine ⟨λhc=>?_,λhc=>?_⟩;have N:m<n:=by have:=fo hc;omega
   have hw:=qo N ω;obtain ⟨a3,A,x3,U,e3⟩:=lC W.V.L.ag (r3.mono W.V.L.le) (x:=(m:Int)) (i:=m) rfl ω (Q:=λv=>v=Jf L (DB L) m) (Po ω);subst e3;refine ⟨a3,A,_,U,λhp=>?_,λhp=>?_⟩;have hp:Jf L (DB L) m≠(n:Int):=ψ hp
   rw [hw];exact ⟨⟨m+1,M',sk,si,bk,bi,rfl,N,by rw [vf hp];exact hall,by rw [vf hp];exact W⟩,φ⟩;have hp:Jf L (DB L) m=(n:Int):=ψ hp
   intro K18 hK18;have hmem:m∈zz L n:=Y6.2 ⟨ω,hp⟩;have u:(fx Ls L (cR Ls L f) k m).2.2=Tc->cR Ls L (f+1) n=(fj,Tc):=λhb=>by rw [hr,kX,za];rw [zc4,ZB];intro h;have:=h m hmem;rw [Function.comp_apply,hb] at this;cases this
   have step : ∀ (kid:Nat) (key:Bt) (g1:zb) (M1:Fr) (tk:Sl) (ck:ab1),kid<n->fx Ls L (cR Ls L f) k m=(key,cR Ls L f kid)->W15 h M s1 s2 h1.size h2.size k tk si g1 M1 (gI k ((kT L n (m+1)).map (fx Ls L (cR Ls L f) k))) (((kT L n m).map (fx Ls L (cR Ls L f) k)).map (·.2.1)) tk si ck bi->K18 (kid:Int) g1:=by
    intro kid key g1 M1 tk ck hkn p W1;apply hK18;refine ⟨s1,s2,W1.tb.ld (cs:=[aK s1,aK s2]),?_⟩;refine (ih kid hkn g1 M1 (hM.trans W1.V.L.le) W1.V.L.ag (r1.mono W1.V.L.le) (r2.mono W1.V.L.le) (r3.mono W1.V.L.le)).go λw g2 M2 q L2 E hq=>?_;have hq:q=cR Ls L f kid:=hq;obtain ⟨yk,yi,rfl,hyr⟩:=iQ E;refine ⟨_,_,yk,yi,_,rfl,?_⟩;intro h24;refine yz L2.ag λh25 T z25 B25=>⟨λD=>?_,λD=>?_⟩;have D:q.2=Tc:=ψ D
    exact (W1.call (L2.trans T)).bad (u (by rw [p,<- hq];exact D));have D:q.2=Ta:=ψ D
    have H:=W1.call (L2.trans T);have hrb:=H.hr;have hbb:=H.hb;refine ⟨si,H.V.box.aa2 (o:=0) (k:=3) rfl,_,_,yk,yi,B25.ld (cs:=[_,_,aK yk,aK yi]),?_⟩;intro h36;have P:=H.push (.cells #[ab0 q.1.Wf,aa6 q.1.aa0,aK yk,aK yi] 25);refine P.V.item φ (v0 _ _ _) (hyr.mono T.le) λs' g4 bi' V4 z4 f4=>⟨s',rfl,?_⟩;have W4:=P.step V4 λj hj=>f4 j (by have:=P.V.box.lt;omega) λhm=>by have:=(P.V.WT.own j hm).1;omega
    refine V4.st3 λg5 V5 z5 f5=>?_;have W5:=W4.step V5 λj hj=>f5 j ω;rw [hw];refine ⟨⟨m+1,M2,tk,s',ck,bi',rfl,N,λj hj=>?_,?_⟩,φ⟩;rw [tM hp,ZF] at hj;obtain hj | hj:=hj;exact hall j hj;rw [List.mem_singleton] at hj;subst hj;rw [p,<- hq];exact D;have e:((kT L n (m+1)).map (fx Ls L (cR Ls L f) k)).map (·.2.1)=((kT L n m).map (fx Ls L (cR Ls L f) k)).map (·.2.1)++[q.1]:=by rw [tM hp,zaa,zaa];simp [p,hq]
    rw [e];exact W5
   refine ⟨k,W.V.box.aa2 (o:=0) (k:=0) rfl,λh6=>?_,λh6=>?_⟩;have h6:k=6:=ψ h6
   subst h6;obtain ⟨a4,ha4,x4,I,e4⟩:=zN W.V.L.ag (r1.mono W.V.L.le) (x:=(m:Int)) (i:=m) rfl ω (Q:=λv=>v=wo Ls m) rfl;subst e4;obtain ⟨l,hl⟩ : ∃ l,wo Ls m=bl l:=⟨lb (wo Ls m),(Zz _).symm⟩;have d:lb (wo Ls m)=l:=by rw [hl,yr]
   rw [hl] at I;refine ⟨s1,W.tb.aa2 (o:=0) (k:=0) rfl,a4,ha4,bl l,I,λhx=>?_,λhx=>?_,λhx=>?_⟩;have:=zC ((ψ hx:hV ((((bl l).size:Nat):Int)<1)=Tc));omega;rw [CF] at hx;refine W.bad (u ?_);unfold fx gh;rw [zi rfl,za λhh=>?_];rw [d] at hh;simp [hh.1] at hx;rw [CF] at hx;have hh:l.head? = Td 107:=ψ hx
   have hsz:1<=(bl l).size:=by
    rw [zf];cases l with
    | nil=>simp at hh
    | cons c t=>simp
   refine ⟨⟨ω,ω,ω⟩,?_⟩;have ex:(bl l).extract (1:Int).toNat (((bl l).size:Nat):Int).toNat=bl l.tail:=by rw [YL,zf,show (1:Int).toNat=1 from rfl,qa];congr 1;rw [List.drop_one,za0 ξ]
   rw [ex];refine EB hg (hM.trans W.V.L.le) W.V.L.ag (s:=l.tail) λh55 bs xk xi K55 ot X=>⟨_,_,xk,xi,_,_,rfl,?_⟩;have L55:wr g M' h55 (MxL M' h55 bs):=MxL.later W.V.L.ag K55 X;intro h62;refine yz L55.ag λh63 L63 z63 B63=>⟨(qg l.tail).1.Wf,λ_=>B63.aa2 (o:=0) (k:=0) rfl,λhx=>?_,λhx=>?_⟩;refine (W.call (L55.trans L63)).bad (u ?_);unfold fx gh;rw [zi rfl,za λhh=>?_];rw [d] at hh;simp [hh.2.1,hh.2.2.1] at hx;have hx:(qg l.tail).2.2=0/\(qg l.tail).1.Wf=4:=by rw [iY] at hx;simpa using hx
   have G:=W.call (L55.trans L63);have hrb:=G.hr;have hbb:=G.hb;refine ⟨sk,G.V.box.aa2 (o:=0) (k:=2) rfl,(qg l.tail).1.aa0,B63.aa2 (o:=0) (k:=1) rfl,?_⟩;intro h72;have F:=G.push (.cells #[aa6 (qg l.tail).1.aa0] 9);refine F.V.key (by unfold gI;simp;omega) (v0 _ _ _) λs' g4 bk' V4 z4 f4=>⟨s',rfl,?_⟩;have W4:=F.step V4 λj hj=>f4 j (by have:=F.V.box.lt;omega) λhm=>by have:=(F.V.XK.own j hm).1;omega
   refine V4.st2 λg5 V5 z5 f5=>?_;have W5:=W4.step V5 λj hj=>f5 j ω;obtain ⟨a6,ha6,x6,hx6,e6⟩:=lC W5.V.L.ag (r2.mono W5.V.L.le) (x:=(m:Int)) (i:=m) rfl ω (Q:=λv=>v=aR L m) rfl;subst e6;obtain ⟨hm0,_,_⟩:=jo.1 (Qj.1 hok m ω);have hwm:p3 ((m:Int) - 1)=(m:Int) - 1:=Fm ω ω;rw [hwm];have cell:=W5.tb.aa2 (o:=0) (k:=1) (v:=aK s2) rfl;obtain ⟨a8,x8,ha8,hx8,e8⟩ : ∃ (a8:Addr) (x8:Int),((!(hV ((m:Int) - 1<aR L m)))=Ta->(s2.a=Td a8/\0<=(m:Int) - 1/\(m:Int) - 1<((s2.len:Nat):Int)))/\((!(hV ((m:Int) - 1<aR L m)))=Ta->zd g5 (a8.add (((m:Int) - 1).toNat * 1))=Td (ab0 x8))/\((m:Int) - 1<aR L m\/x8=aR L (m - 1)):=by by_cases hlt:(m:Int) - 1<aR L m;refine ⟨a6,0,λh=>?_,λh=>?_,.inl hlt⟩ <;> simp [hlt] at h;obtain ⟨a8,ha8,x8,hx8,e8⟩:=lC W5.V.L.ag (r2.mono W5.V.L.le) (x:=(m:Int) - 1) (i:=m - 1) ω ω (Q:=λv=>v=aR L (m - 1)) rfl;exact ⟨a8,x8,λ_=>ha8,λ_=>hx8,.inr e8⟩
   refine ⟨s2,cell,a6,ha6,aR L m,hx6,s2,λ_=>cell,a8,ha8,x8,hx8,s2,λ_=>cell,a6,λ_=>ha6,aR L m,λ_=>hx6,λhy=>?_,λhy=>?_⟩;refine W5.bad (u ?_);unfold fx gh;rw [zi rfl,za λhh=>?_];rw [vd] at hy;obtain hy | hy:=hy;have:=zB hy;omega;have hy:x8≠aR L m:=ψ hy
   omega;rw [iY] at hy;have hy1:=zC hy.1;have J:x8=aR L m:=ψ hy.2
   have e8:x8=aR L (m - 1):=e8.resolve_left hy1;have p:fx Ls L (cR Ls L f) 6 m=((qg l.tail).1.aa0,cR Ls L f (m - 1)):=by unfold fx gh;rw [zi rfl,d,zi ⟨hh,hx.1,hx.2,ω,ω⟩]
   rw [show (m:Int) - 1=((m - 1:Nat):Int) by omega];refine step (m - 1) _ g5 (MxL M' h55 bs) s' bk' ω p ?_;have e:gI 6 ((kT L n (m+1)).map (fx Ls L (cR Ls L f) 6))=gI 6 ((kT L n m).map (fx Ls L (cR Ls L f) 6))++[(qg l.tail).1.aa0]:=by unfold gI;rw [zi rfl,zi rfl,tM hp,zaa,zaa];simp [p]
   rw [e];exact W5;have h6:k≠6:=ψ h6
   refine step m ⟨#[]⟩ g M' sk bk N (by unfold fx;rw [za h6]) ?_;have e : ∀ l,gI k l=[]:=λl=>by unfold gI;rw [za h6]
   rw [e] at W ⊢;exact W;have hme:m=n:=by have:=fL hc;omega
   subst hme;rw [IE hok hn] at W hall;refine W.done ⟨?_,?_⟩ ?_;have:=wA L m;unfold gI;split;simp;omega;simp;have:=wA L m;simp;omega;rw [hr,kX,zi];simp;omega
  obtain ⟨a,ha,x,hx,rfl⟩:=zN L4.ag (r1.mono L4.le) (x:=(n:Int)) (i:=n) rfl ω (Q:=λv=>v=wo Ls n) rfl;have mk : ∀ (k:Int) (g:zb),g.size=h4.size->(∀ j,j≠h2.size->g[j]? = h4[j]?)->Blk g h2.size #[ab0 k,aa6 ⟨#[]⟩,.slice Te 0 0,.slice Te 0 0]->W15 h M s1 s2 h1.size h2.size k ⟨Te,0,0⟩ ⟨Te,0,0⟩ g M [] [] ⟨Te,0,0⟩ ⟨Te,0,0⟩ [] []:=λk g z f B =>
   ⟨VbM.new (wr.stay L4 ω n4 f z) B ω ω n4,T4.aa1 (f _ ω),R4.aa1 (f _ ω),nR4,ω,ω⟩
  refine ⟨s1,T4.aa2 (o:=0) (k:=0) rfl,a,ha,_,hx,λhy=>?_,λhy=>⟨λJ=>?_,λJ=>?_⟩⟩;rw [ig] at hy;refine qj (o:=0+0) iS κ V4 ξ rfl λh6 B6 z6 f6=>?_;exact Z 5 h6 (.inl rfl) (Sk (zB hy)) (mk 5 h6 z6 f6 B6);rw [ig] at hy J;refine qj (o:=0+0) iS κ V4 ξ rfl λh6 B6 z6 f6=>?_;exact Z 6 h6 (.inr rfl) (Tz (zC hy) (zB J)) (mk 6 h6 z6 f6 B6);rw [ig] at hy J;have hlf:=IC (L:=L) (f:=f) (zC hy) (zC J);obtain ⟨l,hl⟩ : ∃ l,wo Ls n=bl l:=⟨lb (wo Ls n),(Zz _).symm⟩;have d:lb (wo Ls n)=l:=by rw [hl,yr]
  rw [hl] at hx;refine ⟨s1,T4.aa2 (o:=0) (k:=0) rfl,a,ha,bl l,hx,?_⟩;refine EB hg (hM.trans L4.le) L4.ag (s:=l) λh9 bs xk xi K9 ot X=>⟨_,_,xk,xi,_,_,rfl,?_⟩;have L9:wr h4 M h9 (MxL M h9 bs):=MxL.later L4.ag K9 X;have rv:RdV (MxL M h9 bs) .tree (qg l).1 (.agg #[ab0 (qg l).1.Wf,aa6 (qg l).1.aa0,aK xk,aK xi]):=ot.rdv;have hxi:xi.len=(qg l).1.WT.length:=by
   obtain ⟨xk',xi',e,rk,ri⟩:=yg rv;have h3:aK xi=aK xi':=by injection e with e;have:=congrArg (λc:Array Value=>c[3]?) e;simpa using this
   unfold aK at h3;injection h3 with e1 e2 e3;rw [e2];exact (Bx ri).1
  intro h16;refine yz L9.ag λh17 C z17 S=>⟨_,_,xk,xi,S.ld (cs:=[_,_,aK xk,aK xi]),?_⟩;refine (Al hg (mZ l).2 (R:=λq=>q=Qx (qg l).1) rfl).go (vs:=[.agg #[ab0 (qg l).1.Wf,aa6 (qg l).1.aa0,aK xk,aK xi]]) (hM.trans (L4.le.trans (L9.le.trans C.le))) C.ag (zn (a:=qr .tree (qg l).1) (rv.mono C.le) zw) λw b O q L23 E hq=>?_;have hq:q=Qx (qg l).1:=hq;have w:=L9.trans (C.trans L23);have LL:wr h M b O:=L4.trans w;have B23:=S.aa1 (L23.aa1.get _ S.lt);have T23:=T4.aa1 (w.aa1.get _ T4.lt);have R23:=R4.aa1 (w.aa1.get _ R4.lt);have n23:O h1.size=Te:=by rw [w.old _ R4.lt];exact nR4
  refine ⟨q.1,q.2,uJ E,_,_,xk,xi,B23.ld (cs:=[_,_,aK xk,aK xi]),?_⟩;intro Z206 Z184 Z161;have hB:(cond (cond (cond (cond (cond ((qg l).2.2 == 0) (q.2 == 0) Tc) (q.1.toList == (bl l).toList) Tc) (((xi.len:Nat):Int) == 0) Tc) (hV ((qg l).1.Wf<5)) Tc) (aR L n == (n:Int)) Tc)=((ym (wo Ls n)).2 && hV (aR L n=(n:Int))):=by
   unfold ym;rw [d,ig,hxi,hq,hl,<- He];by_cases e1:(qg l).2.2=0;have e2:(Qx (qg l).1).2=0:=by unfold Qx;rw [zi ((mZ l).1 e1)]
   rw [e1,e2,ZI];simp;grind;simp [e1]
  obtain ⟨a2,ha2,x2,hx2,e2⟩:=zN LL.ag (r1.mono LL.le) (x:=(n:Int)) (i:=n) rfl ω (Q:=λv=>v=bl l) hl;subst e2;obtain ⟨a3,A,x3,U,e3⟩:=lC LL.ag (r2.mono LL.le) (x:=(n:Int)) (i:=n) rfl hn (Q:=λv=>v=aR L n) rfl;subst e3;have st : ∀ {K:zb->Prop},(∀ g,(∀ j,j≠h1.size->g[j]? = b[j]?)->g.size=b.size->Blk g h1.size #[ab0 (qg l).1.Wf,aa6 (qg l).1.aa0,aK xk,aK xi]->K g)->wf Tp (YI 25 (aa7 (aa8 h1)) (.agg #[ab0 (qg l).1.Wf,aa6 (qg l).1.aa0,aK xk,aK xi])) b K:=λhK=>qt R23 hK;have fin : ∀ (y:Bool) (g:zb),(∀ j,j≠h1.size->g[j]? = b[j]?)->g.size=b.size->Blk g h1.size #[ab0 (qg l).1.Wf,aa6 (qg l).1.aa0,aK xk,aK xi]->y=((ym (wo Ls n)).2 && hV (aR L n=(n:Int)))->Z206 y g:=λy g f z B hy =>
   ⟨_,_,xk,xi,B.ld (cs:=[_,_,aK xk,aK xi]),O,((qg l).1,y),wr.stay LL ω n23 f z,jD (rv.mono (C.le.trans L23.le)),by rw [hlf,hy];unfold ym;rw [d]⟩
  have at3 : ∀ (g:zb),(∀ j,j≠h1.size->g[j]? = b[j]?)->g.size=b.size->zd g (a3.add (((n:Nat):Int).toNat * 1))=Td (ab0 (aR L n)):=λg f z=>by
   have Lg:wr h M g O:=wr.stay LL ω n23 f z;obtain ⟨a4,ha4,x4,I,e4⟩:=lC Lg.ag (r2.mono LL.le) (x:=(n:Int)) (i:=n) rfl hn (Q:=λv=>v=aR L n) rfl;have:a4=a3:=by have:=ha4.1;rw [A.1] at this;exact (ZZ this).symm
   rw [<- this,<- e4];exact I
  have c0:=T23.aa2 (o:=0) (k:=0) (v:=aK s1) rfl;have c1:=T23.aa2 (o:=0) (k:=1) (v:=aK s2) rfl;refine ⟨rfl,s1,λ_=>c0,a2,λ_=>ha2,rfl,bl l,λ_=>hx2,rfl,rfl,xi,λ_=>B23.aa2 (o:=0) (k:=3) rfl,rfl,rfl,rfl,(qg l).1.Wf,λ_=>B23.aa2 (o:=0) (k:=0) rfl,rfl,rfl,⟨s2,λ_=>c1,a3,λ_=>A,rfl,⟨aR L n,λ_=>U,rfl,⟨rfl,st λg f z B=>fin _ g f z B hB⟩,st λg f z B=>fin _ g f z B hB⟩,st λg f z B=>⟨aR L n,λ_=>at3 g f z,fin _ g f z B hB⟩⟩,st λg f z B=>⟨s2,λ_=>(T23.aa1 (f _ ω)).aa2 (o:=0) (k:=1) rfl,a3,λ_=>A,aR L n,λ_=>at3 g f z,fin _ g f z B hB⟩⟩
end
section
def Ct{M:Fr}{l:ac7}{w:Value}(h:x7 M [.row q0] l w):∃s:Sl,w=aK s/\Rd M (.row q0) l [aK s]:=lr (Yu.1 h)
def L0{gl:Fr}(hg:GL gl){t:List Bt×List Int}(hs:∀s∈t.1,s.size<=65536){R:Tr×Bool->Prop}(hT:∀w,Q4 w t->R (w,Ta))(hF:(∀w,¬Q4 w t)->R (fj,Tc)):aa5 gl 20 [qr (.pair (.row .str) (.row q0)) t] [.tree,.bool] R:=by
 intro h M vs hM ag ha
 match vs,ha with
 |[u],⟨hu,_⟩=>
  obtain⟨s1,s2,rfl,r1,r2⟩:=mn (show RdV M (.pair (.row .str) (.row q0)) t u from hu);apply PX.of;have⟨l1,_,_⟩:=Bx r1;have⟨l2,_,_⟩:=Bx r2;apply Nh s1 s2;intro F;have k1:Bk h.size h F:=rg _ _ (YJ _);have z1:F.size=h.size+1:=YW _;have B1:Blk F h.size #[aK s1,aK s2]:=v0 _ _ _;clear_value F;intro S;have k2:Bk F.size F S:=rg _ _ (YJ _);have z2:S.size=F.size+1:=YW _;have R2:Blk S F.size #[ab0 0,aa6 ⟨#[]⟩,.slice Te 0 0,.slice Te 0 0]:=v0 _ _ _;clear_value S;have B2:=B1.aa3 k2;have L2:wr h M S M:=up ag (k1.trans k2 ω);have done:∀(g:zb) (M':Fr) (x:Tr) (b:Bool) (xk xi:Sl),wr S M g M'->RdV M' .tree x (.agg #[ab0 x.Wf,aa6 x.aa0,aK xk,aK xi])->R (x,b) ->
   wf Tp (YI 25 (aa7 (aa8 F)) (.agg #[ab0 x.Wf,aa6 x.aa0,aK xk,aK xi])) g λg'=>∃(y1:Int) (y2:Bt) (y3 y4:Sl),zc g' (aa8 F) 0 [ab0 y1,aa6 y2,aK y3,aK y4]/\∃M2 q,wr h M g' M2/\x7 M2 [.tree,.bool] q (.tuple #[.agg #[ab0 y1,aa6 y2,aK y3,aK y4],aa9 b])/\R q:=by
   intro g M' x b xk xi L rx C;have nR:M' F.size=Te:=by rw[L.old _ ω];exact ag.none ω
   exact qt (R2.aa1 (L.aa1.get _ ω)) λg' f z B=>⟨_,_,xk,xi,B.ld (cs:=[_,_,aK xk,aK xi]),M',(x,b),wr.stay (L2.trans L) ω nR f z,jD rx,C⟩
  have bad:∀(g:zb) (M':Fr),wr S M g M'->(∀w,¬Q4 w t)->wf Tp (YI 25 (aa7 (aa8 F)) (.agg #[ab0 0,aa6 ⟨#[]⟩,.slice Te 0 0,.slice Te 0 0])) g λg'=>∃(y1:Int) (y2:Bt) (y3 y4:Sl),zc g' (aa8 F) 0 [ab0 y1,aa6 y2,aK y3,aK y4]/\∃M2 q,wr h M g' M2/\x7 M2 [.tree,.bool] q (.tuple #[.agg #[ab0 y1,aa6 y2,aK y3,aK y4],aa9 Tc])/\R q:=λg M' L hn=>done g M' fj Tc ⟨Te,0,0⟩ ⟨Te,0,0⟩ L mJ (hF hn);refine⟨s1,s2,B2.ld (cs:=[aK s1,aK s2]),?_⟩;refine(sC (gl:=gl) (t:=t) (R:=λr=>r=qc t) rfl).go (vs:=[.agg #[aK s1,aK s2]]) hM L2.ag (zn (a:=qr (.pair (.row .str) (.row q0)) t) (xg r1 r2) zw) λw D V r A p C=>?_;have C:r=qc t:=C;subst C;have z6:=A.aa1.size;have B6:=B2.aa1 (A.aa1.get h.size ω);refine⟨qc t,ez p,s1,B6.aa2 (o:=0) (k:=0) rfl,s2,λ_=>B6.aa2 (o:=0) (k:=1) rfl,?_⟩;by_cases H:¬(qc t=Ta/\0<DB t.1);have ak:(cond (!(qc t)) Ta (((s1.len:Nat):Int)==0))=Ta:=by
   cases C:qc t with
   |false=>rfl
   |true=>grind
  rw[ak];refine⟨⟨0,0,Te⟩,λI=>(ε I),0,λI=>(ε I),λ_=>?_,λI=>(ε I)⟩;exact bad D V A λw G=>H ⟨(ya G hs).1,by have:=(ya G hs).2.1;have:=(Zx (ya G hs).1).1;omega⟩;have⟨C,aV⟩:=Classical.not_not.1 H;have⟨q1,q2,q3⟩:=Zx C;have U:t.2.length-1<DB t.2:=ω
  have aQ:p3 (((s1.len:Nat):Int)-1)=((DB t.2-1:Nat):Int):=by rw[Fm ω ω];omega
  have aM:(cond (!(qc t)) Ta (((s1.len:Nat):Int)==0))=Tc:=by rw[C];show(((s1.len:Nat):Int)==0)=Tc;rw[beq_eq_false_iff_ne];omega
  rw[aM,aQ];have⟨a,ha,x,I,e⟩:=lC A.ag (r2.mono A.le) (x:=((DB t.2-1:Nat):Int)) (i:=DB t.2-1) rfl U (Q:=λv=>v=aR t.2 (DB t.2-1)) rfl;subst e;refine⟨a,λ_=>ha,aR t.2 (DB t.2-1),λ_=>I,λhc=>?_,λhc=>?_⟩;refine bad D V A λw G=>?_;have:=(ya G hs).2.2.1;grind;have aN:aR t.2 (DB t.2-1)=0:=ψ hc
  intro aP au;have ax:∀(bo:Nat) (g:zb) (Mg:Fr) (r:Tr×Bool) (c l:Sl),wr S M g Mg->Blk g bo #[ab0 r.1.Wf,aa6 r.1.aa0,aK c,aK l]->S.size<=bo->RdV Mg .tree r.1 (.agg #[ab0 r.1.Wf,aa6 r.1.aa0,aK c,aK l])->r=cR t.1 t.2 (DB t.2) (DB t.2-1)->aP ⟨bo,0,Te⟩ r.2 g:=by
   intro bo g Mg r c l L B aa n m;have⟨_,ap,_⟩:=mP (Ls:=t.1) q3 q2 (DB t.2) (DB t.2-1) U;rw[<-m]at ap;apply au;refine⟨λI=>?_,λI=>?_⟩;refine bad g Mg L λw G=>?_;have⟨_,_,_,_,p2⟩:=ya G hs;grind;have I:r.2=Ta:=ψ I
   refine⟨_,_,c,l,B.ld (cs:=[_,_,aK c,aK l]),?_⟩;refine(JX hg ap (R:=λq=>q=fX r.1) rfl).go (vs:=[.agg #[ab0 r.1.Wf,aa6 r.1.aa0,aK c,aK l]]) (hM.trans L.le) L.ag (zn (a:=qr .tree _) n zw) λw J O fr am ah ab=>?_;obtain⟨f1,f2,rfl,aL,aE⟩:=um ah;refine⟨f1,f2,_,rfl,?_⟩;intro Z;have aF:Bk J.size J Z:=rg _ _ (YJ _);have aY:Z.size=J.size+1:=YW _;have aI:Blk Z J.size #[.slice Te 0 0,.slice Te 0 0]:=v0 _ _ _;clear_value Z;refine X9 aI λY aT aC aA=>?_;have P:wr J O Y O:=wr.stay (up am.ag aF) (YJ _) (am.ag.none (YJ _)) aT aC;have E:=am.trans P;have y:wr S M Y O:=L.trans E;have Bt:Blk Y h.size #[aK s1,aK s2]:=B2.aa1 (y.aa1.get _ ω);have aB:=BR r.1;have ab:fr=fX r.1:=ab;rw[<-ab]at aB;have ai:=Dz (gl:=gl) (a:=t) (b:=fr.1) ω ω (R:=λq=>(q=Ta↔t=fr.1)) λq hq=>hq;refine⟨s1,s2,λ_=>Bt.ld (cs:=[aK s1,aK s2]),f1,f2,λ_=>aA.ld (cs:=[aK f1,aK f2]),λv g'=>∃M',wr Y O g' M'/\∃b,v=.bool b/\(b=Ta↔t=fr.1),λ_=>?_,λ_=>⟨hV (t=fr.1),O,wr.refl P.ag,_,rfl,decide_eq_true_iff⟩,λ_ v g' hv=>?_,?_⟩;refine ai.go (vs:=[.agg #[aK s1,aK s2],.agg #[aK f1,aK f2]]) (hM.trans y.le) P.ag (zn (a:=qr (.pair (.row .str) (.row q0)) _) (xg (r1.mono y.le) (r2.mono y.le)) (zn (a:=qr (.pair (.row .str) (.row q0)) _) (xg (aL.mono P.le) (aE.mono P.le)) zw)) λw a1 aJ q aG an hq=>?_;exact⟨q,ez an,aJ,aG,q,rfl,hq⟩;grind;rintro b d ⟨ar,aj,b',e,aH⟩;cases e;have ae:=y.trans aj;refine⟨λhc=>?_,λhc=>?_⟩;refine bad d ar ae λw G=>?_;have⟨_,_,_,_,p2⟩:=ya G hs;rw[p2]at m;subst m;rw[HJ G]at ab;grind
   ·have aS:Blk d bo #[ab0 r.1.Wf,aa6 r.1.aa0,aK c,aK l]:=(B.aa1 (E.aa1.get _ B.lt)).aa1 (aj.aa1.get _ (by have:=B.lt;have:=E.aa1.size;omega));refine⟨_,_,c,l,aS.ld (cs:=[_,_,aK c,aK l]),?_⟩;rw[iY]at hc;have c2:fr.2=0:=ψ hc.1
    have c3:b=Ta:=ψ hc.2
    have c4:=aH.1 c3;have G:Q4 (zh r.1) t:=HQ η;have⟨_,_,_,_,p2⟩:=ya G hs;have aZ:r.1=zh r.1:=by rw[p2]at m;exact congrArg Prod.fst m
    refine done d ar r.1 Ta c l ae (n.mono (E.le.trans aj.le)) ?_;grind
  have aO:h.size<D.size:=ω
  have N:∀{g:zb} {Mg:Fr},wr D V g Mg->g[h.size]?=D[h.size]?:=λL=>L.aa1.get _ aO;have af:∀{K:vvv} {g:zb} {Mg:Fr},wr D V g Mg->(∀(s:Sl) (g':zb) (M':Fr),wr g Mg g' M'->Rd M' (.row q0) (Qg t.2) [aK s]->K (aK s) g')->aa4 27 #[.agg #[aK s1,aK s2]] g K:=λ {K g Mg} L hK=>
   (uM (gl:=gl) (t:=t) (R:=λr=>r=Qg t.2) (by rw[zi C])).go (vs:=[.agg #[aK s1,aK s2]]) (hM.trans (A.le.trans L.le)) L.ag (zn (a:=qr (.pair (.row .str) (.row q0)) t) (xg (r1.mono (A.le.trans L.le)) (r2.mono (A.le.trans L.le))) zw) λw g' M' r L' p C=>by obtain⟨s,rfl,rs⟩:=Ct p;have C:r=Qg t.2:=C;subst C;exact hK s g' M' L' rs
  have val:∀{K:vvv} {g:zb} {Mg:Fr} {sp:Sl},wr D V g Mg->Rd Mg (.row q0) (Qg t.2) [aK sp]->(∀(r:Tr×Bool) (c l:Sl) (g':zb) (M':Fr),wr g Mg g' M'->RdV M' .tree r.1 (.agg #[ab0 r.1.Wf,aa6 r.1.aa0,aK c,aK l])->r=cR t.1 t.2 (DB t.2) (DB t.2-1)->K (.tuple #[.agg #[ab0 r.1.Wf,aa6 r.1.aa0,aK c,aK l],aa9 r.2]) g')->aa4 63 #[.agg #[aK s1,aK s2],aK sp,ab0 ((DB t.2-1:Nat):Int)] g K:=λ {K g Mg sp} L rs hK=>
   (F6 hg (Ls:=t.1) (L:=t.2) q1 q2 q3 (DB t.2) (DB t.2-1) U U g Mg (hM.trans (A.le.trans L.le)) L.ag (r1.mono (A.le.trans L.le)) (r2.mono (A.le.trans L.le)) rs).go λw g' M' r L' p C=>by obtain⟨c,l,rfl,n⟩:=iQ p;exact hK r c l g' M' L' n C
  have a6:=A;refine⟨s1,s2,B6.ld (cs:=[aK s1,aK s2]),s1,s2,B6.ld (cs:=[aK s1,aK s2]),?_⟩;intro ay aU;have put:∀{bo:Nat} {g:zb} {Mg:Fr} {r:Tr×Bool} {c l:Sl},wr D V g Mg->Blk g bo #[ab0 0,aa6 ⟨#[]⟩,.slice Te 0 0,.slice Te 0 0]->D.size<=bo->Mg bo=Te->RdV Mg .tree r.1 (.agg #[ab0 r.1.Wf,aa6 r.1.aa0,aK c,aK l])->r=cR t.1 t.2 (DB t.2) (DB t.2-1)->ay ⟨bo,0,Te⟩ r.2 r.1.Wf r.1.aa0 c l g:=λ {bo g Mg r c l} L B aa nb n m=>
   qt B λg' f z B'=>ax bo g' Mg r c l (A.trans (wr.stay L aa nb f z)) B' ω n m
  have az:∀{bo:Nat} {g:zb} {Mg:Fr} {sp:Sl},wr D V g Mg->Rd Mg (.row q0) (Qg t.2) [aK sp]->Blk g bo #[ab0 0,aa6 ⟨#[]⟩,.slice Te 0 0,.slice Te 0 0]->D.size<=bo->Mg bo=Te->aU ⟨bo,0,Te⟩ sp g:=λ {bo g Mg sp} L rs B aa nb=>
   val L rs λr c l g' M' L' n m=>⟨_,_,c,l,_,rfl,put (L.trans L') (B.aa1 (L'.aa1.get _ B.lt)) aa (by rw[L'.old _ B.lt];exact nb) n m⟩
  have box:∀{g:zb} {Mg:Fr},wr D V g Mg->Blk (g.push (.cells #[ab0 0,aa6 ⟨#[]⟩,.slice Te 0 0,.slice Te 0 0] 25)) g.size #[ab0 0,aa6 ⟨#[]⟩,.slice Te 0 0,.slice Te 0 0]/\wr D V (g.push (.cells #[ab0 0,aa6 ⟨#[]⟩,.slice Te 0 0,.slice Te 0 0] 25)) Mg/\Mg g.size=Te/\D.size<=g.size:=λ {g Mg} L=>⟨v0 _ _ _,L.trans (wr.push L.ag _),L.ag.none (YJ _),L.aa1.size⟩;refine⟨af (wr.refl A.ag) λsp g7 M7 L7 rs=>⟨sp,rfl,N L7,?_,?_⟩,?_⟩;refine val L7 rs λr c l g8 M8 L8 n m=>⟨_,_,c,l,_,rfl,?_⟩;have⟨b1,b2,b3,b4⟩:=box (L7.trans L8);exact put b2 b1 b4 b3 n m;have⟨b1,b2,b3,b4⟩:=box L7;exact⟨N b2,az b2 rs b1 b4 b3⟩;have⟨b1,b2,b3,b4⟩:=box (wr.refl A.ag);refine⟨N b2,N b2,?_⟩;exact af b2 λsp g8 M8 L8 rs=>⟨sp,rfl,N (b2.trans L8),az (b2.trans L8) rs (b1.aa1 (L8.aa1.get _ b1.lt)) b4 (by rw[L8.old _ b1.lt];exact b3)⟩
end
end
section
open Go.Lib
variable {gl M:Fr} {F:FuncId} {xs ys:List Tr} {h:zb}
def TP(hF:zr Tp F=Ta){q:Tr->Tr->Bool}(hp:∀x∈xs,∀y∈ys,aa5 gl F [qr .tree x,qr .tree y] [.bool] (λr=>r=q x y)){s1 s2:Sl}(hM:Fr.le gl M)(ag:AgM M h) (r1:Rd M (.row .tree) xs [aK s1]) (r2:Rd M (.row .tree) ys [aK s2]):PX Tp 140 #[aK s1,aK s2,.func (.func F) #[] #[]] h M [.bool] (λr=>r=(hV (DB xs=DB ys)&&(xs.zip ys).all λp=>q p.1 p.2)):=by
 have⟨l1,n1,_⟩:=Bx r1;have⟨l2,n2,_⟩:=Bx r2;apply PX.of;apply yf s1 s2 F #[] #[];refine⟨λQ=>⟨M,_,wr.refl ag,Yu.2 (Fk _),?_⟩,λQ=>?_⟩;grind;have ar:xs.length=DB ys:=by rw[l1,l2]at Q;simp at Q;omega
 refine⟨λi g=>∃(k:Nat) (M':Fr),i=(k:Int)/\k<=DB xs/\wr h M g M'/\((xs.zip ys).take k).all (λp=>q p.1 p.2)=Ta,λi _=>DB xs-i.toNat,⟨0,M,rfl,ZQ _,wr.refl ag,ξ⟩,?_⟩;rintro i g ⟨k,M',rfl,hk,L,ai⟩;refine⟨λz=>?_,λz=>?_⟩;have m:k<DB xs:=by rw[l1]at z;simp at z;omega
 have D:k<DB ys:=ω
 have⟨a,C,u,ea,S,t1,t2⟩:=ie L.ag (r1.mono L.le) m;refine⟨a,⟨ea,ω,ω⟩,xs[k].Wf,xs[k].aa0,C,u,by rw[YL];exact S,?_⟩;intro c;have af:Bk g.size g c:=rg _ _ (YJ _);have ae:Blk c g.size (Zb 0 ⟨#[]⟩ ⟨Te,0,0⟩ ⟨Te,0,0⟩).toArray:=v0 _ _ _;have ak:c.size=g.size+1:=YW _;clear_value c;refine sQ ae rfl _ _ _ _ λb Y ax P=>?_;have H:Bk g.size g b:=⟨ω,λj U=>by rw[P j ω];exact af.get j U⟩;have o:=L.ag.aa1 H;have⟨a2,J,N,V,t,t3,t4⟩:=ie o (r2.mono L.le) D;refine⟨a2,⟨V,ω,ω⟩,ys[k].Wf,ys[k].aa0,J,N,by rw[YL];exact t,?_⟩;intro f;have I:Bk b.size b f:=rg _ _ (YJ _);have aa:Blk f b.size (Zb 0 ⟨#[]⟩ ⟨Te,0,0⟩ ⟨Te,0,0⟩).toArray:=v0 _ _ _;have an:f.size=b.size+1:=YW _;clear_value f;refine sQ aa rfl _ _ _ _ λl ab ap G=>?_;have s:Blk l g.size (Zb xs[k].Wf xs[k].aa0 C u).toArray:=(Y.aa3 I).aa1 (G _ ω);have ah:Bk g.size g l:=⟨ω,λj U=>by rw[G j ω,I.get j ω];exact H.get j U⟩;have e:wr h M l M':=L.trans (up L.ag ah);refine⟨xs[k].Wf,xs[k].aa0,C,u,s.ld (cs:=Zb xs[k].Wf xs[k].aa0 C u),ys[k].Wf,ys[k].aa0,J,N,ab.ld (cs:=Zb ys[k].Wf ys[k].aa0 J N),hF,?_⟩;have n:=(hp xs[k] (YY m) ys[k] (YY D)).px (h:=l) (M:=M') (vs:=[.agg #[ab0 xs[k].Wf,aa6 xs[k].aa0,aK C,aK u],.agg #[ab0 ys[k].Wf,aa6 ys[k].aa0,aK J,aK N]]) (hM.trans e.le) e.ag (zn (qe t1 t2) (zn (qe t3 t4) zw));refine n.go λw au B r E A hr=>?_;have hr:r=q xs[k] ys[k]:=hr;subst hr;have aj:(xs.zip ys).take (k+1)=(xs.zip ys).take k++[(xs[k],ys[k])]:=by rw[YP φ];simp
 refine⟨q xs[k] ys[k],ez A,λhf=>⟨B,_,e.trans E,Yu.2 (Fk _),?_⟩,λht=>?_⟩;have O:q xs[k] ys[k]=Tc:=ψ hf
 have:(xs.zip ys).all (λp=>q p.1 p.2)=Tc:=by rw[List.all_eq_false];exact⟨(xs[k],ys[k]),zbt.2 ⟨k,φ,ξ⟩,ϑ O⟩
 simp_all;have am:q xs[k] ys[k]=Ta:=ψ ht
 rw[qo m ω];refine⟨⟨k+1,B,rfl,m,e.trans E,?_⟩,η⟩;simp_all;have Z:k=DB xs:=by rw[l1]at z;simp at z;omega
 subst Z;refine⟨M',_,L,Yu.2 (Fk _),?_⟩;simp_all[za0]
theorem MI{l:List Bt}(h:l.Nodup){i j:Nat}(hi:i<DB l)(b:j<DB l)(e:l[i]=l[j]):i=j:=by unfold List.Nodup at h;rw[List.pairwise_iff_getElem]at h;grind
theorem Rq(ks:List Bt)(us:ab2)(h:ks.length=DB us):(eI (ks.zip us)).map (·.1)=ks.map ZS:=by
 unfold eI;rw[List.map_map];have:(ks.zip us).map (λp=>ZS p.1)=(ks.zip us).unzip.1.map ZS:=ξ
 show(ks.zip us).map (λp=>ZS p.1)=_;rw[this,List.unzip_zip h]
def Qn{ks:List Bt}(h:ks.Nodup):(ks.map ZS).Nodup:=η
def IQ(hF:zr Tp F=Ta){q:Tr->Tr->Bool}{f kb:List Bt}{t n:ab2}(aF:f.Nodup)(la:f.length=DB xs)(a6:kb.length=DB ys)(aU:t.length=DB xs)(aY:n.length=DB ys)(aO:xs.length<=1000000000000/\DB ys<=1000000000000) (hp:∀x∈xs,∀y∈ys,aa5 gl F [qr .tree x,qr .tree y] [.bool] (λr=>r=q x y)) {z m2:Nat} (hM:Fr.le gl M) (ag:AgM M h) (w1:JT h z (eI (f.zip t))) (w2:JT h m2 (eI (kb.zip n))) (ra:∀i (h1:i<DB xs) (h2:i<DB t),RdV M .tree xs[i] t[i]) (rb:∀i (h1:i<DB ys) (h2:i<DB n),RdV M .tree ys[i] n[i]):PX Tp 141 #[.map (Td z),.map (Td m2),.func (.func F) #[] #[]] h M [.bool] (λr=>r=(hV (DB xs=DB ys)&&(f.zip xs).all λp=>gB kb ys q p.1 p.2)):=by
 apply PX.of;apply qd (Td z) (Td m2) F #[] #[];have L1:(eI (f.zip t)).length=DB xs:=by unfold eI;simp;omega
 have C:(eI (kb.zip n)).length=DB ys:=by unfold eI;simp;omega
 have O:=F1 (P:=Tp) (ty:=3) St.map w1;have I:=F1 (P:=Tp) (ty:=3) St.map w2;rw[L1]at O;rw[C]at I;refine⟨DB xs,O,DB ys,I,λhx=>⟨M,_,wr.refl ag,Yu.2 (Fk _),?_⟩,λhx=>?_⟩;grind;have a1:xs.length=DB ys:=by simp at hx;omega
 have aM:=w1.lt;have ai:=w2.lt;have aL:((eI (f.zip t)).map (·.1)).Nodup:=by rw[Rq _ _ ω];exact Qn aF
 refine xA St.map w1 λh4 z4 k4 aJ=>⟨Td (aa8 h),rfl,?_⟩;refine⟨λg=>∃dn M',RK g h.size z (eI (f.zip t)) dn/\wr h M g M'/\h.size<g.size/\∀i (h1:i<DB f) (h2:i<DB xs),ZS f[i]∈dn->gB kb ys q f[i] xs[i]=Ta,λg=>KK g h.size z,⟨[],M,aJ,up ag k4,ω,λi _ _ hm=>(ε hm)⟩,?_⟩;rintro g ⟨dn,M',it,L,zg,az⟩;have kg:=L.aa1;refine yG it aL ω (λab=>.inl ⟨rfl,(λhc=>(by cases hc)),λ_=>⟨M',_,L,Yu.2 (Fk _),?_⟩⟩) λk u am hk B aH ar z1 f1 pP=>.inr ⟨k,u,rfl,λ_=>?_,λhc=>(by cases hc)⟩;have aP:((f.zip xs).all λp=>gB kb ys q p.1 p.2)=Ta:=by rw[ZB];intro p S;have⟨i,hi,e⟩:=zbm S;rw[List.length_zip,Nat.lt_min]at hi;have:=az i hi.1 hi.2 (ab (aa6 f[i],t[i]) (by unfold eI;refine zab.2 ⟨(f[i],t[i]),zbt.2 ⟨i,φ,ξ⟩,rfl⟩));rw[<-e];simpa using this
 simp_all
 ·obtain⟨i,aT,d,ek,eu⟩:∃i,∃(h1:i<DB f) (h2:i<DB t),k=.string f[i]/\u=t[i]:=by unfold eI at am;have⟨p,S,e⟩:=zab.1 am;have⟨i,hi,e2⟩:=zbm S;grind
  subst ek;subst eu;have Z:i<DB xs:=ω
  have aj:Bk h.size h B:=⟨ω,λj J=>by rw[f1 j ω];exact kg.get j J⟩;have an:AgM M' B:=λb c e=>by have⟨T,mm,e2⟩:=L.ag b c e;by_cases hb:b=h.size;subst hb;have⟨_,_,_,_,_,e3,_⟩:=it;simp_all;simp_all
  refine xT ar ⟨_,_,rfl,?_⟩;intro E;have aE:Bk B.size B E:=rg _ _ (YJ _);have aC:Blk E B.size (Zb 0 ⟨#[]⟩ ⟨Te,0,0⟩ ⟨Te,0,0⟩).toArray:=v0 _ _ _;have aS:E.size=B.size+1:=YW _;clear_value E;have⟨ck,ci,eu,t1,t2⟩:=yg (ra i Z d);rw[eu];refine sQ aC rfl _ _ _ _ λo aB aQ ax=>?_;have Q:Bk B.size B o:=⟨ω,λj J=>by rw[ax j ω];exact aE.get j J⟩;have aN:=an.aa1 Q;have ay:JT o m2 (eI (kb.zip n)):=w2.aa1 ((Q.get _ ω).trans (aj.get _ ai));have m:=Xg St ay.at f[i] Ta;simp only[if_true]at m;obtain⟨y,H,D,a,t3,t4,v⟩:∃(y:Tr) (H D:Sl),gF (kb.zip n) f[i] (.agg #[ab0 0,aa6 ⟨#[]⟩,.slice Te 0 0,.slice Te 0 0])=.agg #[ab0 y.Wf,aa6 y.aa0,aK H,aK D]/\RdV M .tree y (.agg #[ab0 y.Wf,aa6 y.aa0,aK H,aK D]) /\
   ((fb (kb.zip n) f[i]).isSome=Ta->y∈ys)/\gB kb ys q f[i] xs[i]=((fb (kb.zip n) f[i]).isSome&&q xs[i] y):=by
   by_cases hk:f[i]∈kb;have⟨j,q1,q2,q3,q4,q5⟩:=qB f[i] kb ys ω hk;have g3:=q5 n ω;have J:j<DB n:=ω
   rw[YS J]at g3;have⟨H,D,ew,t3,t4⟩:=yg (rb j q2 J);refine⟨ys[j],H,D,by unfold gF;grind,η,λ_=>YY q2,?_⟩;rw[g3];unfold gB;simp_all;have N:fb (kb.zip n) f[i]=Te:=Cn (by rw[List.map_fst_zip ω];exact hk);refine⟨fj,⟨Te,0,0⟩,⟨Te,0,0⟩,by unfold gF;rw[N];rfl,mJ,?_,?_⟩;simp_all;rw[N];unfold gB;simp_all
  rw[a]at m;refine⟨y.Wf,y.aa0,H,D,(fb (kb.zip n) f[i]).isSome,m,?_⟩;intro G;have ah:Bk o.size o G:=rg _ _ (YJ _);have aG:Blk G o.size (Zb 0 ⟨#[]⟩ ⟨Te,0,0⟩ ⟨Te,0,0⟩).toArray:=v0 _ _ _;have aZ:G.size=o.size+1:=YW _;clear_value G;refine sQ aG rfl _ _ _ _ λl aA aV ae=>?_;have af:Blk l B.size (Zb xs[i].Wf xs[i].aa0 ck ci).toArray:=(aB.aa3 ah).aa1 (ae _ ω);have s:Bk B.size B l:=⟨ω,λj J=>by rw[ae j ω,ah.get j ω];exact Q.get j J⟩;have ap:Bk h.size h l:=aj.trans s ω;have A:wr h M l M':=⟨ap,L.le,L.old,an.aa1 s⟩;have aa:RK l h.size z (eI (f.zip t)) (aa6 f[i]::dn):=aH.aa1 (s.get _ ω) (s.get _ ω);have V:KK l h.size z<KK g h.size z:=by rw[KK.aa1 (s.get h.size ω) (s.get z ω)];exact pP
  refine⟨xs[i].Wf,xs[i].aa0,ck,ci,λ_=>af.ld (cs:=Zb xs[i].Wf xs[i].aa0 ck ci),y.Wf,y.aa0,H,D,λ_=>aA.ld (cs:=Zb y.Wf y.aa0 H D),?_⟩;have aI:gB kb ys q f[i] xs[i]=Tc->((f.zip xs).all λp=>gB kb ys q p.1 p.2)=Tc:=λhf=>by rw[List.all_eq_false];exact⟨(f[i],xs[i]),zbt.2 ⟨i,φ,ξ⟩,by simp[hf]⟩
  refine⟨λw N=>∃b Y,w=.bool b/\wr l M' N Y/\((fb (kb.zip n) f[i]).isSome=Ta->b=q xs[i] y),λhs=>⟨hF,?_⟩,λhs=>⟨Ta,Ta,M',rfl,wr.refl A.ag,λhc=>θ⟩,λ_ w N ⟨b,_,e,_⟩=>⟨b,e⟩,?_⟩;have au:(fb (kb.zip n) f[i]).isSome=Ta:=ψ hs
  have U:=(hp xs[i] (YY Z) y (t4 au)).px (h:=l) (M:=M') (vs:=[.agg #[ab0 xs[i].Wf,aa6 xs[i].aa0,aK ck,aK ci],.agg #[ab0 y.Wf,aa6 y.aa0,aK H,aK D]]) (hM.trans A.le) A.ag (zn (RdV.mono L.le (qe t1 t2)) (zn (RdV.mono L.le t3) zw));exact U.go λw N Y r C ak hr=>⟨r,ez ak,r,Y,rfl,C,λ_=>hr⟩;rintro b N ⟨b',Y,e,C,hb⟩;cases e;refine⟨λhf=>⟨Y,_,A.trans C,Yu.2 (Fk _),?_⟩,λht=>⟨⟨_,Y,aa.aa1 (C.aa1.get _ ω) (C.aa1.get _ ω),A.trans C,χ C.aa1.size,λi2 h1 h2 hm=>?_⟩,?_⟩⟩;grind;obtain e|hm:=YT.1 hm;grind [MI];grind;show KK N h.size z<KK g h.size z;rw[KK.aa1 (C.aa1.get h.size ω) (C.aa1.get z ω)];exact V
def AO:zr Tp 84=Ta:=κ
def RY:∀(n:Nat) (a b:Tr),cK a<=n->Sm a->Sm b->Qc zq a=Ta->Qc zq b=Ta->∀{R:ac4},R (ga a b)->aa5 gl 84 [qr .tree a,qr .tree b] [.bool] R:=by
 intro n;induction n with
 |zero=>intro a _ h;have:=Zn a;omega
 |succ n ih=>
  intro a b hn N I oa P R hR h M vs hM ag z
  match vs,z with
  |[u1,u2],⟨A,s,_⟩=>
  have A:RdV M .tree a u1:=A;have s:RdV M .tree b u2:=s;obtain⟨sk,si,rfl,rk,ri⟩:=yg A;obtain⟨J,E,rfl,U,t⟩:=yg s;have⟨li,_,_⟩:=Bx ri;have⟨ak,_,_⟩:=Bx t;apply PX.of;apply OW a.Wf a.aa0 sk si b.Wf b.aa0 J E;intro h1 h2;have k1:Bk h.size h h1:=rg _ _ (YJ _);have k2:Bk h1.size h1 h2:=rg _ _ (YJ _);have b1:Blk h1 h.size (Zb a.Wf a.aa0 sk si).toArray:=v0 _ _ _;have b2:Blk h2 h1.size (Zb b.Wf b.aa0 J E).toArray:=v0 _ _ _;have z1:h1.size=h.size+1:=YW _;have z2:h2.size=h1.size+1:=YW _;clear_value h1 h2;have c:=b1.aa3 k2;have kk:Bk h.size h h2:=k1.trans k2 ω;have D:wr h M h2 M:=up ag kk;intro K5 V;have l:zq a=Ta:=m7 oa;have m:zq b=Ta:=m7 P;have f:∀x:Bool,(x=Ta->ga a b=Tc)->(x=Tc->a.Wf=b.Wf/\a.aa0=b.aa0/\a.WT.length=b.WT.length)->K5 x h2:=by
   intro x an O;refine V x h2 ⟨λi=>⟨M,_,D,Yu.2 (Fk _),?_⟩,λi=>?_⟩;grind;have⟨e1,e2,e3⟩:=O i;refine⟨a.Wf,c.aa2 (by rfl),λh6=>?_,λh6=>?_⟩;have k:¬a.Wf=6:=ψ h6
   have u:ga a b=((a.WT.zip b.WT).all λp=>ga p.1 p.2):=by rw[ZI,Uz k e1 e2 e3];rw[ny]
   rw[u]at hR;refine⟨si,c.aa2 (by rfl),E,b2.aa2 (by rfl),?_⟩;refine(TP (gl:=gl) AO (q:=ga) (xs:=a.WT) (ys:=b.WT) (λx i y G=>ih x y (χ (yc i)) (N.item i) (I.item G) (Y2 oa i) (Y2 P G) rfl) hM D.ag ri t).go λw ah aa r L e B=>?_;have B:r=_:=B;subst B;refine⟨_,ez e,aa,_,D.trans L,Yu.2 (Fk _),?_⟩;grind;have k:a.Wf=6:=ψ h6
   have u:ga a b=((a.XK.zip a.WT).all λp=>gB b.XK b.WT ga p.1 p.2):=by rw[ZI,O9 l m k e1 e2 e3];rw[ny]
   rw[u]at hR;have⟨na,la⟩:=Js l k;have⟨nb,lb⟩:=Js m ω;refine⟨a.Wf,a.aa0,sk,si,c.ld (cs:=Zb a.Wf a.aa0 sk si),b.Wf,b.aa0,J,E,b2.ld (cs:=Zb b.Wf b.aa0 J E),?_⟩;refine t6 na la N.WT D.ag (qe rk ri) λaj m1 ua C am ab ra w1=>⟨Td m1,rfl,C.get h1.size ω,?_⟩;have o:=D.ag.aa1 C;refine t6 nb lb I.WT o (qe U t) λZ m2 ub F ai Y rb w2=>⟨Td m2,rfl,?_⟩;have H:wr h M Z M:=(D.trans (up D.ag C)).trans (up o F);refine(IQ (gl:=gl) AO (q:=ga) na la lb ab Y ⟨N.WT,I.WT⟩ (λx i y G=>ih x y (χ (yc i)) (N.item i) (I.item G) (Y2 oa i) (Y2 P G) rfl) hM H.ag (w1.aa1 (F.get _ w1.lt)) w2 ra rb).go λw af Q r L e B=>?_;have B:r=_:=B;subst B;refine⟨_,ez e,Q,_,H.trans L,Yu.2 (Fk _),?_⟩;grind
  refine⟨a.Wf,c.aa2 (by rfl),b.Wf,b2.aa2 (by rfl),λhk=>f _ (λ_=>?_) (λS=>?_),λhk=>?_⟩;grind [wZ,ul];grind;have ae:a.Wf=b.Wf:=ψ hk
  refine⟨a.aa0,c.aa2 (by rfl),b.aa0,b2.aa2 (by rfl),λht=>f _ (λ_=>?_) (λS=>?_),λht=>⟨si,c.aa2 (by rfl),E,b2.aa2 (by rfl),f _ (λS=>?_) (λS=>?_)⟩⟩;grind [wZ,ul];grind;grind [wZ,ul];grind [ig]
def Mn(i:GL gl){a b:Tr}(e:Sm a)(f:Sm b){R:ac4}(h:R (Zo a&&(Zo b&&ga a b))):aa5 gl 46 [qr .tree a,qr .tree b] [.bool] R:=by
 apply OK;simp only[Zp];refine uC i e ⟨λr=>r=Zo b,λ_=>uC i f rfl,λr k=>⟨λx=>x=ga a b,λc=>?_,λx l=>?_⟩⟩;cases h1:Zo a with
 |false=>rw[h1]at c;cases c
 |true=>rw[h1,zF]at c;have h2:=k h1;rw[c]at h2;exact RY _ a b (YJ _) e f (Gg h1) (Gg h2.symm) rfl
 grind
end
section
open Go.RowKit
section
variable {h:zb} {M gl:Fr} {b:Nat}
def C7{f:FuncId}{args:ab3}{g:Bool}(i:g=Ta){b:Sl->zb->Prop}(E:aa4 f args h λv h'=>∃s,v=aK s/\b s h'):∃J:vvv,(g=Ta->aa4 f args h λv h'=>∃s:Sl,v=aK s/\J (aK s) h')/\(g=Tc->∃s:Sl,J (aK s) h)/\(g=Ta->∀v h',J v h'->∃s:Sl,v=aK s)/\∀s:Sl,∀h',J (aK s) h'->b s h':=by
 refine⟨λv h'=>∃s,v=aK s/\b s h',λ_=>XC.mono E λv h' ⟨s,e,H⟩=>⟨s,e,s,rfl,H⟩,λk=>θ,λ_ v h' ⟨s,e,_⟩=>⟨s,e⟩,λs h' ⟨c,e,H⟩=>?_⟩;have:s=c:=by unfold aK at e;injection e with e1 e2 e3;cases s;cases c;simp_all
 grind
def Oh(k:M b=Te){f:Tr}{w1:ab2}(h1:Rd M .tree f w1)(h:w1.length=4):Rd (Mx M b w1.toArray) (.row .tree) [f] [aK ⟨Td ⟨b,0,Te⟩,1,1⟩]:=by
 have le:Fr.le M (Mx M b w1.toArray):=λc cs e=>by unfold Mx;grind
 refine⟨_,rfl,_,_,rfl,ξ,.inr ⟨b,0,_,rfl,by unfold Mx;rw[zi rfl],λi hi=>?_⟩⟩;have hi:i<1:=hi;obtain rfl:i=0:=ω
 have:cut w1.toArray (0+0*sz .tree) (sz .tree)=w1:=by show List.take 4 (List.drop 0 w1)=w1;rw[zbi,<-h,ZX]
 rw[this];exact Rd.mono le h1
def yB(xs:ac7)(e:xs.length<=1000):Rd (Mx M b (xs.map (zad .i64)).toArray) (.row q0) xs [aK ⟨Td ⟨b,0,Te⟩,DB xs,DB xs⟩]:=by refine⟨_,rfl,_,_,rfl,⟨ω,YJ _⟩,.inr ⟨b,0,_,rfl,by unfold Mx;rw[zi rfl],λi hi=>?_⟩⟩;show cut (xs.map (zad .i64)).toArray (0+i*1) 1=[ab0 xs[i]];refine X0 rfl λq c=>?_;simp_all
def ON(xs:List Bt)(e:xs.length<=1000):Rd (Mx M b (xs.map ZS).toArray) (.row .str) xs [aK ⟨Td ⟨b,0,Te⟩,DB xs,DB xs⟩]:=by refine⟨_,rfl,_,_,rfl,⟨ω,YJ _⟩,.inr ⟨b,0,_,rfl,by unfold Mx;rw[zi rfl],λi hi=>?_⟩⟩;show cut (xs.map ZS).toArray (0+i*1) 1=[aa6 xs[i]];refine X0 rfl λq c=>?_;simp_all
def sm1:Tr:=.mk 3 (bl [49]) [] []
def sm2:Tr:=.mk 3 (bl [50]) [] []
def smR:Tr:=.mk 5 ⟨#[]⟩ [] [sm2]
def smV:Tr:=.mk 6 ⟨#[]⟩ [⟨#[98]⟩,⟨#[97]⟩] [sm1,smR]
def jJ:Tr:=.mk 6 ⟨#[]⟩ [⟨#[97]⟩,⟨#[98]⟩] [smR,sm1]
def eR:List Bt×List Int:=([⟨#[50]⟩,⟨#[91]⟩,⟨#[107,34,97,34]⟩,⟨#[49]⟩,⟨#[107,34,98,34]⟩,⟨#[123]⟩],[0,0,0,3,3,0])
theorem Ra:y9 [⟨#[98]⟩,⟨#[97]⟩]=[⟨#[97]⟩,⟨#[98]⟩]:=by
 rw[Zw (List.Perm.swap (⟨#[97]⟩:Bt) ⟨#[98]⟩ [])];unfold y9;rw[List.mergeSort_of_pairwise];kernel_rfl;refine za4.2 ⟨λy b=>?_,za4.2 ⟨λy b=>(ε b),List.Pairwise.nil⟩⟩;have:y=[98]:=by simpa[lb]using b
 subst this;show hV (lb ⟨#[97]⟩<=[98])=Ta;kernel_rfl
theorem qD:qh smV=Ta:=κ
theorem og:zh smV=jJ:=by rw[yw];show(ite ((6:Int)=6) (Tr.mk 6 ⟨#[]⟩ (y9 [⟨#[98]⟩,⟨#[97]⟩]) ((y9 [⟨#[98]⟩,⟨#[97]⟩]).map λq=>eW (smV.XK.zip (smV.WT.map zh)) q)) _)=_;rw[zi rfl,Ra];kernel_rfl
def nm:Q4 jJ eR:=by
 have h:=GZ qD (by rw[og];exact zB κ);rw[og]at h;have e:fM (Qy jJ 0)=eR:=κ
 simp_all
def UT:fX smV=(eR,0):=by have h:=nm;have⟨_,_,c,b⟩:=h;unfold fX;rw[zi qD,og,za ω,<-b]
def zX:∀s∈eR.1,s.size<=65536:=by intro s b;simp only[eR,YT,List.not_mem_nil,or_false]at b;obtain rfl|rfl|rfl|rfl|rfl|rfl:=b <;> exact zB κ
theorem TN{w:Tr}(h:Q4 w eR):w=jJ:=by have h1:=(ya h zX).2.2.2.1;have h2:=(ya nm zX).2.2.2.1;simp_all
def RB(v:Tr)(h:hV (cK v<=100)=Ta)(h2:fi 1048576 v):Sm v:=⟨η,h2⟩
def wW:Sm smV:=RB _ κ (by simp only[smV,sm1,smR,sm2,fi,ge,and_true];refine⟨⟨zB κ,zB κ,λk b=>?_⟩,⟨zB κ,zB κ,λk b=>(ε b)⟩,⟨zB κ,zB κ,λk b=>(ε b)⟩,⟨zB κ,zB κ,λk b=>(ε b)⟩⟩;simp only[YT,List.not_mem_nil,or_false]at b;obtain rfl|rfl:=b <;> exact zB κ)
def Mq:Sm jJ:=by have:=Am wW;rw[vC qD,og]at this;exact this
theorem Ut:bl (qu (zj (Lib.itoa 1)).1)=bl [49]:=κ
theorem SY:bl (qu (zj (Lib.itoa 2)).1)=bl [50]:=κ
structure C15 (gl:Fr) (bv bt bw bx:Nat) (vk vi t1 t2 w1 w2 xk xi:Sl) (h:zb) (M:Fr):Prop where
 hM:Fr.le gl M
 ag:AgM M h
 V:Blk h bv #[.int .i64 6,.string ⟨#[]⟩,aK vk,aK vi]
 rV:RdV M .tree smV (.agg #[.int .i64 6,.string ⟨#[]⟩,aK vk,aK vi])
 T:Blk h bt #[aK t1,aK t2]
 rT1:Rd M (.row .str) eR.1 [aK t1]
 rT2:Rd M (.row q0) eR.2 [aK t2]
 W:Blk h bw #[aK w1,aK w2]
 rW1:Rd M (.row .str) eR.1 [aK w1]
 rW2:Rd M (.row q0) eR.2 [aK w2]
 X:Blk h bx #[.int .i64 6,.string ⟨#[]⟩,aK xk,aK xi]
 rX:RdV M .tree jJ (.agg #[.int .i64 6,.string ⟨#[]⟩,aK xk,aK xi])
theorem C15.later{bv bt bw e:Nat}{b k i f w1 l xk xi:Sl}(c:C15 gl bv bt bw e b k i f w1 l xk xi h M){h':zb}{M':Fr}(L:wr h M h' M'):C15 gl bv bt bw e b k i f w1 l xk xi h' M':= ⟨c.hM.trans L.le,L.ag,c.V.aa1 (L.aa1.get _ c.V.lt),c.rV.mono L.le,c.T.aa1 (L.aa1.get _ c.T.lt),c.rT1.mono L.le,c.rT2.mono L.le,c.W.aa1 (L.aa1.get _ c.W.lt),c.rW1.mono L.le,c.rW2.mono L.le,c.X.aa1 (L.aa1.get _ c.X.lt),c.rX.mono L.le⟩
def Gi{r:ac7}{w:Value}(h:x7 M [.row q0] r w):∃s:Sl,w=aK s/\Rd M (.row q0) r [aK s]:=lr (Yu.1 h)
def SC(hg:GL gl)(hb:Brn gl):aa5 gl 11 [] [.bool] (λr=>r=Ta):=by
 intro h M vs hM ag ha
 match vs,ha with
 |[],_=>
 apply PX.of;apply VC;intro h1;have L1:wr h M h1 (Mx M h.size #[aa6 ⟨#[98]⟩,aa6 ⟨#[97]⟩]):=wr.frz ag _ _;have rK:Rd (Mx M h.size #[aa6 ⟨#[98]⟩,aa6 ⟨#[97]⟩]) (.row .str) [⟨#[98]⟩,⟨#[97]⟩] [aK ⟨Td (aa8 h),2,2⟩]:=P9;clear_value h1;generalize Mx M h.size #[aa6 ⟨#[98]⟩,aa6 ⟨#[97]⟩]=M1 at L1 rK;refine(Dh hg (n:=1) ζ ζ (R:=λr=>r=sm1) (by rw[Ut];rfl)).go (hM.trans L1.le) L1.ag (zn (a:=qr q0 1) (Zj _ _) zw) λw h3 M3 r L3 e f=>?_;subst f;have r1:=Yu.1 e;obtain⟨ak,ai,rfl,_,_⟩:=yg r1;refine⟨_,_,ak,ai,rfl,?_⟩;refine(Dh hg (n:=2) ζ ζ (R:=λr=>r=sm2) (by rw[SY];rfl)).go (hM.trans (L1.le.trans L3.le)) L3.ag (zn (a:=qr q0 2) (Zj _ _) zw) λw h9 M9 r L9 e f=>?_;subst f;have r2:=Yu.1 e;obtain⟨bk,bi,rfl,_,_⟩:=yg r2;refine⟨_,_,bk,bi,rfl,?_⟩;intro aC;have N:wr h9 M9 aC (Mx M9 h9.size #[ab0 sm2.Wf,aa6 sm2.aa0,aK bk,aK bi]):=wr.frz L9.ag _ _;have aN:Rd (Mx M9 h9.size #[ab0 sm2.Wf,aa6 sm2.aa0,aK bk,aK bi]) (.row .tree) [sm2] [aK ⟨Td (aa8 h9),1,1⟩]:=Oh (w1:=[_,_,_,_]) (L9.ag.none (YJ _)) (v6 r2) rfl;clear_value aC;generalize Mx M9 h9.size #[ab0 sm2.Wf,aa6 sm2.aa0,aK bk,aK bi]=M14 at N aN;have af:=L1.trans (L3.trans (L9.trans N));refine(KC (gl:=gl) (l:=[sm2]) (R:=λr=>r=smR) rfl).go (hM.trans af.le) N.ag (zn (a:=qr (.row .tree) _) ((eC rfl).2 aN) zw) λw z L r I e f=>?_;subst f;have r3:=Yu.1 e;obtain⟨ck,ci,rfl,_,_⟩:=yg r3;refine⟨_,_,ck,ci,rfl,?_⟩;intro aI;have aZ:RdV L .tree sm1 (gX sm1.Wf sm1.aa0 ak ai):=r1.mono (L9.le.trans (N.le.trans I.le));have U:wr z L aI (Mx L z.size ([ab0 sm1.Wf,aa6 sm1.aa0,aK ak,aK ai]++[ab0 smR.Wf,aa6 smR.aa0,aK ck,aK ci]).toArray):=wr.frz I.ag _ _;have rI:Rd (Mx L z.size ([ab0 sm1.Wf,aa6 sm1.aa0,aK ak,aK ai]++[ab0 smR.Wf,aa6 smR.aa0,aK ck,aK ci]).toArray) (.row .tree) [sm1,smR] [aK ⟨Td (aa8 z),2,2⟩]:=MH (I.ag.none (YJ _)) (v6 aZ) (v6 r3) rfl rfl;clear_value aI;generalize Mx L z.size ([ab0 sm1.Wf,aa6 sm1.aa0,aK ak,aK ai]++[ab0 smR.Wf,aa6 smR.aa0,aK ck,aK ci]).toArray=M21 at U rI;have am:=af.trans (I.trans U);have bm:=rK.mono (L3.le.trans (L9.le.trans (N.le.trans (I.le.trans U.le))));refine(LM (gl:=gl) (ks:=[⟨#[98]⟩,⟨#[97]⟩]) (l:=[sm1,smR]) (R:=λr=>r=smV) rfl).go (hM.trans am.le) U.ag (zn (a:=qr (.row .str) _) ((eC rfl).2 bm) (zn (a:=qr (.row .tree) _) ((eC rfl).2 rI) zw)) λw a1 aT r aL e f=>?_;subst f;have rV:=Yu.1 e;obtain⟨vk,vi,rfl,_,_⟩:=yg rV;refine⟨_,_,vk,vi,rfl,?_⟩;intro bC;refine yz aL.ag λbe ap bB aP=>?_;refine⟨_,_,vk,vi,aP.ld (cs:=[_,_,aK vk,aK vi]),?_⟩;have ab:=am.trans (aL.trans ap);refine(FW hg hb wW (R:=λr=>r=(eR,0)) UT).go (hM.trans ab.le) ap.ag (zn (a:=qr .tree smV) rV zw) λw x y r D e f=>?_;subst f;obtain⟨B,F,rfl,rT1,rT2⟩:=um e;refine⟨B,F,_,rfl,?_⟩;intro Y;have aY:Bk x.size x Y:=rg _ _ (YJ _);have bM:Y.size=x.size+1:=YW _;have bj:Blk Y x.size #[.slice Te 0 0,.slice Te 0 0]:=v0 _ _ _;clear_value Y;refine X9 bj λo a7 bn aV=>?_;have u:wr x y o y:=wr.stay (up D.ag aY) (YJ _) (D.ag.none (YJ _)) a7 bn;intro m;have az:wr o y m (Mx y o.size (eR.1.map ZS).toArray):=wr.frz u.ag _ _;have rW1:Rd (Mx y o.size (eR.1.map ZS).toArray) (.row .str) eR.1 [aK ⟨Td (aa8 o),6,6⟩]:=ON eR.1 (zB κ);have bA:m.size=o.size+1:=YW _;clear_value m;generalize Mx y o.size (eR.1.map ZS).toArray=M41 at az rW1;intro p;have E:wr m M41 p (Mx M41 m.size (eR.2.map (zad .i64)).toArray):=wr.frz az.ag _ _;have rW2:Rd (Mx M41 m.size (eR.2.map (zad .i64)).toArray) (.row q0) eR.2 [aK ⟨Td (aa8 m),6,6⟩]:=yB eR.2 (zB κ);have bF:p.size=m.size+1:=YW _;clear_value p;generalize Mx M41 m.size (eR.2.map (zad .i64)).toArray=M42 at E rW2;intro O;have ba:Bk p.size p O:=rg _ _ (YJ _);have bL:O.size=p.size+1:=YW _;have bg:Blk O p.size #[.slice Te 0 0,.slice Te 0 0]:=v0 _ _ _;clear_value O;refine X9 (s1:=⟨Td (aa8 o),6,6⟩) (s2:=⟨Td (aa8 m),6,6⟩) bg λP aU bq a8=>?_;have Z:wr p M42 P M42:=wr.stay (up E.ag ba) (YJ _) (E.ag.none (YJ _)) aU bq;have i:wr o y P M42:=az.trans (E.trans Z);have aM:Blk P x.size #[aK B,aK F]:=aV.aa1 (i.aa1.get _ ω);refine⟨B,F,aM.ld (cs:=[aK B,aK F]),?_⟩;have aj:=ab.trans (D.trans (u.trans i));refine(Cs hg hb (t:=eR) zX (R:=λr=>r=(jJ,Ta)) (λw hw=>by rw[TN hw]) (λhn=>absurd nm (hn _))).go (hM.trans aj.le) Z.ag (zn (a:=qr (.pair (.row .str) (.row q0)) eR) (xg (rT1.mono (u.le.trans i.le)) (rT2.mono (u.le.trans i.le))) zw) λw a6 an r S e f=>?_;subst f;obtain⟨xk,xi,rfl,rX⟩:=iQ e;refine⟨_,_,xk,xi,_,rfl,?_⟩;intro bH;refine yz S.ag λax Q bJ aS=>?_;have aa:=aj.trans (S.trans Q);have J:wr be aT ax an:=D.trans (u.trans (i.trans (S.trans Q)));have k:wr P M42 ax an:=S.trans Q;have bN:=D.aa1.size;have c:C15 gl a1.size x.size p.size a6.size vk vi B F ⟨Td (aa8 o),6,6⟩ ⟨Td (aa8 m),6,6⟩ xk xi ax an:= ⟨hM.trans aa.le,Q.ag,aP.aa1 (J.aa1.get _ ω),rV.mono (ap.le.trans J.le),aM.aa1 (k.aa1.get _ ω),rT1.mono (u.le.trans (i.le.trans k.le)),rT2.mono (u.le.trans (i.le.trans k.le)),a8.aa1 (k.aa1.get _ ω),rW1.mono (E.le.trans (Z.le.trans k.le)),rW2.mono (Z.le.trans k.le),aS,rX⟩;refine⟨B,F,λ_=>c.T.ld (cs:=[aK B,aK F]),_,_,λ_=>c.W.ld (cs:=[aK _,aK _]),?_⟩;refine pO rfl ?_;refine(Dz (gl:=gl) (a:=eR) (b:=eR) (zB κ) (zB κ) (R:=λr=>r=Ta) λr f=>f.2 rfl).go c.hM c.ag (zn (a:=qr (.pair (.row .str) (.row q0)) eR) (xg c.rT1 c.rT2) (zn (a:=qr (.pair (.row .str) (.row q0)) eR) (xg c.rW1 c.rW2) zw)) λw bI bG r aQ e f=>⟨r,ez e,?_⟩;have f:r=Ta:=f;subst f;have c:=c.later aQ;have aJ:=aa.trans aQ;refine⟨_,_,vk,vi,λ_=>c.V.ld (cs:=[_,_,aK vk,aK vi]),_,_,xk,xi,λ_=>c.X.ld (cs:=[_,_,aK xk,aK xi]),?_⟩;refine pO rfl ?_;refine(Mn (gl:=gl) hg wW Mq (R:=λr=>r=Ta) (by have e1:Zo smV=Ta:=Wz qD;have e2:Zo jJ=Ta:=Wz nm.1;rw[e1,e2,ny.2 (by rw[og,nm.2.1])];rfl)).go c.hM c.ag (zn (a:=qr .tree smV) c.rV (zn (a:=qr .tree jJ) c.rX zw)) λw bE bD r aF e f=>⟨r,ez e,?_⟩;have f:r=Ta:=f;subst f;have c:=c.later aF;have aE:=aJ.trans aF;refine⟨B,F,λ_=>c.T.ld (cs:=[aK B,aK F]),?_⟩;refine C7 rfl ?_;refine(v9 (gl:=gl) (t:=eR) (R:=λr=>r=[4,5]) κ).go c.hM c.ag (zn (a:=qr (.pair (.row .str) (.row q0)) eR) (xg c.rT1 c.rT2) zw) λw G aB r au e f=>?_;subst f;obtain⟨sr,rfl,rR⟩:=Gi e;refine⟨sr,rfl,?_⟩;have c:=c.later au;have aG:=aE.trans au;have C:wr G aB (G.push (.cells ([4,5].map (zad .i64)).toArray 3)) (Mx aB G.size ([4,5].map (zad .i64)).toArray):=wr.frz au.ag _ _;refine Eg (s:=⟨Td (aa8 G),2,2⟩) (h1:=G.push (.cells ([4,5].map (zad .i64)).toArray 3)) rfl ?_;have c:=c.later C;have ay:=aG.trans C;refine pO rfl ?_;refine(xL (gl:=gl) (a:=[4,5]) (b:=[4,5]) ξ (R:=λr=>r=Ta) λr f=>f.2 rfl).go c.hM c.ag (zn (a:=qr (.row q0) [4,5]) ((eC rfl).2 (rR.mono C.le)) (zn (a:=qr (.row q0) [4,5]) ((eC rfl).2 (yB [4,5] ξ)) zw)) λw br bz r ae e f=>⟨r,ez e,?_⟩;have f:r=Ta:=f;subst f;have c:=c.later ae;have aA:=ay.trans ae;refine⟨B,F,λ_=>c.T.ld (cs:=[aK B,aK F]),?_⟩;refine C7 rfl ?_;refine(yX (gl:=gl) (t:=eR) (R:=λr=>r=[5]) κ).go c.hM c.ag (zn (a:=qr (.pair (.row .str) (.row q0)) eR) (xg c.rT1 c.rT2) zw) λw q ah r H e f=>?_;subst f;obtain⟨sq,rfl,rQ⟩:=Gi e;refine⟨sq,rfl,?_⟩;have c:=c.later H;have ar:=aA.trans H;have A:wr q ah (q.push (.cells ([5].map (zad .i64)).toArray 3)) (Mx ah q.size ([5].map (zad .i64)).toArray):=wr.frz H.ag _ _;refine Eg (s:=⟨Td (aa8 q),1,1⟩) (h1:=q.push (.cells ([5].map (zad .i64)).toArray 3)) rfl ?_;have c:=c.later A;refine pO rfl ?_;refine(xL (gl:=gl) (a:=[5]) (b:=[5]) ξ (R:=λr=>r=Ta) λr f=>f.2 rfl).go c.hM c.ag (zn (a:=qr (.row q0) [5]) ((eC rfl).2 (rQ.mono A.le)) (zn (a:=qr (.row q0) [5]) ((eC rfl).2 (yB [5] ξ)) zw)) λw bu aH r aO e f=>⟨r,ez e,?_⟩;have f:r=Ta:=f;subst f;exact⟨aH,Ta,ar.trans (A.trans aO),Yu.2 (Fk _),rfl⟩
end
section
variable {f:FuncId} {args:Array Value} {h:zb} {g:Bool}
def kZ(i:g=Ta){b:Bool->zb->Prop}(E:aa4 f args h λv h'=>∃r,v=.bool r/\b r h'):∃J:vvv,(g=Ta->aa4 f args h λv h'=>∃r:Bool,v=.bool r/\J (aa9 r) h')/\(g=Tc->∃r:Bool,J (aa9 r) h)/\(g=Ta->∀v h',J v h'->∃r:Bool,v=.bool r)/\∀r:Bool,∀h',J (aa9 r) h'->b r h':=by refine⟨λv h'=>∃r,v=.bool r/\b r h',λ_=>XC.mono E λv h' ⟨r,e,H⟩=>⟨r,e,r,rfl,H⟩,λk=>θ,λ_ v h' ⟨r,e,_⟩=>⟨r,e⟩,λr h' ⟨c,e,H⟩=>?_⟩;grind
def jB(i:g=Ta){b:Sl->zb->Prop}(E:aa4 f args h λv h'=>∃r,v=aK r/\b r h'):∃J:vvv,(g=Ta->aa4 f args h λv h'=>∃r:Sl,v=aK r/\J (aK r) h')/\(g=Tc->∃r:Sl,J (aK r) h)/\(g=Ta->∀v h',J v h'->∃r:Sl,v=aK r)/\∀r:Sl,∀h',J (aK r) h'->b r h':=by
 refine⟨λv h'=>∃r,v=aK r/\b r h',λ_=>XC.mono E λv h' ⟨r,e,H⟩=>⟨r,e,r,rfl,H⟩,λk=>θ,λ_ v h' ⟨r,e,_⟩=>⟨r,e⟩,λr h' ⟨c,e,H⟩=>?_⟩;have:r=c:=by unfold aK at e;injection e with e1 e2 e3;cases r;cases c;simp_all
 grind
def Fg(p:Nat->Bool)(n:Nat):(((zac n).filter p).map (λi:Nat=>(i:Int))).length<=n:=η
def VO{gl:Fr}(hg:GL gl)(hb:Brn gl){t:List Bt×List Int}{R:ac4}(hR:R Ta):aa5 gl 4 [qr (.pair (.row .str) (.row q0)) t] [.bool] R:=by
 intro h M vs G ag ha
 match vs,ha with
 |[u],⟨hu,_⟩=>
 obtain⟨s1,s2,rfl,r1,r2⟩:=mn (show RdV M (.pair (.row .str) (.row q0)) t u from hu);apply PX.of;apply Xx s1 s2;intro h1;have k1:Bk h.size h h1:=rg _ _ (YJ _);have z1:h1.size=h.size+1:=YW _;have B1:Blk h1 h.size #[aK s1,aK s2]:=v0 _ _ _;clear_value h1;have Y:wr h M h1 M:=up ag k1;have ld:∀{g Mg},wr h1 M g Mg->zc g (aa8 h) 0 [aK s1,aK s2]:=λL=>(B1.aa1 (L.aa1.get _ B1.lt)).ld (cs:=[aK s1,aK s2]);have rt:∀{g Mg},wr h1 M g Mg->RdV Mg (.pair (.row .str) (.row q0)) t (.agg #[aK s1,aK s2]):=λL=>xg (r1.mono L.le) (r2.mono L.le);have fin:∀{g Mg} {b:Bool},wr h1 M g Mg->b=Ta->∃M' r,wr h M g M'/\x7 M' [.bool] r (aa9 b)/\R r:=λ {g Mg b} L hb=>⟨_,Ta,Y.trans L,by rw[hb];exact Yu.2 (Fk Ta),hR⟩;refine(SC hg hb).go (vs:=[]) G Y.ag zw λw g3 M3 r z e m=>?_;have m:r=Ta:=m;subst m;refine⟨Ta,ez e,s1,s2,ld z,?_⟩;refine(VA (gl:=gl) (t:=t) (most:=530) ζ (R:=λr=>r=Ta->DB t.1<=530/\DB t.2<=600/\∀s∈t.1,s.size<=1024) λr m=>m).go (vs:=[_,_]) (G.trans z.le) z.ag (zn (rt z) (zn (a:=qr q0 530) (Zj .i64 530) zw)) λw g4 M4 r J e ap=>?_
 replace J:=z.trans J
 refine⟨r,ez e,λ_=>fin J rfl,λhc=>?_⟩;have ay:r=Ta:=ψ hc
 have⟨f1,f2,f3⟩:=ap ay;have hs:∀s∈t.1,s.size<=65536:=λs hm=>η
 refine⟨s1,s2,ld J,?_⟩;let V:Tr×Bool->Prop:=λq=>(∃w,Q4 w t/\q=(w,Ta))\/((∀w,¬Q4 w t)/\q=(fj,Tc));refine(Cs hg hb (t:=t) hs (R:=V) (λw hw=>.inl ⟨w,hw,rfl⟩) λhn=>.inr ⟨hn,rfl⟩).go (vs:=[_]) (G.trans J.le) J.ag (zn (rt J) zw) λw g5 M5 p L5 e hp=>?_
 replace L5:=J.trans L5
 obtain⟨pk,pi,rfl,ax⟩:=iQ e;refine⟨_,_,pk,pi,_,rfl,?_⟩;intro aC;refine yz L5.ag λg6 ae z6 B6=>?_;have Z:=L5.trans ae;refine⟨s1,s2,ld Z,?_⟩;refine(L0 hg (t:=t) hs (R:=V) (λw hw=>.inl ⟨w,hw,rfl⟩) λhn=>.inr ⟨hn,rfl⟩).go (vs:=[_]) (G.trans Z.le) Z.ag (zn (rt Z) zw) λw g7 M7 q F e hq=>?_;have L7:=Z.trans F;have ai:p=q:=by obtain⟨w,hw,rfl⟩|⟨hn,rfl⟩:=hp;obtain⟨w',aA,rfl⟩|⟨aF,rfl⟩:=hq;have e1:=(ya hw hs).2.2.2.1;have e2:=(ya aA hs).2.2.2.1;simp_all;simp_all;grind
 obtain⟨qk,qi,rfl,au⟩:=iQ e;refine⟨_,_,qk,qi,_,rfl,?_⟩;intro aE;refine yz L7.ag λg8 E z8 B8=>?_;have L8:=L7.trans E;have az:=(B6.aa1 (F.aa1.get _ B6.lt)).aa1 (E.aa1.get _ (by have:=B6.lt;have:=F.aa1.size;omega));refine⟨_,_,pk,pi,λ_=>az.ld (cs:=[_,_,aK pk,aK pi]),_,_,qk,qi,λ_=>B8.ld (cs:=[_,_,aK qk,aK qi]),?_⟩;intro ah aj af am aa an ab aB;have D:∀{f:FuncId} {X:ac7},aa5 gl f [qr (.pair (.row .str) (.row q0)) t] [.row q0] (λr=>r=X)->∀{g Mg},wr h1 M g Mg->∀{B:Sl->zb->Prop},(∀s g' M',wr h1 M g' M'->Fr.le Mg M'->Rd M' (.row q0) X [aK s]->B s g')->aa4 f #[.agg #[aK s1,aK s2]] g λv h'=>∃r:Sl,v=aK r/\B r h':=λ {f X} C {g Mg} L {B} hK=>
  C.go (vs:=[_]) (G.trans L.le) L.ag (zn (rt L) zw) λw g' M' r n e m=>by obtain⟨s,rfl,rs⟩:=Ct e;have m:r=X:=m;subst m;exact⟨s,rfl,hK s g' M' (L.trans n) n.le rs⟩
 have cB:∀{f:FuncId} {X:Bool},aa5 gl f [qr (.pair (.row .str) (.row q0)) t] [.bool] (λr=>r=X)->∀{g Mg},wr h1 M g Mg->∀{B:Bool->zb->Prop},(∀g' M',wr h1 M g' M'->B X g')->aa4 f #[.agg #[aK s1,aK s2]] g λv h'=>∃r:Bool,v=.bool r/\B r h':=λ {f X} C {g Mg} L {B} hK=>
  C.go (vs:=[_]) (G.trans L.le) L.ag (zn (rt L) zw) λw g' M' r n e m=>by have m:r=X:=m;subst m;exact⟨_,ez e,hK g' M' (L.trans n)⟩
 have cI:∀{X:ac7} {a b:Sl},DB X<=1000000->∀{g Mg},wr h1 M g Mg->Rd Mg (.row q0) X [aK a]->Rd Mg (.row q0) X [aK b]->∀{B:Bool->zb->Prop},(∀g' M',wr h1 M g' M'->B Ta g')->aa4 23 #[aK a,aK b] g λv h'=>∃r:Bool,v=.bool r/\B r h':=λ {X a b} hl {g Mg} L ra rb {B} hK=>
  (xL (gl:=gl) (a:=X) (b:=X) hl (R:=λr=>r=Ta) λr m=>m.2 rfl).go (vs:=[aK a,aK b]) (G.trans L.le) L.ag (zn (a:=qr (.row q0) X) ((eC rfl).2 ra) (zn (a:=qr (.row q0) X) ((eC rfl).2 rb) zw)) λw g' M' r n e m=>by have m:r=Ta:=m;subst m;exact⟨_,ez e,hK g' M' (L.trans n)⟩
 let KR:List Int:=ite (qc t=Ta) ((gG t.2).map (λi:Nat=>(i:Int))) [];let PR:List Int:=ite (qc t=Ta) (Qg t.2) [];let TR:List Int:=ite (qc t=Ta) ((Jg t.2 (DB t.2)).map (λi:Nat=>(i:Int))) [];have lK:KR.length<=1000000:=by show(ite (qc t=Ta) ((gG t.2).map (λi:Nat=>(i:Int))) []).length<=_;split;have:=Fg (λi=>(zac (DB t.2)).all λj=>decide (j<=i)||decide (aR t.2 j≠aR t.2 i)) (DB t.2);unfold gG;omega;simp
 have lP:PR.length<=1000000:=by show(ite (qc t=Ta) (Qg t.2) []).length<=_;split;rw[xo];omega;simp
 have lT:TR.length<=1000000:=by show(ite (qc t=Ta) ((Jg t.2 (DB t.2)).map (λi:Nat=>(i:Int))) []).length<=_;split;have:=Fg (λi=>decide (Jf t.2 (DB t.2) i<0)) (DB t.2);unfold Jg;omega;simp
 have O:∀{y:Bool},y=Ta->∀{g Mg} {s:Sl},wr h1 M g Mg->Rd Mg (.row q0) KR [aK s]->ah s1 s2 s y g:=λ {y} l {g Mg s} L rs=>
  jB l (D (Ud (R:=λr=>r=KR) rfl) L λs' g' M' n o d=>kZ l (cI lK n (rs.mono o) d λU M'' c=>fin c (π l)))
 have Q:∀{y:Bool},y=Ta->∀{g Mg},wr h1 M g Mg->aj s1 s2 s1 s2 y g:=λ {y} l {g Mg} L=>
  jB l (D (v9 (R:=λr=>r=KR) rfl) L λs' g' M' n o d=>O l n d)
 have P:∀{y:Bool},y=Ta->∀{g Mg} {s:Sl},wr h1 M g Mg->Rd Mg (.row q0) PR [aK s]->af s1 s2 s y g:=λ {y} l {g Mg s} L rs=>
  jB l (D (uM (R:=λr=>r=PR) rfl) L λs' g' M' n o d=>kZ l (cI lP n (rs.mono o) d λU M'' c=>by
   have k:(cond y Ta Tc)=Ta:=π l
   exact⟨⟨s1,s2,λ_=>ld c,jB k (D (v9 (R:=λr=>r=KR) rfl) c λs3 g3 M3 z ar A=>⟨s1,s2,λ_=>ld z,O k z A⟩),s1,s2,λ_=>ld c,Q k c⟩,s1,s2,λ_=>ld c,s1,s2,λ_=>ld c,Q k c⟩))
 have N:∀{y:Bool},y=Ta->∀{g Mg},wr h1 M g Mg->am s1 s2 s1 s2 y g:=λ {y} l {g Mg} L=>
  jB l (D (vF (R:=λr=>r=PR) rfl) L λs' g' M' n o d=>P l n d)
 have I:∀{y:Bool},y=Ta->∀{g Mg} {s:Sl},wr h1 M g Mg->Rd Mg (.row q0) TR [aK s]->aa s1 s2 s y g:=λ {y} l {g Mg s} L rs=>
  jB l (D (Kv (R:=λr=>r=TR) rfl) L λs' g' M' n o d=>kZ l (cI lT n (rs.mono o) d λU M'' c=>by
   have k:(cond y Ta Tc)=Ta:=π l
   exact⟨⟨s1,s2,λ_=>ld c,jB k (D (vF (R:=λr=>r=PR) rfl) c λs3 g3 M3 z ar A=>⟨s1,s2,λ_=>ld z,P k z A⟩),s1,s2,λ_=>ld c,N k c⟩,s1,s2,λ_=>ld c,s1,s2,λ_=>ld c,N k c⟩))
 have S:∀{y:Bool},y=Ta->∀{g Mg},wr h1 M g Mg->an s1 s2 s1 s2 y g:=λ {y} l {g Mg} L=>
  jB l (D (yX (R:=λr=>r=TR) rfl) L λs' g' M' n o d=>I l n d)
 have H:∀{y:Bool},y=Ta->∀{g Mg},wr h1 M g Mg->ab s1 s2 (qc t) y g:=λ {y} l {g Mg} L=>
  kZ l (cB (sC (R:=λr=>r=qc t) rfl) L λU M'' c=>by
   have k:(cond y (qc t==qc t) Tc)=Ta:=υ l
   exact⟨⟨s1,s2,λ_=>ld c,jB k (D (yX (R:=λr=>r=TR) rfl) c λs3 g3 M3 z ar A=>⟨s1,s2,λ_=>ld z,I k z A⟩),s1,s2,λ_=>ld c,S k c⟩,s1,s2,λ_=>ld c,s1,s2,λ_=>ld c,S k c⟩)
 have ak:∀{y:Bool},y=Ta->∀{g Mg},wr h1 M g Mg->aB s1 s2 s1 s2 y g:=λ {y} l {g Mg} L=>
  kZ l (cB (wV (R:=λr=>r=qc t) rfl) L λg' M' n=>H l n)
 refine kZ rfl ((G3 p.1 q.1 (R:=λr=>r=Ta) λr m=>m.2 (ϕ ai)).go (vs:=[.agg #[ab0 p.1.Wf,aa6 p.1.aa0,aK pk,aK pi],.agg #[ab0 q.1.Wf,aa6 q.1.aa0,aK qk,aK qi]]) (G.trans L8.le) L8.ag (zn (a:=qr .tree p.1) (ax.mono ((ae.trans F).le.trans E.le)) (zn (a:=qr .tree q.1) (au.mono E.le) zw)) λw g9 M9 r L9 e m=>?_);have m:r=Ta:=m;subst m;have x:=L8.trans L9;refine⟨Ta,ez e,?_⟩;have k:(cond (cond Ta Ta Tc) (p.2==q.2) Tc)=Ta:=υ ai
 exact⟨⟨s1,s2,λ_=>ld x,kZ k (cB (wV (R:=λr=>r=qc t) rfl) x λg' M' n=>⟨s1,s2,λ_=>ld n,H k n⟩),s1,s2,λ_=>ld x,ak k x⟩,s1,s2,λ_=>ld x,s1,s2,λ_=>ld x,ak k x⟩
end
end
end Go.X
